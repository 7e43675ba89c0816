/-
  A part of a proof: see the last text of this claim for what is proved.
-/
import Derived.Test.YtdbnifmcikljdaaGreatDoorDM
import Derived.Test.YtdbnifmcikljdaaGreatDoorCD
import Derived.DataReads
namespace Go.AM
open Go
set_option linter.unusedSimpArgs false
set_option linter.unusedVariables false
section
variable {G : Glob} {E : Base} {N : Nat} {st : ASt} {a : Array Value} {w w' : World} {L : Locs} {S : (List PV → Prop × PV) → Value → Prop}
theorem Rel.tapeRow (h : Rel G E S N st a w L) {κ0 : Nat} {J : List PV → Prop} {b0 cap0 : Nat} (h0 : hget st.H κ0 = some (.obj J)) (hL0 : L κ0 = some (b0, cap0)) {κ : Nat} (hκ : hget st.H κ = none) {B : ABlk} (loc : Option (Nat × Nat))
    (he : Ext (fun x => x = b0) w w') (hinv : G.I w') (hb : ∀ b cap, loc = some (b, cap) → w.heap.size ≤ b)
    (hT : ∀ M' L' H', (∀ x, M' x → Mut E L st.H x ∨ ∃ c, loc = some (x, c)) → L' κ0 = some (b0, cap0) → BRel w' M' L' H' S κ0 (.obj J))
    (hB : ∀ M' L' H', (∀ x, M' x → Mut E L st.H x ∨ ∃ c, loc = some (x, c)) → L' κ = loc → BRel w' M' L' H' S κ B) :
    Rel G E S N { st with H := hset st.H κ B } a w' (locSet L κ loc) := by
  have hm0 : Mut E L st.H b0 := .inr ⟨κ0, _, cap0, h0, hL0⟩
  have hne : ∀ key B, hget st.H key = some B → key ≠ κ := fun key B hb e => by rw [e, hκ] at hb; cases hb
  have hc : ∀ key B0, hget st.H key = some B0 → ∃ B', hget (hset st.H κ B) key = some B' ∧ B0.le B' ∧ (locSet L κ loc) key = L key ∧ (L key = none → B0 = B') :=
    fun key B0 hb => ⟨B0, by rw [hget_hset_ne _ _ (Ne.symm (hne key B0 hb))]; exact hb, ABlk.le_refl _, by simp [locSet, hne key B0 hb], fun _ => rfl⟩
  have hMut : ∀ x, Mut E (locSet L κ loc) (hset st.H κ B) x → Mut E L st.H x ∨ ∃ c, loc = some (x, c) := by
    intro x hx
    rcases hx with hx | ⟨key, B0, c0, h1, h2⟩
    · exact .inl (.inl hx)
    · by_cases e : key = κ
      · subst e
        simp only [locSet, if_true] at h2
        exact .inr ⟨c0, h2⟩
      · rw [hget_hset_ne _ _ (Ne.symm e)] at h1
        simp only [locSet, e, if_false] at h2
        exact .inl (.inr ⟨key, B0, c0, h1, h2⟩)
  have hk : Keeps w (Mut E L st.H) w' (Mut E (locSet L κ loc) (hset st.H κ B)) := fun x hx hm =>
    ⟨he.block x hx (fun e => hm (by have e : x = b0 := e; rw [e]; exact hm0)), fun hm' => (hMut x hm').elim hm (fun ⟨c, e⟩ => by have := hb x c e; omega)⟩
  have hsz := h.ext.size
  have old_lt : ∀ k B0 x c0, hget st.H k = some B0 → L k = some (x, c0) → x < w.heap.size := fun k B0 x c0 g1 g2 => h.mut_lt (.inr ⟨k, B0, c0, g1, g2⟩)
  refine ⟨h.size, h.ext.trans' he (fun x hx => ?_), hinv, h.glob, h.old, h.m0, ?_, ?_, ?_, ?_, ?_⟩
  · have hx : x = b0 := hx
    rw [hx]; exact (h.own κ0 _ b0 cap0 h0 hL0).2.2
  · intro key B0 x c0 h1 h2
    by_cases e : key = κ
    · subst e
      simp only [locSet, if_true] at h2
      have hbx := hb x c0 h2
      refine ⟨fun hx => ?_, ?_, .inr ?_⟩
      · have := (h.old x hx).1; omega
      · have := h.glob; omega
      · omega
    · simp only [hget_hset_ne _ _ (Ne.symm e)] at h1
      simp only [locSet, e, if_false] at h2
      exact h.own key B0 x c0 h1 h2
  · intro k1 k2 B1 B2 x c1 c2 h1 h2 h3 h4
    by_cases e1 : k1 = κ <;> by_cases e2 : k2 = κ
    · rw [e1, e2]
    · simp only [hget_hset_ne _ _ (Ne.symm e2)] at h2
      simp only [locSet, e1, e2, if_false, if_true] at h3 h4
      have := old_lt k2 B2 x c2 h2 h4; have := hb x c1 h3; omega
    · simp only [hget_hset_ne _ _ (Ne.symm e1)] at h1
      simp only [locSet, e1, e2, if_false, if_true] at h3 h4
      have := old_lt k1 B1 x c1 h1 h3; have := hb x c2 h4; omega
    · simp only [hget_hset_ne _ _ (Ne.symm e1)] at h1
      simp only [hget_hset_ne _ _ (Ne.symm e2)] at h2
      simp only [locSet, e1, e2, if_false] at h3 h4
      exact h.inj k1 k2 B1 B2 x c1 c2 h1 h2 h3 h4
  · intro key B0 hb0
    by_cases e : key = κ
    · subst e
      simp only [hget_hset_same, Option.some.injEq] at hb0
      subst hb0
      exact hB _ _ _ hMut (by simp [locSet])
    · simp only [hget_hset_ne _ _ (Ne.symm e)] at hb0
      by_cases e0 : key = κ0
      · subst e0
        rw [h0] at hb0
        simp only [Option.some.injEq] at hb0
        subst hb0
        exact hT _ _ _ hMut (by simp [locSet, e, hL0])
      · exact (h.blk key B0 hb0).keepAll hk hc (fun x cap' hl => he.block x (h.mut_lt (.inr ⟨key, B0, cap', hb0, hl⟩)) (fun ex => e0 (by
          have ex : x = b0 := ex
          subst ex
          exact h.inj key κ0 B0 _ x cap' cap0 hb0 h0 hl hL0))) (by simp [locSet, e])
  · intro s
    exact (h.env s).keep hk (fun _ _ h => h) hc
  · intro k x c hl
    obtain ⟨h1, B0, h2⟩ := h.fix k x c hl
    have e := hne k B0 h2
    exact ⟨by simp [locSet, e, h1], B0, by rw [hget_hset_ne _ _ (Ne.symm e)]; exact h2⟩
end
def wrapA : Option (List PV) → AV → AV
  | none, x => x
  | some ps, x => .agg (ps.map AV.pv ++ [x])
def rowX (k : Nat) (es : List PV) (H : AHeap) : AV → Prop
  | .rs κ hi => ∃ es', hget H κ = some (.row k es') ∧ hi ≤ es'.length ∧ es = es'.take hi
  | .nils => es = []
  | _ => False
def resA1 (C : Ctx) (st : ASt) : ResultVar → Prop × AV
  | .tmp t => (True, st.ρ t)
  | .cell x ty => loadC C st ty (st.ρ x)
def tapeR (C : Ctx) (κ0 : Nat) (J : List PV → Prop) (r : ResultVar) (k : Nat) (post : Option (List PV) → List PV → Prop) (st : ASt) : Prop :=
  tapeOk J (hget st.H κ0) ∧ (resA1 C st r).1 ∧ ∃ X ps es, (resA1 C st r).2 = wrapA ps X ∧ rowX k es st.H X ∧ post ps es
def FinT (C : Ctx) (κ0 : Nat) (J : List PV → Prop) (r : ResultVar) (k : Nat) (post : Option (List PV) → List PV → Prop) : AX → ASt → Prop
  | .normal, st => tapeR C κ0 J r k post st
  | .ret, st => tapeR C κ0 J r k post st
  | .exit _, _ => False
def psiT (J : List PV → Prop) (pre : List PV → Prop) (k : Nat) (post : List PV → Option (List PV) → List PV → Prop) : ESpec := fun d args st K =>
  ∃ κ rest, args = .ptr κ 0 :: rest ∧ hget st.H κ = some (.obj J) ∧ AV.freeL rest = true ∧ (∀ a, a ∈ rest → frzOk st.H 4 a) ∧ pre (rest.map (frz st.H 4)) ∧ hget st.H d = none ∧
    ∀ ps es, post (rest.map (frz st.H 4)) ps es → K (wrapA ps (.rs d es.length)) { st with H := hset st.H d (.row k es) }
theorem psiT_mono {J : List PV → Prop} {pre : List PV → Prop} {k : Nat} {post : List PV → Option (List PV) → List PV → Prop} : ∀ d args st (K K' : AV → ASt → Prop), (∀ r s, K r s → K' r s) → psiT J pre k post d args st K → psiT J pre k post d args st K' :=
  fun d args st K K' hk ⟨κ, rest, h1, h2, h3, h4, h5, h6, h7⟩ => ⟨κ, rest, h1, h2, h3, h4, h5, h6, fun ps es he => hk _ _ (h7 ps es he)⟩
theorem psiT_eq {J : List PV → Prop} {pre : List PV → Prop} {k : Nat} {post : List PV → Option (List PV) → List PV → Prop} {d κ : Nat} {rest : List AV} {ρ : Nat → AV} {H : AHeap} {K : AV → ASt → Prop} : psiT J pre k post d (.ptr κ 0 :: rest) ⟨ρ, H⟩ K =
    (hget H κ = some (.obj J) ∧ AV.freeL rest = true ∧ frzAll H rest ∧ pre (frzL H rest) ∧ hget H d = none ∧ ∀ ps es, post (frzL H rest) ps es → K (wrapA ps (.rs d es.length)) ⟨ρ, hset H d (.row k es)⟩) := by
  rw [frzAll_eq, frzL_eq]
  refine propext ⟨fun ⟨κ', rest', e, h⟩ => ?_, fun h => ⟨κ, rest, rfl, h⟩⟩
  simp only [List.cons.injEq, AV.ptr.injEq, and_true] at e
  obtain ⟨rfl, rfl⟩ := e
  exact h
theorem ESound.of_tape {G : Glob} {C : Ctx} {f : FuncId} {fn : Func} {c : Code} {J : List PV → Prop} {pre : List PV → Prop} {k : Nat} {post : List PV → Option (List PV) → List PV → Prop} {r : ResultVar} (κ0 : Nat) (hkp : 0 < k)
    (hf : G.P.funcs[f]? = some fn) (hb : fn.body = some c) (hn : (fn.name == "runtime.NumGoroutine") = false) (hN : C.N = fn.ntmps) (hres : fn.results = #[r]) (hF : Fit G C) (hpins : C.pins = [κ0])
    (h : ∀ args, pre args → args.length + 1 ≤ C.N ∧ AWp C c (FinT C κ0 J r k (post args)) ⟨look ((0, .ptr κ0 0) :: argL 1 args), [(κ0, .obj J)]⟩) (ho : C.outer = false := by rfl) : ESound G f (psiT J pre k post) := by
  intro d args st K hψ
  obtain ⟨κ, rest, rfl, h1, h2, h3, h4, hd0, hK⟩ := hψ
  refine ⟨⟨fn, hf, hn, by rw [hb]; rfl⟩, fun E N a w L xs hR hargs _ => ?_⟩
  cases hargs with
  | cons _ x0 _ xs' hx0 hrest =>
  obtain ⟨B0, b, cap, g1, gv, g2, rfl⟩ := ptr_inv hx0
  obtain ⟨hlen, hw⟩ := h _ h4
  obtain ⟨hxl, hpv⟩ := hrest.pvs h2 h3
  have hown := hR.own κ _ b cap h1 g2
  have hmb : Mut E L st.H b := .inr ⟨κ, _, cap, h1, g2⟩
  have hblt := hR.mut_lt hmb
  let E' : Base := ⟨w, fun x => Mut E L st.H x ∧ x ≠ b, fun x => x = b, fun k => if k = κ0 then some (b, cap) else none, []⟩
  let L0 : Locs := fun k => if k = κ0 then some (b, cap) else none
  have hMut0 : ∀ x, Mut E' L0 [(κ0, .obj J)] x → Mut E L st.H x := by
    rintro x (hx | ⟨key, B, c0, k1, k2⟩)
    · exact hx.1
    · have : key = κ0 ∧ x = b := by
        by_cases e : key = κ0
        · refine ⟨e, ?_⟩
          simp only [L0, e, if_true, Option.some.injEq, Prod.mk.injEq] at k2
          exact k2.1.symm
        · simp only [L0, e, if_false] at k2; cases k2
      rw [this.2]; exact hmb
  have hk0 : Keeps w (Mut E L st.H) w (Mut E' L0 [(κ0, .obj J)]) := fun x _ hn => ⟨rfl, fun hm => hn (hMut0 x hm)⟩
  have one : ∀ key B, hget [(κ0, ABlk.obj J)] key = some B → key = κ0 ∧ B = .obj J := by
    intro key B hk
    unfold hget at hk
    split at hk
    · rename_i e; simp only [Option.some.injEq] at hk; exact ⟨e.symm, hk.symm⟩
    · cases hk
  have hsz : (#[Value.pointer (some ⟨b, 0, none⟩)] ++ xs'.toArray).size = (rest.map (frz st.H 4)).length + 1 := by simp [hxl, Nat.add_comm]
  have hR0 : Rel G E' (OpqS G E') C.N ⟨look ((0, .ptr κ0 0) :: argL 1 (rest.map (frz st.H 4))), [(κ0, .obj J)]⟩ ((Value.pointer (some ⟨b, 0, none⟩) :: xs').toArray ++ Array.replicate (fn.ntmps - (Value.pointer (some ⟨b, 0, none⟩) :: xs').toArray.size) undef) w L0 := by
    refine ⟨?_, Ext.refl _ _, hR.inv, Nat.le_trans hR.glob hR.ext.size, fun x hx => ⟨hR.mut_lt hx.1, hx.2⟩, fun x hx => ?_, ?_, ?_, ?_, fun s => ?_, ?_⟩
    · have := hlen
      simp only [List.length_map] at this
      simp [hxl]; omega
    · have hx : x = b := hx
      subst hx; exact hown.2.1
    · intro key B x c0 k1 k2
      obtain ⟨rfl, rfl⟩ := one key B k1
      simp only [L0, if_true, Option.some.injEq, Prod.mk.injEq] at k2
      obtain ⟨rfl, rfl⟩ := k2
      exact ⟨fun hx => hx.2 rfl, hown.2.1, .inl rfl⟩
    · intro k1 k2 B1 B2 x c1 c2 m1 m2 _ _
      rw [(one k1 B1 m1).1, (one k2 B2 m2).1]
    · intro key B hk
      obtain ⟨rfl, rfl⟩ := one key B hk
      obtain ⟨cs, b2, cap2, arr, et, e1, e2, e3, e4, e5, e6⟩ := hR.blk κ _ h1
      rw [g2] at e3
      simp only [Option.some.injEq, Prod.mk.injEq] at e3
      obtain ⟨rfl, rfl⟩ := e3
      exact ⟨cs, b, cap, arr, et, e1, e2, by simp [L0], e4, e5, fun j c hc => (e6 j c hc).keep hk0⟩
    · unfold look
      split
      · rename_i e; subst e
        have : ((Value.pointer (some ⟨b, 0, none⟩) :: xs').toArray ++ Array.replicate (fn.ntmps - (Value.pointer (some ⟨b, 0, none⟩) :: xs').toArray.size) undef).getD 0 undef = .pointer (some ⟨b, 0, none⟩) := by
          simp [Array.getD_eq_getD_getElem?, Array.getElem?_append]
        rw [this]
        exact .ptr κ0 0 (.obj J) b cap (by simp [hget]) rfl (by simp [L0])
      · refine look_argL (vs := (Value.pointer (some ⟨b, 0, none⟩) :: xs').toArray) (rest.map (frz st.H 4)) 1 (fun j p hp => ?_) (by simp [hxl]; omega) s
        have := (hpv j p hp).keep hk0
        have e : (Value.pointer (some ⟨b, 0, none⟩) :: xs').toArray.getD (1 + j) undef = xs'.toArray.getD j undef := by
          simp [Array.getD_eq_getD_getElem?, Nat.add_comm 1 j]
        rw [e]; exact this
    · intro k b0 c0 hl
      have hl' : (if k = κ0 then some (b, cap) else none) = some (b0, c0) := hl
      split at hl'
      · rename_i e; subst e
        exact ⟨hl, .obj J, by simp [hget]⟩
      · cases hl'
  refine calls_of_wp hf hb ?_
  have hwp := wpIn_wide.1 <| hw G E' none 0 (fun _ => rfl) hF (fun k hk => by
    rw [hpins]
    have hk' : ((if k = κ0 then some (b, cap) else none : Option (Nat × Nat))).isSome = true := hk
    split at hk'
    · rename_i e; rw [e]; simp
    · cases hk') { tmps := (Value.pointer (some ⟨b, 0, none⟩) :: xs').toArray ++ Array.replicate (fn.ntmps - (Value.pointer (some ⟨b, 0, none⟩) :: xs').toArray.size) undef, defers := [] } w L0 hR0 rfl
  have fin : ∀ (a' : Act) (w' : World), Beh G E' C.N (fun s => tapeR C κ0 J r k (post (rest.map (frz st.H 4))) s) a' w' →
      a'.defers = [] ∧ ∃ v, (results fn a'.tmps).run G.P w' = .ok v w' ∧ ∃ v' r' st' L', Ending.returned v = .returned v' ∧ K r' st' ∧ Rel G E (OpqS G E) N st' a w' L' ∧ AVRel w' (Mut E L' st'.H) L' st'.H (OpqS G E) r' v' := by
    rintro a' w' ⟨s, L', ⟨q1, q2, X, ps, es, q3, q4, q5⟩, hR', hd⟩
    obtain ⟨f1, B1, f2⟩ := hR'.fix κ0 b cap (by simp [E'])
    have hmut : ∀ x, Mut E L st.H x → Mut E' L' s.H x := by
      intro x hx
      by_cases e : x = b
      · exact .inr ⟨κ0, B1, cap, f2, by rw [e]; exact f1⟩
      · exact .inl ⟨hx, e⟩
    have hrun : ∃ v, (resM a'.tmps r).run G.P w' = .ok v w' ∧ AVRel w' (Mut E' L' s.H) L' s.H (OpqS G E') (resA1 C s r).2 v := by
      cases r with
      | tmp t => exact ⟨_, by simp only [resM, Sem.run_pure], hR'.env t⟩
      | cell x t =>
        have h1 : (loadC C s t (s.ρ x)).1 := q2
        unfold loadC at h1
        have hx := hR'.env x
        split at h1
        · rename_i key off hρ
          rw [hF.tabs.base.prog] at h1
          rw [hρ] at hx
          unfold loadA at h1
          simp only at h1
          split at h1
          · rename_i cs hH
            obtain ⟨B2, b', cap', g1, gv, g2, g3⟩ := ptr_inv hx
            obtain ⟨b2, cap2, arr, et, e1, e2, e3, e4⟩ := hR'.blk key _ hH
            rw [g2] at e1
            simp only [Option.some.injEq, Prod.mk.injEq] at e1
            obtain ⟨rfl, rfl⟩ := e1
            obtain ⟨y, hy, hr⟩ := load_own (P := G.P) h1 e2 e3 e4
            refine ⟨y, ?_, ?_⟩
            · simp only [resM, g3, asAddr, Sem.run_bind, Sem.run_pure, Result.andThen_ok, hy]
            · have e : (resA1 C s (.cell x t)).2 = (partC G.P t cs off).2 := by
                show (loadC C s t (s.ρ x)).2 = _
                rw [hρ]; simp only [loadC, loadA, hH, hF.tabs.base.prog]
              rw [e]; exact hr
          · exact h1.elim
        · exact h1.elim
    obtain ⟨v, hv, hr⟩ := hrun
    have hrun2 : (results fn a'.tmps).run G.P w' = .ok v w' := by
      rw [results_eq, hres]
      simp [hv]
    refine ⟨hd, v, hrun2, ?_⟩
    rw [q3] at hr
    have hext : Ext (fun x => x = b) w w' := hR'.ext
    -- the row that is handed out
    have hrow : ∃ loc, (∀ b1 cap1, loc = some (b1, cap1) → w.heap.size ≤ b1 ∧ Mut E' L' s.H b1) ∧ (∀ M' L2 H', (∀ x, M' x → Mut E L st.H x ∨ ∃ c, loc = some (x, c)) → L2 d = loc → BRel w' M' L2 H' (OpqS G E) d (.row k es)) ∧
        (∀ y, AVRel w' (Mut E' L' s.H) L' s.H (OpqS G E') X y → ∀ M2 L2 H2, L2 d = loc → hget H2 d = some (.row k es) → AVRel w' M2 L2 H2 (OpqS G E) (.rs d es.length) y) := by
      have nilc : es = [] → (∀ y, AVRel w' (Mut E' L' s.H) L' s.H (OpqS G E') X y → y = .slice none 0 0) → ∃ loc, (∀ b1 cap1, loc = some (b1, cap1) → w.heap.size ≤ b1 ∧ Mut E' L' s.H b1) ∧ (∀ M' L2 H', (∀ x, M' x → Mut E L st.H x ∨ ∃ c, loc = some (x, c)) → L2 d = loc → BRel w' M' L2 H' (OpqS G E) d (.row k es)) ∧
        (∀ y, AVRel w' (Mut E' L' s.H) L' s.H (OpqS G E') X y → ∀ M2 L2 H2, L2 d = loc → hget H2 d = some (.row k es) → AVRel w' M2 L2 H2 (OpqS G E) (.rs d es.length) y) := fun e1 e2 => by
        subst e1
        refine ⟨none, fun b1 cap1 h => (by cases h), fun M' L2 H' hM hl => ?_, fun y hy M2 L2 H2 hl hg => ?_⟩
        · simp only [BRel, hl]
          exact ⟨hkp, fun e he => (by cases he), trivial⟩
        · rw [e2 y hy]; exact .rsN d k hg hl
      unfold rowX at q4
      split at q4
      · rename_i κ1 hi
        obtain ⟨es', g1, g2, g3⟩ := q4
        have hblk := hR'.blk κ1 _ g1
        cases hl1 : L' κ1 with
        | none =>
          simp only [BRel, hl1] at hblk
          have : es = [] := by rw [g3, hblk.2.2]; simp
          exact nilc this (fun y hy => by
            rcases rs_inv hy with ⟨k2, m1, m2, m3, m4⟩ | ⟨k2, es2, b1, cap1, m1, m2, m3, m4⟩
            · exact m4
            · rw [hl1] at m2; cases m2)
        | some bc =>
          obtain ⟨b1, cap1⟩ := bc
          simp only [BRel, hl1] at hblk
          obtain ⟨_, hwid, arr, et, e1, e2, e3, e4, e5⟩ := hblk
          have hb1 : w.heap.size ≤ b1 := by
            rcases (hR'.own κ1 _ b1 cap1 g1 hl1).2.2 with hx | hx
            · have hx : b1 = b := hx
              subst hx
              have := hR'.inj κ1 κ0 _ B1 b1 cap1 cap g1 f2 hl1 f1
              subst this
              rw [g1] at f2
              simp only [Option.some.injEq] at f2
              subst f2
              rw [g1] at q1
              exact q1.elim
            · exact hx
          have htl : es.length = hi := by rw [g3, List.length_take]; omega
          refine ⟨some (b1, cap1), fun b2 cap2 h => (by cases h; exact ⟨hb1, .inr ⟨κ1, _, cap1, g1, hl1⟩⟩), fun M' L2 H' hM hl => ?_, fun y hy M2 L2 H2 hl hg => ?_⟩
          · simp only [BRel, hl]
            refine ⟨hkp, fun e he => hwid e (by rw [g3] at he; exact List.mem_of_mem_take he), arr, et, e1, e2, by omega, e4, fun i e j c he hc => ?_⟩
            have he' : es'[i]? = some e := by
              rw [g3, List.getElem?_take] at he
              split at he
              · exact he
              · cases he
            obtain ⟨p1, p2⟩ := e5 i e j c he' hc
            refine ⟨p1, p2.keep (fun x _ hn => ⟨rfl, fun hm => hn ?_⟩)⟩
            rcases hM x hm with hm | ⟨c2, hm⟩
            · exact hmut x hm
            · simp only [Option.some.injEq, Prod.mk.injEq] at hm
              obtain ⟨rfl, rfl⟩ := hm
              exact .inr ⟨κ1, _, cap1, g1, hl1⟩
          · rcases rs_inv hy with ⟨k2, m1, m2, m3, m4⟩ | ⟨k2, es2, b3, cap3, m1, m2, m3, m4⟩
            · rw [hl1] at m2; cases m2
            · rw [hl1] at m2
              simp only [Option.some.injEq, Prod.mk.injEq] at m2
              obtain ⟨rfl, rfl⟩ := m2
              rw [m4, ← htl]
              exact .rs d es.length k es b1 cap1 hg hl (Nat.le_refl _)
      · exact nilc q4 (fun y hy => by cases hy; rfl)
      · exact q4.elim
    obtain ⟨loc, l1, l2, l3⟩ := hrow
    have hT : ∀ M' L2 H', (∀ x, M' x → Mut E L st.H x ∨ ∃ c, loc = some (x, c)) → L2 κ = some (b, cap) → BRel w' M' L2 H' (OpqS G E) κ (.obj J) := by
      intro M' L2 H' hM hl
      rw [f2] at q1
      obtain ⟨cs, b2, cap2, arr, et, e1, e2, e3, e4, e5, e6⟩ := tapeOk_rel q1 (hR'.blk κ0 B1 f2)
      rw [f1] at e3
      simp only [Option.some.injEq, Prod.mk.injEq] at e3
      obtain ⟨rfl, rfl⟩ := e3
      refine ⟨cs, b, cap, arr, et, e1, e2, hl, e4, e5, fun j c hc' => (e6 j c hc').keep (fun x _ hn => ⟨rfl, fun hm => hn ?_⟩)⟩
      rcases hM x hm with hm | ⟨c2, hm⟩
      · exact hmut x hm
      · exact (l1 x c2 hm).2
    have hRel := hR.tapeRow h1 g2 hd0 (B := .row k es) loc hext hR'.inv (fun b1 c1 hl => (l1 b1 c1 hl).1) hT l2
    refine ⟨v, wrapA ps (.rs d es.length), _, _, rfl, hK ps es q5, hRel, ?_⟩
    have hkeep : ∀ x, Mut E (locSet L d loc) (hset st.H d (.row k es)) x → Mut E' L' s.H x := by
      intro x hx
      rcases hx with hx | ⟨key, B0, c0, m1, m2⟩
      · exact hmut x (.inl hx)
      · by_cases e : key = d
        · subst e
          simp only [locSet, if_true] at m2
          exact (l1 x c0 m2).2
        · rw [hget_hset_ne _ _ (Ne.symm e)] at m1
          simp only [locSet, e, if_false] at m2
          exact hmut x (.inr ⟨key, B0, c0, m1, m2⟩)
    cases ps with
    | none => exact l3 v hr _ _ _ (by simp [locSet]) (hget_hset_same _ _ _)
    | some ps =>
      simp only [wrapA] at hr ⊢
      cases hr with
      | agg _ vs hsz hall =>
        refine .agg _ vs (by simpa using hsz) (fun i cx hc => ?_)
        by_cases hi : i < ps.length
        · rw [List.getElem?_append_left (by simpa using hi)] at hc
          have h9 := hall i cx (by rw [List.getElem?_append_left (by simpa using hi)]; exact hc)
          rw [List.getElem?_map] at hc
          obtain ⟨p, hp, rfl⟩ := Option.map_eq_some_iff.1 hc
          exact .pv _ _ ((pv_inv h9).keep (fun x _ hn => ⟨rfl, fun hm => hn (hkeep x hm)⟩))
        · have hlen9 : (ps.map AV.pv).length ≤ i := by simpa using (by omega : ps.length ≤ i)
          rw [List.getElem?_append_right hlen9] at hc
          have h9 := hall i X (by
            rw [List.getElem?_append_right hlen9]
            have : i - (ps.map AV.pv).length = 0 := by
              have := (List.getElem?_eq_some_iff.1 hc).1
              simp at this; simp; omega
            rw [this]; rfl)
          have : i - (ps.map AV.pv).length = 0 := by
            have := (List.getElem?_eq_some_iff.1 hc).1
            simp at this; simp; omega
          rw [this] at hc
          simp only [List.getElem?_cons_zero, Option.some.injEq] at hc
          subst hc
          exact l3 _ h9 _ _ _ (by simp [locSet]) (hget_hset_same _ _ _)
  refine wp_mono hwp (fun e a' w' he => ?_)
  rw [ho] at he
  cases e with
  | normal => exact fin a' w' (BehX.beh he)
  | ret => exact fin a' w' (BehX.beh he)
  | exit i => obtain ⟨_, _, h, _⟩ := BehX.beh he; exact h.elim
  | goto l => exact he
  | panic c => exact he.elim
  | outgrown => exact he.elim
section
variable {P : Program} {Φ : FuncId → PSpec} {Θ Θ' : FuncId → Option QSpec} {Ψ Ψ' : FuncId → Option ESpec} {rows pins : List Nat} {n : Nat} {c x y : Code} {Q : AX → ASt → Prop} {st : ASt}
theorem AWp.sub (hq : ∀ f θ, Θ' f = some θ → Θ f = some θ) (hs : ∀ f ψ, Ψ' f = some ψ → Ψ f = some ψ) (h : AWp (cxQ P Φ Θ' Ψ' rows pins n) c Q st) : AWp (cxQ P Φ Θ Ψ rows pins n) c Q st := by
  intro G E r m hr hF hP0 a w L hR hd
  exact h G E r m hr ⟨⟨⟨hF.tabs.base.prog, hF.tabs.base.pure, fun f ψ hf => hF.tabs.base.eff f ψ (hs f ψ hf), hF.tabs.base.pinsLt⟩, fun f θ hf => hF.tabs.2 f θ (hq f θ hf)⟩, fun f ψ hf => hF.mono f ψ (hs f ψ hf), hF.mixed⟩ hP0 a w L hR hd
theorem AWp.seqa {C : Ctx} (h1 : AWp C x (AX.thn (fun st' => AWp C y Q st') Q) st) : AWp C (.seq x y) Q st := by
  intro G E r n hr hF hP0 a w L hR hd
  refine wpIn_seq (wpIn_mono (h1 G E r n hr hF hP0 a w L hR hd) (fun e a w he => ?_))
  cases e with
  | normal =>
    obtain ⟨E', hE, s, L, h2, h2', h3⟩ := he
    have hP0' : ∀ κ, (E'.L0 κ).isSome = true → κ ∈ C.pins := by rw [hE.L0]; exact hP0
    exact wpIn_mono (h2 G E' r n hr hF hP0' a w L h2' h3) (fun e a w he => he.up hE)
  | exit i => exact he
  | ret => exact he
  | goto l => exact he
  | panic c => exact he
  | outgrown => exact he
end
end Go.AM
namespace Go.AM
open Go
set_option linter.unusedSimpArgs false
set_option linter.unusedVariables false
def frzC (κ : Nat) (es : List PV) : AV → AV
  | .rs κ' n => if κ' = κ ∧ n ≤ es.length then .pv (.sl (es.take n)) else .rs κ' n
  | v => v
def fitHF (κ : Nat) (es : List PV) : AHeap → AHeap → Prop
  | [], _ => True
  | (key, B) :: r, H => (hget H key = some B ∨ ∃ cs, hget H key = some (.cells cs) ∧ B = .cells (cs.map (frzC κ es))) ∧ fitHF κ es r H
theorem fitHF_get {κ : Nat} {es : List PV} {H : AHeap} : ∀ {H1 : AHeap}, fitHF κ es H1 H → ∀ key B, hget H1 key = some B → hget H key = some B ∨ ∃ cs, hget H key = some (.cells cs) ∧ B = .cells (cs.map (frzC κ es))
  | [], _, key, B, hb => by cases hb
  | (k1, B1) :: r, h, key, B, hb => by
    unfold hget at hb
    split at hb
    · rename_i e; subst e
      simp only [Option.some.injEq] at hb; subst hb
      exact h.1
    · exact fitHF_get h.2 key B hb
section
variable {w w' : World} {M M' : Nat → Prop} {L : Locs} {H H' : AHeap} {S : (List PV → Prop × PV) → Value → Prop}
theorem AVRel.fit2 (hk : Keeps w M w' M') (hc : ∀ key B, hget H key = some B → (hget H' key).isSome = true → hget H' key = some B ∨ ∃ cs cs', B = .cells cs ∧ hget H' key = some (.cells cs')) {v : AV} {x : Value} (h : AVRel w M L H S v x) : v.refsIn H' = true → AVRel w' M' L H' S v x := by
  have get : ∀ {key B}, hget H key = some B → (hget H' key).isSome = true → (∀ cs, B ≠ .cells cs) → hget H' key = some B := by
    intro key B h1 h2 h3
    rcases hc key B h1 h2 with h | ⟨cs, cs', e, _⟩
    · exact h
    · exact absurd e (h3 cs)
  induction h with
  | pv p v h => exact fun _ => .pv p v (h.keep hk)
  | nils => exact fun _ => .nils
  | ptr key off B b cap h1 hv h2 =>
    intro hr
    rcases hc key B h1 hr with h | ⟨cs, cs', e, h⟩
    · exact .ptr key off B b cap h hv h2
    · exact .ptr key off _ b cap h rfl h2
  | rsN key k h1 h2 => exact fun hr => .rsN key k (get h1 hr (fun _ e => by cases e)) h2
  | rs key hi k es b cap h1 h2 h3 => exact fun hr => .rs key hi k es b cap (get h1 hr (fun _ e => by cases e)) h2 h3
  | rv key lo hi k es b cap cap' a h1 h2 h3 h4 h5 h6 h7 => exact fun hr => .rv key lo hi k es b cap cap' a (get h1 hr (fun _ e => by cases e)) h2 h3 h4 h5 h6 h7
  | rp key i off k es b cap h1 h2 h3 => exact fun hr => .rp key i off k es b cap (get h1 hr (fun _ e => by cases e)) h2 h3
  | mp key es b cap h1 h2 => exact fun hr => .mp key es b cap (get h1 hr (fun _ e => by cases e)) h2
  | bufN key e h1 h2 => exact fun hr => .bufN key e (get h1 hr (fun _ e => by cases e)) h2
  | buf key e bs b cap h1 h2 => exact fun hr => .buf key e bs b cap (get h1 hr (fun _ e => by cases e)) h2
  | it key s pos b cap h1 h2 => exact fun hr => .it key s pos b cap (get h1 hr (fun _ e => by cases e)) h2
  | agg cs vs hz _ ih => exact fun hr => .agg _ _ hz (fun i c hc' => ih i c hc' (refsInL_mem hr i c hc'))
  | clo f caps vs hz _ ih => exact fun hr => .clo _ _ _ hz (fun i c hc' => ih i c hc' (refsInL_mem hr i c hc'))
  | whnT v x _ ih => exact fun hr => .whnT _ _ (ih hr)
  | whnF v => exact fun _ => .whnF _
  | opq φ x h => exact fun _ => .opq φ x h
  | fix x => exact fun _ => .fix x
  | top x => exact fun _ => .top x
theorem BRel.fit2 (hh : w'.heap = w.heap) (hk : Keeps w M w' M') (hc : ∀ key B, hget H key = some B → (hget H' key).isSome = true → hget H' key = some B ∨ ∃ cs cs', B = .cells cs ∧ hget H' key = some (.cells cs')) {key : Nat} {B : ABlk} (h : BRel w M L H S key B) (hr : B.refsIn H' = true) : BRel w' M' L H' S key B := by
  cases B with
  | cells cs =>
    obtain ⟨b, cap, arr, et, e1, e2, e3, e4⟩ := h
    exact ⟨b, cap, arr, et, e1, by rw [hh]; exact e2, e3, fun j c hc' => (e4 j c hc').fit2 hk hc (refsInL_mem hr j c hc')⟩
  | typed ty cs =>
    obtain ⟨b, cap, arr, e1, e2, e3, e4⟩ := h
    exact ⟨b, cap, arr, e1, by rw [hh]; exact e2, e3, fun j c hc' => (e4 j c hc').fit2 hk hc (refsInL_mem hr j c hc')⟩
  | row k es =>
    obtain ⟨e1, e2, e3⟩ := h
    refine ⟨e1, e2, ?_⟩
    cases hl : L key with
    | none => rw [hl] at e3; exact e3
    | some bc =>
      obtain ⟨b, cap⟩ := bc
      rw [hl] at e3
      obtain ⟨arr, et, f1, f2, f3, f4, f5⟩ := e3
      exact ⟨arr, et, by rw [hh]; exact f1, f2, f3, f4, fun i e j c he hc' => ⟨(f5 i e j c he hc').1, (f5 i e j c he hc').2.keep hk⟩⟩
  | obj J =>
    obtain ⟨cs, b, cap, arr, et, e1, e2, e3, e4, e5, e6⟩ := h
    exact ⟨cs, b, cap, arr, et, e1, e2, e3, by rw [hh]; exact e4, e5, fun j c hc' => (e6 j c hc').keep hk⟩
  | iter s pos =>
    obtain ⟨b, cap, e1, e2⟩ := h
    exact ⟨b, cap, e1, by rw [hh]; exact e2⟩
  | buf e bs =>
    simp only [BRel, hh] at h ⊢
    exact h
  | map es =>
    obtain ⟨b, cap, ents, clock, e1, e2, e3, e4⟩ := h
    exact ⟨b, cap, ents, clock, e1, by rw [hh]; exact e2, e3, fun i p hp => by
      obtain ⟨e, g1, g2, g3, g4, g5⟩ := e4 i p hp
      exact ⟨e, g1, g2, g3, g4.keep hk, g5.keep hk⟩⟩
end
structure FitsG (pins : List Nat) (κ k : Nat) (es : List PV) (l : List (Nat × AV)) (H1 : AHeap) (st : ASt) : Prop where
  row : hget st.H κ = some (.row k es)
  gone : hget H1 κ = none
  slots : fitF κ es l st.ρ
  blocks : fitHF κ es H1 st.H
  refsR : refsR H1 l = true
  refsH : refsH H1 H1 = true
  pins : (pins.all fun κ => (hget H1 κ).isSome) = true
section
variable {G : Glob} {E : Base} {S : (List PV → Prop × PV) → Value → Prop} {N : Nat} {st : ASt} {a : Array Value} {w : World} {L : Locs}
theorem Rel.fitG (h : Rel G E S N st a w L) {pins : List Nat} (hp : ∀ κ, (E.L0 κ).isSome = true → κ ∈ pins) {κ k : Nat} {es : List PV} {l : List (Nat × AV)} {H1 : AHeap} (hf : FitsG pins κ k es l H1 st) : Rel G E S N ⟨look l, H1⟩ a w L := by
  have hc0 := fitHF_get hf.blocks
  have hc : ∀ key B, hget H1 key = some B → ∃ B0, hget st.H key = some B0 := fun key B hb => by
    rcases hc0 key B hb with h1 | ⟨cs, h1, _⟩
    · exact ⟨_, h1⟩
    · exact ⟨_, h1⟩
  have hle : ∀ key B, hget H1 key = some B → ∀ B0, hget st.H key = some B0 → (∃ k es, B = .row k es) → B = B0 := fun key B hb B0 hb0 ⟨k', es', e⟩ => by
    rcases hc0 key B hb with h1 | ⟨cs, h1, h2⟩
    · rw [h1] at hb0; exact Option.some.inj hb0
    · rw [e] at h2; cases h2
  have hm : ∀ b, Mut E L H1 b → Mut E L st.H b := fun b hm => hm.imp id (fun ⟨key, B, cap, h1, h2⟩ => (by obtain ⟨B0, h3⟩ := hc key B h1; exact ⟨key, B0, cap, h3, h2⟩))
  have hk : Keeps w (Mut E L st.H) w (Mut E L H1) := fun b _ hn => ⟨rfl, fun h' => hn (hm b h')⟩
  have hg : hget [(κ, ABlk.row k es)] κ = some (.row k es) := by simp [hget]
  have hB : ∀ key B, hget [(κ, ABlk.row k es)] key = some B → BRel w (Mut E L st.H) L [(κ, ABlk.row k es)] S key B := by
    intro key B hk'
    unfold hget at hk'
    split at hk'
    · rename_i e; subst e
      simp only [Option.some.injEq] at hk'; subst hk'
      exact h.blk _ _ hf.row
    · cases hk'
  have hown : ∀ key B b cap, hget [(κ, ABlk.row k es)] key = some B → L key = some (b, cap) → ¬ Mut E L H1 b := by
    intro key B b cap hk' hl hmm
    unfold hget at hk'
    split at hk'
    · rename_i e; subst e
      rcases hmm with hmm | ⟨key', B', cap', g1, g2⟩
      · exact (h.own _ _ _ _ hf.row hl).1 hmm
      · obtain ⟨B0, g3⟩ := hc _ _ g1
        have := h.inj _ _ _ _ _ _ _ hf.row g3 hl g2
        rw [← this, hf.gone] at g1; cases g1
    · cases hk'
  have rowcase : ∀ (n : Nat) (x : Value), n ≤ es.length → AVRel w (Mut E L st.H) L st.H S (.rs κ n) x → AVRel w (Mut E L H1) L H1 S (.pv (.sl (es.take n))) x := by
    intro n x hn hx
    have hx2 : AVRel w (Mut E L st.H) L [(κ, ABlk.row k es)] S (.rs κ n) x := by
      cases hx with
      | rsN key k' h1 h2 => rw [hf.row] at h1; obtain ⟨rfl, rfl⟩ : k = k' ∧ es = [] := by simpa using h1
                            exact .rsN _ _ hg h2
      | rs key hi k' es' b cap h1 h2 h3 => rw [hf.row] at h1; obtain ⟨rfl, rfl⟩ : k = k' ∧ es = es' := by simpa using h1
                                           exact .rs _ _ _ _ _ _ hg h2 h3
    have := frz_to hB hm hown 0 (.rs κ n) _ (by simp only [frzOk, hg]; exact hn) hx2
    simp only [frz, hg] at this
    exact .pv _ _ this
  have hc2 : ∀ key B, hget st.H key = some B → (hget H1 key).isSome = true → hget H1 key = some B ∨ ∃ cs cs', B = .cells cs ∧ hget H1 key = some (.cells cs') := by
    intro key B hb hs
    obtain ⟨B1, hb1⟩ := Option.isSome_iff_exists.1 hs
    rcases hc0 key B1 hb1 with h1 | ⟨cs, h1, h2⟩
    · rw [h1] at hb
      rw [hb1, Option.some.inj hb]; exact .inl rfl
    · rw [h1] at hb
      exact .inr ⟨cs, _, (Option.some.inj hb).symm, by rw [hb1, h2]⟩
  have val : ∀ (v : AV) (x : Value), AVRel w (Mut E L st.H) L st.H S v x → v.refsIn H1 = true → AVRel w (Mut E L H1) L H1 S v x := fun v x hx hr => hx.fit2 hk hc2 hr
  refine ⟨h.size, h.ext, h.inv, h.glob, h.old, h.m0, fun key B b cap h1 h2 => (by obtain ⟨B0, h3⟩ := hc _ _ h1; exact h.own key B0 b cap h3 h2),
    fun k1 k2 B1 B2 b c1 c2 h1 h2 h3 h4 => (by obtain ⟨B3, h5⟩ := hc _ _ h1; obtain ⟨B4, h6⟩ := hc _ _ h2; exact h.inj k1 k2 B3 B4 b c1 c2 h5 h6 h3 h4),
    fun key B h1 => ?_, fun s => ?_, fun κ b c hl => ?_⟩
  case refine_3 =>
    obtain ⟨h1, B, h2⟩ := h.fix κ b c hl
    obtain ⟨B', hB'⟩ := Option.isSome_iff_exists.1 (List.all_eq_true.1 hf.pins κ (hp κ (by rw [hl]; rfl)))
    exact ⟨h1, B', hB'⟩
  case refine_1 =>
    have hr := refsH_get hf.refsH key B h1
    rcases hc0 key B h1 with h2 | ⟨cs, h2, rfl⟩
    · exact (h.blk key B h2).fit2 rfl hk hc2 hr
    · obtain ⟨b, cap, arr, et, e1, e2, e3, e4⟩ := h.blk key _ h2
      refine ⟨b, cap, arr, et, e1, e2, by simpa using e3, fun j c hj => ?_⟩
      have hrj := refsInL_mem hr j c hj
      rw [List.getElem?_map] at hj
      obtain ⟨v, hv, rfl⟩ := Option.map_eq_some_iff.1 hj
      have hx := e4 j v hv
      by_cases hrow : ∃ n, v = .rs κ n ∧ n ≤ es.length
      · obtain ⟨n, rfl, hn⟩ := hrow
        have e : frzC κ es (.rs κ n) = .pv (.sl (es.take n)) := if_pos ⟨rfl, hn⟩
        rw [e]; exact rowcase n _ hn hx
      · have e : frzC κ es v = v := by
          unfold frzC
          split
          · rename_i κ' n
            split
            · rename_i h9; exact absurd ⟨n, by rw [h9.1], h9.2⟩ hrow
            · rfl
          · rfl
        rw [e] at hrj ⊢
        exact val v _ hx hrj
  rcases fitF_look hf.slots s with e | e | ⟨n, e1, hn, e2⟩
  · show AVRel _ _ _ _ _ (look l s) _
    rw [e]; exact .top _
  · show AVRel _ _ _ _ _ (look l s) _
    rw [e]; exact val _ _ (h.env s) (by rw [← e]; exact refsR_look hf.refsR s)
  · show AVRel _ _ _ _ _ (look l s) _
    rw [e2]
    have hx := h.env s
    rw [e1] at hx
    exact rowcase n _ hn hx
end
theorem AWp.freezeC {C : Ctx} {T : Plan} {c : Code} {Q : AX → ASt → Prop} {st : ASt} {α : Type} (κ k : Nat) (es : α → List PV) (I : α → List (Nat × AV) × AHeap) (P : α → Prop)
    (h0 : ∃ z, P z ∧ FitsG C.pins κ k (es z) (I z).1 (I z).2 st) (h : ∀ z, P z → wpc C T c Q ⟨look (I z).1, (I z).2⟩) : AWp C c Q st := by
  intro G E r n hr hF hP0 a w L hR hd
  obtain ⟨z, hz, hf⟩ := h0
  exact wpc_sound c Q _ (h z hz) G E r n hr hF hP0 a w L (hR.fitG hP0 hf) hd
end Go.AM
namespace Go.AM
open Go
set_option linter.unusedSimpArgs false
set_option linter.unusedVariables false
def isAggF (κ : Nat) (es : List PV) (cs : List AV) (ps : List PV) : Prop := pvL (cs.map (frzC κ es)) = some ps ∧ ∀ p, p ∈ ps → p.one = true
def fitFA (κ : Nat) (es : List PV) : List (Nat × AV) → (Nat → AV) → Prop
  | [], _ => True
  | (s, v) :: r, ρ => (ρ s = v ∨ (∃ n, ρ s = .rs κ n ∧ n ≤ es.length ∧ v = .pv (.sl (es.take n))) ∨ ∃ cs ps, ρ s = .agg cs ∧ isAggF κ es cs ps ∧ v = .pv (.agg ps)) ∧ fitFA κ es r ρ
structure FitsA (pins : List Nat) (κ k : Nat) (es : List PV) (l : List (Nat × AV)) (H1 : AHeap) (st : ASt) : Prop where
  row : hget st.H κ = some (.row k es)
  gone : hget H1 κ = none
  slots : fitFA κ es l st.ρ
  blocks : fitHF κ es H1 st.H
  refsR : refsR H1 l = true
  refsH : refsH H1 H1 = true
  pins : (pins.all fun κ => (hget H1 κ).isSome) = true
section
variable {G : Glob} {E : Base} {S : (List PV → Prop × PV) → Value → Prop} {N : Nat} {st : ASt} {a : Array Value} {w : World} {L : Locs}
end
end Go.AM
namespace Go.AM
open Go Go.Proofs
set_option linter.unusedVariables false
set_option linter.unusedSimpArgs false
inductive Sh where
  | int (k : IntKind)
  | bool
  | str
  | st (fs : List Sh)
  | sl (e : Sh)
mutual
def Sh.w : Sh → Nat
  | .st fs => Sh.wL fs
  | .int _ => 1
  | .bool => 1
  | .str => 1
  | .sl _ => 1
def Sh.wL : List Sh → Nat
  | [] => 0
  | s :: r => s.w + Sh.wL r
end
mutual
def okT (P : Program) : Sh → TypeId → Bool
  | .int k, t => match P.underlying t with | some (.int k') => decide (k' = k) | _ => false
  | .bool, t => match P.underlying t with | some .bool => true | _ => false
  | .str, t => match P.underlying t with | some .string => true | _ => false
  | .sl e, t => match P.underlying t with | some (.slice et) => okT P e et && decide (P.cellsOf et = e.w) && decide (0 < e.w) | _ => false
  | .st fs, t => match P.underlying t with | some (.struct F) => okFs P fs F.toList 0 && decide (P.cellsOf t = Sh.wL fs) | _ => false
def okFs (P : Program) : List Sh → List Field → Nat → Bool
  | [], [], _ => true
  | s :: fs, f :: F, off => decide (f.offset = off) && decide (P.cellsOf f.type = s.w) && okT P s f.type && okFs P fs F (off + s.w)
  | [], _ :: _, _ => false
  | _ :: _, [], _ => false
end
def boxSh : Sh → List PV → PV
  | .st _, cs => .agg cs
  | _, [c] => c
  | _, _ => .bool false
inductive HasSh : Sh → List PV → Prop where
  | int (k : IntKind) (n : Int) : (Lit.int k n).wf = true → HasSh (.int k) [.int k n]
  | bool (b : Bool) : HasSh .bool [.bool b]
  | str (s : List UInt8) : s.length ≤ maxLen → HasSh .str [.str s]
  | sl (e : Sh) (css : List (List PV)) : css.length ≤ maxLen → (∀ cs, cs ∈ css → HasSh e cs) → HasSh (.sl e) [.sl (css.map (boxSh e))]
  | nil : HasSh (.st []) []
  | cons (s : Sh) (fs : List Sh) (a b : List PV) : HasSh s a → HasSh (.st fs) b → HasSh (.st (s :: fs)) (a ++ b)
theorem box_cells {S : Sh} {cs : List PV} (h : HasSh S cs) : (boxSh S cs).cells = cs := by
  cases h <;> rfl
theorem HasSh.width {S : Sh} {cs : List PV} (h : HasSh S cs) : cs.length = S.w := by
  induction h with
  | int => rfl
  | bool => rfl
  | str => rfl
  | sl => rfl
  | nil => rfl
  | cons s fs a b _ _ ih1 ih2 => rw [List.length_append, ih1, ih2]; rfl
theorem okT_sl {P : Program} {e : Sh} {t : TypeId} (h : okT P (.sl e) t = true) : ∃ et, P.underlying t = some (.slice et) ∧ okT P e et = true ∧ P.cellsOf et = e.w ∧ 0 < e.w := by
  unfold okT at h
  split at h
  · rename_i et het
    simp only [Bool.and_eq_true, decide_eq_true_eq] at h
    exact ⟨et, het, h.1.1, h.1.2, h.2⟩
  · cases h
theorem okT_st {P : Program} {fs : List Sh} {t : TypeId} (h : okT P (.st fs) t = true) : ∃ F, P.underlying t = some (.struct F) ∧ okFs P fs F.toList 0 = true ∧ P.cellsOf t = Sh.wL fs := by
  unfold okT at h
  split at h
  · rename_i F hF
    simp only [Bool.and_eq_true, decide_eq_true_eq] at h
    exact ⟨F, hF, h.1, h.2⟩
  · cases h
theorem okT_int {P : Program} {k : IntKind} {t : TypeId} (h : okT P (.int k) t = true) : P.underlying t = some (.int k) := by
  unfold okT at h
  split at h
  · rename_i k' hk; rw [hk, of_decide_eq_true h]
  · cases h
theorem okT_bool {P : Program} {t : TypeId} (h : okT P .bool t = true) : P.underlying t = some .bool := by
  unfold okT at h
  split at h
  · assumption
  · cases h
theorem okT_str {P : Program} {t : TypeId} (h : okT P .str t = true) : P.underlying t = some .string := by
  unfold okT at h
  split at h
  · assumption
  · cases h
def Cells (W : World) (pcs : List PV) (g : Nat → Value) : Prop := ∀ i c, pcs[i]? = some c → c.one = true ∧ PVRel W NoB c (g i)
theorem trod_cells {H : Type} {enc : TypeId × Value → H} {P : Program} {W : World} {base : Nat} {sp : Nat → Bool} {held : Bool} : ∀ (n : Nat) (S : Sh) (t : TypeId) (cs : List Value) (x : DataW H × List MemPlace), okT P S t = true →
    DataW.trod enc P W base sp held n t cs = some x → ∃ pcs, HasSh S pcs ∧ cs.length = S.w ∧ Cells W pcs (fun i => cs.getD i undef) := by
  intro n
  induction n with
  | zero => intro S t cs x _ h; simp [DataW.trod] at h
  | succ n ih =>
    intro S t cs x hS h
    cases S with
    | int k =>
      obtain ⟨m, rfl, _, hw⟩ := DataW.trod_int (okT_int hS) h
      refine ⟨[.int k m], .int k m hw, rfl, fun i c hc => ?_⟩
      cases i with
      | zero => simp at hc; subst hc; exact ⟨rfl, .int _ _⟩
      | succ i => simp at hc
    | bool =>
      obtain ⟨b, rfl, _⟩ := DataW.trod_bool (okT_bool hS) h
      refine ⟨[.bool b], .bool b, rfl, fun i c hc => ?_⟩
      cases i with
      | zero => simp at hc; subst hc; exact ⟨rfl, .bool _⟩
      | succ i => simp at hc
    | str =>
      obtain ⟨s, rfl, _, hs⟩ := DataW.trod_string (okT_str hS) h
      refine ⟨[.str s.data.toList], .str _ (by rw [Array.length_toList]; exact hs), rfl, fun i c hc => ?_⟩
      cases i with
      | zero =>
        simp at hc; subst hc
        have := PVRel.str (w := W) (M := NoB) s.data.toList
        rw [textB_data' s] at this
        exact ⟨rfl, this⟩
      | succ i => simp at hc
    | sl e =>
      obtain ⟨et, ht, he, hk, hpos⟩ := okT_sl hS
      rcases DataW.trod_slice ht h with ⟨rfl, _⟩ | ⟨a, len, cap, elems, rest, m, hm, rfl, _, hb, hl, hmx, hlen, hel, _, _⟩
      · refine ⟨[.sl (([] : List (List PV)).map (boxSh e))], .sl e [] (Nat.zero_le _) (fun _ h => by cases h), rfl, fun i c hc => ?_⟩
        cases i with
        | zero => simp at hc; subst hc; exact ⟨rfl, .sl [] none 0 0 0 0 (fun _ _ => undef) (by simp) (by simp [maxLen]) (by simp) (by simp) (by simp) (by simp)⟩
        | succ i => simp at hc
      · obtain rfl : n = m := by omega
        have hx : ∀ i : Nat, ∃ q : List Value × List PV, i < len → HasSh e q.2 ∧ (∀ j, j < e.w → W.cell? ((a.add (i * e.w)).add j) = q.1[j]?) ∧ q.1.length = e.w ∧ Cells W q.2 (fun j => q.1.getD j undef) := by
          intro i
          by_cases hi : i < len
          · have h1 := hel i hi
            rw [List.getElem?_eq_getElem (by omega), Option.bind_eq_some_iff] at h1
            obtain ⟨cs', hcs, hy⟩ := h1
            obtain ⟨pcs, g1, g2, g3⟩ := ih e et cs' _ he hy
            rw [hk] at hcs
            obtain ⟨_, g4, g5⟩ := World.cells?_some hcs
            exact ⟨(cs', pcs), fun _ => ⟨g1, g5, g2, g3⟩⟩
          · exact ⟨([], []), fun h => absurd h hi⟩
        obtain ⟨f, hf⟩ := Classical.axiomOfChoice hx
        have hw : ∀ i, i < len → (f i).2.length = e.w := fun i hi => (hf i hi).1.width
        refine ⟨[.sl (((List.range len).map fun i => (f i).2).map (boxSh e))], .sl e _ (by simp; omega) (fun cs hcs => ?_), rfl, fun i c hc => ?_⟩
        · simp only [List.mem_map, List.mem_range] at hcs
          obtain ⟨i, hi, rfl⟩ := hcs
          exact (hf i hi).1
        · cases i with
          | succ i => simp at hc
          | zero =>
            simp at hc; subst hc
            refine ⟨rfl, ?_⟩
            have hget : ∀ i x, (((List.range len).map fun i => (f i).2).map (boxSh e))[i]? = some x → i < len ∧ x.cells = (f i).2 := by
              intro i x hx
              simp only [List.getElem?_map, Option.map_eq_some_iff] at hx
              obtain ⟨y, ⟨z, hz, rfl⟩, rfl⟩ := hx
              have hi : i < len := by have := (List.getElem?_eq_some_iff.1 hz).1; simpa using this
              have : z = i := by rw [List.getElem?_range hi] at hz; exact (Option.some.inj hz).symm
              subst this
              exact ⟨hi, box_cells (hf _ hi).1⟩
            have hspot : 0 < len → ∃ b o, a = ⟨b, o, none⟩ := by
              intro h0
              obtain ⟨g1, g2, g3, _⟩ := hf 0 h0
              have := g2 0 hpos
              rw [List.getElem?_eq_getElem (by omega)] at this
              obtain ⟨b, o, s⟩ := a
              cases s with
              | none => exact ⟨b, o, rfl⟩
              | some s =>
                simp only [Nat.zero_mul, Addr.add, if_pos, World.cell?] at this
                split at this <;> simp at this
            by_cases h0 : len = 0
            · subst h0
              exact .sl [] (some a) cap 0 0 0 (fun _ _ => undef) (by simp) hmx (by simp) (by simp) (by simp) (by simp)
            · obtain ⟨b, o, rfl⟩ := hspot (by omega)
              have := PVRel.sl (w := W) (M := NoB) (((List.range len).map fun i => (f i).2).map (boxSh e)) (some ⟨b, o, none⟩) cap e.w b o (fun i j => (f i).1.getD j undef) (by simp; exact hl) hmx
                (fun x hx => ?_) (fun _ => rfl) (fun i x j c hx hc => ?_) (fun i x j c hx hc => ?_)
              · simpa using this
              · obtain ⟨i, hi⟩ := List.getElem?_of_mem hx
                obtain ⟨h1, h2⟩ := hget i x hi
                unfold PV.width; rw [h2]; exact hw i h1
              · obtain ⟨h1, h2⟩ := hget i x hx
                rw [h2] at hc
                obtain ⟨g1, g2, g3, g4⟩ := hf i h1
                have hj : j < e.w := by have := (List.getElem?_eq_some_iff.1 hc).1; rw [hw i h1] at this; exact this
                refine ⟨id, (g4 j c hc).1, ?_⟩
                have := g2 j hj
                rw [List.getElem?_eq_getElem (by omega)] at this
                have e1 : ((⟨b, o, none⟩ : Addr).add (i * e.w)).add j = ⟨b, o + i * e.w + j, none⟩ := by
                  unfold Addr.add
                  by_cases p : i * e.w = 0 <;> by_cases q : j = 0 <;> simp [p, q]
                rw [e1] at this
                rw [this, List.getD_eq_getElem?_getD, List.getElem?_eq_getElem (by omega)]; rfl
              · obtain ⟨h1, h2⟩ := hget i x hx
                rw [h2] at hc
                exact ((hf i h1).2.2.2 j c hc).2
    | st fs =>
      obtain ⟨F, ht, hF, hw⟩ := okT_st hS
      obtain ⟨xs, m, hm, _, hlen, hxs, hfd⟩ := DataW.trod_struct ht h
      obtain rfl : n = m := by omega
      have key : ∀ (fs : List Sh) (G : List Field) (off : Nat), okFs P fs G off = true → off + Sh.wL fs = cs.length → (∀ (i : Nat) (f : Field), G[i]? = some f → ∃ x, DataW.trod enc P W base sp held n f.type ((cs.drop f.offset).take (P.cellsOf f.type)) = some x) →
          ∃ pcs, HasSh (.st fs) pcs ∧ Cells W pcs (fun i => cs.getD (off + i) undef) := by
        intro fs
        induction fs with
        | nil =>
          intro G off _ _ _
          exact ⟨[], .nil, fun i c hc => by simp at hc⟩
        | cons s fs ihf =>
          intro G off hG hoff hall
          cases G with
          | nil => simp [okFs] at hG
          | cons f G =>
            simp only [okFs, Bool.and_eq_true, decide_eq_true_eq] at hG
            obtain ⟨⟨⟨h1, h2⟩, h3⟩, h4⟩ := hG
            obtain ⟨x, hx⟩ := hall 0 f rfl
            obtain ⟨pa, a1, a2, a3⟩ := ih s f.type _ x h3 hx
            rw [Sh.wL] at hoff
            obtain ⟨pb, b1, b2⟩ := ihf G (off + s.w) h4 (by omega) (fun i g hg => hall (i + 1) g (by simpa using hg))
            have hpa := a1.width
            refine ⟨pa ++ pb, .cons s fs pa pb a1 b1, fun i c hc => ?_⟩
            by_cases hi : i < pa.length
            · rw [List.getElem?_append_left hi] at hc
              have := a3 i c hc
              rw [h1, h2] at this
              have e1 : ((cs.drop off).take s.w).getD i undef = cs.getD (off + i) undef := by
                rw [List.getD_eq_getElem?_getD, List.getD_eq_getElem?_getD, List.getElem?_take, if_pos (by omega), List.getElem?_drop]
              simp only [e1] at this
              exact this
            · rw [List.getElem?_append_right (by omega)] at hc
              have := b2 (i - pa.length) c hc
              simp only at this ⊢
              rw [show off + s.w + (i - pa.length) = off + i by omega] at this
              exact this
      obtain ⟨pcs, g1, g2⟩ := key fs F.toList 0 hF (by omega) (fun i f hf => by
        have hf' : F[i]? = some f := by simpa using hf
        have := hfd i f hf'
        have hi : i < xs.length := by rw [hxs]; exact (Array.getElem?_eq_some_iff.1 hf').1
        rw [List.getElem?_eq_getElem hi] at this
        exact ⟨_, this⟩)
      refine ⟨pcs, g1, by rw [hlen, hw]; rfl, fun i c hc => ?_⟩
      have := g2 i c hc
      simpa using this
theorem arg_any {H : Type} {enc : TypeId × Value → H} {P : Program} {W : World} {base b0 : Nat} {r : Reach} {sp : Nat → Bool} {held : Bool} {t : TypeId} {v : Value} {d : DataW H} {p : List MemPlace} (S : Sh) (hS : okT P S t = true)
    (hval : Value.okWide P W r b0 t v) (h : DataW.Trod enc P W base sp held t v d p) : ∃ pcs, HasSh S pcs ∧ PVRel W NoB (boxSh S pcs) v := by
  obtain ⟨n, hn⟩ := h
  obtain ⟨pcs, h1, h2, h3⟩ := trod_cells n S t _ _ hS hn
  refine ⟨pcs, h1, ?_⟩
  have hone : ∀ c w, pcs = [c] → v.cells.toList = [w] → PVRel W NoB c w := fun c w e1 e2 => by
    have := (h3 0 c (by rw [e1]; rfl)).2
    rw [e2] at this; exact this
  have hw := h1.width
  cases S with
  | st fs =>
    obtain ⟨F, ht, _, _⟩ := okT_st hS
    obtain ⟨vs, rfl, _⟩ := WideShapes.okWide_struct ht hval
    have e1 : (Value.agg vs).cells.toList = vs.toList := rfl
    rw [e1] at h2 h3
    refine .agg pcs vs (by rw [hw]; simpa using h2) (fun c hc => ?_) (fun i c hc => ?_)
    · obtain ⟨i, hi⟩ := List.getElem?_of_mem hc
      exact (h3 i c hi).1
    · have := (h3 i c hc).2
      simpa using this
  | int k =>
    obtain ⟨m, rfl⟩ := WideShapes.okWide_int (okT_int hS) hval
    match pcs, hw with
    | [c], _ => exact hone c _ rfl rfl
  | bool =>
    obtain ⟨m, rfl⟩ := WideShapes.okWide_bool (okT_bool hS) hval
    match pcs, hw with
    | [c], _ => exact hone c _ rfl rfl
  | str =>
    obtain ⟨m, rfl⟩ := WideShapes.okWide_string (okT_str hS) hval
    match pcs, hw with
    | [c], _ => exact hone c _ rfl rfl
  | sl e =>
    obtain ⟨et, ht, _, _⟩ := okT_sl hS
    obtain ⟨a, len, cap, rfl⟩ := WideShapes.okWide_slice ht hval
    match pcs, hw with
    | [c], _ => exact hone c _ rfl rfl
theorem HasSh.int_inv {k : IntKind} {cs : List PV} (h : HasSh (.int k) cs) : ∃ n, cs = [.int k n] ∧ (Lit.int k n).wf = true := by
  cases h with | int k n hw => exact ⟨n, rfl, hw⟩
theorem HasSh.i64_inv {cs : List PV} (h : HasSh (.int .i64) cs) : ∃ n, cs = [.int .i64 n] ∧ -9223372036854775808 ≤ n ∧ n ≤ 9223372036854775807 := by
  obtain ⟨n, e, hw⟩ := h.int_inv
  exact ⟨n, e, by simpa [Lit.wf, IntKind.min, IntKind.max, IntKind.signed, IntKind.bits] using hw⟩
theorem HasSh.bool_inv {cs : List PV} (h : HasSh .bool cs) : ∃ b, cs = [.bool b] := by
  cases h with | bool b => exact ⟨b, rfl⟩
theorem HasSh.str_inv {cs : List PV} (h : HasSh .str cs) : ∃ s, cs = [.str s] ∧ s.length ≤ 9223372036854775807 := by
  cases h with | str s hs => exact ⟨s, rfl, Nat.le_trans hs (by decide)⟩
theorem HasSh.sl_inv {e : Sh} {cs : List PV} (h : HasSh (.sl e) cs) : ∃ es, cs = [.sl es] ∧ es.length ≤ 9223372036854775807 ∧ ∀ x, x ∈ es → ∃ ds, x = boxSh e ds ∧ HasSh e ds := by
  cases h with
  | sl e css hl hall =>
    refine ⟨_, rfl, by rw [List.length_map]; exact Nat.le_trans hl (by decide), fun x hx => ?_⟩
    obtain ⟨ds, hd, rfl⟩ := List.mem_map.1 hx
    exact ⟨ds, rfl, hall ds hd⟩
theorem HasSh.nil_inv {cs : List PV} (h : HasSh (.st []) cs) : cs = [] := by
  cases h; rfl
theorem HasSh.cons_inv {s : Sh} {fs : List Sh} {cs : List PV} (h : HasSh (.st (s :: fs)) cs) : ∃ a b, cs = a ++ b ∧ HasSh s a ∧ HasSh (.st fs) b := by
  cases h with | cons s fs a b ha hb => exact ⟨a, b, rfl, ha, hb⟩
end Go.AM
