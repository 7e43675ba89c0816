/-
  A part of a proof: see the last text of this claim for what is proved.
-/
import Derived.Test.YtamiheckgglgaaaDoorAMy
namespace Go.AM
open Go
set_option linter.unusedSimpArgs false
set_option linter.unusedVariables false

/-! ### A variable of the caller's of which only so much is known (the tape of a law) -/
section
variable {C : Ctx} {T : Plan} {c : Code} {Q : AX → ASt → Prop} {st : ASt}
theorem all_one_pv {cs : List PV} (h : ∀ c, c ∈ cs → c.one = true) : (cs.map AV.pv).all AV.one = true := by
  rw [List.all_eq_true]
  intro v hv
  obtain ⟨p, hp, rfl⟩ := List.mem_map.1 hv
  exact h p hp
/-- The variable looked into. -/
theorem AWp.look_in {κ : Nat} {J : List PV → Prop} (hκ : hget st.H κ = some (.obj J)) (h : ∀ cs, J cs → (∀ c, c ∈ cs → c.one = true) → AWp C c Q { st with H := hset st.H κ (.cells (cs.map AV.pv)) }) : AWp C c Q st := by
  intro G E r n hr hF hP0 a w L hR hd
  obtain ⟨cs, b, cap, arr, et, e1, e2, e3, e4, e5, e6⟩ := hR.blk κ _ hκ
  refine h cs e1 e2 G E r n hr hF hP0 a w L ?_ hd
  refine hR.writeBlock (w' := w) hκ e3 (by simp [ABlk.le]) (fun _ _ => rfl) rfl rfl rfl rfl (fun _ => rfl) (fun M' H' hk hc => ?_)
  refine ⟨b, cap, arr, et, e3, e4, by simpa using e5, fun j c hc' => ?_⟩
  rw [List.getElem?_map] at hc'
  obtain ⟨p, hp, rfl⟩ := Option.map_eq_some_iff.1 hc'
  exact .pv _ _ ((e6 j p hp).keep hk)
end

/-- What must be behind the call. -/
def tapeOk (J : List PV → Prop) : Option ABlk → Prop
  | some (.obj J') => J' = J
  | some (.cells as) => ∃ cs, pvL as = some cs ∧ J cs ∧ cs.all PV.one = true
  | _ => False
def filt (H : AHeap) (ρ : Nat → AV) : Nat → AV := fun s => bif (ρ s).refsIn H then ρ s else .top
def FinQ (C : Ctx) (rs : List ResultVar) (κ : Nat) (J : List PV → Prop) (post : PV → Prop) : AX → ASt → Prop
  | .normal, st => tapeOk J (hget st.H κ) ∧ refsH (hdel st.H κ) (hdel st.H κ) = true ∧ resC C ⟨filt (hdel st.H κ) st.ρ, hdel st.H κ⟩ rs ∧ post (tupP (resV C ⟨filt (hdel st.H κ) st.ρ, hdel st.H κ⟩ rs))
  | .ret, st => tapeOk J (hget st.H κ) ∧ refsH (hdel st.H κ) (hdel st.H κ) = true ∧ resC C ⟨filt (hdel st.H κ) st.ρ, hdel st.H κ⟩ rs ∧ post (tupP (resV C ⟨filt (hdel st.H κ) st.ρ, hdel st.H κ⟩ rs))
  | .exit _, _ => False
/-- A call that may turn the variable, and yields something of a kind. -/
def qT (J : List PV → Prop) (pre : List PV → Prop) (post : List PV → PV → Prop) : QSpec := fun args H =>
  match args with
  | .ptr κ 0 :: rest => (hget H κ = some (.obj J) ∧ AV.freeL rest = true ∧ (∀ a, a ∈ rest → frzOk H 4 a) ∧ pre (rest.map (frz H 4)), fun r => ∃ p, r = .pv p ∧ post (rest.map (frz H 4)) p)
  | _ => (False, fun _ => False)

theorem pvL_map : ∀ {as : List AV} {cs : List PV}, pvL as = some cs → as = cs.map AV.pv
  | [], cs, h => by simp [pvL] at h; subst h; rfl
  | .pv p :: r, cs, h => by
    simp only [pvL] at h
    obtain ⟨ds, h1, rfl⟩ := Option.map_eq_some_iff.1 h
    rw [pvL_map h1]; rfl
  | .nils :: r, cs, h => by simp [pvL] at h
  | .ptr _ _ :: r, cs, h => by simp [pvL] at h
  | .rs _ _ :: r, cs, h => by simp [pvL] at h
  | .rv _ _ _ :: r, cs, h => by simp [pvL] at h
  | .rp _ _ _ :: r, cs, h => by simp [pvL] at h
  | .mp _ :: r, cs, h => by simp [pvL] at h
  | .bufh _ _ :: r, cs, h => by simp [pvL] at h
  | .it _ :: r, cs, h => by simp [pvL] at h
  | .agg _ :: r, cs, h => by simp [pvL] at h
  | .clo _ _ :: r, cs, h => by simp [pvL] at h
  | .whn _ _ :: r, cs, h => by simp [pvL] at h
  | .opq _ :: r, cs, h => by simp [pvL] at h
  | .top :: r, cs, h => by simp [pvL] at h

theorem tapeOk_rel {w : World} {M : Nat → Prop} {L : Locs} {H : AHeap} {S : (List PV → Prop × PV) → Value → Prop} {κ : Nat} {J : List PV → Prop} {B : ABlk} (h : tapeOk J (some B)) (hB : BRel w M L H S κ B) : BRel w M L H S κ (.obj J) := by
  cases B with
  | obj J' => have e : J' = J := h; subst e; exact hB
  | row k es => exact h.elim
  | map es => exact h.elim
  | iter s pos => exact h.elim
  | buf e bs => exact h.elim
  | typed ty cs => exact h.elim
  | cells as =>
    obtain ⟨cs, h1, h2, h3⟩ := h
    have := pvL_map h1
    subst this
    obtain ⟨b, cap, arr, et, e1, e2, e3, e4⟩ := hB
    refine ⟨cs, b, cap, arr, et, h2, List.all_eq_true.1 h3, e1, e2, by simpa using e3, fun j c hc => ?_⟩
    exact pv_inv (e4 j (.pv c) (by rw [List.getElem?_map, hc]; rfl))

theorem LRel.pvs {w : World} {M : Nat → Prop} {L : Locs} {H : AHeap} {S : (List PV → Prop × PV) → Value → Prop} {l : List AV} {xs : List Value} (h : LRel w M L H S l xs) (hf : AV.freeL l = true) (hk : ∀ a, a ∈ l → frzOk H 4 a) :
    xs.length = l.length ∧ ∀ (j : Nat) p, (l.map (Go.AM.frz H 4))[j]? = some p → PVRel w M p (xs.toArray.getD j undef) := by
  have := h.frzFree hf hk
  exact ⟨by have h1 := this.1; simp at h1; exact h1, this.2⟩

/-- A walk with the caller's variable in hand. -/
theorem QSound.of_wpc {G : Glob} {C : Ctx} {f : FuncId} {fn : Func} {c : Code} {J : List PV → Prop} {pre : List PV → Prop} {post : List PV → PV → Prop} (κ0 : Nat)
    (hf : G.P.funcs[f]? = some fn) (hb : fn.body = some c) (hn : (fn.name == "runtime.NumGoroutine") = false) (hN : C.N = fn.ntmps) (hF : Fit G C) (hpins : C.pins = [κ0])
    (hin : ∀ args, pre args → ∃ p, post args p)
    (h : ∀ args, pre args → args.length + 1 ≤ C.N ∧ AWp C c (FinQ C fn.results.toList κ0 J (post args)) ⟨look ((0, .ptr κ0 0) :: argL 1 args), [(κ0, .obj J)]⟩) (ho : C.outer = false := by rfl) : QSound G f (qT J pre post) := by
  have shape : ∀ args H, (qT J pre post args H).1 → ∃ κ rest, args = .ptr κ 0 :: rest ∧ hget H κ = some (.obj J) ∧ AV.freeL rest = true ∧ (∀ a, a ∈ rest → frzOk H 4 a) ∧ pre (rest.map (frz H 4)) ∧
      (qT J pre post args H).2 = fun r => ∃ p, r = .pv p ∧ post (rest.map (frz H 4)) p := by
    intro args H hq
    unfold qT at hq ⊢
    split at hq
    · exact ⟨_, _, rfl, hq.1, hq.2.1, hq.2.2.1, hq.2.2.2, rfl⟩
    · exact hq.elim
  have ent : Enterable G.P f := ⟨fn, hf, hn, by rw [hb]; rfl⟩
  refine ⟨fun _ _ _ => ent, fun args H hq => ?_, fun args H H' hs hq => ?_, ?_⟩
  · obtain ⟨κ, rest, rfl, h1, h2, h3, h4, h5⟩ := shape args H hq
    obtain ⟨p, hp⟩ := hin _ h4
    rw [h5]; exact ⟨_, p, rfl, hp⟩
  · obtain ⟨κ, rest, rfl, h1, h2, h3, h4, h5⟩ := shape args H hq
    obtain ⟨m1, m2⟩ := frzL_mono (show Sub H H' from hs) h3
    simp only [qT, m2]
    exact ⟨⟨hs _ _ h1, h2, m1, h4⟩, trivial⟩
  · intro args st hq E N a w L xs hR hargs
    obtain ⟨κ, rest, rfl, h1, h2, h3, h4, h5⟩ := shape args st.H hq
    rw [h5]
    cases hargs with
    | cons _ x0 _ xs' hx0 hrest =>
    obtain ⟨B0, b, cap, g1, gv, g2, rfl⟩ := ptr_inv hx0
    obtain ⟨hlen, hw⟩ := h _ h4
    obtain ⟨hxl, hpv⟩ := hrest.pvs h2 h3
    have hown := hR.own κ _ b cap h1 g2
    have hmb : Mut E L st.H b := .inr ⟨κ, _, cap, h1, g2⟩
    have hblt := hR.mut_lt hmb
    let E' : Base := ⟨w, fun x => Mut E L st.H x ∧ x ≠ b, fun x => x = b, fun k => if k = κ0 then some (b, cap) else none, []⟩
    let L0 : Locs := fun k => if k = κ0 then some (b, cap) else none
    have hMut0 : ∀ x, Mut E' L0 [(κ0, .obj J)] x → Mut E L st.H x := by
      rintro x (hx | ⟨key, B, c0, k1, k2⟩)
      · exact hx.1
      · have : key = κ0 ∧ x = b := by
          by_cases e : key = κ0
          · refine ⟨e, ?_⟩
            simp only [L0, e, if_true, Option.some.injEq, Prod.mk.injEq] at k2
            exact k2.1.symm
          · simp only [L0, e, if_false] at k2; cases k2
        rw [this.2]; exact hmb
    have hk0 : Keeps w (Mut E L st.H) w (Mut E' L0 [(κ0, .obj J)]) := fun x _ hn => ⟨rfl, fun hm => hn (hMut0 x hm)⟩
    have one : ∀ key B, hget [(κ0, ABlk.obj J)] key = some B → key = κ0 ∧ B = .obj J := by
      intro key B hk
      unfold hget at hk
      split at hk
      · rename_i e; simp only [Option.some.injEq] at hk; exact ⟨e.symm, hk.symm⟩
      · cases hk
    have hsz : (#[Value.pointer (some ⟨b, 0, none⟩)] ++ xs'.toArray).size = (rest.map (frz st.H 4)).length + 1 := by simp [hxl, Nat.add_comm]
    have hR0 : Rel G E' (OpqS G E') C.N ⟨look ((0, .ptr κ0 0) :: argL 1 (rest.map (frz st.H 4))), [(κ0, .obj J)]⟩ ((Value.pointer (some ⟨b, 0, none⟩) :: xs').toArray ++ Array.replicate (fn.ntmps - (Value.pointer (some ⟨b, 0, none⟩) :: xs').toArray.size) undef) w L0 := by
      refine ⟨?_, Ext.refl _ _, hR.inv, Nat.le_trans hR.glob hR.ext.size, fun x hx => ⟨hR.mut_lt hx.1, hx.2⟩, fun x hx => ?_, ?_, ?_, ?_, fun s => ?_, ?_⟩
      · have := hlen
        simp only [List.length_map] at this
        simp [hxl]; omega
      · have hx : x = b := hx
        subst hx; exact hown.2.1
      · intro key B x c0 k1 k2
        obtain ⟨rfl, rfl⟩ := one key B k1
        simp only [L0, if_true, Option.some.injEq, Prod.mk.injEq] at k2
        obtain ⟨rfl, rfl⟩ := k2
        exact ⟨fun hx => hx.2 rfl, hown.2.1, .inl rfl⟩
      · intro k1 k2 B1 B2 x c1 c2 m1 m2 _ _
        rw [(one k1 B1 m1).1, (one k2 B2 m2).1]
      · intro key B hk
        obtain ⟨rfl, rfl⟩ := one key B hk
        obtain ⟨cs, b2, cap2, arr, et, e1, e2, e3, e4, e5, e6⟩ := hR.blk κ _ h1
        rw [g2] at e3
        simp only [Option.some.injEq, Prod.mk.injEq] at e3
        obtain ⟨rfl, rfl⟩ := e3
        exact ⟨cs, b, cap, arr, et, e1, e2, by simp [L0], e4, e5, fun j c hc => (e6 j c hc).keep hk0⟩
      · unfold look
        split
        · rename_i e; subst e
          have : ((Value.pointer (some ⟨b, 0, none⟩) :: xs').toArray ++ Array.replicate (fn.ntmps - (Value.pointer (some ⟨b, 0, none⟩) :: xs').toArray.size) undef).getD 0 undef = .pointer (some ⟨b, 0, none⟩) := by
            simp [Array.getD_eq_getD_getElem?, Array.getElem?_append]
          rw [this]
          exact .ptr κ0 0 (.obj J) b cap (by simp [hget]) rfl (by simp [L0])
        · refine look_argL (vs := (Value.pointer (some ⟨b, 0, none⟩) :: xs').toArray) (rest.map (frz st.H 4)) 1 (fun j p hp => ?_) (by simp [hxl]; omega) s
          have := (hpv j p hp).keep hk0
          have e : (Value.pointer (some ⟨b, 0, none⟩) :: xs').toArray.getD (1 + j) undef = xs'.toArray.getD j undef := by
            simp [Array.getD_eq_getD_getElem?, Nat.add_comm 1 j]
          rw [e]; exact this
      · intro k b0 c0 hl
        have hl' : (if k = κ0 then some (b, cap) else none) = some (b0, c0) := hl
        split at hl'
        · rename_i e; subst e
          exact ⟨hl, .obj J, by simp [hget]⟩
        · cases hl'
    refine calls_of_wp hf hb ?_
    have hwp := wpIn_wide.1 <| hw G E' none 0 (fun _ => rfl) hF (fun k hk => by
      rw [hpins]
      have hk' : ((if k = κ0 then some (b, cap) else none : Option (Nat × Nat))).isSome = true := hk
      split at hk'
      · rename_i e; rw [e]; simp
      · cases hk') { tmps := (Value.pointer (some ⟨b, 0, none⟩) :: xs').toArray ++ Array.replicate (fn.ntmps - (Value.pointer (some ⟨b, 0, none⟩) :: xs').toArray.size) undef, defers := [] } w L0 hR0 rfl
    have fin : ∀ (a' : Act) (w' : World), Beh G E' C.N (fun s => tapeOk J (hget s.H κ0) ∧ refsH (hdel s.H κ0) (hdel s.H κ0) = true ∧ resC C ⟨filt (hdel s.H κ0) s.ρ, hdel s.H κ0⟩ fn.results.toList ∧ post (rest.map (frz st.H 4)) (tupP (resV C ⟨filt (hdel s.H κ0) s.ρ, hdel s.H κ0⟩ fn.results.toList))) a' w' →
        a'.defers = [] ∧ ∃ v, (results fn a'.tmps).run G.P w' = .ok v w' ∧ ∃ v' r L', Ending.returned v = .returned v' ∧ (∃ p, r = .pv p ∧ post (rest.map (frz st.H 4)) p) ∧ Rel G E (OpqS G E) N st a w' L' ∧ AVRel w' (Mut E L' st.H) L' st.H (OpqS G E) r v' := by
      rintro a' w' ⟨s, L', ⟨q1, q2, q3, q4⟩, hR', hd⟩
      obtain ⟨f1, B1, f2⟩ := hR'.fix κ0 b cap (by simp [E'])
      have hmut : ∀ x, Mut E L st.H x → Mut E' L' s.H x := by
        intro x hx
        by_cases e : x = b
        · exact .inr ⟨κ0, B1, cap, f2, by rw [e]; exact f1⟩
        · exact .inl ⟨hx, e⟩
      have hdelg : ∀ key B, hget (hdel s.H κ0) key = some B → hget s.H key = some B ∧ key ≠ κ0 := by
        intro key B hk
        by_cases e : key = κ0
        · subst e; rw [hget_hdel_same] at hk; cases hk
        · rw [hget_hdel_ne _ (Ne.symm e)] at hk; exact ⟨hk, e⟩
      have hkr : Keeps w' (Mut E' L' s.H) w' (Mut E' L' s.H) := fun _ _ hn => ⟨rfl, hn⟩
      obtain ⟨v, hv, hr⟩ := results_run (C := C) (st := ⟨filt (hdel s.H κ0) s.ρ, hdel s.H κ0⟩) (M := Mut E' L' s.H) (S := OpqS G E') (M' := Mut E L st.H) (w := w') (L := L') (a := a'.tmps) hF.tabs.base.prog
        (fun key B hk => (hR'.blk key B (hdelg key B hk).1).fit rfl hkr (fun key B hk => (hdelg key B hk).1) (refsH_get q2 key B hk))
        (fun t => by
          show AVRel _ _ _ _ _ (filt (hdel s.H κ0) s.ρ t) _
          unfold filt
          cases hf' : (s.ρ t).refsIn (hdel s.H κ0) with
          | true => exact (hR'.env t).fit hkr (fun key B hk => (hdelg key B hk).1) hf'
          | false => exact .top _)
        hmut
        (fun key B b' c' hk hl hm => by
          obtain ⟨k1, k2⟩ := hdelg key B hk
          obtain ⟨o1, _, _⟩ := hR'.own key B b' c' k1 hl
          by_cases e : b' = b
          · subst e; exact k2 (hR'.inj key κ0 B B1 b' c' cap k1 f2 hl f1)
          · exact o1 ⟨hm, e⟩) q3
      refine ⟨hd, v, hv, v, .pv (tupP (resV C ⟨filt (hdel s.H κ0) s.ρ, hdel s.H κ0⟩ fn.results.toList)), L, rfl, ⟨_, rfl, q4⟩, ?_, .pv _ _ hr⟩
      have hext : Ext (fun x => x = b) w w' := hR'.ext
      have hk : Keeps w (Mut E L st.H) w' (Mut E L st.H) := fun x hx hn => ⟨hext.block x hx (fun e => hn (by have e : x = b := e; rw [e]; exact hmb)), hn⟩
      have hc : ∀ key B, hget st.H key = some B → ∃ B', hget st.H key = some B' ∧ B.le B' ∧ L key = L key ∧ (L key = none → B = B') := fun key B hb => ⟨B, hb, ABlk.le_refl _, rfl, fun _ => rfl⟩
      refine ⟨hR.size, hR.ext.trans' hext (fun x hx => ?_), hR'.inv, hR.glob, hR.old, hR.m0, hR.own, hR.inj, fun key B hb => ?_, fun t => (hR.env t).keep hk (fun _ _ h => h) hc, hR.fix⟩
      · have hx : x = b := hx
        rw [hx]; exact hown.2.2
      · by_cases e : key = κ
        · subst e
          rw [h1] at hb
          simp only [Option.some.injEq] at hb
          subst hb
          rw [f2] at q1
          obtain ⟨cs, b2, cap2, arr, et, e1, e2, e3, e4, e5, e6⟩ := tapeOk_rel q1 (hR'.blk κ0 B1 f2)
          rw [f1] at e3
          simp only [Option.some.injEq, Prod.mk.injEq] at e3
          obtain ⟨rfl, rfl⟩ := e3
          exact ⟨cs, b, cap, arr, et, e1, e2, g2, e4, e5, fun j c hc' => (e6 j c hc').keep (fun x _ hn => ⟨rfl, fun hm => hn (hmut x hm)⟩)⟩
        · refine (hR.blk key B hb).keepAll hk hc (fun b' cap' hl => hext.block b' (hR.mut_lt (.inr ⟨key, B, cap', hb, hl⟩)) (fun e' => ?_)) rfl
          have e' : b' = b := e'
          subst e'
          exact e (hR.inj key κ B _ b' cap' cap hb h1 hl g2)
    refine wp_mono hwp (fun e a' w' he => ?_)
    rw [ho] at he
    cases e with
    | normal => exact fin a' w' (BehX.beh he)
    | ret => exact fin a' w' (BehX.beh he)
    | exit i => obtain ⟨_, _, h, _⟩ := BehX.beh he; exact h.elim
    | goto l => exact he
    | panic c => exact he.elim
    | outgrown => exact he.elim
end Go.AM
