/-
  A part of a proof: see the last text of this claim for what is proved.
-/
import Derived.Test.YthdlbokgbkejnaaGreatDoorAX
import Derived.Below
namespace Go.AM
open Go
set_option linter.unusedSimpArgs false
set_option linter.unusedVariables false
mutual
/-- No function of which only a contract is known. -/
def AV.nq : AV → Bool
  | .opq _ => false
  | .agg cs => AV.nqL cs
  | .clo _ cs => AV.nqL cs
  | .whn _ v => AV.nq v
  | .pv _ => true
  | .nils => true
  | .ptr _ _ => true
  | .rs _ _ => true
  | .rv _ _ _ _ => true
  | .rp _ _ _ => true
  | .mp _ => true
  | .it _ => true
  | .bufh _ _ => true
  | .fix _ => true
  | .top => true
def AV.nqL : List AV → Bool
  | [] => true
  | c :: r => AV.nq c && AV.nqL r
end
def ABlk.nq : ABlk → Bool
  | .cells cs => AV.nqL cs
  | .typed _ cs => AV.nqL cs
  | _ => true
def nqH : AHeap → Bool
  | [] => true
  | (_, B) :: r => B.nq && nqH r
theorem nqL_mem : ∀ {l : List AV}, AV.nqL l = true → ∀ (i : Nat) (c : AV), l[i]? = some c → c.nq = true
  | [], _, i, c, hc => by simp at hc
  | v :: r, h, i, c, hc => by
    simp only [AV.nqL, Bool.and_eq_true] at h
    cases i with
    | zero => simp at hc; subst hc; exact h.1
    | succ i => exact nqL_mem h.2 i c (by simpa using hc)
theorem nqH_get : ∀ {H : AHeap}, nqH H = true → ∀ key B, hget H key = some B → B.nq = true
  | [], _, key, B, hk => by cases hk
  | (i, B') :: r, h, key, B, hk => by
    simp only [nqH, Bool.and_eq_true] at h
    unfold hget at hk
    split at hk
    · simp only [Option.some.injEq] at hk; subst hk; exact h.1
    · exact nqH_get h.2 key B hk
section
variable {w : World} {M : Nat → Prop} {L : Locs} {H : AHeap} {S S' : (List PV → Prop × PV) → Value → Prop}
theorem AVRel.nq {v : AV} {x : Value} (h : AVRel w M L H S v x) : v.nq = true → AVRel w M L H S' v x := by
  induction h with
  | pv p v h => exact fun _ => .pv p v h
  | nils => exact fun _ => .nils
  | ptr key off B b cap h1 hv h2 => exact fun _ => .ptr key off B b cap h1 hv h2
  | rsN key k h1 h2 => exact fun _ => .rsN key k h1 h2
  | rs key hi k es b cap h1 h2 h3 => exact fun _ => .rs key hi k es b cap h1 h2 h3
  | rv key lo hi sz k es b cap cap' a h1 h2 h3 h4 h5 h6 h7 => exact fun _ => .rv key lo hi sz k es b cap cap' a h1 h2 h3 h4 h5 h6 h7
  | rp key i off k es b cap h1 h2 h3 => exact fun _ => .rp key i off k es b cap h1 h2 h3
  | mp key es b cap h1 h2 => exact fun _ => .mp key es b cap h1 h2
  | bufN key e h1 h2 => exact fun _ => .bufN key e h1 h2
  | buf key e bs b cap h1 h2 => exact fun _ => .buf key e bs b cap h1 h2
  | it key s pos b cap h1 h2 => exact fun _ => .it key s pos b cap h1 h2
  | agg cs vs hz _ ih => exact fun hr => .agg _ _ hz (fun i c hc' => ih i c hc' (nqL_mem hr i c hc'))
  | clo f caps vs hz _ ih => exact fun hr => .clo _ _ _ hz (fun i c hc' => ih i c hc' (nqL_mem hr i c hc'))
  | whnT v x _ ih => exact fun hr => .whnT _ _ (ih hr)
  | whnF v => exact fun _ => .whnF _
  | opq φ x h => exact fun hr => nomatch hr
  | fix x => exact fun _ => .fix x
  | top x => exact fun _ => .top x
theorem BRel.nq {key : Nat} {B : ABlk} (h : BRel w M L H S key B) (hr : B.nq = true) : BRel w M L H S' key B := by
  cases B with
  | cells cs =>
    obtain ⟨b, cap, arr, et, e1, e2, e3, e4⟩ := h
    exact ⟨b, cap, arr, et, e1, e2, e3, fun j c hc' => (e4 j c hc').nq (nqL_mem hr j c hc')⟩
  | typed ty cs =>
    obtain ⟨b, cap, arr, e1, e2, e3, e4⟩ := h
    exact ⟨b, cap, arr, e1, e2, e3, fun j c hc' => (e4 j c hc').nq (nqL_mem hr j c hc')⟩
  | row k es => exact h
  | obj J => exact h
  | iter s pos => exact h
  | buf e bs => exact h
  | map es => exact h
end
theorem ext_putObj {W : World} {l : Nat} {o o' : Obj} (h : W.heap[l]? = some o) (ho : o.isCells = false) (ho' : o'.isCells = false) : Ext (fun b => b = l) W (W.putObj l o') := by
  refine ⟨rfl, rfl, rfl, by simp [World.putObj], fun b _ hb => World.putObj_heap_other hb, fun a ha _ => ?_⟩
  unfold World.frozen?
  by_cases e : a.block = l
  · rw [e, World.putObj_heap_same (Array.getElem?_eq_some_iff.1 h).1, h]
    cases o <;> cases o' <;> first | rfl | (cases ho; done) | (cases ho'; done)
  · rw [World.putObj_heap_other e]
theorem Ext.wide {M M' : Nat → Prop} {w w' : World} (h : Ext M w w') (hm : ∀ b, M b → M' b) : Ext M' w w' :=
  .of h.os h.tape h.output h.size (fun b hb hn => h.block b hb (fun hM => hn (hm b hM)))
theorem Keeps.trans {w w' w'' : World} {M M' M'' : Nat → Prop} (h : Keeps w M w' M') (k : Keeps w' M' w'' M'') (hs : w.heap.size ≤ w'.heap.size) : Keeps w M w'' M'' := fun b hb hn => by
  obtain ⟨h1, h2⟩ := h b hb hn
  obtain ⟨k1, k2⟩ := k b (Nat.lt_of_lt_of_le hb hs) h2
  exact ⟨k1.trans h1, k2⟩
section
variable {G : Glob} {E : Base} {S S' : (List PV → Prop × PV) → Value → Prop} {N : Nat} {st : ASt} {a : Array Value} {w w' : World} {L : Locs}
theorem Rel.nq (h : Rel G E S N st a w L) (h1 : ∀ s, (st.ρ s).nq = true) (h2 : nqH st.H = true) : Rel G E S' N st a w L :=
  ⟨h.size, h.ext, h.inv, h.glob, h.old, h.m0, h.own, h.inj, fun key B hk => (h.blk key B hk).nq (nqH_get h2 key B hk), fun s => (h.env s).nq (h1 s), h.fix⟩
theorem Rel.step (h : Rel G E S N st a w L) {Z X' : Nat → Prop} {L0' : Locs} (ds : List Deferred) (hw : Ext Z w w') (hZ : ∀ b, Z b → E.X b ∧ G.nG ≤ b) (hX : ∀ b, E.X b → X' b) (hX2 : ∀ b, X' b → E.X b ∨ (w.heap.size ≤ b ∧ b < w'.heap.size))
    (h0 : ∀ κ b c, L0' κ = some (b, c) → E.L0 κ = some (b, c)) : Rel G ⟨w', X', Own L st.H, L0', ds⟩ S N st a w' L ∧ Keeps w (Mut E L st.H) w' (Mut ⟨w', X', Own L st.H, L0', ds⟩ L st.H) := by
  have hno : ∀ b, Own L st.H b → ¬ X' b := by
    rintro b ⟨key, B, cap, h1, h2⟩ hx
    rcases hX2 b hx with hx | ⟨hx, _⟩
    · exact (h.own key B b cap h1 h2).1 hx
    · have := h.mut_lt (.inr ⟨key, B, cap, h1, h2⟩); omega
  have hk : Keeps w (Mut E L st.H) w' (Mut ⟨w', X', Own L st.H, L0', ds⟩ L st.H) := fun b hb hn => ⟨hw.block b hb (fun hz => hn (.inl (hZ b hz).1)), fun hm => by
    rcases hm with hm | hm
    · rcases hX2 b hm with hx | ⟨hx, _⟩
      · exact hn (.inl hx)
      · omega
    · exact hn (.inr hm)⟩
  have hc : ∀ key B, hget st.H key = some B → ∃ B', hget st.H key = some B' ∧ B.le B' ∧ L key = L key ∧ (L key = none → B = B') := fun key B hb => ⟨B, hb, ABlk.le_refl _, rfl, fun _ => rfl⟩
  have hsz := h.ext.size
  refine ⟨⟨h.size, Ext.refl _ _, G.stable w w' h.inv (fun b hb => hw.block b (by have := h.glob; omega) (fun hz => by have := (hZ b hz).2; omega)) hw.size, by have := h.glob; have := hw.size; show G.nG ≤ w'.heap.size; omega, fun b hb => ⟨?_, fun ho => hno b ho hb⟩, ?_, fun key B b cap h1 h2 => ⟨fun hx => hno b ⟨key, B, cap, h1, h2⟩ hx, (h.own key B b cap h1 h2).2.1, .inl ⟨key, B, cap, h1, h2⟩⟩, h.inj,
    fun key B hb => (h.blk key B hb).keepAll hk hc (fun b cap hl => hw.block b (h.mut_lt (.inr ⟨key, B, cap, hb, hl⟩)) (fun hz => (h.own key B b cap hb hl).1 (hZ b hz).1)) rfl, fun s => (h.env s).keep hk (fun _ _ h => h) hc, fun κ b c hl => h.fix κ b c (h0 κ b c hl)⟩, hk⟩
  · rcases hX2 b hb with hx | ⟨_, hx⟩
    · have := (h.old b hx).1; have := hw.size; show b < w'.heap.size; omega
    · exact hx
  · rintro b ⟨key, B, cap, h1, h2⟩; exact (h.own key B b cap h1 h2).2.1
theorem Rel.drop (h : Rel G E S N st a w L) {l : List (Nat × AV)} {H1 : AHeap} {L0' : Locs} (ds : List Deferred) (hf : fitR l st.ρ) (hb : fitH H1 st.H) (rr : refsR H1 l = true) (rh : refsH H1 H1 = true)
    (h0 : ∀ κ b c, L0' κ = some (b, c) → L κ = some (b, c) ∧ (hget H1 κ).isSome = true) :
    Rel G ⟨w, fun b => E.X b ∨ ∃ key B cap, hget st.H key = some B ∧ L key = some (b, cap) ∧ hget H1 key = none, Own L H1, L0', ds⟩ S N ⟨look l, H1⟩ a w L := by
  have hc := fitH_get hb
  have ho : ∀ b, Own L H1 b → Own L st.H b := fun b ⟨key, B, cap, h1, h2⟩ => ⟨key, B, cap, hc _ _ h1, h2⟩
  have hk : Keeps w (Mut E L st.H) w (Mut ⟨w, fun b => E.X b ∨ ∃ key B cap, hget st.H key = some B ∧ L key = some (b, cap) ∧ hget H1 key = none, Own L H1, L0', ds⟩ L H1) := fun b _ hn => ⟨rfl, fun hm => by
    rcases hm with (hm | ⟨key, B, cap, h1, h2, _⟩) | hm
    · exact hn (.inl hm)
    · exact hn (.inr ⟨key, B, cap, h1, h2⟩)
    · exact hn (.inr (ho b hm))⟩
  have hno : ∀ b, Own L H1 b → ¬ (E.X b ∨ ∃ key B cap, hget st.H key = some B ∧ L key = some (b, cap) ∧ hget H1 key = none) := by
    rintro b ⟨key, B, cap, h1, h2⟩ (hx | ⟨key', B', cap', g1, g2, g3⟩)
    · exact (h.own key B b cap (hc _ _ h1) h2).1 hx
    · have := h.inj key key' B B' b cap cap' (hc _ _ h1) g1 h2 g2
      subst this
      rw [h1] at g3; cases g3
  refine ⟨h.size, Ext.refl _ _, h.inv, by have := h.glob; have := h.ext.size; show G.nG ≤ w.heap.size; omega, fun b hb' => ⟨?_, fun ho => hno b ho hb'⟩, ?_, fun key B b cap h1 h2 => ⟨hno b ⟨key, B, cap, h1, h2⟩, (h.own key B b cap (hc _ _ h1) h2).2.1, .inl ⟨key, B, cap, h1, h2⟩⟩,
    fun k1 k2 B1 B2 b c1 c2 h1 h2 h3 h4 => h.inj k1 k2 B1 B2 b c1 c2 (hc _ _ h1) (hc _ _ h2) h3 h4, fun key B h1 => (h.blk key B (hc _ _ h1)).fit rfl hk hc (refsH_get rh key B h1), fun s => ?_, fun κ b c hl => ?_⟩
  · rcases hb' with hx | ⟨key, B, cap, h1, h2, _⟩
    · exact Nat.lt_of_lt_of_le (h.old b hx).1 h.ext.size
    · exact h.mut_lt (.inr ⟨key, B, cap, h1, h2⟩)
  · rintro b ⟨key, B, cap, h1, h2⟩; exact (h.own key B b cap (hc _ _ h1) h2).2.1
  · rcases fitR_look hf s with e | e
    · show AVRel _ _ _ _ _ (look l s) _
      rw [e]; exact .top _
    · show AVRel _ _ _ _ _ (look l s) _
      have := (h.env s).fit hk hc (by rw [← e]; exact refsR_look rr s)
      rw [e]; exact this
  · obtain ⟨h1, h2⟩ := h0 κ b c hl
    exact ⟨h1, Option.isSome_iff_exists.1 h2⟩
end
def okSlot (vp : List Nat) : Nat × AV → Bool
  | (_, .pv _) => true
  | (_, .nils) => true
  | (_, .top) => true
  | (_, .ptr κ _) => vp.contains κ
  | _ => false
def varsB (vp : List Nat) (H : AHeap) : Bool := vp.all fun κ => match hget H κ with
  | some B => B.isVar
  | none => false
theorem okSlot_look {vp : List Nat} : ∀ {l : List (Nat × AV)}, l.all (okSlot vp) = true → ∀ s, ∃ i, okSlot vp (i, look l s) = true
  | [], _, s => ⟨0, rfl⟩
  | (i, v) :: r, h, s => by
    simp only [List.all_cons, Bool.and_eq_true] at h
    unfold look
    split
    · exact ⟨i, h.1⟩
    · exact okSlot_look h.2 s
theorem okSlot_nq {vp : List Nat} {l : List (Nat × AV)} (h : l.all (okSlot vp) = true) (s : Nat) : (look l s).nq = true := by
  obtain ⟨i, hi⟩ := okSlot_look h s
  generalize look l s = v at hi ⊢
  cases v <;> first | rfl | (simp [okSlot] at hi; done)
theorem slots_back {w w' : World} {M M' : Nat → Prop} {L L' : Locs} {H H' : AHeap} {S S' : (List PV → Prop × PV) → Value → Prop} {a : Array Value} {l : List (Nat × AV)} {vp : List Nat} (hok : l.all (okSlot vp) = true)
    (h : ∀ s, AVRel w M L H S (look l s) (a.getD s undef)) (hk : Keeps w M w' M') (hL : ∀ κ, κ ∈ vp → L' κ = L κ) (hv : varsB vp H' = true) : ∀ s, AVRel w' M' L' H' S' (look l s) (a.getD s undef) := by
  intro s
  obtain ⟨i, hi⟩ := okSlot_look hok s
  have hs := h s
  generalize look l s = v at hi hs ⊢
  generalize a.getD s undef = x at hs ⊢
  cases v <;> first | (simp [okSlot] at hi; done) | skip
  · exact .pv _ _ ((pv_inv hs).keep hk)
  · cases hs; exact .nils
  · rename_i κ off
    have hm : κ ∈ vp := by simpa [okSlot] using hi
    obtain ⟨B, b, cap, h1, h2, h3, rfl⟩ := ptr_inv hs
    have := List.all_eq_true.1 hv κ hm
    split at this
    · rename_i B' hB'
      exact .ptr κ off B' b cap hB' this (by rw [hL κ hm]; exact h3)
    · cases this
  · exact .top _
def IterS (P : Program) (gf : FuncId) (es : List (List UInt8)) (vs : Array Value) (bs : List Nat) (w : World) : Prop :=
  ∀ (l : Nat) (J : Nat → World → Prop) (Jx : World → Prop), (∀ i W W', J i W → Ext (fun b => b ∈ bs) W W' → J i W') → (∀ W W', Jx W → Ext (fun b => b ∈ bs) W W' → Jx W') →
    (∀ m i s W, es[i]? = some s → J i W → YieldAt Fence.wide m P l #[.string ⟨s.toArray⟩] W fun e W' =>
      (e = .returned (.bool true) ∧ J (i + 1) W' ∧ ∀ b, b ∈ bs → W'.heap[b]? = W.heap[b]?) ∨ (e = .returned (.bool false) ∧ Jx W' ∧ ∀ b, b ∈ bs → W'.heap[b]? = W.heap[b]?)) →
    ∀ W, J 0 W → (∀ b, b ∈ bs → W.heap[b]? = w.heap[b]?) → Calls P gf (#[.func (.yield l) #[] #[]] ++ vs) W fun e W' => (∃ v, e = .returned v) ∧ (J es.length W' ∨ Jx W')
def IterA (P : Program) (gf : FuncId) (caps : List AV) (H : AHeap) (κs : List Nat) (es : List (List UInt8)) : Prop :=
  Enterable P gf ∧ ∀ (w : World) (M : Nat → Prop) (L : Locs) (S : (List PV → Prop × PV) → Value → Prop) (vs : Array Value), (∀ key B, hget H key = some B → BRel w M L H S key B) → vs.size = caps.length → (∀ i c, caps[i]? = some c → AVRel w M L H S c (vs.getD i undef)) →
    ∃ bs : List Nat, (∀ b, b ∈ bs → ∃ κ B cap, κ ∈ κs ∧ hget H κ = some B ∧ L κ = some (b, cap)) ∧ IterS P gf es vs bs w
structure RB (E : Base) (X1 : Nat → Prop) (L1 : Locs) (E' : Base) : Prop where
  X : E'.X = X1
  L0 : E'.L0 = L1
  ds : E'.ds = []
  ext : Ext E.M0 E.w0 E'.w0
  m0 : ∀ b, E'.M0 b → E.M0 b ∨ E.w0.heap.size ≤ b
theorem RB.step {G : Glob} {E E' : Base} {X1 : Nat → Prop} {L1 : Locs} {S : (List PV → Prop × PV) → Value → Prop} {N : Nat} {st : ASt} {a : Array Value} {w w' : World} {L : Locs} {Z : Nat → Prop} (hb : RB E X1 L1 E') (h : Rel G E' S N st a w L) (hw : Ext Z w w')
    (hZ : ∀ b, Z b → X1 b ∧ G.nG ≤ b ∧ (E.M0 b ∨ E.w0.heap.size ≤ b)) :
    RB E X1 L1 ⟨w', X1, Own L st.H, L1, []⟩ ∧ Rel G ⟨w', X1, Own L st.H, L1, []⟩ S N st a w' L ∧ Keeps w (Mut E' L st.H) w' (Mut ⟨w', X1, Own L st.H, L1, []⟩ L st.H) := by
  have := h.step (Z := Z) (X' := X1) (L0' := L1) [] hw (fun b hz => ⟨by rw [hb.X]; exact (hZ b hz).1, (hZ b hz).2.1⟩) (fun b hx => by rw [← hb.X]; exact hx) (fun b hx => .inl (by rw [hb.X]; exact hx)) (fun κ b c hl => by rw [hb.L0]; exact hl)
  refine ⟨⟨rfl, rfl, rfl, ?_, ?_⟩, this⟩
  · exact (hb.ext.trans' h.ext hb.m0).trans' hw (fun b hz => (hZ b hz).2.2)
  · rintro b ⟨key, B, cap, h1, h2⟩
    rcases (h.own key B b cap h1 h2).2.2 with hm | hm
    · exact hb.m0 b hm
    · exact .inr (Nat.le_trans hb.ext.size hm)
theorem Rel.keeps {G : Glob} {w : World} {X1 : Nat → Prop} {L1 : Locs} {ds : List Deferred} {S' : (List PV → Prop × PV) → Value → Prop} {N : Nat} {st' : ASt} {a' : Array Value} {w' : World} {L L' : Locs} {H : AHeap}
    (h : Rel G ⟨w, X1, Own L H, L1, ds⟩ S' N st' a' w' L') : Keeps w (Mut ⟨w, X1, Own L H, L1, ds⟩ L H) w' (Mut ⟨w, X1, Own L H, L1, ds⟩ L' st'.H) := fun b hb hn => by
  refine ⟨h.ext.block b hb (fun hm => hn (.inr hm)), fun hm => ?_⟩
  rcases hm with hm | ⟨key, B, cap, h1, h2⟩
  · exact hn (.inl hm)
  · rcases (h.own key B b cap h1 h2).2.2 with ho | ho
    · exact hn (.inr ho)
    · have : w.heap.size ≤ b := ho
      omega
end Go.AM
namespace Go.AM
open Go Go.RowKit
set_option linter.unusedSimpArgs false
set_option linter.unusedVariables false
def inR (C : Ctx) (vp : List Nat) : Ctx := { C with pins := C.pins ++ vp, outer := false }
theorem Fit.inR {G : Glob} {C : Ctx} (h : Fit G C) (vp : List Nat) (hvp : ∀ κ, κ ∈ vp → κ < 1000000) : Fit G (inR C vp) := ⟨⟨⟨h.tabs.base.prog, h.tabs.base.pure, h.tabs.base.eff, fun κ hκ => (List.mem_append.1 hκ).elim (h.tabs.base.pinsLt κ) (hvp κ)⟩, h.tabs.quiet⟩, h.mono, h.mixed⟩
def roundQ {α : Type} (C : Ctx) (vp : List Nat) (l0 : List (Nat × AV)) (Hs : α → AHeap) (P : α → Prop) (Q : AX → ASt → Prop) : AX → ASt → Prop
  | .normal, st => ∃ y, P y ∧ fitH (Hs y) st.H
  | .ret, st => nqH st.H = true ∧ varsB (C.pins ++ vp) st.H = true ∧ Q .ret ⟨look l0, st.H⟩
  | .exit k, st => nqH st.H = true ∧ varsB (C.pins ++ vp) st.H = true ∧ Q (.exit k) ⟨look l0, st.H⟩
def okH (C : Ctx) (vp : List Nat) (H : AHeap) : Bool := nqH H && varsB (C.pins ++ vp) H && refsH H H
theorem okH_out {C : Ctx} {vp : List Nat} {H : AHeap} (h : okH C vp H = true) : nqH H = true ∧ varsB (C.pins ++ vp) H = true ∧ refsH H H = true := by
  simp only [okH, Bool.and_eq_true] at h
  exact ⟨h.1.1, h.1.2, h.2⟩
theorem varsB_get {vp : List Nat} {H : AHeap} (h : varsB vp H = true) {κ : Nat} (hm : κ ∈ vp) : ∃ B, hget H κ = some B ∧ B.isVar = true := by
  have := List.all_eq_true.1 h κ hm
  split at this
  · rename_i B hB; exact ⟨B, hB, this⟩
  · cases this
theorem refsR_of {vp : List Nat} {H : AHeap} (hv : varsB vp H = true) : ∀ {l : List (Nat × AV)}, l.all (okSlot vp) = true → refsR H l = true
  | [], _ => rfl
  | (i, v) :: r, h => by
    simp only [List.all_cons, Bool.and_eq_true] at h
    simp only [refsR, Bool.and_eq_true]
    refine ⟨?_, refsR_of hv h.2⟩
    have hi := h.1
    cases v <;> first | rfl | (simp [okSlot] at hi; done) | skip
    rename_i κ off
    have hm : κ ∈ vp := by simpa [okSlot] using hi
    obtain ⟨B, hB, _⟩ := varsB_get hv hm
    simp [AV.refsIn, hB]
theorem AWp.range {C : Ctx} {T : Plan} {α : Type} {g : Operand} {p : Tmp} {assign body : Code} {Q : AX → ASt → Prop} {st : ASt} (gf : FuncId) (caps : List AV) (κs : List Nat) (es : List (List UInt8))
    (l0 : List (Nat × AV)) (vp : List Nat) (Hs : α → AHeap) (I : Nat → α → Prop) (ks : List Nat) (x0 : α) (ho : C.outer = true) (hvl : ∀ κ, κ ∈ vp → κ < 1000000) (hp : p < C.N)
    (hg : opndV st.ρ g = .clo gf caps) (hit : IterA C.P gf caps st.H κs es) (hκ : ∀ κ, κ ∈ κs → hget (Hs x0) κ = none)
    (hf : fitR l0 st.ρ) (hok : l0.all (okSlot (C.pins ++ vp)) = true) (hI0 : I 0 x0) (hH0 : fitH (Hs x0) st.H) (hHs : ∀ i x, I i x → okH C vp (Hs x) = true)
    (hround : ∀ i x s, es[i]? = some s → I i x → wpc (inR C vp) T assign (AX.thn (fun st1 => nqH st1.H = true ∧ (ks.all fun s => (st1.ρ s).nq) = true ∧
      wpc (inR C vp) T body (roundQ C vp l0 Hs (I (i + 1)) Q) ⟨look (ks.map fun s => (s, st1.ρ s)), st1.H⟩) (fun _ _ => False)) ⟨look ((p, .pv (.str s)) :: l0), Hs x⟩)
    (hend : ∀ x, I es.length x → Q .normal ⟨look l0, Hs x⟩) : AWp C (.rangeFunc g #[p] assign body) Q st := by
  intro G E r n hr hF hP0 a w L hR hd
  obtain rfl := hr ho
  have hP : C.P = G.P := hF.tabs.base.prog
  rw [hP] at hit
  obtain ⟨hent, hit⟩ := hit
  have hF' := hF.inR vp hvl
  obtain ⟨ok1, ok2, ok3⟩ := okH_out (hHs 0 x0 hI0)
  have hgx := opnd_rel (a := a) hR.env g
  rw [hg] at hgx
  obtain ⟨vs, hvs, hvr, hgv⟩ : ∃ vs : Array Value, vs.size = caps.length ∧ (∀ i c, caps[i]? = some c → AVRel w (Mut E L st.H) L st.H (OpqS G E) c (vs.getD i undef)) ∧ a.eval g = .func (.func gf) #[] vs := by
    generalize a.eval g = x at hgx
    cases hgx with
    | clo _ _ vs h1 h2 => exact ⟨vs, h1, h2, rfl⟩
  obtain ⟨bs, hbs, hS⟩ := hit w (Mut E L st.H) L (OpqS G E) vs hR.blk hvs hvr
  have bsown : ∀ b, b ∈ bs → b < w.heap.size ∧ G.nG ≤ b ∧ (E.M0 b ∨ E.w0.heap.size ≤ b) := fun b hb => by
    obtain ⟨κ, B, cap, _, h2, h3⟩ := hbs b hb
    exact ⟨hR.mut_lt (.inr ⟨κ, B, cap, h2, h3⟩), (hR.own κ B b cap h2 h3).2⟩
  let pins1 := C.pins ++ vp
  let L1 : Locs := fun κ => if κ ∈ pins1 then L κ else none
  let D := w.heap.size
  let l := w.heap.size + 1
  let X1 : Nat → Prop := fun b => (E.X b ∨ ∃ key B cap, hget st.H key = some B ∧ L key = some (b, cap) ∧ hget (Hs x0) key = none) ∨ b = D ∨ b = l
  have hnG : G.nG ≤ w.heap.size := by have := hR.glob; have := hR.ext.size; omega
  have hEw : E.w0.heap.size ≤ w.heap.size := hR.ext.size
  -- the first base of a round
  have hL1 : ∀ κ b c, L1 κ = some (b, c) → L κ = some (b, c) ∧ (hget (Hs x0) κ).isSome = true := fun κ b c hl => by
    have hl' : (if κ ∈ pins1 then L κ else none) = some (b, c) := hl
    split at hl'
    · rename_i hm
      obtain ⟨B, hB, _⟩ := varsB_get ok2 hm
      exact ⟨hl', by rw [hB]; rfl⟩
    · cases hl'
  have hvp : ∀ κ, κ ∈ pins1 → ∃ b c, L1 κ = some (b, c) := fun κ hm => by
    obtain ⟨B, hB, hv⟩ := varsB_get ok2 hm
    have h2 := hR.blk κ B (fitH_get hH0 κ B hB)
    have h3 : L1 κ = L κ := if_pos hm
    rw [h3]
    cases B with
    | cells cs => obtain ⟨b, cap, arr, et, e1, _⟩ := h2; exact ⟨b, cap, e1⟩
    | typed ty cs => obtain ⟨b, cap, arr, e1, _⟩ := h2; exact ⟨b, cap, e1⟩
    | obj J => obtain ⟨cs, b, cap, arr, et, _, _, e1, _⟩ := h2; exact ⟨b, cap, e1⟩
    | row k es => cases hv
    | map es => cases hv
    | iter s pos => cases hv
    | buf e bs => cases hv
  have hR0 := hR.drop (L0' := L1) [] hf hH0 (refsR_of ok2 hok) ok3 hL1
  have hRB0 : RB E X1 L1 ⟨w, X1, Own L (Hs x0), L1, []⟩ := ⟨rfl, rfl, rfl, hR.ext, fun b ⟨key, B, cap, h1, h2⟩ => (hR.own key B b cap (fitH_get hH0 _ _ h1) h2).2.2⟩
  refine wpIn_rangeFunc fun fn hfn => ?_
  let rec_ : LoopState → Option Code → Loop := fun s pe => { state := s, pending := pe, fn := fn, tmps := a.tmps, params := #[p], assign := assign, body := body, defers := w.heap.size }
  have he1 : Ext NoB w ((w.alloc (.deferred (some []))).alloc (.loop (rec_ .ready none))) := by
    refine ⟨rfl, rfl, rfl, by simp only [World.size_alloc]; omega, fun b hb _ => ?_, fun ad had _ => ?_⟩
    · rw [Below.heap_alloc _ _ _ (by simp; omega), Below.heap_alloc _ _ _ hb]
    · unfold World.frozen?
      rw [Below.heap_alloc _ _ _ (by simp; omega), Below.heap_alloc _ _ _ had]
  obtain ⟨w1, hw1⟩ : ∃ w1, (w.alloc (.deferred (some []))).alloc (.loop (rec_ .ready none)) = w1 := ⟨_, rfl⟩
  rw [hw1] at he1
  have hs1 : w1.heap.size = w.heap.size + 2 := by rw [← hw1]; simp
  have hl1 : w1.heap[l]? = some (.loop (rec_ .ready none)) := by
    rw [← hw1]
    have := World.alloc_heap_new (w.alloc (.deferred (some []))) (.loop (rec_ .ready none)); rwa [World.size_alloc] at this
  have hD1 : w1.heap[D]? = some (.deferred (some [])) := by
    rw [← hw1]; exact (Below.heap_alloc _ _ _ (by simp [D])).trans (World.alloc_heap_new w _)
  refine ⟨l, [{ target := .collected w.heap.size, args := #[] }], w1, { target := .fn (.func gf) vs, args := #[.func (.yield l) #[] #[]] }, w1, gf, #[.func (.yield l) #[] #[]] ++ vs, w1, ?_, ?_, fun _ _ => trivial, ?_, (fun h => nomatch h), ?_⟩
  · rw [← hw1]; exact run_enterLoop_outer _ _ _ _ _
  · simp only [resolve, hgv]; simp [go_sem]
  · have := run_callFunc (args := #[.func (.yield l) #[] #[]] ++ vs) (w := w1) hent
    simp [invoke, go_sem, this]
  -- what holds between rounds
  let J : Nat → World → Prop := fun i W => ∃ E' x L', RB E X1 L1 E' ∧ I i x ∧ Rel G E' (OpqS G E') C.N ⟨look l0, Hs x⟩ a.tmps W L' ∧ W.heap[l]? = some (.loop (rec_ .ready none)) ∧ W.heap[D]? = some (.deferred (some []))
  let Jx : World → Prop := fun W => ∃ c E' H' L', RB E X1 L1 E' ∧ nqH H' = true ∧ ((c = .ret ∧ Q .ret ⟨look l0, H'⟩) ∨ ∃ k, c = .exit k ∧ Q (.exit k) ⟨look l0, H'⟩) ∧ Rel G E' (OpqS G E') C.N ⟨look l0, H'⟩ a.tmps W L' ∧ W.heap[l]? = some (.loop (rec_ .done (some c))) ∧ W.heap[D]? = some (.deferred (some []))
  have nql : ∀ s, (look l0 s).nq = true := okSlot_nq hok
  have bsX : ∀ b, b ∈ bs → X1 b ∧ G.nG ≤ b ∧ (E.M0 b ∨ E.w0.heap.size ≤ b) := fun b hb => by
    obtain ⟨κ, B, cap, h1, h2, h3⟩ := hbs b hb
    exact ⟨.inl (.inr ⟨κ, B, cap, h2, h3, hκ κ h1⟩), (bsown b hb).2⟩
  have lX : X1 l ∧ G.nG ≤ l ∧ (E.M0 l ∨ E.w0.heap.size ≤ l) := ⟨.inr (.inr rfl), by show G.nG ≤ w.heap.size + 1; omega, .inr (by show E.w0.heap.size ≤ w.heap.size + 1; omega)⟩
  have lbs : ∀ {W W' : World}, Ext (fun b => b ∈ bs) W W' → ∀ {o : Obj}, (W.heap[l]? = some o → W'.heap[l]? = some o) ∧ (W.heap[D]? = some o → W'.heap[D]? = some o) := fun {W W'} he {o} =>
    ⟨fun h => (he.block l (Array.getElem?_eq_some_iff.1 h).1 (fun hb => by have := (bsown l hb).1; have : w.heap.size + 1 < w.heap.size := this; omega)).trans h,
     fun h => (he.block D (Array.getElem?_eq_some_iff.1 h).1 (fun hb => by have := (bsown D hb).1; have : w.heap.size < w.heap.size := this; omega)).trans h⟩
  have hJ0 : J 0 w1 := by
    obtain ⟨g1, _⟩ := hR0.step (Z := NoB) (X' := X1) (L0' := L1) [] he1 (fun b hb => hb.elim) (fun b hb => .inl hb) (fun b hb => by
      rcases hb with hb | hb | hb
      · exact .inl hb
      · right; rw [hs1]; rw [hb]; exact ⟨Nat.le_refl _, by show w.heap.size < w.heap.size + 2; omega⟩
      · right; rw [hs1]; rw [hb]; exact ⟨by show w.heap.size ≤ w.heap.size + 1; omega, by show w.heap.size + 1 < w.heap.size + 2; omega⟩) (fun κ b c h => h)
    exact ⟨⟨w1, X1, Own L (Hs x0), L1, []⟩, x0, L, ⟨rfl, rfl, rfl, hR.ext.trans' he1 (fun b (hb : NoB b) => hb.elim), hRB0.m0⟩, hI0, g1.nq nql ok1, hl1, hD1⟩
  have hJs : ∀ i W W', J i W → Ext (fun b => b ∈ bs) W W' → J i W' := by
    rintro i W W' ⟨E', x, L', h1, h2, h3, h4, h5⟩ he
    obtain ⟨g1, g2, _⟩ := h1.step h3 he bsX
    exact ⟨_, x, L', g1, h2, g2.nq nql (okH_out (hHs i x h2)).1, (lbs he).1 h4, (lbs he).2 h5⟩
  have hJxs : ∀ W W', Jx W → Ext (fun b => b ∈ bs) W W' → Jx W' := by
    rintro W W' ⟨c, E', H', L', h1, h2, h3, h4, h5, h6⟩ he
    obtain ⟨g1, g2, _⟩ := h1.step h4 he bsX
    exact ⟨c, _, H', L', g1, h2, h3, g2.nq nql h2, (lbs he).1 h5, (lbs he).2 h6⟩
  have hY : ∀ m i s W, es[i]? = some s → J i W → YieldAt Fence.wide m G.P l #[.string ⟨s.toArray⟩] W fun e W' =>
      (e = .returned (.bool true) ∧ J (i + 1) W' ∧ ∀ b, b ∈ bs → W'.heap[b]? = W.heap[b]?) ∨ (e = .returned (.bool false) ∧ Jx W' ∧ ∀ b, b ∈ bs → W'.heap[b]? = W.heap[b]?) := by
    rintro m i s W hs ⟨E', x, L', b1, b2, b3, b4, b5⟩
    obtain ⟨q1, q2, q3⟩ := okH_out (hHs i x b2)
    -- a base at this round
    obtain ⟨c1, c2, _⟩ := b1.step (Z := NoB) b3 ⟨rfl, rfl, rfl, Nat.le_refl _, fun _ _ _ => rfl, fun _ _ _ => rfl⟩ (fun b hb => hb.elim)
    have c2 := c2.nq (S' := OpqS G ⟨W, X1, Own L' (Hs x), L1, []⟩) nql q1
    have hP1 : ∀ κ, (L1 κ).isSome = true → κ ∈ (inR C vp).pins := fun κ hκ => by
      have hκ' : ((if κ ∈ pins1 then L κ else none : Option (Nat × Nat))).isSome = true := hκ
      split at hκ'
      · rename_i hm; exact hm
      · cases hκ'
    refine ⟨fn, _, assign, body, run_yield b4 rfl, roundIn_of_wpIn trivial ?_⟩
    have htm : ((rec_ .ready none).params.zip #[Value.string ⟨s.toArray⟩]).foldl (fun t (p, v) => t.setIfInBounds p v) (rec_ .ready none).tmps = a.tmps.setIfInBounds p (.string ⟨s.toArray⟩) := by simp [rec_]
    rw [htm]
    have c3 := c2.put (d := p) (v := .pv (.str s)) (x := .string ⟨s.toArray⟩) hp (.pv _ _ (.str s))
    have hwA := wpc_sound assign _ _ (hround i x s hs b2) G ⟨W, X1, Own L' (Hs x), L1, []⟩ (some l) m (fun h => nomatch h) hF' hP1 { tmps := a.tmps.setIfInBounds p (.string ⟨s.toArray⟩), defers := [] } W L' (by
      have e : upd (look l0) p (.pv (.str s)) = look ((p, .pv (.str s)) :: l0) := rfl
      rw [← e]; exact c3) rfl
    refine wpIn_mono hwA (fun e a1 W1 he => ?_)
    cases e with
    | normal =>
      obtain ⟨st1, La, ⟨d1, d2, d3⟩, d4, d5⟩ := BehX.beh he
      have k1 := d4.keeps
      have hnX : ∀ b, X1 b → b < W.heap.size → W1.heap[b]? = W.heap[b]? := fun b hx hb => d4.ext.block b hb (fun hm => (c2.old b hx).2 hm)
      have hlt : l < W.heap.size := (Array.getElem?_eq_some_iff.1 b4).1
      have hlW1 : W1.heap[l]? = some (.loop (rec_ .ready none)) := (hnX l lX.1 hlt).trans b4
      have hDX : X1 D := .inr (.inl rfl)
      have hDW1 : W1.heap[D]? = some (.deferred (some [])) := (hnX D hDX (Array.getElem?_eq_some_iff.1 b5).1).trans b5
      refine ⟨_, run_beginRound hlW1 rfl, ?_⟩
      obtain ⟨W2, hW2⟩ : ∃ W2, W1.putObj l (.loop { rec_ .ready none with state := .busy }) = W2 := ⟨_, rfl⟩
      have eZ := ext_putObj (o' := .loop { rec_ .ready none with state := .busy }) hlW1 rfl rfl
      have hlW2 := World.putObj_heap_same (o := .loop { rec_ .ready none with state := .busy }) (Array.getElem?_eq_some_iff.1 hlW1).1
      rw [hW2] at eZ hlW2 ⊢
      have hlD : D ≠ l := by show w.heap.size ≠ w.heap.size + 1; omega
      have hDW2 : W2.heap[D]? = some (.deferred (some [])) := (eZ.block D (Array.getElem?_eq_some_iff.1 hDW1).1 hlD).trans hDW1
      have d4' := d4.keepSlots ks
      have hnk : ∀ s, (look (ks.map fun s => (s, st1.ρ s)) s).nq = true := by
        have : ∀ (l : List Nat), (l.all fun s => (st1.ρ s).nq) = true → ∀ s, (look (l.map fun s => (s, st1.ρ s)) s).nq = true := by
          intro l
          induction l with
          | nil => intro _ s; rfl
          | cons t r ih =>
            intro h s
            simp only [List.all_cons, Bool.and_eq_true] at h
            simp only [List.map_cons]
            unfold look
            split
            · exact h.1
            · exact ih h.2 s
        exact this ks d2
      obtain ⟨f1, f2, f3⟩ := c1.step d4' eZ (fun b hb => by have hb : b = l := hb; rw [hb]; exact lX)
      have f2 := f2.nq (S' := OpqS G ⟨W2, X1, Own La st1.H, L1, []⟩) hnk d1
      have hwB := wpc_sound body _ _ d3 G ⟨W2, X1, Own La st1.H, L1, []⟩ (some l) m (fun h => nomatch h) hF' hP1 a1 W2 La f2 d5
      -- the body's end, however it is left
      have fin : ∀ (st3 : ASt) (L3 : Locs) (a3 : Act) (W3 : World), Rel G ⟨W2, X1, Own La st1.H, L1, []⟩ (OpqS G ⟨W2, X1, Own La st1.H, L1, []⟩) C.N st3 a3.tmps W3 L3 → ∀ (H' : AHeap), (∀ key B, hget H' key = some B → hget st3.H key = some B) → nqH H' = true → varsB (C.pins ++ vp) H' = true → refsH H' H' = true ∨ H' = st3.H → ∀ (s' : LoopState) (pe : Option Code),
          ∃ E'', RB E X1 L1 E'' ∧ Rel G E'' (OpqS G E'') C.N ⟨look l0, H'⟩ a.tmps (W3.putObj l (.loop (rec_ s' pe))) L3 ∧ W3.heap[l]? = some (.loop { rec_ .ready none with state := .busy }) ∧ (W3.putObj l (.loop (rec_ s' pe))).heap[l]? = some (.loop (rec_ s' pe)) ∧ (W3.putObj l (.loop (rec_ s' pe))).heap[D]? = some (.deferred (some [])) ∧
            ∀ b, b ∈ bs → (W3.putObj l (.loop (rec_ s' pe))).heap[b]? = W.heap[b]? := by
        intro st3 L3 a3 W3 g1 H' hsub hnq' hv' hrf s' pe
        have hX3 : ∀ b, X1 b → b < W2.heap.size → W3.heap[b]? = W2.heap[b]? := fun b hx hb => g1.ext.block b hb (fun hm => (f2.old b hx).2 hm)
        have hlt2 : l < W2.heap.size := (Array.getElem?_eq_some_iff.1 hlW2).1
        have hlW3 := (hX3 l lX.1 hlt2).trans hlW2
        have hDW3 := (hX3 D hDX (Array.getElem?_eq_some_iff.1 hDW2).1).trans hDW2
        have eY := ext_putObj (o' := .loop (rec_ s' pe)) hlW3 rfl rfl
        have k3 := g1.keeps
        have kk := (k1.trans f3 d4.ext.size).trans k3 (Nat.le_trans d4.ext.size eZ.size)
        have kk' : Keeps W (Mut ⟨W, X1, Own L' (Hs x), L1, []⟩ L' (Hs x)) W3 (Mut ⟨W2, X1, Own La st1.H, L1, []⟩ L3 H') := fun b hb hn => ⟨(kk b hb hn).1, fun hm => (kk b hb hn).2 (hm.imp id (fun ⟨key, B, cap, h1, h2⟩ => ⟨key, B, cap, hsub _ _ h1, h2⟩))⟩
        have hLL : ∀ κ, κ ∈ C.pins ++ vp → L3 κ = L' κ := fun κ hm => by
          obtain ⟨b, c, hbc⟩ := hvp κ hm
          rw [(g1.fix κ b c hbc).1, (c2.fix κ b c hbc).1]
        have henv := slots_back (S' := OpqS G ⟨W2, X1, Own La st1.H, L1, []⟩) hok c2.env kk' hLL hv'
        have g2 : Rel G ⟨W2, X1, Own La st1.H, L1, []⟩ (OpqS G ⟨W2, X1, Own La st1.H, L1, []⟩) C.N ⟨look l0, H'⟩ a.tmps W3 L3 := by
          refine ⟨hR.size, g1.ext, g1.inv, g1.glob, g1.old, g1.m0, fun key B b cap h1 h2 => g1.own key B b cap (hsub _ _ h1) h2, fun k1 k2 B1 B2 b c1 c2 h1 h2 h3 h4 => g1.inj k1 k2 B1 B2 b c1 c2 (hsub _ _ h1) (hsub _ _ h2) h3 h4, fun key B h1 => ?_, henv, fun κ b c hl => ?_⟩
          · rcases hrf with hrf | rfl
            · exact (g1.blk key B (hsub _ _ h1)).fit rfl (fun b _ hn => ⟨rfl, fun hm => hn (hm.imp id (fun ⟨key, B, cap, h1, h2⟩ => ⟨key, B, cap, hsub _ _ h1, h2⟩))⟩) hsub (refsH_get hrf key B h1)
            · exact g1.blk key B h1
          · have hm : κ ∈ C.pins ++ vp := by
              have hl' : (if κ ∈ pins1 then L κ else none) = some (b, c) := hl
              split at hl'
              · rename_i hm; exact hm
              · cases hl'
            obtain ⟨B, hB, _⟩ := varsB_get hv' hm
            exact ⟨(g1.fix κ b c hl).1, B, hB⟩
        obtain ⟨u1, u2, _⟩ := f1.step g2 eY (fun b hb => by have hb : b = l := hb; rw [hb]; exact lX)
        refine ⟨_, u1, u2.nq nql hnq', hlW3, World.putObj_heap_same (Array.getElem?_eq_some_iff.1 hlW3).1, (World.putObj_heap_other hlD).trans hDW3, fun b hb => ?_⟩
        have hbl : b ≠ l := fun e => by have := (bsown b hb).1; have e : b = w.heap.size + 1 := e; omega
        have hbW : b < W.heap.size := by have := (bsown b hb).1; have : w.heap.size + 1 < W.heap.size := hlt; omega
        have hbW1 : b < W1.heap.size := Nat.lt_of_lt_of_le hbW d4.ext.size
        rw [World.putObj_heap_other hbl, hX3 b (bsX b hb).1 (Nat.lt_of_lt_of_le hbW1 eZ.size), eZ.block b hbW1 hbl, hnX b (bsX b hb).1 hbW]
      refine wpIn_mono hwB (fun e a3 W3 he => ?_)
      cases e with
      | normal =>
        obtain ⟨st3, L3, ⟨y, hy, hfy⟩, g1, g2⟩ := BehX.beh he
        obtain ⟨z1, z2, z3⟩ := okH_out (hHs (i + 1) y hy)
        obtain ⟨E'', u1, u2, u3, u4, u5, u6⟩ := fin st3 L3 a3 W3 g1 (Hs y) (fitH_get hfy) z1 z2 (.inl z3) .ready none
        exact ⟨_, _, run_endRound (P := G.P) none u3, .inl ⟨rfl, ⟨E'', y, L3, u1, hy, u2, u4, u5⟩, u6⟩⟩
      | ret =>
        obtain ⟨st3, L3, ⟨z1, z2, hq⟩, g1, g2⟩ := BehX.beh he
        obtain ⟨E'', u1, u2, u3, u4, u5, u6⟩ := fin st3 L3 a3 W3 g1 st3.H (fun _ _ h => h) z1 z2 (.inr rfl) .done (some .ret)
        exact ⟨_, _, run_endRound (P := G.P) (some .ret) u3, .inr ⟨rfl, ⟨.ret, E'', st3.H, L3, u1, z1, .inl ⟨rfl, hq⟩, u2, u4, u5⟩, u6⟩⟩
      | exit j =>
        obtain ⟨st3, L3, ⟨z1, z2, hq⟩, g1, g2⟩ := BehX.beh he
        obtain ⟨E'', u1, u2, u3, u4, u5, u6⟩ := fin st3 L3 a3 W3 g1 st3.H (fun _ _ h => h) z1 z2 (.inr rfl) .done (some (.exit j))
        exact ⟨_, _, run_endRound (P := G.P) (some (.exit j)) u3, .inr ⟨rfl, ⟨.exit j, E'', st3.H, L3, u1, z1, .inr ⟨j, rfl, hq⟩, u2, u4, u5⟩, u6⟩⟩
      | goto t => exact he.elim
      | panic ch => exact he.elim
      | outgrown => exact he.elim
    | exit j => obtain ⟨_, _, h, _⟩ := BehX.beh he; exact h.elim
    | ret => obtain ⟨_, _, h, _⟩ := BehX.beh he; exact h.elim
    | goto t => exact he.elim
    | panic ch => exact he.elim
    | outgrown => exact he.elim
  have hcall := hS l J Jx hJs hJxs hY w1 hJ0 (fun b hb => he1.block b (bsown b hb).1 id)
  refine callsIn_FF (Calls.mono hcall ?_)
  have hlD : D ≠ l := by show w.heap.size ≠ w.heap.size + 1; omega
  have fin : ∀ (E' : Base) (H' : AHeap) (L' : Locs) (W W' : World) (s : LoopState) (pe : Option Code), RB E X1 L1 E' → nqH H' = true → Rel G E' (OpqS G E') C.N ⟨look l0, H'⟩ a.tmps W L' → W.heap[l]? = some (.loop (rec_ s pe)) → W.heap[D]? = some (.deferred (some [])) → W' = W.putObj l (.loop { rec_ s pe with state := .exhausted }) →
      ∀ (K : ASt → Prop), K ⟨look l0, H'⟩ → BehX C.outer G E C.N K { a with defers := [{ target := .collected w.heap.size, args := #[] }] ++ a.defers } W' := by
    intro E' H' L' W W' s pe h1 h2 h3 h4 h5 hW' K hK
    have eY := ext_putObj (o' := .loop { rec_ s pe with state := .exhausted }) h4 rfl rfl
    rw [← hW'] at eY
    obtain ⟨u1, u2, _⟩ := h1.step h3 eY (fun b hb => by have hb : b = l := hb; rw [hb]; exact lX)
    obtain ⟨v1, _⟩ := u2.step (Z := NoB) (X' := X1) (L0' := E.L0) ({ target := .collected w.heap.size, args := #[] } :: E.ds) (w' := W') ⟨rfl, rfl, rfl, Nat.le_refl _, fun _ _ _ => rfl, fun _ _ _ => rfl⟩ (fun b hb => hb.elim) (fun b hb => hb) (fun b hb => .inl hb) (fun κ b c hl => by
      have hm : κ ∈ C.pins := hP0 κ (by rw [hl]; rfl)
      show (if κ ∈ pins1 then L κ else none) = some (b, c)
      rw [if_pos (List.mem_append.2 (.inl hm))]
      exact (hR.fix κ b c hl).1)
    have hDW' : W'.heap[D]? = some (.deferred (some [])) := (eY.block D (Array.getElem?_eq_some_iff.1 h5).1 hlD).trans h5
    have hDX : X1 D := .inr (.inl rfl)
    refine ⟨⟨W', X1, Own L' H', E.L0, { target := .collected w.heap.size, args := #[] } :: E.ds⟩, .inr ⟨ho, ⟨fun b hb => .inl (.inl hb), fun b hb => ?_, rfl, u1.ext, u1.m0, [{ target := .collected w.heap.size, args := #[] }], rfl, by simp, fun d hd => ?_⟩⟩, _, L', hK, v1.nq nql h2, by show _ :: a.defers = _ :: E.ds; rw [hd]⟩
    · rcases hb with (hb | ⟨key, B, cap, g1, g2, _⟩) | hb | hb
      · exact .inl hb
      · exact .inr (hR.own key B b cap g1 g2).2.2
      · rw [hb]; exact .inr (.inr hEw)
      · rw [hb]; exact .inr (.inr (by show E.w0.heap.size ≤ w.heap.size + 1; omega))
    · simp only [List.mem_singleton] at hd
      exact ⟨D, hd, hDW', hDX, fun hm => (v1.old D hDX).2 hm, hEw⟩
  rintro e W ⟨⟨v, rfl⟩, ⟨E', y, L', h1, h2, h3, h4, h5⟩ | ⟨c, E', H', L', h1, h2, h3, h4, h5, h6⟩⟩
  · refine ⟨none, _, run_endLoop (P := G.P) h4 (by simp [rec_]), ?_⟩
    exact fin E' (Hs y) L' W _ .ready none h1 (okH_out (hHs _ y h2)).1 h3 h4 h5 rfl _ (hend y h2)
  · refine ⟨some c, _, run_endLoop (P := G.P) h5 (by simp [rec_]), ?_⟩
    rcases h3 with ⟨rfl, hq⟩ | ⟨k, rfl, hq⟩
    · exact wpIn_ret (fin E' H' L' W _ .done _ h1 h2 h4 h5 h6 rfl _ hq)
    · exact wpIn_exit (fin E' H' L' W _ .done _ h1 h2 h4 h5 h6 rfl _ hq)
end Go.AM
namespace Go.AM
open Go Go.RowKit
set_option linter.unusedSimpArgs false
set_option linter.unusedVariables false
theorem leaves_marks {F : Fence} {n : Nat} {P : Program} {fn : Func} {tmps : Array Value} {R : Ending → World → Prop} : ∀ (ds : List Deferred) (w : World), (∀ d, d ∈ ds → ∃ D, d = { target := .collected D, args := #[] } ∧ w.heap[D]? = some (.deferred (some []))) → ds.Nodup →
    (∀ w', Ext (fun b => ({ target := .collected b, args := #[] } : Deferred) ∈ ds) w w' → LeavesIn F n P fn tmps R [] .returning w') → LeavesInM F n P fn tmps R ds .returning w
  | [], w, _, _, h => h w ⟨rfl, rfl, rfl, Nat.le_refl _, fun _ _ _ => rfl, fun _ _ _ => rfl⟩
  | d :: r, w, hd, hn, h => by
    obtain ⟨D, rfl, hD⟩ := hd d (List.mem_cons_self)
    obtain ⟨hn1, hn2⟩ := List.nodup_cons.1 hn
    have eD := ext_putObj (o' := .deferred none) hD rfl rfl
    refine ⟨by simp, .inl ⟨D, _, rfl, run_takeDeferred hD, leaves_marks r _ (fun d' hd' => ?_) hn2 (fun w' he => h w' ?_)⟩⟩
    · obtain ⟨D', rfl, hD'⟩ := hd d' (List.mem_cons_of_mem _ hd')
      have hne : D' ≠ D := fun e => hn1 (by rw [← e]; exact hd')
      exact ⟨D', rfl, (eD.block D' (Array.getElem?_eq_some_iff.1 hD').1 hne).trans hD'⟩
    · have e1 : Ext (fun b => ({ target := .collected b, args := #[] } : Deferred) ∈ ({ target := .collected D, args := #[] } : Deferred) :: r) w (w.putObj D (.deferred none)) := eD.wide (fun b hb => by have hb : b = D := hb; rw [hb]; exact List.mem_cons_self)
      exact e1.trans (he.wide (fun b hb => List.mem_cons_of_mem _ hb))
theorem psound_wpcX {G : Glob} {C : Ctx} {T : Plan} {f : FuncId} {φ : PSpec} {fn : Func} {c : Code} (hf : G.P.funcs[f]? = some fn) (hb : fn.body = some c) (hn : (fn.name == "runtime.NumGoroutine") = false) (hN : C.N = fn.ntmps) (hF : Fit G C)
    (h : ∀ args, (φ args).1 → args.length ≤ C.N ∧ wpc C T c (Fin C fn.results.toList (φ args).2) ⟨look (argL 0 args), []⟩) : PSound G f φ := by
  intro args hp
  obtain ⟨hlen, hw⟩ := h args hp
  refine ⟨⟨fn, hf, hn, by rw [hb]; rfl⟩, fun X w vs hI hG hX hA => ?_⟩
  refine (callsIn_wide (n := 0)).1 (callsIn_of_wp_marks hf hb trivial ?_ rfl)
  have hsz := hA.1
  have hR : Rel G ⟨w, X, NoB, fun _ => none, []⟩ (OpqS G ⟨w, X, NoB, fun _ => none, []⟩) C.N ⟨look (argL 0 args), []⟩ (vs ++ Array.replicate (fn.ntmps - vs.size) undef) w (fun _ => none) := by
    refine ⟨?_, Ext.refl _ _, hI, hG, fun b hb => ⟨hX b hb, id⟩, fun b hb => hb.elim, (fun key B b cap hk => by cases hk), (fun k1 k2 B1 B2 b c1 c2 hk => by cases hk), (fun key B hk => by cases hk), fun s => ?_, (fun κ b c hl => by cases hl)⟩
    · simp; omega
    · refine look_argL args 0 (fun j p hp => ?_) (by omega) s
      rw [Nat.zero_add]
      refine (hA.2 j p hp).keep (fun b _ hn => ⟨rfl, fun hm => ?_⟩)
      rcases hm with hm | ⟨key, B, cap, hk, _⟩
      · exact hn hm
      · cases hk
  have hwp := wpc_sound c _ _ hw G ⟨w, X, NoB, fun _ => none, []⟩ none 0 (fun _ => rfl) hF (fun κ hk => by cases hk) { tmps := vs ++ Array.replicate (fn.ntmps - vs.size) undef, defers := [] } w (fun _ => none) hR rfl
  have fin : ∀ (a : Act) (w' : World), BehX C.outer G ⟨w, X, NoB, fun _ => none, []⟩ C.N (fun st => resC C st fn.results.toList ∧ tupP (resV C st fn.results.toList) = (φ args).2) a w' →
      LeavesInM Fence.wide 0 G.P fn a.tmps (fun e w' => ∃ v, e = .returned v ∧ PVRel w' X (φ args).2 v ∧ Ext NoB w w') a.defers .returning w' := by
    rintro a w' ⟨E', hE, st, L, ⟨h1, h2⟩, hR', hd⟩
    have done : ∀ w2, PVRel w2 X (φ args).2 = PVRel w2 X (φ args).2 := fun _ => rfl
    rcases hE with rfl | ⟨_, hE⟩
    · obtain ⟨v, hv, hr⟩ := results_run (M' := X) hF.tabs.base.prog hR'.blk hR'.env (fun b hb => .inl hb) (fun key B b cap hk hl => (hR'.own key B b cap hk hl).1) h1
      rw [h2] at hr
      rw [hd]
      exact ⟨v, hv, v, rfl, hr, hR'.ext⟩
    · obtain ⟨ds', e1, e2, e3⟩ := hE.ds
      rw [hd, e1, List.append_nil]
      have hblk : ∀ d, d ∈ ds' → ∃ D, d = { target := .collected D, args := #[] } ∧ w'.heap[D]? = some (.deferred (some [])) ∧ E'.X D ∧ w.heap.size ≤ D := fun d hd => by
        obtain ⟨D, g1, g2, g3, g4, g5⟩ := e3 d hd
        exact ⟨D, g1, (hR'.ext.block D (Array.getElem?_eq_some_iff.1 g2).1 g4).trans g2, g3, g5⟩
      refine leaves_marks ds' w' (fun d hd => by obtain ⟨D, g1, g2, _⟩ := hblk d hd; exact ⟨D, g1, g2⟩) e2 (fun w2 he => ?_)
      have hZ : ∀ b, ({ target := .collected b, args := #[] } : Deferred) ∈ ds' → E'.X b ∧ w.heap.size ≤ b := fun b hb => by
        obtain ⟨D, g1, _, g3, g4⟩ := hblk _ hb
        cases g1
        exact ⟨g3, g4⟩
      obtain ⟨r1, _⟩ := hR'.step (X' := E'.X) (L0' := E'.L0) [] he (fun b hb => ⟨(hZ b hb).1, Nat.le_trans hG (hZ b hb).2⟩) (fun b hb => hb) (fun b hb => .inl hb) (fun κ b c hl => hl)
      obtain ⟨v, hv, hr⟩ := results_run (M' := X) hF.tabs.base.prog r1.blk r1.env (fun b hb => .inl (hE.X b hb)) (fun key B b cap hk hl hx => (r1.own key B b cap hk hl).1 (hE.X b hx)) h1
      rw [h2] at hr
      refine ⟨v, hv, v, rfl, hr, ?_⟩
      have x1 : Ext NoB w w' := hE.ext.trans' hR'.ext hE.m0
      exact x1.trans' he (fun b hb => .inr (hZ b hb).2)
  refine wpIn_mono hwp (fun e a w' he => ?_)
  cases e with
  | normal => exact fin a w' he
  | ret => exact fin a w' he
  | exit i => obtain ⟨_, _, _, _, h, _⟩ := he; exact h.elim
  | goto l => exact he
  | panic c => exact he.elim
  | outgrown => exact he.elim
end Go.AM
namespace Go.AM
open Go Go.RowKit
set_option linter.unusedSimpArgs false
set_option linter.unusedVariables false
def AtI (S : List (Nat × Nat)) (ρ : Nat → AV) : Prop := ∀ p ∈ S, ρ p.1 = .ptr p.2 0
def keyOf (S : List (Nat × Nat)) : Operand → Option Nat
  | .tmp t => S.lookup t
  | _ => none
def readApart (S : List (Nat × Nat)) (x y : Op) : Bool :=
  match y with
  | .store _ b _ => match keyOf S b with
    | some kb => match x with
      | .load _ a => match keyOf S a with
        | some ka => ka != kb
        | none => false
      | .call { callee := .builtin .len, .. } => true
      | _ => false
    | none => false
  | _ => false
section
variable {G : Glob} {C : Ctx} {ops : Array Oper} {md : Region.Mode} {S : List (Nat × Nat)}
def pairI (S : List (Nat × Nat)) (C : Ctx) (ops : Array Oper) (x y : Oper) : Bool :=
  pairOk C ops x y || (x.apart ops y && cls C true x == 0 && isStore y && readApart S x.op y.op)
def keepsI (S : List (Nat × Nat)) (C : Ctx) (o : Oper) : Bool :=
  (cls C true o == 0 || cls C true o == 1 || isStore o) && (match o.dst with | some d => S.all fun p => p.1 != d | none => true)
def checkJI (S : List (Nat × Nat)) (C : Ctx) (ops : Array Oper) (m : Nat) (y : Oper) : Nat → List Oper → Bool
  | _, [] => true
  | i, x :: r => (m.testBit i || pairI S C ops x y) && checkJI S C ops m y (i + 1) r
def checkLI (S : List (Nat × Nat)) (C : Ctx) (md : Region.Mode) (ops : Array Oper) (fr : Array Nat) (all : List Oper) : Nat → List Oper → Bool
  | _, [] => true
  | k, y :: r => depsLt md y k && (fr.getD k 0 == waitOf md fr y) && keepsI S C y && checkJI S C ops (fr.getD k 0) y 0 (all.take k) && checkLI S C md ops fr all (k + 1) r
def checkI (S : List (Nat × Nat)) (C : Ctx) (md : Region.Mode) (ops : Array Oper) : Bool := checkLI S C md ops (waits md ops.toList) ops.toList 0 ops.toList
theorem keyOf_at {ρ : Nat → AV} (h : AtI S ρ) {x : Operand} {k : Nat} (hk : keyOf S x = some k) : ox ρ x = .ptr k 0 := by
  unfold keyOf at hk
  split at hk
  · rename_i t
    have : ∀ l : List (Nat × Nat), l.lookup t = some k → (t, k) ∈ l := by
      intro l
      induction l with
      | nil => intro h; cases h
      | cons p r ih =>
        intro h
        obtain ⟨a, b⟩ := p
        rw [List.lookup_cons] at h
        split at h
        · rename_i he
          simp only [Option.some.injEq] at h
          rw [beq_iff_eq] at he
          subst he; subst h
          exact List.mem_cons_self
        · exact List.mem_cons_of_mem _ (ih h)
    show stripV (ρ t) = _
    rw [h _ (this S hk)]
    rfl
  · cases hk
theorem AtI.put {st : ASt} {d : Option Tmp} {v : AV} (h : AtI S st.ρ) (hd : (match d with | some d => S.all fun p => p.1 != d | none => true) = true) : AtI S (putS st d v).ρ := by
  cases d with
  | none => exact h
  | some d =>
    intro p hp
    have hne : p.1 ≠ d := by simpa using List.all_eq_true.1 hd p hp
    show upd st.ρ d v p.1 = _
    unfold upd
    rw [if_neg hne]
    exact h p hp
theorem stepG_keepI {H0 : AHeap} {o : Oper} {st : ASt} {K : ASt → Prop} (ho : keepsI S C o = true) (h : AtI S st.ρ) (hs : stepG C true H0 ops o st K) : stepG C true H0 ops o st (fun s => K s ∧ AtI S s.ρ) := by
  unfold keepsI at ho
  rw [Bool.and_eq_true] at ho
  obtain ⟨hc, hd⟩ := ho
  simp only [Bool.or_eq_true, beq_iff_eq] at hc
  rcases hc with (hc | hc) | hc
  · rw [stepG_q hc] at hs ⊢
    obtain ⟨c, g1, g2, g3⟩ := hs
    exact ⟨c, g1, g2, fun r hr hz => ⟨(g3 r hr hz).1, (g3 r hr hz).2, h.put hd⟩⟩
  · rw [stepG_a hc] at hs ⊢
    obtain ⟨d, e1, e2, e3, e4, e5⟩ := hs
    refine ⟨d, e1, e2, e3, e4, e5, ?_⟩
    rw [e1] at hd
    exact h.put (d := some d) hd
  · rw [stepG_s hc] at hs ⊢
    exact ⟨hs.1, hs.2.1, hs.2.2, h⟩
def SwapI (S : List (Nat × Nat)) (C : Ctx) (H0 : AHeap) (ops : Array Oper) (x y : Oper) : Prop :=
  ∀ st, AtI S st.ρ → ∀ K, stepG C true H0 ops x st (fun st' => stepG C true H0 ops y st' K) → stepG C true H0 ops y st (fun st' => stepG C true H0 ops x st' K)
theorem qop_apart {ρ : Nat → AV} {H : AHeap} {x y : Oper} (hI : AtI S ρ) (h : readApart S x.op y.op = true) (hs : (stF C ρ H y).1) : qop C ρ (stF C ρ H y).2 x = qop C ρ H x := by
  obtain ⟨xd, xo, xt, xp, xa, xg⟩ := x
  obtain ⟨yd, yo, yt, yp, ya, yg⟩ := y
  simp only at h
  unfold readApart at h
  split at h
  · rename_i t b v
    split at h
    · rename_i kb hkb
      have hb := keyOf_at hI hkb
      simp only [stF, hb] at hs ⊢
      obtain ⟨_, _, hst⟩ := hs
      unfold storeF at hst ⊢
      split at hst
      · rename_i key off n he hsz
        simp only [AV.ptr.injEq] at he
        obtain ⟨rfl, rfl⟩ := he
        split at hst
        · rename_i cs hg
          simp only [hg]
          split at h
          · rename_i t2 a
            split at h
            · rename_i ka hka
              have ha := keyOf_at hI hka
              have hne : kb ≠ ka := by
                have : ka ≠ kb := by simpa using h
                exact fun e => this e.symm
              simp only [qop, aopP, ha, loadA, hget_hset_ne _ _ hne]
            · cases h
          · rename_i args ats
            have hlen : ∀ d z, lenA d (hset H kb (.cells (putL 0 (cellsA (ox ρ v)) cs))) z = lenA d H z := by
              intro d z
              cases z with
              | rs key hi =>
                simp only [lenA]
                by_cases hk : kb = key
                · subst hk; rw [hget_hset_same, hg]
                · rw [hget_hset_ne _ _ hk]
              | rv key lo hi sz =>
                simp only [lenA]
                by_cases hk : kb = key
                · subst hk; rw [hget_hset_same, hg]
                · rw [hget_hset_ne _ _ hk]
              | pv p => cases p <;> rfl
              | _ => rfl
            simp only [qop, aopP, hlen]
          · cases h
        · exact hst.elim
      · rename_i he _
        cases he
      · exact hst.elim
    · cases h
  · cases h
theorem swap_of_pairI {G : Glob} (hC : TabsAll G C) {H0 : AHeap} {x y : Oper} (h : pairI S C ops x y = true) : SwapI S C H0 ops x y := by
  unfold pairI at h
  rw [Bool.or_eq_true] at h
  rcases h with h | h
  · exact fun st _ K => swap_of_pairOk hC h st K
  simp only [Bool.and_eq_true, beq_iff_eq] at h
  obtain ⟨⟨⟨hap, h1⟩, h3⟩, hra⟩ := h
  obtain ⟨a1, a2, a3⟩ := Oper.apart_spec hap
  intro st hI K H
  have some_r : ∀ (o : Oper) (ρ : Nat → AV) (H : AHeap) (c : Bool) (z : AV), (c = true → (qop C ρ H o).1) → ∃ r, (c = true → (qop C ρ H o).2 r) ∧ (c = false → r = z) := by
    intro o ρ H c z h
    cases c with
    | true => obtain ⟨r, hr⟩ := qop_inhab hC (h rfl); exact ⟨r, (fun _ => hr), (fun h => by cases h)⟩
    | false => exact ⟨z, (fun h => by cases h), fun _ => rfl⟩
  rw [stepG_q h1] at H
  rw [stepG_s h3]
  obtain ⟨ci, g1, g2, g3⟩ := H
  obtain ⟨r0, hr0, hz0⟩ := some_r x st.ρ st.H ci (aopP C st.ρ H0 x.op).2 g2
  obtain ⟨b1, b2⟩ := g3 r0 hr0 hz0
  rw [stepG_s h3, stF_put a1, putS_same] at b2
  obtain ⟨e1, e2, e3⟩ := b2
  refine ⟨e1, e2, ?_⟩
  rw [stepG_q h1]
  have hq : qop C st.ρ (stF C st.ρ st.H y).2 x = qop C st.ρ st.H x := qop_apart hI hra e2
  refine ⟨ci, g1, fun hc => by rw [hq]; exact g2 hc, fun ri hri hzi => ⟨b1, ?_⟩⟩
  have := (g3 ri (fun hc => by have h9 := hri hc; rw [hq] at h9; exact h9) hzi).2
  rw [stepG_s h3, stF_put a1, putS_same] at this
  rw [putS_H]
  exact this.2.2
theorem checkJI_spec {m : Nat} {y : Oper} : ∀ (l : List Oper) (i : Nat), checkJI S C ops m y i l = true → ∀ j x, l[j]? = some x → m.testBit (i + j) = false → pairI S C ops x y = true
  | [], _, _, j, x, h, _ => by simp at h
  | z :: r, i, h, 0, x, hx, hm => by
    unfold checkJI at h
    simp only [List.getElem?_cons_zero, Option.some.injEq] at hx
    subst hx
    rw [Nat.add_zero] at hm
    rw [hm, Bool.false_or, Bool.and_eq_true] at h
    exact h.1
  | z :: r, i, h, j + 1, x, hx, hm => by
    unfold checkJI at h
    rw [Bool.and_eq_true] at h
    exact checkJI_spec r (i + 1) h.2 j x (by simpa using hx) (by rw [show i + 1 + j = i + (j + 1) by omega]; exact hm)
theorem checkLI_spec {fr : Array Nat} {all : List Oper} : ∀ (l : List Oper) (k : Nat), checkLI S C md ops fr all k l = true → ∀ j y, l[j]? = some y →
    (∀ e ∈ y.after, Region.binds md e = true → e.on < k + j) ∧ fr.getD (k + j) 0 = waitOf md fr y ∧ keepsI S C y = true ∧ ∀ i x, (all.take (k + j))[i]? = some x → (fr.getD (k + j) 0).testBit i = false → pairI S C ops x y = true
  | [], _, _, j, y, h => by simp at h
  | z :: r, k, h, j, y, hy => by
    unfold checkLI at h
    simp only [Bool.and_eq_true, beq_iff_eq] at h
    obtain ⟨⟨⟨⟨h1, h2⟩, h5⟩, h3⟩, h4⟩ := h
    cases j with
    | zero =>
      simp only [List.getElem?_cons_zero, Option.some.injEq] at hy
      subst hy
      refine ⟨fun e he hb => ?_, h2, h5, fun i x hx hm => ?_⟩
      · unfold depsLt at h1
        have := List.all_eq_true.1 h1 e (by simpa using he)
        simpa [hb] using this
      · exact checkJI_spec _ 0 h3 i x hx (by rw [Nat.zero_add]; exact hm)
    | succ j =>
      have := checkLI_spec r (k + 1) h4 j y (by simpa using hy)
      rw [show k + 1 + j = k + (j + 1) by omega] at this
      exact this
theorem aAny_firstI {H0 : AHeap} (hE : EMono C) {K : ASt → Prop} {i : Nat} {oi : Oper} (hi : ops[i]? = some oi) (hkp : ∀ (j : Nat) (oj : Oper), ops[j]? = some oj → keepsI S C oj = true) (fr : Nat → Nat)
    (hcl : ∀ j oj, ops[j]? = some oj → ∀ i, (fr j).testBit i = true → ∃ e ∈ oj.after, Region.binds md e = true ∧ (e.on = i ∨ (fr e.on).testBit i = true)) :
    ∀ (fuel : Nat) (listed : Array Bool) (st : ASt), AtI S st.ρ →
      (∀ Z : List Nat, Z.Nodup → (∀ j ∈ Z, listed.getD j true = false) → Z.length ≤ fuel + 1) →
      (∀ e, listed.getD e false = true → ∀ i, (fr e).testBit i = true → listed.getD i false = true) →
      (∀ j oj, ops[j]? = some oj → j ≠ i → listed.getD j true = false → (fr j).testBit i = false → SwapI S C H0 ops oi oj) →
      i ∈ Region.ready md ops listed → stepG C true H0 ops oi st (aAny C H0 md ops K fuel (listed.setIfInBounds i true)) → aAny C H0 md ops K (fuel + 1) listed st := by
  intro fuel
  induction fuel with
  | zero =>
    intro listed st hI hcnt _ _ hr H
    refine ⟨fun h => (by rw [h] at hr; cases hr), fun j hj => ?_⟩
    by_cases hji : j = i
    · subst hji; unfold stepAt; rw [hi]; exact H
    · have := hcnt [i, j] (by simp [Ne.symm hji]) (by
        intro k hk
        simp at hk
        rcases hk with rfl | rfl
        · exact (mem_ready.1 hr).1
        · exact (mem_ready.1 hj).1)
      simp at this
  | succ fuel ih =>
    intro listed st hI hcnt hdc hfree hr H
    refine ⟨fun h => (by rw [h] at hr; cases hr), fun j hj => ?_⟩
    by_cases hji : j = i
    · subst hji; unfold stepAt; rw [hi]; exact H
    · obtain ⟨hjun, oj, hoj, hall⟩ := mem_ready.1 hj
      have hiun := (mem_ready.1 hr).1
      have hfc : ∀ i', (fr j).testBit i' = true → listed.getD i' false = true := fun i' hb => by
        obtain ⟨e, he, hbd, hor⟩ := hcl j oj hoj i' hb
        have hl := hall e he hbd
        rcases hor with rfl | h'
        · exact hl
        · exact hdc _ hl _ h'
      have hnf : (fr j).testBit i = false := by
        cases hb : (fr j).testBit i with
        | false => rfl
        | true => rw [getD_tf (hfc i hb)] at hiun; cases hiun
      have hsw := hfree j oj hoj hji hjun hnf
      have H' : stepG C true H0 ops oi st (fun st' => stepG C true H0 ops oj st' (aAny C H0 md ops K fuel ((listed.setIfInBounds i true).setIfInBounds j true))) := by
        refine stepG_mono hE (fun s hs => ?_) H
        have := hs.2 j (ready_mono hj hji)
        unfold stepAt at this
        rw [hoj] at this
        exact this
      have H2 := stepG_keepI (hkp j oj hoj) hI (hsw st hI _ H')
      unfold stepAt
      rw [hoj]
      refine stepG_mono hE (fun s hs2 => ?_) H2
      obtain ⟨hs, hIs⟩ := hs2
      refine ih (listed.setIfInBounds j true) s hIs ?_ ?_ ?_ (ready_mono hr (Ne.symm hji)) ?_
      · intro Z hS hall'
        have h1 : ∀ k ∈ Z, k ≠ j ∧ listed.getD k true = false := fun k hk => by
          have h2 := hall' k hk
          by_cases hkj : k = j
          · subst hkj
            have hlt : k < listed.size := by
              rcases Nat.lt_or_ge k listed.size with h' | h'
              · exact h'
              · simp [Array.getElem?_eq_none h'] at hjun
            simp [hlt] at h2
          · exact ⟨hkj, by rw [getD_set_ne true (Ne.symm hkj)] at h2; exact h2⟩
        have := hcnt (j :: Z) (List.nodup_cons.2 ⟨fun hm => (h1 j hm).1 rfl, hS⟩) (by
          intro k hk
          rcases List.mem_cons.1 hk with rfl | hk
          · exact hjun
          · exact (h1 k hk).2)
        simp at this
        omega
      · intro e he i' hb
        by_cases hej : e = j
        · subst hej; exact getD_set_true (hfc i' hb)
        · rw [getD_set_ne false (Ne.symm hej)] at he
          exact getD_set_true (hdc e he i' hb)
      · intro k ok hk hki hun hno
        refine hfree k ok hk hki ?_ hno
        by_cases hjk : j = k
        · subst hjk; exact hjun
        · rw [getD_set_ne true hjk] at hun; exact hun
      · rw [Array.setIfInBounds_comm _ _ hji]
        exact hs
theorem aAny_lexI {G : Glob} {H0 : AHeap} (hC : TabsAll G C) (hE : EMono C) {K : ASt → Prop} (hchk : checkI S C md ops = true) : ∀ (l : List Oper) (k : Nat) (listed : Array Bool) (st : ASt), AtI S st.ρ → (∀ j, l[j]? = ops[k + j]?) →
    listed.size = ops.size → (∀ j, j < ops.size → listed.getD j false = decide (j < k)) → k + l.length = ops.size →
    stepsG C true H0 ops l st K → aAny C H0 md ops K l.length listed st := by
  have hspec := checkLI_spec ops.toList 0 hchk
  simp only [Nat.zero_add] at hspec
  have hsp : ∀ j y, ops[j]? = some y → (∀ e ∈ y.after, Region.binds md e = true → e.on < j) ∧ (waits md ops.toList).getD j 0 = waitOf md (waits md ops.toList) y ∧ ∀ i x, i < j → ops[i]? = some x → ((waits md ops.toList).getD j 0).testBit i = false → pairI S C ops x y = true := by
    intro j y hy
    obtain ⟨h1, h2, h5, h3⟩ := hspec j y (by simpa using hy)
    refine ⟨h1, h2, fun i x hij hx hm => h3 i x ?_ hm⟩
    rw [List.getElem?_take, if_pos hij]
    simpa using hx
  have hcl : ∀ j oj, ops[j]? = some oj → ∀ i, ((waits md ops.toList).getD j 0).testBit i = true → ∃ e ∈ oj.after, Region.binds md e = true ∧ (e.on = i ∨ ((waits md ops.toList).getD e.on 0).testBit i = true) := by
    intro j oj hj i hb
    rw [(hsp j oj hj).2.1] at hb
    exact waitOf_spec hb
  have hkp : ∀ (j : Nat) (oj : Oper), ops[j]? = some oj → keepsI S C oj = true := fun j oj hj => (hspec j oj (by simpa using hj)).2.2.1
  intro l
  induction l with
  | nil =>
    intro k listed st hI hl hsz hlk hk h
    simp only [List.length_nil, Nat.add_zero] at hk
    refine ⟨?_, h⟩
    rw [List.eq_nil_iff_forall_not_mem]
    intro j hj
    obtain ⟨h0, o, ho, _⟩ := mem_ready.1 hj
    have hlt := (Array.getElem?_eq_some_iff.1 ho).1
    have := hlk j hlt
    rw [show decide (j < k) = true by simp; omega] at this
    rw [getD_tf this] at h0
    cases h0
  | cons o r ih =>
    intro k listed st hI hl hsz hlk hk h
    have h0 : ops[k]? = some o := by simpa using (hl 0).symm
    have hklt := (Array.getElem?_eq_some_iff.1 h0).1
    simp only [List.length_cons] at hk ⊢
    have tf : ∀ j, j < ops.size → listed.getD j true = listed.getD j false := fun j hj => by
      have : j < listed.size := by rw [hsz]; exact hj
      simp [this]
    have unl : ∀ j, listed.getD j true = false → k ≤ j ∧ j < ops.size := fun j hj => by
      have hlt : j < ops.size := by
        rcases Nat.lt_or_ge j listed.size with h' | h'
        · rw [← hsz]; exact h'
        · simp [Array.getElem?_eq_none h'] at hj
      rw [tf j hlt, hlk j hlt] at hj
      exact ⟨by simpa using hj, hlt⟩
    refine aAny_firstI hE h0 hkp (fun j => (waits md ops.toList).getD j 0) hcl r.length listed st hI ?_ ?_ ?_ ?_ ?_
    · intro Z hS hall
      have := nodup_len Z (List.range' k (r.length + 1)) hS (fun j hj => by
        obtain ⟨h1, h2⟩ := unl j (hall j hj)
        rw [List.mem_range'_1]
        omega)
      simpa using this
    · intro e he i hb
      have hlt : e < ops.size := by
        rcases Nat.lt_or_ge e listed.size with h' | h'
        · rw [← hsz]; exact h'
        · simp [Array.getElem?_eq_none h'] at he
      rw [hlk e hlt] at he
      have hek : e < k := by simpa using he
      obtain ⟨oe, hoe⟩ : ∃ oe, ops[e]? = some oe := ⟨_, Array.getElem?_eq_getElem hlt⟩
      have : ∀ n e, e < n → e < k → ∀ oe, ops[e]? = some oe → ((waits md ops.toList).getD e 0).testBit i = true → i < e := by
        intro n
        induction n with
        | zero => intro e h; omega
        | succ n ihn =>
          intro e hen hek oe hoe hb
          obtain ⟨d, hd, hbd, hor⟩ := hcl e oe hoe i hb
          have hde := (hsp e oe hoe).1 d hd hbd
          rcases hor with rfl | hb'
          · exact hde
          · obtain ⟨od, hod⟩ : ∃ od, ops[d.on]? = some od := ⟨_, Array.getElem?_eq_getElem (by omega)⟩
            have := ihn d.on (by omega) (by omega) od hod hb'
            omega
      have hie := this (e + 1) e (by omega) hek oe hoe hb
      rw [hlk i (by omega)]
      simp; omega
    · intro j oj hj hjk hun hm
      obtain ⟨h1, h2⟩ := unl j hun
      exact swap_of_pairI hC ((hsp j oj hj).2.2 k o (by omega) h0 hm)
    · rw [mem_ready]
      refine ⟨by rw [tf k hklt, hlk k hklt]; simp, o, h0, fun e he hb => ?_⟩
      have := (hsp k o h0).1 e he hb
      rw [hlk e.on (by omega)]
      simpa using this
    · refine stepG_mono hE (fun s hs2 => ?_) (stepG_keepI (hkp k o h0) hI h)
      obtain ⟨hs, hIs⟩ := hs2
      refine ih (k + 1) _ s hIs (fun j => by have := hl (j + 1); simpa [Nat.add_assoc, Nat.add_comm 1 j] using this) (by simpa using hsz) ?_ (by omega) hs
      intro j hj
      by_cases hjk : k = j
      · subst hjk
        have : k < listed.size := by rw [hsz]; exact hj
        simp [this]
      · rw [getD_set_ne false hjk, hlk j hj]
        simp; omega
theorem region_any_inI {G : Glob} {E : Base} {K : ASt → Prop} {a : Act} {w : World} {id : Nat} {ops : Array Oper} {H0 : AHeap} (r : Option Nat) (n : Nat) (hP0 : ∀ κ, (E.L0 κ).isSome = true → κ ∈ C.pins) (hC : TabsAll G C) (hE : EMono C) (hm : G.P.follows .mixedOrders = true)
    (hchk : checkI S C .any ops = true) {st : ASt} {L : Locs} (hI : AtI S st.ρ) (hs : stepsG C true H0 ops ops.toList st K) (hR : Rel G E (OpqS G E) C.N st a.tmps w L) (hd : a.defers = E.ds) : (Code.region id ops true).wpIn (FF r) n G.P (QR G E C.N K) a w := by
  refine wpIn_region_draw fun t => ?_
  refine wpOps_in (k := E.ds.length) r n ?_ ?_ ?_ _ a _ ?_ ?_
  · rintro a w ⟨st, L, _, _, hd⟩; rw [hd]; exact Nat.le_refl _
  · exact fun ch a w h => h
  · rintro ⟨a, w, h⟩; exact h
  · rw [hd]; exact Nat.le_refl _
  · simp only [Region.schedule, hm, Bool.true_or, if_true]
    refine wpAny_sound ops.size t _ a _ ?_
    have hx := aAny_lexI (K := K) hC hE hchk ops.toList 0 (Array.replicate ops.size false) st hI (by simp) (by simp) (fun j hj => by simp [hj]) (by simp) hs
    rw [Array.length_toList] at hx
    refine aAny_wp hP0 hC rfl (Q := QR G E C.N K) (fun a w h => h) ops.size _ a _ ⟨st, L, hx, ?_, hd⟩
    exact hR.grow ⟨rfl, rfl, rfl, Nat.le_refl _, fun _ _ _ => rfl, fun _ _ _ => rfl⟩
theorem AWp.orders {T : Plan} (S : List (Nat × Nat)) {id : Nat} {rest : Code} {Q : AX → ASt → Prop} {st : ASt} (hchk : checkI S C .any ops = true) (hI : AtI S st.ρ)
    (h : stepsG C true st.H ops ops.toList st (fun st' => wpc C T rest Q st')) : AWp C (.seq (.region id ops true) rest) Q st := by
  intro G E r n hr hF hP0 a w L hR hd
  refine wpIn_seq (wpIn_mono (region_any_inI (id := id) r n hP0 hF.tabs hF.mono hF.mixed hchk hI h hR hd) (fun e a w he => ?_))
  cases e with
  | normal =>
    obtain ⟨st2, L2, h1, h2, h3⟩ := he
    exact wpc_sound rest Q _ h1 G E r n hr hF hP0 a w L2 h2 h3
  | _ => exact he.elim
end
end Go.AM
