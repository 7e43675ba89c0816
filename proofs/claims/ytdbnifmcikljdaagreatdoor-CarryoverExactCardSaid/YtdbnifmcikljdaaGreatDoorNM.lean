/-
  A part of a proof: see the last text of this claim for what is proved.
-/
import Derived.Test.YtdbnifmcikljdaaGreatDoorAX
import Derived.Below
import Derived.Test.YtdbnifmcikljdaaGreatDoorGH
import Derived.Test.YtdbnifmcikljdaaGreatDoorDM
namespace Go.AM
open Go
set_option linter.unusedSimpArgs false
set_option linter.unusedVariables false
mutual
/-- No function of which only a contract is known. -/
def AV.nq : AV → Bool
  | .opq _ => false
  | .agg cs => AV.nqL cs
  | .clo _ cs => AV.nqL cs
  | .whn _ v => AV.nq v
  | .pv _ => true
  | .nils => true
  | .ptr _ _ => true
  | .rs _ _ => true
  | .rv _ _ _ => true
  | .rp _ _ _ => true
  | .mp _ => true
  | .it _ => true
  | .bufh _ _ => true
  | .fix _ => true
  | .top => true
def AV.nqL : List AV → Bool
  | [] => true
  | c :: r => AV.nq c && AV.nqL r
end
def ABlk.nq : ABlk → Bool
  | .cells cs => AV.nqL cs
  | .typed _ cs => AV.nqL cs
  | _ => true
def nqH : AHeap → Bool
  | [] => true
  | (_, B) :: r => B.nq && nqH r
theorem nqL_mem : ∀ {l : List AV}, AV.nqL l = true → ∀ (i : Nat) (c : AV), l[i]? = some c → c.nq = true
  | [], _, i, c, hc => by simp at hc
  | v :: r, h, i, c, hc => by
    simp only [AV.nqL, Bool.and_eq_true] at h
    cases i with
    | zero => simp at hc; subst hc; exact h.1
    | succ i => exact nqL_mem h.2 i c (by simpa using hc)
theorem nqH_get : ∀ {H : AHeap}, nqH H = true → ∀ key B, hget H key = some B → B.nq = true
  | [], _, key, B, hk => by cases hk
  | (i, B') :: r, h, key, B, hk => by
    simp only [nqH, Bool.and_eq_true] at h
    unfold hget at hk
    split at hk
    · simp only [Option.some.injEq] at hk; subst hk; exact h.1
    · exact nqH_get h.2 key B hk
section
variable {w : World} {M : Nat → Prop} {L : Locs} {H : AHeap} {S S' : (List PV → Prop × PV) → Value → Prop}
theorem AVRel.nq {v : AV} {x : Value} (h : AVRel w M L H S v x) : v.nq = true → AVRel w M L H S' v x := by
  induction h with
  | pv p v h => exact fun _ => .pv p v h
  | nils => exact fun _ => .nils
  | ptr key off B b cap h1 hv h2 => exact fun _ => .ptr key off B b cap h1 hv h2
  | rsN key k h1 h2 => exact fun _ => .rsN key k h1 h2
  | rs key hi k es b cap h1 h2 h3 => exact fun _ => .rs key hi k es b cap h1 h2 h3
  | rv key lo hi k es b cap cap' a h1 h2 h3 h4 h5 h6 h7 => exact fun _ => .rv key lo hi k es b cap cap' a h1 h2 h3 h4 h5 h6 h7
  | rp key i off k es b cap h1 h2 h3 => exact fun _ => .rp key i off k es b cap h1 h2 h3
  | mp key es b cap h1 h2 => exact fun _ => .mp key es b cap h1 h2
  | bufN key e h1 h2 => exact fun _ => .bufN key e h1 h2
  | buf key e bs b cap h1 h2 => exact fun _ => .buf key e bs b cap h1 h2
  | it key s pos b cap h1 h2 => exact fun _ => .it key s pos b cap h1 h2
  | agg cs vs hz _ ih => exact fun hr => .agg _ _ hz (fun i c hc' => ih i c hc' (nqL_mem hr i c hc'))
  | clo f caps vs hz _ ih => exact fun hr => .clo _ _ _ hz (fun i c hc' => ih i c hc' (nqL_mem hr i c hc'))
  | whnT v x _ ih => exact fun hr => .whnT _ _ (ih hr)
  | whnF v => exact fun _ => .whnF _
  | opq φ x h => exact fun hr => nomatch hr
  | fix x => exact fun _ => .fix x
  | top x => exact fun _ => .top x
theorem BRel.nq {key : Nat} {B : ABlk} (h : BRel w M L H S key B) (hr : B.nq = true) : BRel w M L H S' key B := by
  cases B with
  | cells cs =>
    obtain ⟨b, cap, arr, et, e1, e2, e3, e4⟩ := h
    exact ⟨b, cap, arr, et, e1, e2, e3, fun j c hc' => (e4 j c hc').nq (nqL_mem hr j c hc')⟩
  | typed ty cs =>
    obtain ⟨b, cap, arr, e1, e2, e3, e4⟩ := h
    exact ⟨b, cap, arr, e1, e2, e3, fun j c hc' => (e4 j c hc').nq (nqL_mem hr j c hc')⟩
  | row k es => exact h
  | obj J => exact h
  | iter s pos => exact h
  | buf e bs => exact h
  | map es => exact h
end
theorem ext_putObj {W : World} {l : Nat} {o o' : Obj} (h : W.heap[l]? = some o) (ho : o.isCells = false) (ho' : o'.isCells = false) : Ext (fun b => b = l) W (W.putObj l o') := by
  refine ⟨rfl, rfl, rfl, by simp [World.putObj], fun b _ hb => World.putObj_heap_other hb, fun a ha _ => ?_⟩
  unfold World.frozen?
  by_cases e : a.block = l
  · rw [e, World.putObj_heap_same (Array.getElem?_eq_some_iff.1 h).1, h]
    cases o <;> cases o' <;> first | rfl | (cases ho; done) | (cases ho'; done)
  · rw [World.putObj_heap_other e]
theorem Ext.wide {M M' : Nat → Prop} {w w' : World} (h : Ext M w w') (hm : ∀ b, M b → M' b) : Ext M' w w' :=
  .of h.os h.tape h.output h.size (fun b hb hn => h.block b hb (fun hM => hn (hm b hM)))
theorem Keeps.trans {w w' w'' : World} {M M' M'' : Nat → Prop} (h : Keeps w M w' M') (k : Keeps w' M' w'' M'') (hs : w.heap.size ≤ w'.heap.size) : Keeps w M w'' M'' := fun b hb hn => by
  obtain ⟨h1, h2⟩ := h b hb hn
  obtain ⟨k1, k2⟩ := k b (Nat.lt_of_lt_of_le hb hs) h2
  exact ⟨k1.trans h1, k2⟩
section
variable {G : Glob} {E : Base} {S S' : (List PV → Prop × PV) → Value → Prop} {N : Nat} {st : ASt} {a : Array Value} {w w' : World} {L : Locs}
theorem Rel.nq (h : Rel G E S N st a w L) (h1 : ∀ s, (st.ρ s).nq = true) (h2 : nqH st.H = true) : Rel G E S' N st a w L :=
  ⟨h.size, h.ext, h.inv, h.glob, h.old, h.m0, h.own, h.inj, fun key B hk => (h.blk key B hk).nq (nqH_get h2 key B hk), fun s => (h.env s).nq (h1 s), h.fix⟩
theorem Rel.step (h : Rel G E S N st a w L) {Z X' : Nat → Prop} {L0' : Locs} (ds : List Deferred) (hw : Ext Z w w') (hZ : ∀ b, Z b → E.X b ∧ G.nG ≤ b) (hX : ∀ b, E.X b → X' b) (hX2 : ∀ b, X' b → E.X b ∨ (w.heap.size ≤ b ∧ b < w'.heap.size))
    (h0 : ∀ κ b c, L0' κ = some (b, c) → E.L0 κ = some (b, c)) : Rel G ⟨w', X', Own L st.H, L0', ds⟩ S N st a w' L ∧ Keeps w (Mut E L st.H) w' (Mut ⟨w', X', Own L st.H, L0', ds⟩ L st.H) := by
  have hno : ∀ b, Own L st.H b → ¬ X' b := by
    rintro b ⟨key, B, cap, h1, h2⟩ hx
    rcases hX2 b hx with hx | ⟨hx, _⟩
    · exact (h.own key B b cap h1 h2).1 hx
    · have := h.mut_lt (.inr ⟨key, B, cap, h1, h2⟩); omega
  have hk : Keeps w (Mut E L st.H) w' (Mut ⟨w', X', Own L st.H, L0', ds⟩ L st.H) := fun b hb hn => ⟨hw.block b hb (fun hz => hn (.inl (hZ b hz).1)), fun hm => by
    rcases hm with hm | hm
    · rcases hX2 b hm with hx | ⟨hx, _⟩
      · exact hn (.inl hx)
      · omega
    · exact hn (.inr hm)⟩
  have hc : ∀ key B, hget st.H key = some B → ∃ B', hget st.H key = some B' ∧ B.le B' ∧ L key = L key ∧ (L key = none → B = B') := fun key B hb => ⟨B, hb, ABlk.le_refl _, rfl, fun _ => rfl⟩
  have hsz := h.ext.size
  refine ⟨⟨h.size, Ext.refl _ _, G.stable w w' h.inv (fun b hb => hw.block b (by have := h.glob; omega) (fun hz => by have := (hZ b hz).2; omega)) hw.size, by have := h.glob; have := hw.size; show G.nG ≤ w'.heap.size; omega, fun b hb => ⟨?_, fun ho => hno b ho hb⟩, ?_, fun key B b cap h1 h2 => ⟨fun hx => hno b ⟨key, B, cap, h1, h2⟩ hx, (h.own key B b cap h1 h2).2.1, .inl ⟨key, B, cap, h1, h2⟩⟩, h.inj,
    fun key B hb => (h.blk key B hb).keepAll hk hc (fun b cap hl => hw.block b (h.mut_lt (.inr ⟨key, B, cap, hb, hl⟩)) (fun hz => (h.own key B b cap hb hl).1 (hZ b hz).1)) rfl, fun s => (h.env s).keep hk (fun _ _ h => h) hc, fun κ b c hl => h.fix κ b c (h0 κ b c hl)⟩, hk⟩
  · rcases hX2 b hb with hx | ⟨_, hx⟩
    · have := (h.old b hx).1; have := hw.size; show b < w'.heap.size; omega
    · exact hx
  · rintro b ⟨key, B, cap, h1, h2⟩; exact (h.own key B b cap h1 h2).2.1
theorem Rel.drop (h : Rel G E S N st a w L) {l : List (Nat × AV)} {H1 : AHeap} {L0' : Locs} (ds : List Deferred) (hf : fitR l st.ρ) (hb : fitH H1 st.H) (rr : refsR H1 l = true) (rh : refsH H1 H1 = true)
    (h0 : ∀ κ b c, L0' κ = some (b, c) → L κ = some (b, c) ∧ (hget H1 κ).isSome = true) :
    Rel G ⟨w, fun b => E.X b ∨ ∃ key B cap, hget st.H key = some B ∧ L key = some (b, cap) ∧ hget H1 key = none, Own L H1, L0', ds⟩ S N ⟨look l, H1⟩ a w L := by
  have hc := fitH_get hb
  have ho : ∀ b, Own L H1 b → Own L st.H b := fun b ⟨key, B, cap, h1, h2⟩ => ⟨key, B, cap, hc _ _ h1, h2⟩
  have hk : Keeps w (Mut E L st.H) w (Mut ⟨w, fun b => E.X b ∨ ∃ key B cap, hget st.H key = some B ∧ L key = some (b, cap) ∧ hget H1 key = none, Own L H1, L0', ds⟩ L H1) := fun b _ hn => ⟨rfl, fun hm => by
    rcases hm with (hm | ⟨key, B, cap, h1, h2, _⟩) | hm
    · exact hn (.inl hm)
    · exact hn (.inr ⟨key, B, cap, h1, h2⟩)
    · exact hn (.inr (ho b hm))⟩
  have hno : ∀ b, Own L H1 b → ¬ (E.X b ∨ ∃ key B cap, hget st.H key = some B ∧ L key = some (b, cap) ∧ hget H1 key = none) := by
    rintro b ⟨key, B, cap, h1, h2⟩ (hx | ⟨key', B', cap', g1, g2, g3⟩)
    · exact (h.own key B b cap (hc _ _ h1) h2).1 hx
    · have := h.inj key key' B B' b cap cap' (hc _ _ h1) g1 h2 g2
      subst this
      rw [h1] at g3; cases g3
  refine ⟨h.size, Ext.refl _ _, h.inv, by have := h.glob; have := h.ext.size; show G.nG ≤ w.heap.size; omega, fun b hb' => ⟨?_, fun ho => hno b ho hb'⟩, ?_, fun key B b cap h1 h2 => ⟨hno b ⟨key, B, cap, h1, h2⟩, (h.own key B b cap (hc _ _ h1) h2).2.1, .inl ⟨key, B, cap, h1, h2⟩⟩,
    fun k1 k2 B1 B2 b c1 c2 h1 h2 h3 h4 => h.inj k1 k2 B1 B2 b c1 c2 (hc _ _ h1) (hc _ _ h2) h3 h4, fun key B h1 => (h.blk key B (hc _ _ h1)).fit rfl hk hc (refsH_get rh key B h1), fun s => ?_, fun κ b c hl => ?_⟩
  · rcases hb' with hx | ⟨key, B, cap, h1, h2, _⟩
    · exact Nat.lt_of_lt_of_le (h.old b hx).1 h.ext.size
    · exact h.mut_lt (.inr ⟨key, B, cap, h1, h2⟩)
  · rintro b ⟨key, B, cap, h1, h2⟩; exact (h.own key B b cap (hc _ _ h1) h2).2.1
  · rcases fitR_look hf s with e | e
    · show AVRel _ _ _ _ _ (look l s) _
      rw [e]; exact .top _
    · show AVRel _ _ _ _ _ (look l s) _
      have := (h.env s).fit hk hc (by rw [← e]; exact refsR_look rr s)
      rw [e]; exact this
  · obtain ⟨h1, h2⟩ := h0 κ b c hl
    exact ⟨h1, Option.isSome_iff_exists.1 h2⟩
end
def okSlot (vp : List Nat) : Nat × AV → Bool
  | (_, .pv _) => true
  | (_, .nils) => true
  | (_, .top) => true
  | (_, .ptr κ _) => vp.contains κ
  | _ => false
def varsB (vp : List Nat) (H : AHeap) : Bool := vp.all fun κ => match hget H κ with
  | some B => B.isVar
  | none => false
theorem okSlot_look {vp : List Nat} : ∀ {l : List (Nat × AV)}, l.all (okSlot vp) = true → ∀ s, ∃ i, okSlot vp (i, look l s) = true
  | [], _, s => ⟨0, rfl⟩
  | (i, v) :: r, h, s => by
    simp only [List.all_cons, Bool.and_eq_true] at h
    unfold look
    split
    · exact ⟨i, h.1⟩
    · exact okSlot_look h.2 s
theorem okSlot_nq {vp : List Nat} {l : List (Nat × AV)} (h : l.all (okSlot vp) = true) (s : Nat) : (look l s).nq = true := by
  obtain ⟨i, hi⟩ := okSlot_look h s
  generalize look l s = v at hi ⊢
  cases v <;> first | rfl | (simp [okSlot] at hi; done)
theorem slots_back {w w' : World} {M M' : Nat → Prop} {L L' : Locs} {H H' : AHeap} {S S' : (List PV → Prop × PV) → Value → Prop} {a : Array Value} {l : List (Nat × AV)} {vp : List Nat} (hok : l.all (okSlot vp) = true)
    (h : ∀ s, AVRel w M L H S (look l s) (a.getD s undef)) (hk : Keeps w M w' M') (hL : ∀ κ, κ ∈ vp → L' κ = L κ) (hv : varsB vp H' = true) : ∀ s, AVRel w' M' L' H' S' (look l s) (a.getD s undef) := by
  intro s
  obtain ⟨i, hi⟩ := okSlot_look hok s
  have hs := h s
  generalize look l s = v at hi hs ⊢
  generalize a.getD s undef = x at hs ⊢
  cases v <;> first | (simp [okSlot] at hi; done) | skip
  · exact .pv _ _ ((pv_inv hs).keep hk)
  · cases hs; exact .nils
  · rename_i κ off
    have hm : κ ∈ vp := by simpa [okSlot] using hi
    obtain ⟨B, b, cap, h1, h2, h3, rfl⟩ := ptr_inv hs
    have := List.all_eq_true.1 hv κ hm
    split at this
    · rename_i B' hB'
      exact .ptr κ off B' b cap hB' this (by rw [hL κ hm]; exact h3)
    · cases this
  · exact .top _
def IterS (P : Program) (gf : FuncId) (es : List (List UInt8)) (vs : Array Value) (bs : List Nat) (w : World) : Prop :=
  ∀ (l : Nat) (J : Nat → World → Prop) (Jx : World → Prop), (∀ i W W', J i W → Ext (fun b => b ∈ bs) W W' → J i W') → (∀ W W', Jx W → Ext (fun b => b ∈ bs) W W' → Jx W') →
    (∀ m i s W, es[i]? = some s → J i W → YieldAt Fence.wide m P l #[.string ⟨s.toArray⟩] W fun e W' =>
      (e = .returned (.bool true) ∧ J (i + 1) W' ∧ ∀ b, b ∈ bs → W'.heap[b]? = W.heap[b]?) ∨ (e = .returned (.bool false) ∧ Jx W' ∧ ∀ b, b ∈ bs → W'.heap[b]? = W.heap[b]?)) →
    ∀ W, J 0 W → (∀ b, b ∈ bs → W.heap[b]? = w.heap[b]?) → Calls P gf (#[.func (.yield l) #[] #[]] ++ vs) W fun e W' => (∃ v, e = .returned v) ∧ (J es.length W' ∨ Jx W')
def IterA (P : Program) (gf : FuncId) (caps : List AV) (H : AHeap) (κs : List Nat) (es : List (List UInt8)) : Prop :=
  Enterable P gf ∧ ∀ (w : World) (M : Nat → Prop) (L : Locs) (S : (List PV → Prop × PV) → Value → Prop) (vs : Array Value), (∀ key B, hget H key = some B → BRel w M L H S key B) → vs.size = caps.length → (∀ i c, caps[i]? = some c → AVRel w M L H S c (vs.getD i undef)) →
    ∃ bs : List Nat, (∀ b, b ∈ bs → ∃ κ B cap, κ ∈ κs ∧ hget H κ = some B ∧ L κ = some (b, cap)) ∧ IterS P gf es vs bs w
structure RB (E : Base) (X1 : Nat → Prop) (L1 : Locs) (E' : Base) : Prop where
  X : E'.X = X1
  L0 : E'.L0 = L1
  ds : E'.ds = []
  ext : Ext E.M0 E.w0 E'.w0
  m0 : ∀ b, E'.M0 b → E.M0 b ∨ E.w0.heap.size ≤ b
theorem RB.step {G : Glob} {E E' : Base} {X1 : Nat → Prop} {L1 : Locs} {S : (List PV → Prop × PV) → Value → Prop} {N : Nat} {st : ASt} {a : Array Value} {w w' : World} {L : Locs} {Z : Nat → Prop} (hb : RB E X1 L1 E') (h : Rel G E' S N st a w L) (hw : Ext Z w w')
    (hZ : ∀ b, Z b → X1 b ∧ G.nG ≤ b ∧ (E.M0 b ∨ E.w0.heap.size ≤ b)) :
    RB E X1 L1 ⟨w', X1, Own L st.H, L1, []⟩ ∧ Rel G ⟨w', X1, Own L st.H, L1, []⟩ S N st a w' L ∧ Keeps w (Mut E' L st.H) w' (Mut ⟨w', X1, Own L st.H, L1, []⟩ L st.H) := by
  have := h.step (Z := Z) (X' := X1) (L0' := L1) [] hw (fun b hz => ⟨by rw [hb.X]; exact (hZ b hz).1, (hZ b hz).2.1⟩) (fun b hx => by rw [← hb.X]; exact hx) (fun b hx => .inl (by rw [hb.X]; exact hx)) (fun κ b c hl => by rw [hb.L0]; exact hl)
  refine ⟨⟨rfl, rfl, rfl, ?_, ?_⟩, this⟩
  · exact (hb.ext.trans' h.ext hb.m0).trans' hw (fun b hz => (hZ b hz).2.2)
  · rintro b ⟨key, B, cap, h1, h2⟩
    rcases (h.own key B b cap h1 h2).2.2 with hm | hm
    · exact hb.m0 b hm
    · exact .inr (Nat.le_trans hb.ext.size hm)
theorem Rel.keeps {G : Glob} {w : World} {X1 : Nat → Prop} {L1 : Locs} {ds : List Deferred} {S' : (List PV → Prop × PV) → Value → Prop} {N : Nat} {st' : ASt} {a' : Array Value} {w' : World} {L L' : Locs} {H : AHeap}
    (h : Rel G ⟨w, X1, Own L H, L1, ds⟩ S' N st' a' w' L') : Keeps w (Mut ⟨w, X1, Own L H, L1, ds⟩ L H) w' (Mut ⟨w, X1, Own L H, L1, ds⟩ L' st'.H) := fun b hb hn => by
  refine ⟨h.ext.block b hb (fun hm => hn (.inr hm)), fun hm => ?_⟩
  rcases hm with hm | ⟨key, B, cap, h1, h2⟩
  · exact hn (.inl hm)
  · rcases (h.own key B b cap h1 h2).2.2 with ho | ho
    · exact hn (.inr ho)
    · have : w.heap.size ≤ b := ho
      omega
end Go.AM
namespace Go.AM
open Go Go.RowKit
set_option linter.unusedSimpArgs false
set_option linter.unusedVariables false
def inR (C : Ctx) (vp : List Nat) : Ctx := { C with pins := C.pins ++ vp, outer := false }
theorem Fit.inR {G : Glob} {C : Ctx} (h : Fit G C) (vp : List Nat) (hvp : ∀ κ, κ ∈ vp → κ < 1000000) : Fit G (inR C vp) := ⟨⟨⟨h.tabs.base.prog, h.tabs.base.pure, h.tabs.base.eff, fun κ hκ => (List.mem_append.1 hκ).elim (h.tabs.base.pinsLt κ) (hvp κ)⟩, h.tabs.quiet⟩, h.mono, h.mixed⟩
def roundQ {α : Type} (C : Ctx) (vp : List Nat) (l0 : List (Nat × AV)) (Hs : α → AHeap) (P : α → Prop) (Q : AX → ASt → Prop) : AX → ASt → Prop
  | .normal, st => ∃ y, P y ∧ fitH (Hs y) st.H
  | .ret, st => nqH st.H = true ∧ varsB (C.pins ++ vp) st.H = true ∧ Q .ret ⟨look l0, st.H⟩
  | .exit k, st => nqH st.H = true ∧ varsB (C.pins ++ vp) st.H = true ∧ Q (.exit k) ⟨look l0, st.H⟩
def okH (C : Ctx) (vp : List Nat) (H : AHeap) : Bool := nqH H && varsB (C.pins ++ vp) H && refsH H H
theorem okH_out {C : Ctx} {vp : List Nat} {H : AHeap} (h : okH C vp H = true) : nqH H = true ∧ varsB (C.pins ++ vp) H = true ∧ refsH H H = true := by
  simp only [okH, Bool.and_eq_true] at h
  exact ⟨h.1.1, h.1.2, h.2⟩
theorem varsB_get {vp : List Nat} {H : AHeap} (h : varsB vp H = true) {κ : Nat} (hm : κ ∈ vp) : ∃ B, hget H κ = some B ∧ B.isVar = true := by
  have := List.all_eq_true.1 h κ hm
  split at this
  · rename_i B hB; exact ⟨B, hB, this⟩
  · cases this
theorem refsR_of {vp : List Nat} {H : AHeap} (hv : varsB vp H = true) : ∀ {l : List (Nat × AV)}, l.all (okSlot vp) = true → refsR H l = true
  | [], _ => rfl
  | (i, v) :: r, h => by
    simp only [List.all_cons, Bool.and_eq_true] at h
    simp only [refsR, Bool.and_eq_true]
    refine ⟨?_, refsR_of hv h.2⟩
    have hi := h.1
    cases v <;> first | rfl | (simp [okSlot] at hi; done) | skip
    rename_i κ off
    have hm : κ ∈ vp := by simpa [okSlot] using hi
    obtain ⟨B, hB, _⟩ := varsB_get hv hm
    simp [AV.refsIn, hB]
theorem AWp.range {C : Ctx} {T : Plan} {α : Type} {g : Operand} {p : Tmp} {assign body : Code} {Q : AX → ASt → Prop} {st : ASt} (gf : FuncId) (caps : List AV) (κs : List Nat) (es : List (List UInt8))
    (l0 : List (Nat × AV)) (vp : List Nat) (Hs : α → AHeap) (I : Nat → α → Prop) (ks : List Nat) (x0 : α) (ho : C.outer = true) (hvl : ∀ κ, κ ∈ vp → κ < 1000000) (hp : p < C.N)
    (hg : opndV st.ρ g = .clo gf caps) (hit : IterA C.P gf caps st.H κs es) (hκ : ∀ κ, κ ∈ κs → hget (Hs x0) κ = none)
    (hf : fitR l0 st.ρ) (hok : l0.all (okSlot (C.pins ++ vp)) = true) (hI0 : I 0 x0) (hH0 : fitH (Hs x0) st.H) (hHs : ∀ i x, I i x → okH C vp (Hs x) = true)
    (hround : ∀ i x s, es[i]? = some s → I i x → wpc (inR C vp) T assign (AX.thn (fun st1 => nqH st1.H = true ∧ (ks.all fun s => (st1.ρ s).nq) = true ∧
      wpc (inR C vp) T body (roundQ C vp l0 Hs (I (i + 1)) Q) ⟨look (ks.map fun s => (s, st1.ρ s)), st1.H⟩) (fun _ _ => False)) ⟨look ((p, .pv (.str s)) :: l0), Hs x⟩)
    (hend : ∀ x, I es.length x → Q .normal ⟨look l0, Hs x⟩) : AWp C (.rangeFunc g #[p] assign body) Q st := by
  intro G E r n hr hF hP0 a w L hR hd
  obtain rfl := hr ho
  have hP : C.P = G.P := hF.tabs.base.prog
  rw [hP] at hit
  obtain ⟨hent, hit⟩ := hit
  have hF' := hF.inR vp hvl
  obtain ⟨ok1, ok2, ok3⟩ := okH_out (hHs 0 x0 hI0)
  have hgx := opnd_rel (a := a) hR.env g
  rw [hg] at hgx
  obtain ⟨vs, hvs, hvr, hgv⟩ : ∃ vs : Array Value, vs.size = caps.length ∧ (∀ i c, caps[i]? = some c → AVRel w (Mut E L st.H) L st.H (OpqS G E) c (vs.getD i undef)) ∧ a.eval g = .func (.func gf) #[] vs := by
    generalize a.eval g = x at hgx
    cases hgx with
    | clo _ _ vs h1 h2 => exact ⟨vs, h1, h2, rfl⟩
  obtain ⟨bs, hbs, hS⟩ := hit w (Mut E L st.H) L (OpqS G E) vs hR.blk hvs hvr
  have bsown : ∀ b, b ∈ bs → b < w.heap.size ∧ G.nG ≤ b ∧ (E.M0 b ∨ E.w0.heap.size ≤ b) := fun b hb => by
    obtain ⟨κ, B, cap, _, h2, h3⟩ := hbs b hb
    exact ⟨hR.mut_lt (.inr ⟨κ, B, cap, h2, h3⟩), (hR.own κ B b cap h2 h3).2⟩
  let pins1 := C.pins ++ vp
  let L1 : Locs := fun κ => if κ ∈ pins1 then L κ else none
  let D := w.heap.size
  let l := w.heap.size + 1
  let X1 : Nat → Prop := fun b => (E.X b ∨ ∃ key B cap, hget st.H key = some B ∧ L key = some (b, cap) ∧ hget (Hs x0) key = none) ∨ b = D ∨ b = l
  have hnG : G.nG ≤ w.heap.size := by have := hR.glob; have := hR.ext.size; omega
  have hEw : E.w0.heap.size ≤ w.heap.size := hR.ext.size
  -- the first base of a round
  have hL1 : ∀ κ b c, L1 κ = some (b, c) → L κ = some (b, c) ∧ (hget (Hs x0) κ).isSome = true := fun κ b c hl => by
    have hl' : (if κ ∈ pins1 then L κ else none) = some (b, c) := hl
    split at hl'
    · rename_i hm
      obtain ⟨B, hB, _⟩ := varsB_get ok2 hm
      exact ⟨hl', by rw [hB]; rfl⟩
    · cases hl'
  have hvp : ∀ κ, κ ∈ pins1 → ∃ b c, L1 κ = some (b, c) := fun κ hm => by
    obtain ⟨B, hB, hv⟩ := varsB_get ok2 hm
    have h2 := hR.blk κ B (fitH_get hH0 κ B hB)
    have h3 : L1 κ = L κ := if_pos hm
    rw [h3]
    cases B with
    | cells cs => obtain ⟨b, cap, arr, et, e1, _⟩ := h2; exact ⟨b, cap, e1⟩
    | typed ty cs => obtain ⟨b, cap, arr, e1, _⟩ := h2; exact ⟨b, cap, e1⟩
    | obj J => obtain ⟨cs, b, cap, arr, et, _, _, e1, _⟩ := h2; exact ⟨b, cap, e1⟩
    | row k es => cases hv
    | map es => cases hv
    | iter s pos => cases hv
    | buf e bs => cases hv
  have hR0 := hR.drop (L0' := L1) [] hf hH0 (refsR_of ok2 hok) ok3 hL1
  have hRB0 : RB E X1 L1 ⟨w, X1, Own L (Hs x0), L1, []⟩ := ⟨rfl, rfl, rfl, hR.ext, fun b ⟨key, B, cap, h1, h2⟩ => (hR.own key B b cap (fitH_get hH0 _ _ h1) h2).2.2⟩
  refine wpIn_rangeFunc fun fn hfn => ?_
  let rec_ : LoopState → Option Code → Loop := fun s pe => { state := s, pending := pe, fn := fn, tmps := a.tmps, params := #[p], assign := assign, body := body, defers := w.heap.size }
  have he1 : Ext NoB w ((w.alloc (.deferred (some []))).alloc (.loop (rec_ .ready none))) := by
    refine ⟨rfl, rfl, rfl, by simp only [World.size_alloc]; omega, fun b hb _ => ?_, fun ad had _ => ?_⟩
    · rw [Below.heap_alloc _ _ _ (by simp; omega), Below.heap_alloc _ _ _ hb]
    · unfold World.frozen?
      rw [Below.heap_alloc _ _ _ (by simp; omega), Below.heap_alloc _ _ _ had]
  obtain ⟨w1, hw1⟩ : ∃ w1, (w.alloc (.deferred (some []))).alloc (.loop (rec_ .ready none)) = w1 := ⟨_, rfl⟩
  rw [hw1] at he1
  have hs1 : w1.heap.size = w.heap.size + 2 := by rw [← hw1]; simp
  have hl1 : w1.heap[l]? = some (.loop (rec_ .ready none)) := by
    rw [← hw1]
    have := World.alloc_heap_new (w.alloc (.deferred (some []))) (.loop (rec_ .ready none)); rwa [World.size_alloc] at this
  have hD1 : w1.heap[D]? = some (.deferred (some [])) := by
    rw [← hw1]; exact (Below.heap_alloc _ _ _ (by simp [D])).trans (World.alloc_heap_new w _)
  refine ⟨l, [{ target := .collected w.heap.size, args := #[] }], w1, { target := .fn (.func gf) vs, args := #[.func (.yield l) #[] #[]] }, w1, gf, #[.func (.yield l) #[] #[]] ++ vs, w1, ?_, ?_, fun _ _ => trivial, ?_, (fun h => nomatch h), ?_⟩
  · rw [← hw1]; exact run_enterLoop_outer _ _ _ _ _
  · simp only [resolve, hgv]; simp [go_sem]
  · have := run_callFunc (args := #[.func (.yield l) #[] #[]] ++ vs) (w := w1) hent
    simp [invoke, go_sem, this]
  -- what holds between rounds
  let J : Nat → World → Prop := fun i W => ∃ E' x L', RB E X1 L1 E' ∧ I i x ∧ Rel G E' (OpqS G E') C.N ⟨look l0, Hs x⟩ a.tmps W L' ∧ W.heap[l]? = some (.loop (rec_ .ready none)) ∧ W.heap[D]? = some (.deferred (some []))
  let Jx : World → Prop := fun W => ∃ c E' H' L', RB E X1 L1 E' ∧ nqH H' = true ∧ ((c = .ret ∧ Q .ret ⟨look l0, H'⟩) ∨ ∃ k, c = .exit k ∧ Q (.exit k) ⟨look l0, H'⟩) ∧ Rel G E' (OpqS G E') C.N ⟨look l0, H'⟩ a.tmps W L' ∧ W.heap[l]? = some (.loop (rec_ .done (some c))) ∧ W.heap[D]? = some (.deferred (some []))
  have nql : ∀ s, (look l0 s).nq = true := okSlot_nq hok
  have bsX : ∀ b, b ∈ bs → X1 b ∧ G.nG ≤ b ∧ (E.M0 b ∨ E.w0.heap.size ≤ b) := fun b hb => by
    obtain ⟨κ, B, cap, h1, h2, h3⟩ := hbs b hb
    exact ⟨.inl (.inr ⟨κ, B, cap, h2, h3, hκ κ h1⟩), (bsown b hb).2⟩
  have lX : X1 l ∧ G.nG ≤ l ∧ (E.M0 l ∨ E.w0.heap.size ≤ l) := ⟨.inr (.inr rfl), by show G.nG ≤ w.heap.size + 1; omega, .inr (by show E.w0.heap.size ≤ w.heap.size + 1; omega)⟩
  have lbs : ∀ {W W' : World}, Ext (fun b => b ∈ bs) W W' → ∀ {o : Obj}, (W.heap[l]? = some o → W'.heap[l]? = some o) ∧ (W.heap[D]? = some o → W'.heap[D]? = some o) := fun {W W'} he {o} =>
    ⟨fun h => (he.block l (Array.getElem?_eq_some_iff.1 h).1 (fun hb => by have := (bsown l hb).1; have : w.heap.size + 1 < w.heap.size := this; omega)).trans h,
     fun h => (he.block D (Array.getElem?_eq_some_iff.1 h).1 (fun hb => by have := (bsown D hb).1; have : w.heap.size < w.heap.size := this; omega)).trans h⟩
  have hJ0 : J 0 w1 := by
    obtain ⟨g1, _⟩ := hR0.step (Z := NoB) (X' := X1) (L0' := L1) [] he1 (fun b hb => hb.elim) (fun b hb => .inl hb) (fun b hb => by
      rcases hb with hb | hb | hb
      · exact .inl hb
      · right; rw [hs1]; rw [hb]; exact ⟨Nat.le_refl _, by show w.heap.size < w.heap.size + 2; omega⟩
      · right; rw [hs1]; rw [hb]; exact ⟨by show w.heap.size ≤ w.heap.size + 1; omega, by show w.heap.size + 1 < w.heap.size + 2; omega⟩) (fun κ b c h => h)
    exact ⟨⟨w1, X1, Own L (Hs x0), L1, []⟩, x0, L, ⟨rfl, rfl, rfl, hR.ext.trans' he1 (fun b (hb : NoB b) => hb.elim), hRB0.m0⟩, hI0, g1.nq nql ok1, hl1, hD1⟩
  have hJs : ∀ i W W', J i W → Ext (fun b => b ∈ bs) W W' → J i W' := by
    rintro i W W' ⟨E', x, L', h1, h2, h3, h4, h5⟩ he
    obtain ⟨g1, g2, _⟩ := h1.step h3 he bsX
    exact ⟨_, x, L', g1, h2, g2.nq nql (okH_out (hHs i x h2)).1, (lbs he).1 h4, (lbs he).2 h5⟩
  have hJxs : ∀ W W', Jx W → Ext (fun b => b ∈ bs) W W' → Jx W' := by
    rintro W W' ⟨c, E', H', L', h1, h2, h3, h4, h5, h6⟩ he
    obtain ⟨g1, g2, _⟩ := h1.step h4 he bsX
    exact ⟨c, _, H', L', g1, h2, h3, g2.nq nql h2, (lbs he).1 h5, (lbs he).2 h6⟩
  have hY : ∀ m i s W, es[i]? = some s → J i W → YieldAt Fence.wide m G.P l #[.string ⟨s.toArray⟩] W fun e W' =>
      (e = .returned (.bool true) ∧ J (i + 1) W' ∧ ∀ b, b ∈ bs → W'.heap[b]? = W.heap[b]?) ∨ (e = .returned (.bool false) ∧ Jx W' ∧ ∀ b, b ∈ bs → W'.heap[b]? = W.heap[b]?) := by
    rintro m i s W hs ⟨E', x, L', b1, b2, b3, b4, b5⟩
    obtain ⟨q1, q2, q3⟩ := okH_out (hHs i x b2)
    -- a base at this round
    obtain ⟨c1, c2, _⟩ := b1.step (Z := NoB) b3 ⟨rfl, rfl, rfl, Nat.le_refl _, fun _ _ _ => rfl, fun _ _ _ => rfl⟩ (fun b hb => hb.elim)
    have c2 := c2.nq (S' := OpqS G ⟨W, X1, Own L' (Hs x), L1, []⟩) nql q1
    have hP1 : ∀ κ, (L1 κ).isSome = true → κ ∈ (inR C vp).pins := fun κ hκ => by
      have hκ' : ((if κ ∈ pins1 then L κ else none : Option (Nat × Nat))).isSome = true := hκ
      split at hκ'
      · rename_i hm; exact hm
      · cases hκ'
    refine ⟨fn, _, assign, body, run_yield b4 rfl, roundIn_of_wpIn trivial ?_⟩
    have htm : ((rec_ .ready none).params.zip #[Value.string ⟨s.toArray⟩]).foldl (fun t (p, v) => t.setIfInBounds p v) (rec_ .ready none).tmps = a.tmps.setIfInBounds p (.string ⟨s.toArray⟩) := by simp [rec_]
    rw [htm]
    have c3 := c2.put (d := p) (v := .pv (.str s)) (x := .string ⟨s.toArray⟩) hp (.pv _ _ (.str s))
    have hwA := wpc_sound assign _ _ (hround i x s hs b2) G ⟨W, X1, Own L' (Hs x), L1, []⟩ (some l) m (fun h => nomatch h) hF' hP1 { tmps := a.tmps.setIfInBounds p (.string ⟨s.toArray⟩), defers := [] } W L' (by
      have e : upd (look l0) p (.pv (.str s)) = look ((p, .pv (.str s)) :: l0) := rfl
      rw [← e]; exact c3) rfl
    refine wpIn_mono hwA (fun e a1 W1 he => ?_)
    cases e with
    | normal =>
      obtain ⟨st1, La, ⟨d1, d2, d3⟩, d4, d5⟩ := BehX.beh he
      have k1 := d4.keeps
      have hnX : ∀ b, X1 b → b < W.heap.size → W1.heap[b]? = W.heap[b]? := fun b hx hb => d4.ext.block b hb (fun hm => (c2.old b hx).2 hm)
      have hlt : l < W.heap.size := (Array.getElem?_eq_some_iff.1 b4).1
      have hlW1 : W1.heap[l]? = some (.loop (rec_ .ready none)) := (hnX l lX.1 hlt).trans b4
      have hDX : X1 D := .inr (.inl rfl)
      have hDW1 : W1.heap[D]? = some (.deferred (some [])) := (hnX D hDX (Array.getElem?_eq_some_iff.1 b5).1).trans b5
      refine ⟨_, run_beginRound hlW1 rfl, ?_⟩
      obtain ⟨W2, hW2⟩ : ∃ W2, W1.putObj l (.loop { rec_ .ready none with state := .busy }) = W2 := ⟨_, rfl⟩
      have eZ := ext_putObj (o' := .loop { rec_ .ready none with state := .busy }) hlW1 rfl rfl
      have hlW2 := World.putObj_heap_same (o := .loop { rec_ .ready none with state := .busy }) (Array.getElem?_eq_some_iff.1 hlW1).1
      rw [hW2] at eZ hlW2 ⊢
      have hlD : D ≠ l := by show w.heap.size ≠ w.heap.size + 1; omega
      have hDW2 : W2.heap[D]? = some (.deferred (some [])) := (eZ.block D (Array.getElem?_eq_some_iff.1 hDW1).1 hlD).trans hDW1
      have d4' := d4.keepSlots ks
      have hnk : ∀ s, (look (ks.map fun s => (s, st1.ρ s)) s).nq = true := by
        have : ∀ (l : List Nat), (l.all fun s => (st1.ρ s).nq) = true → ∀ s, (look (l.map fun s => (s, st1.ρ s)) s).nq = true := by
          intro l
          induction l with
          | nil => intro _ s; rfl
          | cons t r ih =>
            intro h s
            simp only [List.all_cons, Bool.and_eq_true] at h
            simp only [List.map_cons]
            unfold look
            split
            · exact h.1
            · exact ih h.2 s
        exact this ks d2
      obtain ⟨f1, f2, f3⟩ := c1.step d4' eZ (fun b hb => by have hb : b = l := hb; rw [hb]; exact lX)
      have f2 := f2.nq (S' := OpqS G ⟨W2, X1, Own La st1.H, L1, []⟩) hnk d1
      have hwB := wpc_sound body _ _ d3 G ⟨W2, X1, Own La st1.H, L1, []⟩ (some l) m (fun h => nomatch h) hF' hP1 a1 W2 La f2 d5
      -- the body's end, however it is left
      have fin : ∀ (st3 : ASt) (L3 : Locs) (a3 : Act) (W3 : World), Rel G ⟨W2, X1, Own La st1.H, L1, []⟩ (OpqS G ⟨W2, X1, Own La st1.H, L1, []⟩) C.N st3 a3.tmps W3 L3 → ∀ (H' : AHeap), (∀ key B, hget H' key = some B → hget st3.H key = some B) → nqH H' = true → varsB (C.pins ++ vp) H' = true → refsH H' H' = true ∨ H' = st3.H → ∀ (s' : LoopState) (pe : Option Code),
          ∃ E'', RB E X1 L1 E'' ∧ Rel G E'' (OpqS G E'') C.N ⟨look l0, H'⟩ a.tmps (W3.putObj l (.loop (rec_ s' pe))) L3 ∧ W3.heap[l]? = some (.loop { rec_ .ready none with state := .busy }) ∧ (W3.putObj l (.loop (rec_ s' pe))).heap[l]? = some (.loop (rec_ s' pe)) ∧ (W3.putObj l (.loop (rec_ s' pe))).heap[D]? = some (.deferred (some [])) ∧
            ∀ b, b ∈ bs → (W3.putObj l (.loop (rec_ s' pe))).heap[b]? = W.heap[b]? := by
        intro st3 L3 a3 W3 g1 H' hsub hnq' hv' hrf s' pe
        have hX3 : ∀ b, X1 b → b < W2.heap.size → W3.heap[b]? = W2.heap[b]? := fun b hx hb => g1.ext.block b hb (fun hm => (f2.old b hx).2 hm)
        have hlt2 : l < W2.heap.size := (Array.getElem?_eq_some_iff.1 hlW2).1
        have hlW3 := (hX3 l lX.1 hlt2).trans hlW2
        have hDW3 := (hX3 D hDX (Array.getElem?_eq_some_iff.1 hDW2).1).trans hDW2
        have eY := ext_putObj (o' := .loop (rec_ s' pe)) hlW3 rfl rfl
        have k3 := g1.keeps
        have kk := (k1.trans f3 d4.ext.size).trans k3 (Nat.le_trans d4.ext.size eZ.size)
        have kk' : Keeps W (Mut ⟨W, X1, Own L' (Hs x), L1, []⟩ L' (Hs x)) W3 (Mut ⟨W2, X1, Own La st1.H, L1, []⟩ L3 H') := fun b hb hn => ⟨(kk b hb hn).1, fun hm => (kk b hb hn).2 (hm.imp id (fun ⟨key, B, cap, h1, h2⟩ => ⟨key, B, cap, hsub _ _ h1, h2⟩))⟩
        have hLL : ∀ κ, κ ∈ C.pins ++ vp → L3 κ = L' κ := fun κ hm => by
          obtain ⟨b, c, hbc⟩ := hvp κ hm
          rw [(g1.fix κ b c hbc).1, (c2.fix κ b c hbc).1]
        have henv := slots_back (S' := OpqS G ⟨W2, X1, Own La st1.H, L1, []⟩) hok c2.env kk' hLL hv'
        have g2 : Rel G ⟨W2, X1, Own La st1.H, L1, []⟩ (OpqS G ⟨W2, X1, Own La st1.H, L1, []⟩) C.N ⟨look l0, H'⟩ a.tmps W3 L3 := by
          refine ⟨hR.size, g1.ext, g1.inv, g1.glob, g1.old, g1.m0, fun key B b cap h1 h2 => g1.own key B b cap (hsub _ _ h1) h2, fun k1 k2 B1 B2 b c1 c2 h1 h2 h3 h4 => g1.inj k1 k2 B1 B2 b c1 c2 (hsub _ _ h1) (hsub _ _ h2) h3 h4, fun key B h1 => ?_, henv, fun κ b c hl => ?_⟩
          · rcases hrf with hrf | rfl
            · exact (g1.blk key B (hsub _ _ h1)).fit rfl (fun b _ hn => ⟨rfl, fun hm => hn (hm.imp id (fun ⟨key, B, cap, h1, h2⟩ => ⟨key, B, cap, hsub _ _ h1, h2⟩))⟩) hsub (refsH_get hrf key B h1)
            · exact g1.blk key B h1
          · have hm : κ ∈ C.pins ++ vp := by
              have hl' : (if κ ∈ pins1 then L κ else none) = some (b, c) := hl
              split at hl'
              · rename_i hm; exact hm
              · cases hl'
            obtain ⟨B, hB, _⟩ := varsB_get hv' hm
            exact ⟨(g1.fix κ b c hl).1, B, hB⟩
        obtain ⟨u1, u2, _⟩ := f1.step g2 eY (fun b hb => by have hb : b = l := hb; rw [hb]; exact lX)
        refine ⟨_, u1, u2.nq nql hnq', hlW3, World.putObj_heap_same (Array.getElem?_eq_some_iff.1 hlW3).1, (World.putObj_heap_other hlD).trans hDW3, fun b hb => ?_⟩
        have hbl : b ≠ l := fun e => by have := (bsown b hb).1; have e : b = w.heap.size + 1 := e; omega
        have hbW : b < W.heap.size := by have := (bsown b hb).1; have : w.heap.size + 1 < W.heap.size := hlt; omega
        have hbW1 : b < W1.heap.size := Nat.lt_of_lt_of_le hbW d4.ext.size
        rw [World.putObj_heap_other hbl, hX3 b (bsX b hb).1 (Nat.lt_of_lt_of_le hbW1 eZ.size), eZ.block b hbW1 hbl, hnX b (bsX b hb).1 hbW]
      refine wpIn_mono hwB (fun e a3 W3 he => ?_)
      cases e with
      | normal =>
        obtain ⟨st3, L3, ⟨y, hy, hfy⟩, g1, g2⟩ := BehX.beh he
        obtain ⟨z1, z2, z3⟩ := okH_out (hHs (i + 1) y hy)
        obtain ⟨E'', u1, u2, u3, u4, u5, u6⟩ := fin st3 L3 a3 W3 g1 (Hs y) (fitH_get hfy) z1 z2 (.inl z3) .ready none
        exact ⟨_, _, run_endRound (P := G.P) none u3, .inl ⟨rfl, ⟨E'', y, L3, u1, hy, u2, u4, u5⟩, u6⟩⟩
      | ret =>
        obtain ⟨st3, L3, ⟨z1, z2, hq⟩, g1, g2⟩ := BehX.beh he
        obtain ⟨E'', u1, u2, u3, u4, u5, u6⟩ := fin st3 L3 a3 W3 g1 st3.H (fun _ _ h => h) z1 z2 (.inr rfl) .done (some .ret)
        exact ⟨_, _, run_endRound (P := G.P) (some .ret) u3, .inr ⟨rfl, ⟨.ret, E'', st3.H, L3, u1, z1, .inl ⟨rfl, hq⟩, u2, u4, u5⟩, u6⟩⟩
      | exit j =>
        obtain ⟨st3, L3, ⟨z1, z2, hq⟩, g1, g2⟩ := BehX.beh he
        obtain ⟨E'', u1, u2, u3, u4, u5, u6⟩ := fin st3 L3 a3 W3 g1 st3.H (fun _ _ h => h) z1 z2 (.inr rfl) .done (some (.exit j))
        exact ⟨_, _, run_endRound (P := G.P) (some (.exit j)) u3, .inr ⟨rfl, ⟨.exit j, E'', st3.H, L3, u1, z1, .inr ⟨j, rfl, hq⟩, u2, u4, u5⟩, u6⟩⟩
      | goto t => exact he.elim
      | panic ch => exact he.elim
      | outgrown => exact he.elim
    | exit j => obtain ⟨_, _, h, _⟩ := BehX.beh he; exact h.elim
    | ret => obtain ⟨_, _, h, _⟩ := BehX.beh he; exact h.elim
    | goto t => exact he.elim
    | panic ch => exact he.elim
    | outgrown => exact he.elim
  have hcall := hS l J Jx hJs hJxs hY w1 hJ0 (fun b hb => he1.block b (bsown b hb).1 id)
  refine callsIn_FF (Calls.mono hcall ?_)
  have hlD : D ≠ l := by show w.heap.size ≠ w.heap.size + 1; omega
  have fin : ∀ (E' : Base) (H' : AHeap) (L' : Locs) (W W' : World) (s : LoopState) (pe : Option Code), RB E X1 L1 E' → nqH H' = true → Rel G E' (OpqS G E') C.N ⟨look l0, H'⟩ a.tmps W L' → W.heap[l]? = some (.loop (rec_ s pe)) → W.heap[D]? = some (.deferred (some [])) → W' = W.putObj l (.loop { rec_ s pe with state := .exhausted }) →
      ∀ (K : ASt → Prop), K ⟨look l0, H'⟩ → BehX C.outer G E C.N K { a with defers := [{ target := .collected w.heap.size, args := #[] }] ++ a.defers } W' := by
    intro E' H' L' W W' s pe h1 h2 h3 h4 h5 hW' K hK
    have eY := ext_putObj (o' := .loop { rec_ s pe with state := .exhausted }) h4 rfl rfl
    rw [← hW'] at eY
    obtain ⟨u1, u2, _⟩ := h1.step h3 eY (fun b hb => by have hb : b = l := hb; rw [hb]; exact lX)
    obtain ⟨v1, _⟩ := u2.step (Z := NoB) (X' := X1) (L0' := E.L0) ({ target := .collected w.heap.size, args := #[] } :: E.ds) (w' := W') ⟨rfl, rfl, rfl, Nat.le_refl _, fun _ _ _ => rfl, fun _ _ _ => rfl⟩ (fun b hb => hb.elim) (fun b hb => hb) (fun b hb => .inl hb) (fun κ b c hl => by
      have hm : κ ∈ C.pins := hP0 κ (by rw [hl]; rfl)
      show (if κ ∈ pins1 then L κ else none) = some (b, c)
      rw [if_pos (List.mem_append.2 (.inl hm))]
      exact (hR.fix κ b c hl).1)
    have hDW' : W'.heap[D]? = some (.deferred (some [])) := (eY.block D (Array.getElem?_eq_some_iff.1 h5).1 hlD).trans h5
    have hDX : X1 D := .inr (.inl rfl)
    refine ⟨⟨W', X1, Own L' H', E.L0, { target := .collected w.heap.size, args := #[] } :: E.ds⟩, .inr ⟨ho, ⟨fun b hb => .inl (.inl hb), fun b hb => ?_, rfl, u1.ext, u1.m0, [{ target := .collected w.heap.size, args := #[] }], rfl, by simp, fun d hd => ?_⟩⟩, _, L', hK, v1.nq nql h2, by show _ :: a.defers = _ :: E.ds; rw [hd]⟩
    · rcases hb with (hb | ⟨key, B, cap, g1, g2, _⟩) | hb | hb
      · exact .inl hb
      · exact .inr (hR.own key B b cap g1 g2).2.2
      · rw [hb]; exact .inr (.inr hEw)
      · rw [hb]; exact .inr (.inr (by show E.w0.heap.size ≤ w.heap.size + 1; omega))
    · simp only [List.mem_singleton] at hd
      exact ⟨D, hd, hDW', hDX, fun hm => (v1.old D hDX).2 hm, hEw⟩
  rintro e W ⟨⟨v, rfl⟩, ⟨E', y, L', h1, h2, h3, h4, h5⟩ | ⟨c, E', H', L', h1, h2, h3, h4, h5, h6⟩⟩
  · refine ⟨none, _, run_endLoop (P := G.P) h4 (by simp [rec_]), ?_⟩
    exact fin E' (Hs y) L' W _ .ready none h1 (okH_out (hHs _ y h2)).1 h3 h4 h5 rfl _ (hend y h2)
  · refine ⟨some c, _, run_endLoop (P := G.P) h5 (by simp [rec_]), ?_⟩
    rcases h3 with ⟨rfl, hq⟩ | ⟨k, rfl, hq⟩
    · exact wpIn_ret (fin E' H' L' W _ .done _ h1 h2 h4 h5 h6 rfl _ hq)
    · exact wpIn_exit (fin E' H' L' W _ .done _ h1 h2 h4 h5 h6 rfl _ hq)
end Go.AM
namespace Go.AM
open Go Go.RowKit
set_option linter.unusedSimpArgs false
set_option linter.unusedVariables false
end Go.AM
namespace Go.AM
open Go Go.RowKit
set_option linter.unusedSimpArgs false
set_option linter.unusedVariables false
def AtI (S : List (Nat × Nat)) (ρ : Nat → AV) : Prop := ∀ p ∈ S, ρ p.1 = .ptr p.2 0
section
variable {G : Glob} {C : Ctx} {ops : Array Oper} {md : Region.Mode} {S : List (Nat × Nat)}
theorem AtI.put {st : ASt} {d : Option Tmp} {v : AV} (h : AtI S st.ρ) (hd : (match d with | some d => S.all fun p => p.1 != d | none => true) = true) : AtI S (putS st d v).ρ := by
  cases d with
  | none => exact h
  | some d =>
    intro p hp
    have hne : p.1 ≠ d := by simpa using List.all_eq_true.1 hd p hp
    show upd st.ρ d v p.1 = _
    unfold upd
    rw [if_neg hne]
    exact h p hp
end
end Go.AM
namespace Go.AM
open Go
set_option linter.unusedSimpArgs false
set_option linter.unusedVariables false
set_option maxHeartbeats 1000000
end Go.AM
namespace Go.AM
open Go
set_option linter.unusedSimpArgs false
set_option linter.unusedVariables false
end Go.AM
