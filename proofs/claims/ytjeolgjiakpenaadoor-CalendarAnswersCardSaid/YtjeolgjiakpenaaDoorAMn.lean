/-
  A part of a proof: see the last text of this claim for what is proved.
-/
import Derived.Test.YtjeolgjiakpenaaDoorAMm
namespace Go.AM
open Go
set_option linter.unusedSimpArgs false
set_option linter.unusedVariables false

def killR (κ : Nat) (ρ : Nat → AV) : Nat → AV := fun t => (ρ t).kill κ
def ABlk.kill (κ : Nat) : ABlk → ABlk
  | .cells cs => .cells (AV.killL κ cs)
  | .row k es => .row k es
  | .obj J => .obj J
def killH (κ : Nat) : AHeap → AHeap
  | [] => []
  | (i, b) :: r => (i, b.kill κ) :: killH κ r
theorem hget_killH (κ : Nat) (H : AHeap) (j : Nat) : hget (killH κ H) j = (hget H j).map (ABlk.kill κ) := by
  induction H with
  | nil => rfl
  | cons x r ih =>
    obtain ⟨i, b⟩ := x
    by_cases h : i = j <;> simp [killH, hget, h, ih]

section
variable {w w' : World} {M M' : Nat → Prop} {L L' : Locs} {H H' : AHeap} {S : (List PV → Prop × PV) → Value → Prop}

theorem BRel.keepAll (hk : Keeps w M w' M') (hc : ∀ key B, hget H key = some B → ∃ B', hget H' key = some B' ∧ B.le B' ∧ L' key = L key ∧ (L key = none → B = B'))
    {key : Nat} {B : ABlk} (hb : ∀ b cap, L key = some (b, cap) → w'.heap[b]? = w.heap[b]?) (hl : L' key = L key) (h : BRel w M L H S key B) : BRel w' M' L' H' S key B := by
  cases B with
  | cells cs =>
    obtain ⟨b, cap, arr, et, h1, h2, h3, h4⟩ := h
    exact ⟨b, cap, arr, et, hl.trans h1, by rw [hb b cap h1]; exact h2, h3, fun j c hj => (h4 j c hj).keep hk (fun _ _ h => h) hc⟩
  | row k es =>
    unfold BRel at h ⊢
    obtain ⟨h1, h2, h3⟩ := h
    refine ⟨h1, h2, ?_⟩
    rw [hl]
    split at h3
    · exact h3
    · rename_i b cap hn
      obtain ⟨arr, et, e1, e2, e3, e4, e5⟩ := h3
      exact ⟨arr, et, by rw [hb b cap hn]; exact e1, e2, e3, e4, fun i e j c hi hj => ⟨(e5 i e j c hi hj).1, (e5 i e j c hi hj).2.keep hk⟩⟩
  | obj J =>
    obtain ⟨cs, b, cap, arr, et, h0, h0', h1, h2, h3, h4⟩ := h
    exact ⟨cs, b, cap, arr, et, h0, h0', hl.trans h1, by rw [hb b cap h1]; exact h2, h3, fun j c hj => (h4 j c hj).keep hk⟩
theorem BRel.keepKill (κ : Nat) (hk : Keeps w M w' M') (hc : ∀ key B, key ≠ κ → hget H key = some B → ∃ B', hget H' key = some B' ∧ B.le B' ∧ L' key = L key ∧ (L key = none → B = B'))
    {key : Nat} {B : ABlk} (hb : ∀ b cap, L key = some (b, cap) → w'.heap[b]? = w.heap[b]?) (hl : L' key = L key) (h : BRel w M L H S key B) : BRel w' M' L' H' S key (B.kill κ) := by
  cases B with
  | cells cs =>
    obtain ⟨b, cap, arr, et, h1, h2, h3, h4⟩ := h
    refine ⟨b, cap, arr, et, hl.trans h1, by rw [hb b cap h1]; exact h2, by simp [AV.killL_eq, h3], fun j c hj => ?_⟩
    rw [AV.killL_eq, List.getElem?_map] at hj
    obtain ⟨d, hd, rfl⟩ := Option.map_eq_some_iff.1 hj
    exact (h4 j d hd).keepKill κ hk (fun _ _ h => h) hc
  | row k es =>
    unfold BRel at h
    unfold ABlk.kill BRel
    obtain ⟨h1, h2, h3⟩ := h
    refine ⟨h1, h2, ?_⟩
    rw [hl]
    split at h3
    · exact h3
    · rename_i b cap hn
      obtain ⟨arr, et, e1, e2, e3, e4, e5⟩ := h3
      exact ⟨arr, et, by rw [hb b cap hn]; exact e1, e2, e3, e4, fun i e j c hi hj => ⟨(e5 i e j c hi hj).1, (e5 i e j c hi hj).2.keep hk⟩⟩
  | obj J =>
    obtain ⟨cs, b, cap, arr, et, h0, h0', h1, h2, h3, h4⟩ := h
    exact ⟨cs, b, cap, arr, et, h0, h0', hl.trans h1, by rw [hb b cap h1]; exact h2, h3, fun j c hj => (h4 j c hj).keep hk⟩
theorem ABlk.le_refl (B : ABlk) : B.le B := by cases B <;> simp [ABlk.le]
theorem ABlk.le_kill (κ : Nat) (B : ABlk) : B.le (B.kill κ) := by cases B <;> simp [ABlk.le, ABlk.kill]
end

section
variable {G : Glob} {E : Base} {S : (List PV → Prop × PV) → Value → Prop} {N : Nat} {st : ASt} {a : Array Value} {w w' : World} {L : Locs}

def locSet (L : Locs) (κ : Nat) (x : Option (Nat × Nat)) : Locs := fun k => if k = κ then x else L k

/-- A NEW BLOCK of the call's own, at a key that is free. -/
theorem Rel.newBlock (h : Rel G E S N st a w L) {κ : Nat} (hκ : hget st.H κ = none) {B : ABlk} {arr : Array Value} {et : TypeId} {cap : Nat} {w1 : World} (hw1 : Ext NoB w w1) (hs : w1.heap.size = w.heap.size)
    (hB : ∀ M' L' H', Keeps w (Mut E L st.H) (w1.alloc (.cells arr et)) M' → (∀ key B, hget st.H key = some B → ∃ B', hget H' key = some B' ∧ B.le B' ∧ L' key = L key ∧ (L key = none → B = B')) →
      L' κ = some (w.heap.size, cap) → (w1.alloc (.cells arr et)).heap[w.heap.size]? = some (.cells arr et (0, 0)) → BRel (w1.alloc (.cells arr et)) M' L' H' S κ B) :
    Rel G E S N { st with H := hset st.H κ B } a (w1.alloc (.cells arr et)) (locSet L κ (some (w.heap.size, cap))) ∧
      Keeps w (Mut E L st.H) (w1.alloc (.cells arr et)) (Mut E (locSet L κ (some (w.heap.size, cap))) (hset st.H κ B)) := by
  have hne : ∀ key B, hget st.H key = some B → key ≠ κ := fun key B hb e => by rw [e, hκ] at hb; cases hb
  have hc : ∀ key B0, hget st.H key = some B0 → ∃ B', hget (hset st.H κ B) key = some B' ∧ B0.le B' ∧ (locSet L κ (some (w.heap.size, cap))) key = L key ∧ (L key = none → B0 = B') :=
    fun key B0 hb => ⟨B0, by rw [hget_hset_ne _ _ (Ne.symm (hne key B0 hb))]; exact hb, ABlk.le_refl _, by simp [locSet, hne key B0 hb], fun _ => rfl⟩
  have hnew : (w1.alloc (.cells arr et)).heap[w.heap.size]? = some (.cells arr et (0, 0)) := by rw [← hs]; exact heap_alloc_new w1 _
  have hold : ∀ b, b < w.heap.size → (w1.alloc (.cells arr et)).heap[b]? = w.heap[b]? := fun b hb => by
    rw [heap_alloc_old w1 _ (by omega : b < w1.heap.size)]; exact hw1.block b hb id
  have hMut : ∀ b, Mut E (locSet L κ (some (w.heap.size, cap))) (hset st.H κ B) b → Mut E L st.H b ∨ b = w.heap.size := by
    intro b hb
    rcases hb with hb | ⟨key, B0, c0, h1, h2⟩
    · exact .inl (.inl hb)
    · by_cases e : key = κ
      · subst e
        simp only [locSet, if_true, Option.some.injEq, Prod.mk.injEq] at h2
        exact .inr h2.1.symm
      · rw [hget_hset_ne _ _ (Ne.symm e)] at h1
        simp only [locSet, e, if_false] at h2
        exact .inl (.inr ⟨key, B0, c0, h1, h2⟩)
  have hk : Keeps w (Mut E L st.H) (w1.alloc (.cells arr et)) (Mut E (locSet L κ (some (w.heap.size, cap))) (hset st.H κ B)) := fun b hb hm =>
    ⟨hold b hb, fun hm' => (hMut b hm').elim hm (fun e => by omega)⟩
  have hext : Ext NoB w (w1.alloc (.cells arr et)) := hw1.trans ⟨rfl, rfl, rfl, by simp, fun b hb _ => heap_alloc_old w1 _ hb, fun a _ => frozen_alloc _ _ _ _⟩
  refine ⟨{ size := h.size, ext := h.ext.trans hext.of_nob, glob := h.glob, old := h.old, m0 := h.m0, inv := ?_, own := ?_, inj := ?_, blk := ?_, env := ?_, fix := ?_ }, hk⟩
  · exact G.stable w _ h.inv (fun b hb => hold b (Nat.lt_of_lt_of_le hb (Nat.le_trans h.glob h.ext.size))) hext.size
  · intro key B0 b c0 h1 h2
    by_cases e : key = κ
    · subst e
      simp only [locSet, if_true, Option.some.injEq, Prod.mk.injEq] at h2
      have hsz := h.ext.size
      refine ⟨fun hx => ?_, ?_, .inr ?_⟩
      · have := (h.old b hx).1; omega
      · have := h.glob; omega
      · omega
    · simp only [hget_hset_ne _ _ (Ne.symm e)] at h1
      simp only [locSet, e, if_false] at h2
      exact h.own key B0 b c0 h1 h2
  · intro k1 k2 B1 B2 b c1 c2 h1 h2 h3 h4
    have old_lt : ∀ k B0 c0, hget st.H k = some B0 → L k = some (b, c0) → b < w.heap.size := fun k B0 c0 g1 g2 => h.mut_lt (.inr ⟨k, B0, c0, g1, g2⟩)
    by_cases e1 : k1 = κ <;> by_cases e2 : k2 = κ
    · rw [e1, e2]
    · simp only [hget_hset_ne _ _ (Ne.symm e2)] at h2
      simp only [locSet, e1, e2, if_false, if_true, Option.some.injEq, Prod.mk.injEq] at h3 h4
      have := old_lt k2 B2 c2 h2 h4; omega
    · simp only [hget_hset_ne _ _ (Ne.symm e1)] at h1
      simp only [locSet, e1, e2, if_false, if_true, Option.some.injEq, Prod.mk.injEq] at h3 h4
      have := old_lt k1 B1 c1 h1 h3; omega
    · simp only [hget_hset_ne _ _ (Ne.symm e1)] at h1
      simp only [hget_hset_ne _ _ (Ne.symm e2)] at h2
      simp only [locSet, e1, e2, if_false] at h3 h4
      exact h.inj k1 k2 B1 B2 b c1 c2 h1 h2 h3 h4
  · intro key B0 hb
    by_cases e : key = κ
    · subst e
      simp only [hget_hset_same, Option.some.injEq] at hb
      subst hb
      exact hB _ _ _ hk hc (by simp [locSet]) hnew
    · simp only [hget_hset_ne _ _ (Ne.symm e)] at hb
      exact (h.blk key B0 hb).keepAll hk hc (fun b cap' hl => hold b (h.mut_lt (.inr ⟨key, B0, cap', hb, hl⟩))) (by simp [locSet, e])
  · intro s
    exact (h.env s).keep hk (fun _ _ h => h) hc
  · intro k b c hl
    obtain ⟨h1, B0, h2, h3⟩ := h.fix k b c hl
    have e := hne k B0 h2
    exact ⟨by simp [locSet, e, h1], B0, by rw [hget_hset_ne _ _ (Ne.symm e)]; exact h2, h3⟩

/-- A block of the call's own IS WRITTEN, and stays of its kind. -/
theorem Rel.writeBlock (h : Rel G E S N st a w L) {κ b cap : Nat} {B B' : ABlk} (hκ : hget st.H κ = some B) (hl : L κ = some (b, cap)) (hle : B.le B')
    (hw : ∀ k, k ≠ b → w'.heap[k]? = w.heap[k]?) (hsz : w'.heap.size = w.heap.size) (hos : w'.os = w.os) (htp : w'.tape = w.tape) (hout : w'.output = w.output) (hfz : ∀ a : Addr, w'.frozen? a = w.frozen? a)
    (hB : ∀ M' H', Keeps w (Mut E L st.H) w' M' → (∀ key B, hget st.H key = some B → ∃ B', hget H' key = some B' ∧ B.le B' ∧ L key = L key ∧ (L key = none → B = B')) → BRel w' M' L H' S κ B') :
    Rel G E S N { st with H := hset st.H κ B' } a w' L := by
  have hc : ∀ key B0, hget st.H key = some B0 → ∃ B1, hget (hset st.H κ B') key = some B1 ∧ B0.le B1 ∧ L key = L key ∧ (L key = none → B0 = B1) := by
    intro key B0 hb
    by_cases e : key = κ
    · subst e
      rw [hκ] at hb
      simp only [Option.some.injEq] at hb
      subst hb
      exact ⟨B', hget_hset_same _ _ _, hle, rfl, fun hn => by rw [hl] at hn; cases hn⟩
    · exact ⟨B0, by rw [hget_hset_ne _ _ (Ne.symm e)]; exact hb, ABlk.le_refl _, rfl, fun _ => rfl⟩
  have hb0 : Own L st.H b := ⟨κ, B, cap, hκ, hl⟩
  have hMut : ∀ x, Mut E L (hset st.H κ B') x → Mut E L st.H x := by
    intro x hx
    rcases hx with hx | ⟨key, B0, c0, h1, h2⟩
    · exact .inl hx
    · by_cases e : key = κ
      · subst e; exact .inr ⟨key, B, c0, hκ, h2⟩
      · rw [hget_hset_ne _ _ (Ne.symm e)] at h1; exact .inr ⟨key, B0, c0, h1, h2⟩
  have hk : Keeps w (Mut E L st.H) w' (Mut E L (hset st.H κ B')) := fun x hx hm => ⟨hw x (fun e => hm (by rw [e]; exact .inr hb0)), fun hm' => hm (hMut x hm')⟩
  have hown := h.own κ B b cap hκ hl
  refine { size := h.size, ext := ?_, glob := h.glob, old := h.old, m0 := h.m0, inv := ?_, own := ?_, inj := ?_, blk := ?_, env := ?_, fix := ?_ }
  · refine h.ext.trans' (M' := fun x => x = b) ⟨hos, htp, hout, by omega, fun x hx hn => hw x hn, fun a _ => hfz a⟩ (fun x hx => ?_)
    have hx : x = b := hx
    subst hx
    exact hown.2.2
  · exact G.stable w w' h.inv (fun x hx => hw x (by have := hown.2.1; omega)) (by omega)
  · intro key B0 x c0 h1 h2
    by_cases e : key = κ
    · subst e; exact h.own key B x c0 hκ h2
    · simp only [hget_hset_ne _ _ (Ne.symm e)] at h1; exact h.own key B0 x c0 h1 h2
  · intro k1 k2 B1 B2 x c1 c2 h1 h2 h3 h4
    have get : ∀ k B0, hget (hset st.H κ B') k = some B0 → ∃ B1, hget st.H k = some B1 := fun k B0 hg => by
      by_cases e : k = κ
      · subst e; exact ⟨B, hκ⟩
      · rw [hget_hset_ne _ _ (Ne.symm e)] at hg; exact ⟨B0, hg⟩
    obtain ⟨B1', h1'⟩ := get k1 B1 h1
    obtain ⟨B2', h2'⟩ := get k2 B2 h2
    exact h.inj k1 k2 B1' B2' x c1 c2 h1' h2' h3 h4
  · intro key B0 hb
    by_cases e : key = κ
    · subst e
      simp only [hget_hset_same, Option.some.injEq] at hb
      subst hb
      exact hB _ _ hk hc
    · simp only [hget_hset_ne _ _ (Ne.symm e)] at hb
      exact (h.blk key B0 hb).keepAll hk hc (fun x cap' hl' => hw x (fun ex => e (by subst ex; exact h.inj key κ B0 B x cap' cap hb hκ hl' hl))) rfl
  · intro s
    exact (h.env s).keep hk (fun _ _ h => h) hc
  · intro k b0 c0 hl0
    obtain ⟨h1, B0, h2, h3⟩ := h.fix k b0 c0 hl0
    obtain ⟨B1, h4, h5, _⟩ := hc k B0 h2
    exact ⟨h1, B1, h4, ABlk.le_var h5 h3⟩

/-- A block of the call's own IS CHANGED, or gives way to a new one: its old handles are forgotten. -/
theorem Rel.turnBlock (h : Rel G E S N st a w L) {κ : Nat} {B B' : ABlk} (hκ : hget st.H κ = some B) (hnv : B.isVar = false) {x : Option (Nat × Nat)}
    (hw : ∀ k, k < w.heap.size → (∀ b cap, L κ = some (b, cap) → k ≠ b) → w'.heap[k]? = w.heap[k]?) (hsz : w.heap.size ≤ w'.heap.size) (hos : w'.os = w.os) (htp : w'.tape = w.tape) (hout : w'.output = w.output) (hfz : ∀ a : Addr, w'.frozen? a = w.frozen? a)
    (hx : ∀ b cap, x = some (b, cap) → (∃ cap', L κ = some (b, cap')) ∨ w.heap.size ≤ b)
    (hB : ∀ M' L' H', Keeps w (Mut E L st.H) w' M' → (∀ key B, key ≠ κ → hget st.H key = some B → ∃ B', hget H' key = some B' ∧ B.le B' ∧ L' key = L key ∧ (L key = none → B = B')) → L' κ = x → BRel w' M' L' H' S κ B') :
    Rel G E S N { ρ := killR κ st.ρ, H := hset (killH κ st.H) κ B' } a w' (locSet L κ x) ∧
      Keeps w (Mut E L st.H) w' (Mut E (locSet L κ x) (hset (killH κ st.H) κ B')) := by
  have hgetK : ∀ key B0, key ≠ κ → hget (hset (killH κ st.H) κ B') key = some B0 → ∃ B1, hget st.H key = some B1 ∧ B0 = B1.kill κ := by
    intro key B0 e hb
    rw [hget_hset_ne _ _ (Ne.symm e), hget_killH] at hb
    obtain ⟨B1, h1, h2⟩ := Option.map_eq_some_iff.1 hb
    exact ⟨B1, h1, h2.symm⟩
  have hnoneRow : ∀ key B0, hget st.H key = some B0 → L key = none → B0 = B0.kill κ := by
    intro key B0 hb hn
    cases B0 with
    | cells cs => obtain ⟨b, cap, arr, et, h1, _⟩ := h.blk key _ hb; rw [hn] at h1; cases h1
    | row => rfl
    | obj J => rfl
  have hc : ∀ key B0, key ≠ κ → hget st.H key = some B0 → ∃ B1, hget (hset (killH κ st.H) κ B') key = some B1 ∧ B0.le B1 ∧ (locSet L κ x) key = L key ∧ (L key = none → B0 = B1) := by
    intro key B0 e hb
    exact ⟨B0.kill κ, by rw [hget_hset_ne _ _ (Ne.symm e), hget_killH, hb]; rfl, ABlk.le_kill _ _, by simp [locSet, e], fun hn => hnoneRow key B0 hb hn⟩
  have hMut : ∀ y, Mut E (locSet L κ x) (hset (killH κ st.H) κ B') y → Mut E L st.H y ∨ w.heap.size ≤ y := by
    intro y hy
    rcases hy with hy | ⟨key, B0, c0, h1, h2⟩
    · exact .inl (.inl hy)
    · by_cases e : key = κ
      · subst e
        simp only [locSet, if_true] at h2
        rcases hx y c0 h2 with ⟨cap', h3⟩ | h3
        · exact .inl (.inr ⟨key, B, cap', hκ, h3⟩)
        · exact .inr h3
      · obtain ⟨B1, h3, _⟩ := hgetK key B0 e h1
        simp only [locSet, e, if_false] at h2
        exact .inl (.inr ⟨key, B1, c0, h3, h2⟩)
  have hk : Keeps w (Mut E L st.H) w' (Mut E (locSet L κ x) (hset (killH κ st.H) κ B')) := fun y hy hm =>
    ⟨hw y hy (fun b cap hl e => hm (by rw [e]; exact .inr ⟨κ, B, cap, hκ, hl⟩)), fun hm' => (hMut y hm').elim hm (fun e => by omega)⟩
  refine ⟨{ size := h.size, ext := ?_, glob := h.glob, old := h.old, m0 := h.m0, inv := ?_, own := ?_, inj := ?_, blk := ?_, env := ?_, fix := ?_ }, hk⟩
  · refine h.ext.trans' (M' := fun y => ∃ cap, L κ = some (y, cap)) ⟨hos, htp, hout, hsz, fun y hy hn => hw y hy (fun b cap hl e => hn ⟨cap, by rw [e]; exact hl⟩), fun a _ => hfz a⟩ (fun y hy => ?_)
    obtain ⟨cap, hy⟩ := hy
    exact (h.own κ B y cap hκ hy).2.2
  · refine G.stable w w' h.inv (fun y hy => hw y (Nat.lt_of_lt_of_le hy (Nat.le_trans h.glob h.ext.size)) (fun b cap hl e => ?_)) hsz
    have := (h.own κ B b cap hκ hl).2.1
    omega
  · intro key B0 y c0 h1 h2
    by_cases e : key = κ
    · subst e
      simp only [locSet, if_true] at h2
      rcases hx y c0 h2 with ⟨cap', h3⟩ | h3
      · exact h.own key B y cap' hκ h3
      · have := h.ext.size; have := h.glob
        exact ⟨fun hX => by have := (h.old y hX).1; omega, by omega, .inr (by omega)⟩
    · obtain ⟨B1, h3, _⟩ := hgetK key B0 e h1
      simp only [locSet, e, if_false] at h2
      exact h.own key B1 y c0 h3 h2
  · intro k1 k2 B1 B2 y c1 c2 h1 h2 h3 h4
    have old_lt : ∀ k B0 c0, hget st.H k = some B0 → L k = some (y, c0) → y < w.heap.size := fun k B0 c0 g1 g2 => h.mut_lt (.inr ⟨k, B0, c0, g1, g2⟩)
    by_cases e1 : k1 = κ <;> by_cases e2 : k2 = κ
    · rw [e1, e2]
    · obtain ⟨B2', h2', _⟩ := hgetK k2 B2 e2 h2
      simp only [locSet, e1, e2, if_false, if_true] at h3 h4
      rcases hx y c1 h3 with ⟨cap', h5⟩ | h5
      · rw [e1]; exact h.inj κ k2 B B2' y cap' c2 hκ h2' h5 h4
      · have := old_lt k2 B2' c2 h2' h4; omega
    · obtain ⟨B1', h1', _⟩ := hgetK k1 B1 e1 h1
      simp only [locSet, e1, e2, if_false, if_true] at h3 h4
      rcases hx y c2 h4 with ⟨cap', h5⟩ | h5
      · rw [e2]; exact h.inj k1 κ B1' B y c1 cap' h1' hκ h3 h5
      · have := old_lt k1 B1' c1 h1' h3; omega
    · obtain ⟨B1', h1', _⟩ := hgetK k1 B1 e1 h1
      obtain ⟨B2', h2', _⟩ := hgetK k2 B2 e2 h2
      simp only [locSet, e1, e2, if_false] at h3 h4
      exact h.inj k1 k2 B1' B2' y c1 c2 h1' h2' h3 h4
  · intro key B0 hb
    by_cases e : key = κ
    · subst e
      simp only [hget_hset_same, Option.some.injEq] at hb
      subst hb
      exact hB _ _ _ hk hc (by simp [locSet])
    · obtain ⟨B1, h3, rfl⟩ := hgetK key B0 e hb
      refine (h.blk key B1 h3).keepKill κ hk hc (fun y cap' hl' => ?_) (by simp [locSet, e])
      refine hw y (h.mut_lt (.inr ⟨key, B1, cap', h3, hl'⟩)) (fun b cap hl ey => e ?_)
      subst ey
      exact h.inj key κ B1 B y cap' cap h3 hκ hl' hl
  · intro s
    exact (h.env s).keepKill κ hk (fun _ _ h => h) hc
  · intro k b0 c0 hl0
    obtain ⟨h1, B0, h2, h3⟩ := h.fix k b0 c0 hl0
    have e : k ≠ κ := fun e => by subst e; rw [hκ] at h2; simp only [Option.some.injEq] at h2; subst h2; rw [hnv] at h3; cases h3
    obtain ⟨B1, h4, h5, _⟩ := hc k B0 e h2
    exact ⟨by simp [locSet, e, h1], B1, h4, ABlk.le_var h5 h3⟩
end
end Go.AM
