/-
  A part of a proof: see the last text of this claim for what is proved.
-/
import Derived.Test.YtjeolgjiakpenaaDoorAMi
namespace Go.AM
open Go
set_option linter.unusedSimpArgs false
set_option linter.unusedVariables false

section
variable {w : World} {M : Nat → Prop} {L : Locs} {H : AHeap} {S : (List PV → Prop × PV) → Value → Prop} {P : Program}

/-- Cells in an array, one by one. -/
def CRel (w : World) (M : Nat → Prop) (L : Locs) (H : AHeap) (S : (List PV → Prop × PV) → Value → Prop) (cs : List AV) (arr : Array Value) : Prop :=
  arr.size = cs.length ∧ ∀ (j : Nat) (c : AV), cs[j]? = some c → AVRel w M L H S c (arr.getD j undef)

def putA : Nat → List Value → Array Value → Array Value
  | _, [], arr => arr
  | off, x :: xs, arr => putA (off + 1) xs (arr.setIfInBounds off x)

theorem CRel.set {cs : List AV} {arr : Array Value} (h : CRel w M L H S cs arr) (i : Nat) {v : AV} {x : Value} (hv : AVRel w M L H S v x) : CRel w M L H S (cs.set i v) (arr.setIfInBounds i x) := by
  obtain ⟨h1, h2⟩ := h
  refine ⟨by simp [h1], fun j c hc => ?_⟩
  rw [List.getElem?_set] at hc
  split at hc
  · rename_i e
    subst e
    split at hc
    · rename_i hlt
      simp only [Option.some.injEq] at hc
      subst hc
      have : (arr.setIfInBounds i x).getD i undef = x := by simp [Array.getD_eq_getD_getElem?, h1, hlt]
      rw [this]; exact hv
    · cases hc
  · rename_i e
    have : (arr.setIfInBounds i x).getD j undef = arr.getD j undef := by
      simp only [Array.getD_eq_getD_getElem?]
      rw [Array.getElem?_setIfInBounds_ne e]
    rw [this]; exact h2 j c hc
theorem CRel.put {vs : List AV} {xs : List Value} (hv : LRel w M L H S vs xs) : ∀ (off : Nat) {cs : List AV} {arr : Array Value}, CRel w M L H S cs arr → CRel w M L H S (putL off vs cs) (putA off xs arr) := by
  induction hv with
  | nil => intro off cs arr h; exact h
  | cons v x vs xs h1 _ ih => intro off cs arr h; exact ih (off + 1) (h.set off h1)

theorem fold_putA : ∀ (xs : List Value) (k off : Nat) (arr : Array Value), ((xs.zipIdx k).foldl (fun cs (cj : Value × Nat) => cs.setIfInBounds (off + cj.2) cj.1) arr) = putA (off + k) xs arr
  | [], _, _, _ => rfl
  | x :: xs, k, off, arr => by
    simp only [List.zipIdx_cons, List.foldl_cons, putA]
    rw [fold_putA xs (k + 1) off]
    rfl
theorem fold_cells (v : Value) (off : Nat) (arr : Array Value) : (v.cells.zipIdx.foldl (fun cs (x : Value × Nat) => match x with | (c, j) => cs.setIfInBounds (off + j) c) arr) = putA off v.cells.toList arr := by
  have := fold_putA v.cells.toList 0 off arr
  simp only [Nat.add_zero] at this
  rw [← this, ← Array.foldl_toList, Array.toList_zipIdx]

/-- A value's cells. -/
theorem cellsA_rel {v : AV} {x : Value} (h : (cellsA v).all AV.one = true) (hx : AVRel w M L H S v x) : LRel w M L H S (cellsA v) x.cells.toList := by
  unfold cellsA at h ⊢
  split at h
  · rename_i cs
    have hp := pv_inv hx
    cases hp with
    | agg _ vs hs ho hr =>
      refine LRel.of_idx (by simp [Value.cells, hs]) (fun i c hc => ?_)
      rw [List.getElem?_map] at hc
      obtain ⟨p, hp, rfl⟩ := Option.map_eq_some_iff.1 hc
      have := hr i p hp
      simp only [Value.cells]
      have e : vs.toList.getD i undef = vs.getD i undef := by simp [List.getD_eq_getElem?_getD, Array.getD_eq_getD_getElem?]
      rw [e]; exact .pv _ _ this
  · rename_i cs
    cases hx with
    | agg _ vs hs hr =>
      refine LRel.of_idx (by simp [Value.cells, hs]) (fun i c hc => ?_)
      simp only [Value.cells]
      have e : vs.toList.getD i undef = vs.getD i undef := by simp [List.getD_eq_getElem?_getD, Array.getD_eq_getD_getElem?]
      rw [e]; exact hr i c hc
  · rename_i h1 h2
    simp only [List.all_cons, List.all_nil, Bool.and_true] at h
    have : x.cells = #[x] := by
      cases v <;> simp only [AV.one] at h <;> try (cases h; done)
      · rename_i p
        have hp := pv_inv hx
        cases hp <;> first | rfl | simp [PV.one] at h
      all_goals (cases hx <;> rfl)
    rw [this]
    exact .cons _ _ _ _ hx .nil

theorem fillA_run {place : Nat → Option (Nat × Nat)} {pl : Nat → Option (Nat × Nat)} (hpl : ∀ i x, place i = some x → pl i = some x) :
    ∀ (parts : List (Nat × AV)) (xs : List (Nat × Value)) (cells cs : List AV) (arr : Array Value), fillA place cells parts = some cs → parts.all (fun x => (cellsA x.2).all AV.one) = true → CRel w M L H S cells arr →
      xs.map (·.1) = parts.map (·.1) → LRel w M L H S (parts.map (·.2)) (xs.map (·.2)) → ∃ arr', Instr.fill pl arr xs = some arr' ∧ CRel w M L H S cs arr' := by
  intro parts
  induction parts with
  | nil =>
    intro xs cells cs arr h _ hc hm hr
    cases xs with
    | nil => simp only [fillA, Option.some.injEq] at h; subst h; exact ⟨arr, rfl, hc⟩
    | cons => simp at hm
  | cons p parts ih =>
    intro xs cells cs arr h ho hc hm hr
    obtain ⟨i, v⟩ := p
    cases xs with
    | nil => simp at hm
    | cons y xs =>
      obtain ⟨i', x⟩ := y
      simp only [List.map_cons, List.cons.injEq] at hm
      obtain ⟨rfl, hm⟩ := hm
      simp only [List.map_cons] at hr
      cases hr with
      | cons _ _ _ _ h1 h2 =>
        simp only [List.all_cons, Bool.and_eq_true] at ho
        simp only [fillA] at h
        split at h
        · cases h
        · next off size hplace =>
            split at h
            · rename_i hcond
              obtain ⟨hl, hb⟩ := hcond
              have hcr := cellsA_rel ho.1 h1
              have hlen : x.cells.size = size := by rw [← Array.length_toList, ← hcr.length, hl]
              obtain ⟨arr', ha, hcr'⟩ := ih xs (putL off (cellsA v) cells) cs (putA off x.cells.toList arr) h ho.2 (CRel.put hcr off hc) hm h2
              refine ⟨arr', ?_, hcr'⟩
              unfold Instr.fill
              rw [hpl _ _ hplace]
              have hsz := hc.1
              have : (decide (x.cells.size ≠ size) || decide (off + x.cells.size > arr.size)) = false := by
                simp [hlen]; omega
              simp only [this, Bool.false_eq_true, if_false]
              rw [fold_cells]
              exact ha
            · cases h

theorem run_zeroT {t : TypeId} {z : Value} (h : zeroT P t = some z) (w : World) : (zeroValue t).run P w = .ok z w := by
  unfold zeroT at h
  obtain ⟨i, hi, hz⟩ := Option.bind_eq_some_iff.1 h
  simp [zeroValue, typeInfo, hi, hz]

theorem run_mapM_places {fs : List Field} (h : fs.all (fun f => (szOf P f.type).isSome) = true) (w : World) :
    ∃ l : List (Nat × Nat), ((fs.mapM fun f => do pure (f.offset, ← sizeOf f.type) : Sem (List (Nat × Nat)))).run P w = .ok l w ∧ ∀ (i : Nat) x, fieldPlaces P fs i = some x → l[i]? = some x := by
  induction fs with
  | nil => exact ⟨[], rfl, fun i x hx => by simp [fieldPlaces] at hx⟩
  | cons f fs ih =>
    simp only [List.all_cons, Bool.and_eq_true] at h
    obtain ⟨n, hn⟩ := Option.isSome_iff_exists.1 h.1
    obtain ⟨l, hl, hp⟩ := ih h.2
    refine ⟨(f.offset, n) :: l, ?_, fun i x hx => ?_⟩
    · simp only [List.mapM_cons, Sem.run_bind, run_szOf hn, Result.andThen_ok, Sem.run_pure, hl]
    · cases i with
      | zero => simp only [fieldPlaces, List.getElem?_cons_zero, hn, Option.map_some, Option.some.injEq] at hx; simp [hx]
      | succ i => simpa using hp i x (by simpa [fieldPlaces] using hx)

theorem packA_rel {cs : List AV} {arr : Array Value} (h : CRel w M L H S cs arr) (ho : ∀ c, c ∈ cs → c.one = true) : AVRel w M L H S (packA cs) (.agg arr) := by
  unfold packA
  split
  · rename_i ps hps
    have hr : LRel w M L H S cs arr.toList := LRel.of_idx (by simp [h.1]) (fun i v hv => by
      have e : arr.toList.getD i undef = arr.getD i undef := by simp [List.getD_eq_getElem?_getD, Array.getD_eq_getD_getElem?]
      rw [e]; exact h.2 i v hv)
    obtain ⟨h1, h2⟩ := pvL_rel hps hr
    refine .pv _ _ (.agg _ _ (by simpa using h1) (fun c hc => ?_) (fun i c hc => ?_))
    · have : ∀ (l : List AV) (qs : List PV), pvL l = some qs → (∀ c, c ∈ l → c.one = true) → ∀ q, q ∈ qs → q.one = true := by
        intro l
        induction l with
        | nil => intro qs hq _ q hm; simp only [pvL, Option.some.injEq] at hq; subst hq; simp at hm
        | cons v l ih =>
          intro qs hq ho q hm
          cases v <;> simp only [pvL] at hq <;> try (cases hq; done)
          obtain ⟨rs, hrs, rfl⟩ := Option.map_eq_some_iff.1 hq
          rcases List.mem_cons.1 hm with rfl | hm
          · exact ho _ List.mem_cons_self
          · exact ih rs hrs (fun c hc => ho c (List.mem_cons_of_mem _ hc)) q hm
      exact this cs ps hps ho c hc
    · have e : arr.toList.getD i undef = arr.getD i undef := by simp [List.getD_eq_getElem?_getD, Array.getD_eq_getD_getElem?]
      rw [← e]; exact h2 i c hc
  · exact .agg _ _ h.1 h.2

theorem mem_set {α : Type} {l : List α} {i : Nat} {a x : α} (h : x ∈ l.set i a) : x = a ∨ x ∈ l := by
  rcases List.mem_or_eq_of_mem_set h with h | h
  · exact .inr h
  · exact .inl h
theorem mem_putL {vs : List AV} : ∀ {off : Nat} {cs : List AV} {x : AV}, x ∈ putL off vs cs → x ∈ vs ∨ x ∈ cs := by
  induction vs with
  | nil => intro off cs x h; exact .inr h
  | cons v vs ih =>
    intro off cs x h
    rcases ih h with h | h
    · exact .inl (List.mem_cons_of_mem _ h)
    · rcases mem_set h with rfl | h
      · exact .inl List.mem_cons_self
      · exact .inr h
theorem fillA_mem {place : Nat → Option (Nat × Nat)} : ∀ (parts : List (Nat × AV)) (cells cs : List AV), fillA place cells parts = some cs → parts.all (fun x => (cellsA x.2).all AV.one) = true →
    (∀ c, c ∈ cells → c.one = true) → ∀ c, c ∈ cs → c.one = true := by
  intro parts
  induction parts with
  | nil => intro cells cs h _ hc; simp only [fillA, Option.some.injEq] at h; subst h; exact hc
  | cons p parts ih =>
    intro cells cs h ho hc
    obtain ⟨i, v⟩ := p
    simp only [List.all_cons, Bool.and_eq_true] at ho
    simp only [fillA] at h
    split at h
    · cases h
    · next off size hplace =>
        split at h
        · refine ih _ _ h ho.2 (fun c hm => ?_)
          rcases mem_putL hm with hm | hm
          · exact List.all_eq_true.1 ho.1 c hm
          · exact hc c hm
        · cases h

theorem buildA_run {t : TypeId} {parts : List (Nat × AV)} {xs : List (Nat × Value)} (h : (buildA P t parts).1) (hm : xs.map (·.1) = parts.map (·.1)) (hr : LRel w M L H S (parts.map (·.2)) (xs.map (·.2))) :
    ∃ y, (Instr.build t xs.toArray).run P w = .ok y w ∧ AVRel w M L H S (buildA P t parts).2 y := by
  unfold buildA at h ⊢
  split at h
  · rename_i z hz
    split at h
    · rename_i fs hu
      split at h
      · rename_i cs hf
        obtain ⟨hsz, ho, hoz⟩ := h
        obtain ⟨l, hl, hpl⟩ := run_mapM_places hsz w
        have hz0 := cellsA_rel hoz (ofV_rel (w := w) (M := M) (L := L) (H := H) (S := S) z)
        have hc0 : CRel w M L H S (cellsA (ofV z)) z.cells := ⟨by rw [hz0.length]; simp, fun j c hc => by
          obtain ⟨x, hx, hr'⟩ := hz0.get j c hc
          have e : z.cells.getD j undef = x := by
            rw [Array.getElem?_toList] at hx
            simp [Array.getD_eq_getD_getElem?, hx]
          rw [e]; exact hr'⟩
        obtain ⟨arr, ha, hcr⟩ := fillA_run (pl := (l.toArray[·]?)) (fun i x hx => by simpa using hpl i x hx) parts xs _ cs z.cells hf ho hc0 hm hr
        refine ⟨.agg arr, ?_, packA_rel hcr (fillA_mem _ _ _ hf ho (fun c hc => List.all_eq_true.1 hoz c hc))⟩
        unfold Instr.build
        have hmap : (fs.mapM fun f => do pure (f.offset, ← sizeOf f.type) : Sem (Array (Nat × Nat))).run P w = .ok l.toArray w := by
          rw [← Array.toArray_toList (xs := fs), List.mapM_toArray]
          simp only [Sem.run_map, hl, Result.andThen_ok]
        simp only [Sem.run_bind, run_zeroT hz, Result.andThen_ok, run_underlying hu, hmap, ha, Sem.run_pure]
      · exact h.elim
    · rename_i len e hu
      split at h
      · rename_i n hn
        split at h
        · rename_i cs hf
          obtain ⟨ho, hoz⟩ := h
          have hz0 := cellsA_rel hoz (ofV_rel (w := w) (M := M) (L := L) (H := H) (S := S) z)
          have hc0 : CRel w M L H S (cellsA (ofV z)) z.cells := ⟨by rw [hz0.length]; simp, fun j c hc => by
            obtain ⟨x, hx, hr'⟩ := hz0.get j c hc
            have e : z.cells.getD j undef = x := by
              rw [Array.getElem?_toList] at hx
              simp [Array.getD_eq_getD_getElem?, hx]
            rw [e]; exact hr'⟩
          obtain ⟨arr, ha, hcr⟩ := fillA_run (pl := fun i => some (i * n, n)) (fun i x hx => hx) parts xs _ cs z.cells hf ho hc0 hm hr
          refine ⟨.agg arr, ?_, packA_rel hcr (fillA_mem _ _ _ hf ho (fun c hc => List.all_eq_true.1 hoz c hc))⟩
          unfold Instr.build
          simp only [Sem.run_bind, run_zeroT hz, Result.andThen_ok, run_underlying hu, run_szOf hn, ha, Sem.run_pure]
        · exact h.elim
      · exact h.elim
    · exact h.elim
  · exact h.elim
end
end Go.AM
