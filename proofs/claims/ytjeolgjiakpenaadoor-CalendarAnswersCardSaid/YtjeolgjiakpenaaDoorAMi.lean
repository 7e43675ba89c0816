/-
  A part of a proof: see the last text of this claim for what is proved.
-/
import Derived.Test.YtjeolgjiakpenaaDoorAMh
namespace Go.AM
open Go
set_option linter.unusedSimpArgs false
set_option linter.unusedVariables false

section
variable {w : World} {M : Nat → Prop} {L : Locs} {H : AHeap} {S : (List PV → Prop × PV) → Value → Prop} {P : Program}

/-- An operand that may be missing. -/
inductive ORel (w : World) (M : Nat → Prop) (L : Locs) (H : AHeap) (S : (List PV → Prop × PV) → Value → Prop) : Option AV → Option Value → Prop where
  | none : ORel w M L H S none none
  | some (v : AV) (x : Value) : AVRel w M L H S v x → ORel w M L H S (some v) (some x)

theorem natOf_inv {o : Option AV} {v : Option Value} {d : Nat} {n : Int} (h : natOf o d = some n) (hr : ORel w M L H S o v) : (v = none ∧ n = d) ∨ ∃ k, v = some (.int k n) := by
  unfold natOf at h
  split at h
  · cases hr; simp only [Option.some.injEq] at h; exact .inl ⟨rfl, h.symm⟩
  · simp only [Option.some.injEq] at h
    subst h
    cases hr with
    | some v x hx => exact .inr ⟨_, by rw [int_inv hx]⟩
  · cases h

theorem run_sliceBound {k : IntKind} {n : Int} {y : Nat} {c : BoundsCode} (h0 : 0 ≤ n) (h1 : n ≤ y) : (Instr.sliceBound (.int k n) y c).run P w = .ok n.toNat w := by
  unfold Instr.sliceBound
  simp only [Sem.run_bind, run_asInt, Result.andThen_ok]
  rw [if_pos ⟨h0, h1⟩]; rfl

theorem run_sliceBounds {lo hi : Option AV} {vl vh : Option Value} {l h : Int} {len cap : Nat} (b : Bool) (hl : natOf lo 0 = some l) (hh : natOf hi len = some h)
    (rl : ORel w M L H S lo vl) (rh : ORel w M L H S hi vh) (h0 : 0 ≤ l) (h1 : l ≤ h) (h2 : h ≤ len) (h3 : len ≤ cap) :
    (Instr.sliceBounds b len cap vl vh none).run P w = .ok (l.toNat, h.toNat, cap) w := by
  unfold Instr.sliceBounds
  have hcap : h ≤ cap := by omega
  rcases natOf_inv hh rh with ⟨rfl, rfl⟩ | ⟨k, rfl⟩ <;> rcases natOf_inv hl rl with ⟨rfl, rfl⟩ | ⟨k', rfl⟩
  · simp
  · simp only [Sem.run_bind, Sem.run_pure, Result.andThen_ok, Option.isSome_none, Bool.false_eq_true, if_false]
    rw [run_sliceBound h0 h1]; simp
  · simp only [Sem.run_bind, Sem.run_pure, Result.andThen_ok]
    rw [run_sliceBound (by omega) hcap]; simp
  · simp only [Sem.run_bind, Sem.run_pure, Result.andThen_ok]
    rw [run_sliceBound (by omega) hcap]
    simp only [Result.andThen_ok, Option.isSome_none, Bool.false_eq_true, if_false]
    rw [run_sliceBound h0 (by omega)]; simp

theorem sliceA_run {t : TypeId} {x : AV} {vx : Value} {lo hi mx : Option AV} {vl vh vm : Option Value} (h : (sliceA P t x lo hi mx).1) (hx : AVRel w M L H S x vx)
    (rl : ORel w M L H S lo vl) (rh : ORel w M L H S hi vh) (rm : ORel w M L H S mx vm) :
    ∃ y, (Instr.sliceAt t vx vl vh vm).run P w = .ok y w ∧ AVRel w M L H S (sliceA P t x lo hi mx).2 y := by
  unfold sliceA at h ⊢
  split at h
  · rename_i s ht
    cases rm
    split at h
    · rename_i l hh hl hr
      obtain ⟨h0, h1, h2⟩ := h
      have hp := pv_inv hx
      cases hp
      refine ⟨.string ⟨((s.take hh.toNat).drop l.toNat).toArray⟩, ?_, .pv _ _ (.str _)⟩
      unfold Instr.sliceAt
      simp only [Sem.run_bind, run_underlying ht, Result.andThen_ok]
      unfold Instr.slice
      have hsz : (⟨s.toArray⟩ : ByteArray).size = s.length := by simp [ByteArray.size]
      have hb := run_sliceBounds (P := P) (w := w) (M := M) (L := L) (H := H) (S := S) false hl hr rl rh h0 h1 h2 (Nat.le_refl _)
      simp only [Sem.run_bind, run_underlying ht, Result.andThen_ok, Option.isSome_none, Bool.false_eq_true, if_false, hsz, hb, Sem.run_pure]
      rw [Lib.extract_eq]
      simp [List.drop_take]
    · exact h.elim
  · rename_i e es ht
    cases rm
    split at h
    · rename_i l hh hl hr
      obtain ⟨h0, h1, h2, hsz, hww⟩ := h
      obtain ⟨a, cap, k, b, o, val, rfl, g2, g3, g4, g5, g6, g7⟩ := sl_inv hx
      obtain ⟨sz, hsz⟩ := Option.isSome_iff_exists.1 hsz
      have hb := run_sliceBounds (P := P) (w := w) (M := M) (L := L) (H := H) (S := S) true hl hr rl rh h0 h1 h2 g2
      unfold Instr.sliceAt
      simp only [Sem.run_bind, run_underlying ht, Result.andThen_ok]
      unfold Instr.slice
      simp only [Sem.run_bind, run_underlying ht, Result.andThen_ok, hb, run_szOf hsz, Sem.run_pure]
      refine ⟨_, rfl, .pv _ _ ?_⟩
      have hlen : ((es.take hh.toNat).drop l.toNat).length = hh.toNat - l.toNat := by simp; omega
      have hrel : PVRel w M (.sl ((es.take hh.toNat).drop l.toNat)) (.slice (if cap = l.toNat then a else a.map fun x => x.add (l.toNat * sz)) ((es.take hh.toNat).drop l.toNat).length (cap - l.toNat)) := by
        refine .sl _ _ _ k b (o + l.toNat * k) (fun i j => val (l.toNat + i) j) (by omega) (by omega) (fun e he => g4 e (List.mem_of_mem_take (List.mem_of_mem_drop he))) (fun hne => ?_) (fun i e j c he hc => ?_) (fun i e j c he hc => ?_)
        · have hlt : l.toNat < hh.toNat := by
            have := List.length_pos_iff.2 hne
            omega
          have hne' : es ≠ [] := by intro e; subst e; simp at hne
          rw [if_neg (by omega), g5 hne']
          have hk : sz = k := by
            obtain ⟨p, hp⟩ := List.exists_mem_of_ne_nil _ hne'
            have h1 := hww p hp
            rw [g4 p hp, hsz] at h1
            exact Option.some.inj h1
          simp [Addr.add_lit, hk]
        · rw [List.getElem?_drop, List.getElem?_take] at he
          split at he
          · have := g6 _ e j c he hc
            rw [Nat.add_assoc o, ← Nat.add_mul]; exact this
          · cases he
        · rw [List.getElem?_drop, List.getElem?_take] at he
          split at he
          · exact g7 _ e j c he hc
          · cases he
      rw [hlen] at hrel
      exact hrel
    · exact h.elim
  · rename_i e ht
    cases rm
    split at h
    · rename_i l hh hl hr
      obtain ⟨rfl, rfl, hsz⟩ := h
      cases hx
      obtain ⟨sz, hsz⟩ := Option.isSome_iff_exists.1 hsz
      have hb := run_sliceBounds (P := P) (w := w) (M := M) (L := L) (H := H) (S := S) (len := 0) (cap := 0) true hl hr rl rh (by omega) (by omega) (by omega) (Nat.le_refl _)
      unfold Instr.sliceAt
      simp only [Sem.run_bind, run_underlying ht, Result.andThen_ok]
      unfold Instr.slice
      simp only [Sem.run_bind, run_underlying ht, Result.andThen_ok, hb, run_szOf hsz, Sem.run_pure]
      exact ⟨_, rfl, .pv _ _ (.sl [] none 0 0 0 0 (fun _ _ => undef) (by simp) (by simp [maxLen]) (by simp) (by simp) (by simp) (by simp))⟩
    · exact h.elim
  · exact h.elim

theorem isStrD_eq {d : Option TypeDesc} (h : isStrD d = true) : d = some .string := by
  unfold isStrD at h; split at h <;> simp_all
theorem isSliceD_eq {d : Option TypeDesc} (h : isSliceD d = true) : ∃ e, d = some (.slice e) := by
  unfold isSliceD at h; split at h <;> simp_all
theorem len_slice {t e ty : TypeId} {a : Option Addr} {n c : Nat} (he : P.underlying t = some (.slice e)) : (Builtin.len_ #[t] ty #[.slice a n c]).run P w = .ok (.int .i64 n) w := by
  simp [Builtin.len_, run_underlying he, goInt]
theorem len_string {t ty : TypeId} {s : ByteArray} (he : P.underlying t = some .string) : (Builtin.len_ #[t] ty #[.string s]).run P w = .ok (.int .i64 s.size) w := by
  simp [Builtin.len_, run_underlying he, goInt]
theorem lenA_run {t : TypeId} {v : AV} {x : Value} {ty : TypeId} (h : (lenA (P.underlying t) H v).1) (hx : AVRel w M L H S v x) :
    ∃ y, (Builtin.len_ #[t] ty #[x]).run P w = .ok y w ∧ AVRel w M L H S (lenA (P.underlying t) H v).2 y := by
  unfold lenA at h ⊢
  split at h
  · rename_i s
    have hp := pv_inv hx
    cases hp
    refine ⟨_, len_string (isStrD_eq h), .pv _ _ ?_⟩
    have : (⟨s.toArray⟩ : ByteArray).size = s.length := by simp [ByteArray.size]
    rw [this]; exact .int _ _
  · rename_i es
    obtain ⟨a, cap, k, b, o, val, rfl, g2, g3, g4, g5, g6, g7⟩ := sl_inv hx
    obtain ⟨e, he⟩ := isSliceD_eq h
    exact ⟨_, len_slice he, .pv _ _ (.int _ _)⟩
  · cases hx
    obtain ⟨e, he⟩ := isSliceD_eq h
    exact ⟨_, len_slice he, .pv _ _ (.int _ _)⟩
  · rename_i key hi
    split at h
    · obtain ⟨e, he⟩ := isSliceD_eq h
      rcases rs_inv hx with ⟨k2, g1, g2, g3, rfl⟩ | ⟨k2, es2, b, cap, g1, g2, g3, rfl⟩
      · subst g3
        exact ⟨_, len_slice he, .pv _ _ (.int _ _)⟩
      · exact ⟨_, len_slice he, .pv _ _ (.int _ _)⟩
    · exact h.elim
  · rename_i key lo hi
    split at h
    · obtain ⟨e, he⟩ := isSliceD_eq h
      obtain ⟨k2, es2, b, cap, cap', a, g1, g2, g3, g4, g5, g6, g7, rfl⟩ := rv_inv hx
      exact ⟨_, len_slice he, .pv _ _ (.int _ _)⟩
    · exact h.elim
  · exact h.elim

/-- Operands in a row. -/
inductive LRel (w : World) (M : Nat → Prop) (L : Locs) (H : AHeap) (S : (List PV → Prop × PV) → Value → Prop) : List AV → List Value → Prop where
  | nil : LRel w M L H S [] []
  | cons (v : AV) (x : Value) (vs : List AV) (xs : List Value) : AVRel w M L H S v x → LRel w M L H S vs xs → LRel w M L H S (v :: vs) (x :: xs)

theorem LRel.of_ops {ρ : Nat → AV} {a : Act} (he : ∀ s, AVRel w M L H S (ρ s) (a.tmps.getD s undef)) : ∀ (l : List Operand), allC ρ l → LRel w M L H S (l.map (Go.AM.ox ρ)) (l.map a.eval)
  | [], _ => .nil
  | x :: r, h => .cons _ _ _ _ (ox_rel he x h.1) (LRel.of_ops he r h.2)
theorem LRel.length {vs : List AV} {xs : List Value} (h : LRel w M L H S vs xs) : vs.length = xs.length := by
  induction h with
  | nil => rfl
  | cons v x vs xs _ _ ih => simp [ih]
theorem LRel.get {vs : List AV} {xs : List Value} (h : LRel w M L H S vs xs) : ∀ (i : Nat) (v : AV), vs[i]? = some v → ∃ x, xs[i]? = some x ∧ AVRel w M L H S v x := by
  induction h with
  | nil => intro i v hv; simp at hv
  | cons v x vs xs h1 _ ih =>
    intro i u hu
    cases i with
    | zero => simp at hu; subst hu; exact ⟨x, rfl, h1⟩
    | succ i => simpa using ih i u (by simpa using hu)
theorem LRel.append {vs us : List AV} {xs ys : List Value} (h : LRel w M L H S vs xs) (k : LRel w M L H S us ys) : LRel w M L H S (vs ++ us) (xs ++ ys) := by
  induction h with
  | nil => exact k
  | cons v x vs xs h1 _ ih => exact .cons _ _ _ _ h1 ih
theorem LRel.of_idx {vs : List AV} : ∀ {xs : List Value}, xs.length = vs.length → (∀ (i : Nat) (v : AV), vs[i]? = some v → AVRel w M L H S v (xs.getD i undef)) → LRel w M L H S vs xs := by
  induction vs with
  | nil => intro xs hl _; cases xs with | nil => exact .nil | cons => simp at hl
  | cons v vs ih =>
    intro xs hl h
    cases xs with
    | nil => simp at hl
    | cons x xs => exact .cons _ _ _ _ (by simpa using h 0 v rfl) (ih (by simpa using hl) (fun i u hu => by simpa using h (i + 1) u (by simpa using hu)))

theorem foldI_run (pick : Int → Int → Int) (f : Value → Value → Sem Value) (hf : ∀ k k' x y w, (f (.int k x) (.int k' y)).run P w = .ok (.int k (pick x y)) w) :
    ∀ (l : List AV) (xs : List Value) (k : IntKind) (a : Int) (k' : IntKind) (b : Int), foldI pick k a l = some (k', b) → LRel w M L H S l xs →
      (xs.foldlM f (.int k a)).run P w = .ok (.int k' b) w := by
  intro l
  induction l with
  | nil =>
    intro xs k a k' b h hr
    cases hr
    simp only [foldI, Option.some.injEq, Prod.mk.injEq] at h
    obtain ⟨rfl, rfl⟩ := h
    simp
  | cons v l ih =>
    intro xs k a k' b h hr
    cases hr with
    | cons _ x _ xs h1 h2 =>
      unfold foldI at h
      split at h
      · cases ‹_ :: _ = []›
      · rename_i heq
        simp only [List.cons.injEq] at heq
        obtain ⟨rfl, rfl⟩ := heq
        obtain rfl := int_inv h1
        simp only [List.foldlM_cons, Sem.run_bind, hf, Result.andThen_ok]
        exact ih _ _ _ _ _ h h2
      · cases h

theorem min_run {ts : Array TypeId} {ty : TypeId} {l : List AV} {xs : List Value} (h : (minmaxA (fun a b => if b < a then b else a) l).1) (hr : LRel w M L H S l xs) :
    ∃ y, (Builtin.min_ ts ty xs.toArray).run P w = .ok y w ∧ AVRel w M L H S (minmaxA (fun a b => if b < a then b else a) l).2 y := by
  unfold minmaxA at h ⊢
  split at h
  · cases hr with
    | cons _ x _ xs h1 h2 =>
      split at h
      · rename_i k a hf
        obtain rfl := int_inv h1
        refine ⟨_, ?_, .pv _ _ (.int k a)⟩
        unfold Builtin.min_
        exact foldI_run _ _ (fun k k' x y w => rfl) _ _ _ _ _ _ hf h2
      · exact h.elim
  · exact h.elim
theorem max_run {ts : Array TypeId} {ty : TypeId} {l : List AV} {xs : List Value} (h : (minmaxA (fun a b => if b > a then b else a) l).1) (hr : LRel w M L H S l xs) :
    ∃ y, (Builtin.max_ ts ty xs.toArray).run P w = .ok y w ∧ AVRel w M L H S (minmaxA (fun a b => if b > a then b else a) l).2 y := by
  unfold minmaxA at h ⊢
  split at h
  · cases hr with
    | cons _ x _ xs h1 h2 =>
      split at h
      · rename_i k a hf
        obtain rfl := int_inv h1
        refine ⟨_, ?_, .pv _ _ (.int k a)⟩
        unfold Builtin.max_
        exact foldI_run _ _ (fun k k' x y w => rfl) _ _ _ _ _ _ hf h2
      · exact h.elim
  · exact h.elim

theorem ifaceA_run {t : TypeId} {v : AV} {x : Value} (h : (ifaceA P t v).1) (hx : AVRel w M L H S v x) : ∃ y, (Instr.makeInterface t x).run P w = .ok y w ∧ AVRel w M L H S (ifaceA P t v).2 y := by
  unfold ifaceA at h ⊢
  split at h
  · have hp := pv_inv hx
    refine ⟨.iface t x, ?_, .pv _ _ (.iface _ _ _ hp)⟩
    unfold Instr.makeInterface
    cases hu : P.underlying t with
    | none => simp [hu] at h
    | some d =>
      simp only [Sem.run_bind, run_underlying hu, Result.andThen_ok]
      rw [hu] at h
      cases d <;> first | rfl | exact h.elim
  · exact h.elim

theorem pvL_rel {l : List AV} {ps : List PV} {xs : List Value} (h : pvL l = some ps) (hr : LRel w M L H S l xs) : xs.length = ps.length ∧ ∀ i p, ps[i]? = some p → PVRel w M p (xs.getD i undef) := by
  induction hr generalizing ps with
  | nil => simp only [pvL, Option.some.injEq] at h; subst h; simp
  | cons v x vs xs h1 _ ih =>
    cases v <;> simp only [pvL] at h <;> try (cases h; done)
    rename_i p
    obtain ⟨qs, hq, rfl⟩ := Option.map_eq_some_iff.1 h
    obtain ⟨i1, i2⟩ := ih hq
    refine ⟨by simp [i1], fun i q hi => ?_⟩
    cases i with
    | zero => simp at hi; subst hi; exact pv_inv h1
    | succ i => simpa using i2 i q (by simpa using hi)

theorem getD_toArray (xs : List Value) (i : Nat) : xs.toArray.getD i undef = xs.getD i undef := by
  simp [Array.getD_eq_getD_getElem?, List.getD_eq_getElem?_getD]

theorem makeFuncA_rel {fn : Fn} {f0 caps : List AV} {xs0 xs : List Value} (h : (makeFuncA fn f0 caps).1) (hr0 : LRel w M L H S f0 xs0) (hr : LRel w M L H S caps xs) :
    AVRel w M L H S (makeFuncA fn f0 caps).2 (.func fn xs0.toArray xs.toArray) := by
  unfold makeFuncA at h ⊢
  split at h
  · rename_i f
    cases hr0
    split at h
    · rename_i ps hps
      obtain ⟨h1, h2⟩ := pvL_rel hps hr
      exact .pv _ _ (.fn f ps xs.toArray (by simpa using h1) (fun i c hc => by rw [getD_toArray]; exact h2 i c hc))
    · refine .clo f caps xs.toArray (by simp [hr.length]) (fun i c hc => ?_)
      obtain ⟨x, hx, hr'⟩ := hr.get i c hc
      rw [getD_toArray, List.getD_eq_getElem?_getD, hx]
      exact hr'
  · exact h.elim
end
end Go.AM
