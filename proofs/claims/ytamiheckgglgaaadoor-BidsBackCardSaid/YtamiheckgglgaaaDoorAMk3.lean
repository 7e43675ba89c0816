/-
  A part of a proof: see the last text of this claim for what is proved.
-/
import Derived.Test.YtamiheckgglgaaaDoorAMk2
import Derived.MapKept
import Derived.ChangeKeysEq
namespace Go.AM
open Go Go.MapKept
set_option linter.unusedSimpArgs false
set_option linter.unusedVariables false
/-! ### Structs and arrays of plain parts: '==', and as keys of maps -/
section
variable {P : Program} {w : World} {M : Nat → Prop}
theorem bytes_inj {a b : List UInt8} (h : (⟨a.toArray⟩ : ByteArray) = ⟨b.toArray⟩) : a = b := by
  have := congrArg (fun x : ByteArray => x.data.toList) h
  simpa using this
theorem bytes_beq' (a b : List UInt8) : ((⟨a.toArray⟩ : ByteArray) == ⟨b.toArray⟩) = (a == b) := by
  rw [Bool.eq_iff_iff, bytes_beq, beq_iff_eq]
  exact ⟨bytes_inj, fun h => by rw [h]⟩
theorem keyEq1_iff {d : TypeDesc} {p q : PV} {x y : Value} (hp : keyKind (some d) p = true) (hq : keyKind (some d) q = true) (hx : PVRel w M p x) (hy : PVRel w M q y) : keyEq1 p q = true ↔ y = x := by
  cases d <;> cases p <;> try (simp [keyKind] at hp; done)
  all_goals cases q <;> try (simp [keyKind] at hq; done)
  case bool.bool.bool a b =>
    cases hx; cases hy
    simp only [keyEq1, beq_iff_eq, Value.bool.injEq]
    exact ⟨fun h => h.symm, fun h => h.symm⟩
  case int.int.int k k1 a k2 b =>
    cases hx; cases hy
    simp only [keyKind, beq_iff_eq] at hp hq
    subst hp; subst hq
    simp only [keyEq1, beq_iff_eq, Value.int.injEq, true_and]
    exact ⟨fun h => h.symm, fun h => h.symm⟩
  case string.str.str a b =>
    cases hx; cases hy
    simp only [keyEq1, beq_iff_eq, Value.string.injEq]
    exact ⟨fun h => by rw [h], fun h => (bytes_inj h).symm⟩
theorem eq1_run {t : TypeId} {p q : PV} {x y : Value} {n : Nat} (hp : keyKind (P.underlying t) p = true) (hq : keyKind (P.underlying t) q = true) (hx : PVRel w M p x) (hy : PVRel w M q y) :
    (Op.equalIn (n + 1) t x y).run P w = .ok (keyEq1 p q) w := by
  cases hd : P.underlying t with
  | none => rw [hd] at hp; simp [keyKind] at hp
  | some d =>
    rw [hd] at hp hq
    cases d <;> cases p <;> try (simp [keyKind] at hp; done)
    all_goals cases q <;> try (simp [keyKind] at hq; done)
    case bool.bool.bool a b => cases hx; cases hy; simp [Op.equalIn, run_underlying hd, keyEq1]
    case int.int.int k k1 a k2 b =>
      cases hx; cases hy
      simp only [keyKind, beq_iff_eq] at hp hq
      subst hp; subst hq
      simp [Op.equalIn, run_underlying hd, keyEq1]
    case string.str.str a b => cases hx; cases hy; simp [Op.equalIn, run_underlying hd, keyEq1, bytes_beq']
theorem part_run {t : TypeId} {p : PV} {vs : Array Value} {i : Nat} (hp : keyKind (P.underlying t) p = true) (hi : i < vs.size) : (part t vs i).run P w = .ok (vs.getD i undef) w := by
  cases hd : P.underlying t with
  | none => rw [hd] at hp; simp [keyKind] at hp
  | some d =>
    rw [hd] at hp
    obtain ⟨v, hv⟩ : ∃ v, vs[i]? = some v := ⟨_, Array.getElem?_eq_getElem hi⟩
    have hg : vs.getD i undef = v := by rw [Array.getD_eq_getD_getElem?, hv]; rfl
    rw [hg]
    cases d <;> cases p <;> simp [keyKind] at hp <;> simp [part, isAgg, run_underlying hd, hv]
theorem flatFs_len : ∀ (fs : List Field) (i : Nat) (cs : List PV), flatFs P fs i cs = true → fs.length = cs.length
  | [], _, [], _ => rfl
  | [], _, _ :: _, h => by simp [flatFs] at h
  | _ :: _, _, [], h => by simp [flatFs] at h
  | f :: fs, i, c :: cs, h => by
    simp only [flatFs, Bool.and_eq_true] at h
    simp [flatFs_len fs (i + 1) cs h.2]
theorem eqFields_run {vs us : Array Value} {n : Nat} : ∀ (fs : List Field) (i : Nat) (cs ds : List PV), flatFs P fs i cs = true → flatFs P fs i ds = true → vs.size = i + cs.length → us.size = i + ds.length →
    (∀ j c, cs[j]? = some c → PVRel w M c (vs.getD (i + j) undef)) → (∀ j c, ds[j]? = some c → PVRel w M c (us.getD (i + j) undef)) → (Op.eqFields (n + 1) vs us fs).run P w = .ok (keyEqL cs ds) w
  | [], _, [], [], _, _, _, _, _, _ => by simp [Op.eqFields, keyEqL]
  | [], _, [], _ :: _, _, h, _, _, _, _ => by simp [flatFs] at h
  | [], _, _ :: _, _, h, _, _, _, _, _ => by simp [flatFs] at h
  | _ :: _, _, [], _, h, _, _, _, _, _ => by simp [flatFs] at h
  | _ :: _, _, _ :: _, [], _, h, _, _, _, _ => by simp [flatFs] at h
  | f :: fs, i, c :: cs, d :: ds, h1, h2, hs1, hs2, hx, hy => by
    simp only [flatFs, Bool.and_eq_true, beq_iff_eq, bne_iff_ne, ne_eq] at h1 h2
    simp only [List.length_cons] at hs1 hs2
    have hx0 := hx 0 c rfl
    have hy0 := hy 0 d rfl
    rw [Nat.add_zero] at hx0 hy0
    have ih := eqFields_run (vs := vs) (us := us) (n := n) fs (i + 1) cs ds h1.2 h2.2 (by omega) (by omega) (fun j c hj => by have := hx (j + 1) c (by simpa using hj); rwa [show i + (j + 1) = i + 1 + j by omega] at this)
      (fun j c hj => by have := hy (j + 1) c (by simpa using hj); rwa [show i + (j + 1) = i + 1 + j by omega] at this)
    have e0 : ¬ f.name = "_" := h1.1.1.2
    have q1 := part_run (w := w) (vs := vs) (i := i) h1.1.2 (by omega)
    have q2 := part_run (w := w) (vs := us) (i := i) h2.1.2 (by omega)
    have q3 := eq1_run (n := n) h1.1.2 h2.1.2 hx0 hy0
    simp only [Op.eqFields, e0, ne_eq, not_false_eq_true, if_true, Sem.run_bind, h1.1.1.1, q1, q2, q3, Result.andThen_ok, keyEqL]
    cases keyEq1 c d with
    | true => simpa using ih
    | false => simp
theorem eqItems_run {e : TypeId} {vs us : Array Value} {n : Nat} : ∀ (i : Nat) (cs ds : List PV), cs.length = ds.length → (∀ c, c ∈ cs → keyKind (P.underlying e) c = true) → (∀ c, c ∈ ds → keyKind (P.underlying e) c = true) → vs.size = i + cs.length → us.size = i + ds.length →
    (∀ j c, cs[j]? = some c → PVRel w M c (vs.getD (i + j) undef)) → (∀ j c, ds[j]? = some c → PVRel w M c (us.getD (i + j) undef)) → (Op.eqItems (n + 1) e 1 vs us (List.range' i cs.length)).run P w = .ok (keyEqL cs ds) w
  | _, [], [], _, _, _, _, _, _, _ => by simp [Op.eqItems, keyEqL]
  | _, [], _ :: _, h, _, _, _, _, _, _ => by simp at h
  | _, _ :: _, [], h, _, _, _, _, _, _ => by simp at h
  | i, c :: cs, d :: ds, hl, h1, h2, hs1, hs2, hx, hy => by
    simp only [List.length_cons] at hs1 hs2 hl
    have hx0 := hx 0 c rfl
    have hy0 := hy 0 d rfl
    rw [Nat.add_zero] at hx0 hy0
    have ih := eqItems_run (e := e) (vs := vs) (us := us) (n := n) (i + 1) cs ds (by omega) (fun c hc => h1 c (List.mem_cons_of_mem _ hc)) (fun c hc => h2 c (List.mem_cons_of_mem _ hc)) (by omega) (by omega) (fun j c hj => by have := hx (j + 1) c (by simpa using hj); rwa [show i + (j + 1) = i + 1 + j by omega] at this)
      (fun j c hj => by have := hy (j + 1) c (by simpa using hj); rwa [show i + (j + 1) = i + 1 + j by omega] at this)
    have k1 := h1 c List.mem_cons_self
    have k2 := h2 d List.mem_cons_self
    have q1 := part_run (w := w) (vs := vs) (i := i) k1 (by omega)
    have q2 := part_run (w := w) (vs := us) (i := i) k2 (by omega)
    have q3 := eq1_run (n := n) k1 k2 hx0 hy0
    simp only [List.length_cons, List.range'_succ, Op.eqItems, Nat.mul_one, Sem.run_bind, q1, q2, q3, Result.andThen_ok, keyEqL]
    cases keyEq1 c d with
    | true => simpa using ih
    | false => simp
theorem aggrel_inv {cs : List PV} {x : Value} (h : PVRel w M (.agg cs) x) : ∃ vs : Array Value, x = .agg vs ∧ vs.size = cs.length ∧ ∀ i c, cs[i]? = some c → PVRel w M c (vs.getD i undef) := by
  cases h; exact ⟨_, rfl, ‹_›, ‹_›⟩
theorem flat_run {t : TypeId} {cs ds : List PV} {x y : Value} (h1 : flatB P t cs = true) (h2 : flatB P t ds = true) (hx : PVRel w M (.agg cs) x) (hy : PVRel w M (.agg ds) y) :
    (Op.equal t x y).run P w = .ok (keyEqL cs ds) w := by
  obtain ⟨vs, rfl, s1, r1⟩ := aggrel_inv hx
  obtain ⟨us, rfl, s2, r2⟩ := aggrel_inv hy
  show (Op.equalIn (9999 + 1) t (.agg vs) (.agg us)).run P w = _
  unfold flatB at h1 h2
  split at h1
  · rename_i fs hd
    rw [hd] at h2
    simp only [Bool.and_eq_true, Bool.not_eq_true'] at h1 h2
    have hf : P.fieldsOf t = fs := by unfold Program.fieldsOf; rw [hd]
    rw [run_equalIn_struct w 9999 t vs us (by rw [hf]; exact hd) h1.1.1, hf]
    exact eqFields_run (n := 9998) fs.toList 0 cs ds h1.2 h2.2 (by omega) (by omega) (fun j c hj => by rw [Nat.zero_add]; exact r1 j c hj) (fun j c hj => by rw [Nat.zero_add]; exact r2 j c hj)
  · rename_i n e hd
    rw [hd] at h2
    simp only [Bool.and_eq_true, Bool.not_eq_true', beq_iff_eq, List.all_eq_true] at h1 h2
    obtain ⟨⟨⟨⟨l1, c1⟩, i1⟩, _⟩, k1⟩ := h1
    obtain ⟨⟨⟨⟨l2, _⟩, _⟩, _⟩, k2⟩ := h2
    obtain ⟨inf, hi⟩ := Option.isSome_iff_exists.1 i1
    rw [run_equalIn_array w 9999 vs us hd hi, c1, List.range_eq_range', l1]
    exact eqItems_run (n := 9998) 0 cs ds (by omega) k1 k2 (by omega) (by omega) (fun j c hj => by rw [Nat.zero_add]; exact r1 j c hj) (fun j c hj => by rw [Nat.zero_add]; exact r2 j c hj)
  · cases h1
theorem keyEqL_iff {vs us : Array Value} : ∀ (i : Nat) (cs ds : List PV), cs.length = ds.length → (∀ (j : Nat) (c d : PV), cs[j]? = some c → ds[j]? = some d → ∃ k, keyKind (some k) c = true ∧ keyKind (some k) d = true) →
    (∀ j c, cs[j]? = some c → PVRel w M c (vs.getD (i + j) undef)) → (∀ j c, ds[j]? = some c → PVRel w M c (us.getD (i + j) undef)) → (keyEqL cs ds = true ↔ ∀ j, j < cs.length → us.getD (i + j) undef = vs.getD (i + j) undef)
  | _, [], [], _, _, _, _ => by simp [keyEqL]
  | _, [], _ :: _, h, _, _, _ => by simp at h
  | _, _ :: _, [], h, _, _, _ => by simp at h
  | i, c :: cs, d :: ds, hl, hk, hx, hy => by
    simp only [List.length_cons] at hl
    have hx0 := hx 0 c rfl
    have hy0 := hy 0 d rfl
    obtain ⟨k, k1, k2⟩ := hk 0 c d rfl rfl
    have ih := keyEqL_iff (vs := vs) (us := us) (i + 1) cs ds (by omega) (fun j c d h1 h2 => hk (j + 1) c d (by simpa using h1) (by simpa using h2)) (fun j c hj => by have := hx (j + 1) c (by simpa using hj); rwa [show i + (j + 1) = i + 1 + j by omega] at this)
      (fun j c hj => by have := hy (j + 1) c (by simpa using hj); rwa [show i + (j + 1) = i + 1 + j by omega] at this)
    have h1 := keyEq1_iff k1 k2 hx0 hy0
    simp only [keyEqL, Bool.and_eq_true, List.length_cons]
    rw [h1, ih]
    constructor
    · rintro ⟨e0, er⟩ j hj
      cases j with
      | zero => exact e0
      | succ j => have := er j (by omega); rwa [show i + 1 + j = i + (j + 1) by omega] at this
    · intro h
      exact ⟨h 0 (by omega), fun j hj => by have := h (j + 1) (by omega); rwa [show i + (j + 1) = i + 1 + j by omega] at this⟩
theorem flatFs_kinds : ∀ (fs : List Field) (i : Nat) (cs ds : List PV), flatFs P fs i cs = true → flatFs P fs i ds = true → ∀ (j : Nat) (c d : PV), cs[j]? = some c → ds[j]? = some d → ∃ k, keyKind (some k) c = true ∧ keyKind (some k) d = true
  | [], _, [], _, _, _, j, c, d, h, _ => by simp at h
  | [], _, _ :: _, _, h, _, _, _, _, _, _ => by simp [flatFs] at h
  | _ :: _, _, [], _, h, _, _, _, _, _, _ => by simp [flatFs] at h
  | _ :: _, _, _ :: _, [], _, h, _, _, _, _, _ => by simp [flatFs] at h
  | f :: fs, i, c :: cs, d :: ds, h1, h2, j, c', d', hc, hd => by
    simp only [flatFs, Bool.and_eq_true] at h1 h2
    cases j with
    | zero =>
      simp only [List.getElem?_cons_zero, Option.some.injEq] at hc hd
      subst hc; subst hd
      cases hk : P.underlying f.type with
      | none => rw [hk] at h1; simp [keyKind] at h1
      | some k => rw [hk] at h1 h2; exact ⟨k, h1.1.2, h2.1.2⟩
    | succ j => exact flatFs_kinds fs (i + 1) cs ds h1.2 h2.2 j c' d' (by simpa using hc) (by simpa using hd)
theorem flat_iff {t : TypeId} {cs ds : List PV} {x y : Value} (h1 : flatB P t cs = true) (h2 : flatB P t ds = true) (hx : PVRel w M (.agg cs) x) (hy : PVRel w M (.agg ds) y) : keyEqL cs ds = true ↔ y = x := by
  obtain ⟨vs, rfl, s1, r1⟩ := aggrel_inv hx
  obtain ⟨us, rfl, s2, r2⟩ := aggrel_inv hy
  have hlen : cs.length = ds.length ∧ ∀ (j : Nat) (c d : PV), cs[j]? = some c → ds[j]? = some d → ∃ k, keyKind (some k) c = true ∧ keyKind (some k) d = true := by
    unfold flatB at h1 h2
    split at h1
    · rename_i fs hd
      rw [hd] at h2
      simp only [Bool.and_eq_true, Bool.not_eq_true'] at h1 h2
      exact ⟨(flatFs_len _ _ _ h1.2).symm.trans (flatFs_len _ _ _ h2.2), flatFs_kinds _ _ _ _ h1.2 h2.2⟩
    · rename_i n e hd
      rw [hd] at h2
      simp only [Bool.and_eq_true, Bool.not_eq_true', beq_iff_eq, List.all_eq_true] at h1 h2
      refine ⟨by omega, fun j c d hc hd' => ?_⟩
      have k1 := h1.2 c (List.mem_of_getElem? hc)
      have k2 := h2.2 d (List.mem_of_getElem? hd')
      cases hk : P.underlying e with
      | none => rw [hk] at k1; simp [keyKind] at k1
      | some k => rw [hk] at k1 k2; exact ⟨k, k1, k2⟩
    · cases h1
  rw [keyEqL_iff (vs := vs) (us := us) 0 cs ds hlen.1 hlen.2 (fun j c hj => by rw [Nat.zero_add]; exact r1 j c hj) (fun j c hj => by rw [Nat.zero_add]; exact r2 j c hj)]
  simp only [Nat.zero_add, Value.agg.injEq]
  constructor
  · intro h
    apply Array.ext
    · omega
    · intro j hj1 hj2
      have := h j (by omega)
      simpa [hj1, hj2] using this
  · rintro rfl j _; rfl
theorem check1 {t : TypeId} {p : PV} {v : Value} {em : Bool} {n : Nat} (hp : keyKind (P.underlying t) p = true) (hv : PVRel w M p v) : (Instr.checkKey em (n + 1) t v).run P w = .ok () w := by
  cases hd : P.underlying t with
  | none => rw [hd] at hp; simp [keyKind] at hp
  | some d =>
    rw [hd] at hp
    cases hv <;> cases d <;> simp [keyKind] at hp <;> simp [Instr.checkKey, run_underlying hd]
theorem flat_check {t : TypeId} {cs : List PV} {x : Value} {em : Bool} (h1 : flatB P t cs = true) (hx : PVRel w M (.agg cs) x) : (Instr.checkKey em 10000 t x).run P w = .ok () w := by
  obtain ⟨vs, rfl, s1, r1⟩ := aggrel_inv hx
  unfold flatB at h1
  split at h1
  · rename_i fs hd
    simp only [Bool.and_eq_true, Bool.not_eq_true'] at h1
    rw [show (10000 : Nat) = 9999 + 1 from rfl, Instr.checkKey]
    simp only [Sem.run_bind, run_underlying hd, Result.andThen_ok]
    rw [← Array.forIn_toList]
    have main : ∀ (fs : List Field) (i : Nat) (cs : List PV), flatFs P fs i cs = true → vs.size = i + cs.length → (∀ j c, cs[j]? = some c → PVRel w M c (vs.getD (i + j) undef)) →
        (forIn (m := Sem) fs PUnit.unit (fun f _ => do
          if f.name ≠ "_" then
            let a ← part f.type vs f.offset
            Instr.checkKey em 9999 f.type a
            pure (ForInStep.yield PUnit.unit)
          else pure (ForInStep.yield PUnit.unit))).run P w = .ok PUnit.unit w := by
      intro fs
      induction fs with
      | nil => intro i cs _ _ _; simp
      | cons f fs ih =>
        intro i cs h hs hr
        cases cs with
        | nil => simp [flatFs] at h
        | cons c cs =>
          simp only [flatFs, Bool.and_eq_true, beq_iff_eq, bne_iff_ne, ne_eq] at h
          simp only [List.length_cons] at hs
          have q1 := part_run (w := w) (vs := vs) (i := i) h.1.2 (by omega)
          have r0 := hr 0 c rfl
          rw [Nat.add_zero] at r0
          have q2 := check1 (em := em) (n := 9998) h.1.2 r0
          simp only [List.forIn_cons, Sem.run_bind, h.1.1.2, ne_eq, not_false_eq_true, if_true, h.1.1.1, q1, q2, Result.andThen_ok, Sem.run_pure]
          exact ih (i + 1) cs h.2 (by omega) (fun j c hj => by have := hr (j + 1) c (by simpa using hj); rwa [show i + (j + 1) = i + 1 + j by omega] at this)
    have := main fs.toList 0 cs h1.2 (by omega) (fun j c hj => by rw [Nat.zero_add]; exact r1 j c hj)
    simp at this
    simp [this]
  · rename_i n e hd
    simp only [Bool.and_eq_true, Bool.not_eq_true', beq_iff_eq, List.all_eq_true] at h1
    obtain ⟨⟨⟨⟨l1, c1⟩, i1⟩, _⟩, k1⟩ := h1
    obtain ⟨inf, hi⟩ := Option.isSome_iff_exists.1 i1
    rw [show (10000 : Nat) = 9999 + 1 from rfl, Instr.checkKey]
    simp only [Sem.run_bind, run_underlying hd, Result.andThen_ok]
    simp only [Std.Legacy.Range.forIn_eq_forIn_range', Std.Legacy.Range.size, Nat.sub_zero, Nat.add_one_sub_one, Nat.div_one]
    have main : ∀ (is : List Nat), (∀ i, i ∈ is → i < cs.length) →
        (forIn (m := Sem) is PUnit.unit (fun i _ => do
          let s ← Go.sizeOf e
          let a ← part e vs (i * s)
          Instr.checkKey em 9999 e a
          pure (ForInStep.yield PUnit.unit))).run P w = .ok PUnit.unit w := by
      intro is
      induction is with
      | nil => intro _; simp
      | cons i is ih =>
        intro h
        have hlt := h i List.mem_cons_self
        obtain ⟨c, hc⟩ : ∃ c, cs[i]? = some c := ⟨_, List.getElem?_eq_getElem hlt⟩
        have kk := k1 c (List.mem_of_getElem? hc)
        have q1 := part_run (w := w) (vs := vs) (i := i) kk (by omega)
        have q2 := check1 (em := em) (n := 9998) kk (r1 i c hc)
        simp only [List.forIn_cons, Sem.run_bind, run_sizeOf w hi, c1, Nat.mul_one, q1, q2, Result.andThen_ok, Sem.run_pure]
        exact ih (fun j hj => h j (List.mem_cons_of_mem _ hj))
    have := main (List.range' 0 n) (fun i hi => by rw [List.mem_range'_1] at hi; omega)
    simp at this
    simp [this]
  · cases h1
theorem same1 {k : TypeDesc} {p : PV} {v : Value} {n : Nat} (hp : keyKind (some k) p = true) (hv : PVRel w M p v) : Instr.sameBits n v v = true := by
  cases hv <;> cases k <;> simp [keyKind] at hp <;> cases n <;> simp [Instr.sameBits, bytes_beq']
theorem flat_stays {t : TypeId} {cs : List PV} {x : Value} (h1 : flatB P t cs = true) (hx : PVRel w M (.agg cs) x) : (Instr.keyThatStays x x).run P w = .ok x w := by
  have kinds : ∀ (j : Nat) (c : PV), cs[j]? = some c → ∃ k, keyKind (some k) c = true := by
    intro j c hc
    unfold flatB at h1
    split at h1
    · simp only [Bool.and_eq_true, Bool.not_eq_true'] at h1
      obtain ⟨k, hk, _⟩ := flatFs_kinds _ _ _ _ h1.2 h1.2 j c c hc hc
      exact ⟨k, hk⟩
    · rename_i n e hd
      simp only [Bool.and_eq_true, Bool.not_eq_true', beq_iff_eq, List.all_eq_true] at h1
      have k1 := h1.2 c (List.mem_of_getElem? hc)
      cases hk : P.underlying e with
      | none => rw [hk] at k1; simp [keyKind] at k1
      | some k => rw [hk] at k1; exact ⟨k, k1⟩
    · cases h1
  obtain ⟨vs, rfl, s1, r1⟩ := aggrel_inv hx
  have hs : Instr.sameBits 10000 (.agg vs) (.agg vs) = true := by
    show Instr.sameBits (9999 + 1) (.agg vs) (.agg vs) = true
    simp only [Instr.sameBits, beq_self_eq_true, Bool.true_and, List.all_eq_true]
    intro p hp
    obtain ⟨i, hi, e⟩ := List.getElem_of_mem hp
    rw [List.getElem_zip] at e
    rw [← e]
    simp only [List.length_zip, Array.length_toList, Nat.min_self] at hi
    obtain ⟨c, hc⟩ : ∃ c, cs[i]? = some c := ⟨_, List.getElem?_eq_getElem (by omega)⟩
    obtain ⟨k, hk⟩ := kinds i c hc
    have := same1 (n := 9999) hk (r1 i c hc)
    simpa [hi] using this
  simp [Instr.keyThatStays, hs]
theorem pvK_rel {S : (List PV → Prop × PV) → Value → Prop} {L : Locs} {H : AHeap} : ∀ (as : List AV) (ps : List PV), pvL as = some ps → as = ps.map AV.pv
  | [], ps, h => by simp [pvL] at h; subst h; rfl
  | .pv p :: r, ps, h => by
    simp only [pvL, Option.map_eq_some_iff] at h
    obtain ⟨qs, hq, rfl⟩ := h
    rw [pvK_rel (S := S) (L := L) (H := H) r qs hq]; rfl
  | .nils :: r, _, h | .ptr _ _ :: r, _, h | .rs _ _ :: r, _, h | .rv _ _ _ :: r, _, h | .rp _ _ _ :: r, _, h | .mp _ :: r, _, h | .it _ :: r, _, h | .bufh _ _ :: r, _, h | .agg _ :: r, _, h | .clo _ _ :: r, _, h | .whn _ _ :: r, _, h | .opq _ :: r, _, h | .top :: r, _, h => by simp [pvL] at h
theorem packK_rel {S : (List PV → Prop × PV) → Value → Prop} {L : Locs} {H : AHeap} {k : AV} {v : Value} (h : AVRel w M L H S k v) : AVRel w M L H S (packK k) v := by
  unfold packK
  split
  · rename_i cs
    split
    · rename_i ps hp
      cases hb : ps.all PV.one with
      | false => exact h
      | true =>
        have e := pvK_rel (S := S) (L := L) (H := H) _ _ hp
        subst e
        cases h with
        | agg _ vs hz hr =>
          refine .pv _ _ (.agg _ _ (by simpa using hz) (fun c hc => List.all_eq_true.1 hb c hc) (fun i c hc => ?_))
          have := hr i (.pv c) (by rw [List.getElem?_map, hc]; rfl)
          cases this; assumption
    · exact h
  · exact h
/-- A map's key in hand: it can be looked for, and it stays. -/
theorem keyOk_check {t : TypeId} {p : PV} {v : Value} {em : Bool} (h : keyOkB P t p = true) (hv : PVRel w M p v) : (Instr.checkKey em 10000 t v).run P w = .ok () w := by
  unfold keyOkB at h
  split at h
  · exact flat_check h hv
  · exact check1 h hv
theorem keyOk_stays {t : TypeId} {p : PV} {v : Value} (h : keyOkB P t p = true) (hv : PVRel w M p v) : (Instr.keyThatStays v v).run P w = .ok v w := by
  unfold keyOkB at h
  split at h
  · exact flat_stays h hv
  · cases hd : P.underlying t with
    | none => rw [hd] at h; simp [keyKind] at h
    | some k =>
      rw [hd] at h
      have hs := same1 (n := 10000) h hv
      simp [Instr.keyThatStays, hs]
end
end Go.AM
