/-
  A part of a proof: see the last text of this claim for what is proved.
-/
import Derived.Test.YtamiheckgglgaaaDoorNM
namespace Go.AM
open Go Go.RowKit
set_option linter.unusedSimpArgs false
set_option linter.unusedVariables false
/-! ### An open order, walked in an order of our own; appends to nil -/
section
variable {G : Glob} {C : Ctx} {ops : Array Oper} {md : Region.Mode} {S : List (Nat × Nat)}
/-- append to the slice nil. -/
def isAppN (o : Oper) : Bool :=
  match o.op, o.guard with
  | .call { callee := .builtin .append, args, .. }, none => match args.toList with
    | [.const (.slice none 0 0), _] => true
    | _ => false
  | _, _ => false
/-- What it appends. -/
def appR (C : Ctx) (ρ : Nat → AV) (H : AHeap) (o : Oper) (k : Nat) (es : List PV) : Prop :=
  ∃ args ts s x t tx e by' z, o.op = .call { callee := .builtin .append, args := args, argTypes := ts } ∧ args.toList = [s, x] ∧ ts.toList = [t, tx] ∧ C.P.underlying t = some (.slice e) ∧ szOf C.P e = some k ∧ bytesT C.P e = some by' ∧ zeroT C.P e = some z ∧
    oc ρ s ∧ oc ρ x ∧ srcA H (ox ρ x) = some es ∧ 0 < k ∧ z.cells.size = k ∧ isSliceOrStr (C.P.underlying tx) = true ∧ allW k es ∧ es.length * by' ≤ 140737488355328 ∧ es.length ≤ maxLen
theorem appR_fun {ρ : Nat → AV} {H : AHeap} {o : Oper} {k k' : Nat} {es es' : List PV} (h : appR C ρ H o k es) (h' : appR C ρ H o k' es') : k = k' ∧ es = es' := by
  obtain ⟨args, ts, s, x, t, tx, e, by', z, a1, a2, a3, a4, a5, a6, a7, a8, a9, a10, _⟩ := h
  obtain ⟨args', ts', s', x', t', tx', e', by'', z', b1, b2, b3, b4, b5, b6, b7, b8, b9, b10, _⟩ := h'
  rw [a1] at b1
  simp only [Op.call.injEq, Call.mk.injEq, true_and] at b1
  obtain ⟨rfl, rfl⟩ := b1
  rw [a2] at b2; rw [a3] at b3
  simp only [List.cons.injEq, and_true] at b2 b3
  obtain ⟨rfl, rfl⟩ := b2
  obtain ⟨rfl, rfl⟩ := b3
  rw [a4] at b4
  simp only [Option.some.injEq, TypeDesc.slice.injEq] at b4
  subst b4
  rw [a5] at b5; rw [a10] at b10
  simp only [Option.some.injEq] at b5 b10
  exact ⟨b5, b10⟩
theorem stepG_n {dr : Bool} {H0 : AHeap} {o : Oper} {st : ASt} {K : ASt → Prop} (h : isAppN o = true) : stepG C dr H0 ops o st K ↔
    ∃ k es d, appR C st.ρ st.H o k es ∧ o.dst = some d ∧ hget st.H d = none ∧ d < C.N ∧ K { ρ := upd st.ρ d (.rs d es.length), H := hset st.H d (.row k es) } := by
  unfold isAppN at h
  split at h
  · rename_i args ts ho hg
    split at h
    · rename_i x ha
      have hgc : guardC ops o st.ρ = some true := by unfold guardC; rw [hg]
      have hc : cls C dr o = 2 := by unfold cls; rw [ho]
      have hs : ox st.ρ (.const (.slice none 0 0)) = .nils := rfl
      unfold stepG
      rw [hgc]
      simp only [hc, hg, effA, aopE, ho, ha]
      constructor
      · intro h
        simp at h
        split at h
        · rename_i s x' t tx h1 h2
          simp only [List.cons.injEq, and_true] at h1
          obtain ⟨rfl, rfl⟩ := h1
          obtain ⟨c1, c2, h⟩ := h
          unfold appendA at h
          split at h
          · rename_i e es2 hu hsrc
            split at h
            · rename_i k by' z hk hb hz
              obtain ⟨d1, d2, d3, d4, h⟩ := h
              rw [hs] at h
              obtain ⟨d5, d6, h⟩ := h
              unfold newB at h
              split at h
              · exact h.elim
              · rename_i d hd
                exact ⟨k, es2, d, ⟨args, ts, _, _, t, tx, e, by', z, ho, ha, h2, hu, hk, hb, hz, c1, c2, hsrc, d1, d2, d3, d4, d5, d6⟩, hd, h.1, h.2.1, h.2.2⟩
            · exact h.elim
          · exact h.elim
        · exact h.elim
      · rintro ⟨k, es, d, ⟨args', ts', s, x', t, tx, e, by', z, a1, a2, a3, a4, a5, a6, a7, a8, a9, a10, a11, a12, a13, a14, a15, a16⟩, hd, e1, e2, e3⟩
        rw [ho] at a1
        simp only [Op.call.injEq, Call.mk.injEq, true_and] at a1
        obtain ⟨rfl, rfl⟩ := a1
        rw [ha] at a2
        simp only [List.cons.injEq, and_true] at a2
        obtain ⟨rfl, rfl⟩ := a2
        simp [a3, a8, a9, appendA, a4, a5, a6, a7, a10, a11, a12, a13, a14, hs, a15, a16, newB, hd, e1, e2, e3]
    · cases h
  · cases h
theorem appR_put {H : AHeap} {o : Oper} {st : ASt} {d : Option Tmp} {v : AV} {k : Nat} {es : List PV} (h : ∀ t, d = some t → t ∉ o.looksAt ops) : appR C (putS st d v).ρ H o k es ↔ appR C st.ρ H o k es := by
  cases d with
  | none => exact Iff.rfl
  | some t =>
    have key : ∀ ρ1 ρ2 : Nat → AV, (∀ x, x ∈ o.op.operands.toList → opndV ρ1 x = opndV ρ2 x) → appR C ρ1 H o k es → appR C ρ2 H o k es := by
      rintro ρ1 ρ2 hx ⟨args, ts, s, x, t, tx, e, by', z, a1, a2, a3, a4, a5, a6, a7, a8, a9, a10, a11⟩
      have h1 := hx s (by rw [a1]; simp [Op.operands, Call.operands]; have : s ∈ args.toList := by rw [a2]; simp
                          simpa using this)
      have h2 := hx x (by rw [a1]; simp [Op.operands, Call.operands]; have : x ∈ args.toList := by rw [a2]; simp
                          simpa using this)
      exact ⟨args, ts, s, x, t, tx, e, by', z, a1, a2, a3, a4, a5, a6, a7, by unfold oc at a8 ⊢; rw [← h1]; exact a8, by unfold oc at a9 ⊢; rw [← h2]; exact a9, by unfold ox at a10 ⊢; rw [← h2]; exact a10, a11⟩
    have hx := looks_tmp (h t rfl)
    exact ⟨key _ _ (fun x hm => opnd_upd (hx x hm)), key _ _ (fun x hm => (opnd_upd (hx x hm)).symm)⟩
/-- A quiet operation ahead of an append to nil. -/
theorem swap_qn {G : Glob} (hC : TabsAll G C) {H0 : AHeap} {x y : Oper} (hap : x.apart ops y = true) (h1 : cls C true x = 0) (h2 : isAppN y = true) : Swap C H0 ops x y := by
  obtain ⟨a1, a2, a3⟩ := Oper.apart_spec hap
  intro st K H
  have some_r : ∀ (o : Oper) (ρ : Nat → AV) (H : AHeap) (c : Bool) (z : AV), (c = true → (qop C ρ H o).1) → ∃ r, (c = true → (qop C ρ H o).2 r) ∧ (c = false → r = z) := by
    intro o ρ H c z h
    cases c with
    | true => obtain ⟨r, hr⟩ := qop_inhab hC (h rfl); exact ⟨r, (fun _ => hr), (fun h => by cases h)⟩
    | false => exact ⟨z, (fun h => by cases h), fun _ => rfl⟩
  rw [stepG_q h1] at H
  rw [stepG_n h2]
  obtain ⟨ci, g1, g2, g3⟩ := H
  obtain ⟨r0, hr0, hz0⟩ := some_r x st.ρ st.H ci (aopP C st.ρ H0 x.op).2 g2
  obtain ⟨b1, b2⟩ := g3 r0 hr0 hz0
  rw [stepG_n h2] at b2
  obtain ⟨k, es, d, f1, e1, e2, e3, e4⟩ := b2
  rw [appR_put a1, putS_same] at f1
  rw [putS_same] at e2
  refine ⟨k, es, d, f1, e1, e2, e3, ?_⟩
  have hd : d ∉ x.looksAt ops := a3 d e1
  rw [stepG_q h1]
  have hsub : Sub st.H (hset st.H d (.row k es)) := sub_hset e2
  have hq : qop C (upd st.ρ d (.rs d es.length)) (hset st.H d (.row k es)) x = qop C st.ρ (hset st.H d (.row k es)) x := qop_upd hd
  have hp : aopP C (upd st.ρ d (.rs d es.length)) H0 x.op = aopP C st.ρ H0 x.op := aopP_congr C H0 x.op (fun z hm => opnd_upd (looks_tmp hd z hm))
  refine ⟨ci, by rw [← g1]; exact guardC_upd hd, fun hc => by rw [hq]; exact (qop_mono hC hsub (g2 hc)).1, fun ri hri hzi => ⟨b1, ?_⟩⟩
  have hri' : ci = true → (qop C st.ρ st.H x).2 ri := fun hc => by
    have := hri hc
    rw [hq, (qop_mono hC hsub (g2 hc)).2] at this
    exact this
  have := (g3 ri hri' (fun hc => by rw [hzi hc]; simp only [cond_true, hp])).2
  rw [stepG_n h2] at this
  obtain ⟨k', es', d', f1', e1', e2', e3', e4'⟩ := this
  rw [appR_put a1, putS_same] at f1'
  obtain ⟨rfl, rfl⟩ := appR_fun f1 f1'
  rw [e1] at e1'
  simp only [Option.some.injEq] at e1'
  subst e1'
  have : putS { ρ := upd st.ρ d (.rs d es.length), H := hset st.H d (.row k es) } x.dst (wrapG x ci ri) = { ρ := upd (putS st x.dst (wrapG x ci ri)).ρ d (.rs d es.length), H := hset (putS st x.dst (wrapG x ci ri)).H d (.row k es) } := by
    cases hxd : x.dst with
    | none => rfl
    | some t =>
      have : t ≠ d := fun e => a2 t hxd (by rw [e1, e])
      simp only [putS]
      rw [upd_comm _ _ this]
  rw [this]
  exact e4'
/-- An append to nil ahead of an operation that does not look at the memory. -/
theorem swap_nq {G : Glob} (hC : TabsAll G C) {H0 : AHeap} {x y : Oper} (hap : x.apart ops y = true) (h1 : isAppN x = true) (h2 : cls C true y = 0) (h3 : noHop y.op = true) : Swap C H0 ops x y := by
  obtain ⟨a1, a2, a3⟩ := Oper.apart_spec hap
  intro st K H
  rw [stepG_n h1] at H
  rw [stepG_q h2]
  obtain ⟨k, es, d, f1, e1, e2, e3, e5⟩ := H
  have hd : d ∉ y.looksAt ops := a1 d e1
  rw [stepG_q h2] at e5
  obtain ⟨c, g1, g2, g3⟩ := e5
  have hq : qop C (upd st.ρ d (.rs d es.length)) (hset st.H d (.row k es)) y = qop C st.ρ st.H y := by
    rw [qop_noH h3 (H' := st.H)]; exact qop_upd hd
  have hp : aopP C (upd st.ρ d (.rs d es.length)) H0 y.op = aopP C st.ρ H0 y.op := aopP_congr C H0 y.op (fun z hm => opnd_upd (looks_tmp hd z hm))
  simp only at g1 g2 g3
  rw [hq] at g2
  refine ⟨c, by rw [← g1]; exact (guardC_upd hd).symm, g2, fun r hr hz => ?_⟩
  obtain ⟨k1, k2⟩ := g3 r (by rw [hq]; exact hr) (fun hc => by rw [hz hc]; simp only [cond_true, hp])
  refine ⟨k1, ?_⟩
  rw [stepG_n h1]
  refine ⟨k, es, d, by rw [appR_put a3, putS_same]; exact f1, e1, by rw [putS_same]; exact e2, e3, ?_⟩
  have : putS { ρ := upd st.ρ d (.rs d es.length), H := hset st.H d (.row k es) } y.dst (wrapG y c r) = { ρ := upd (putS st y.dst (wrapG y c r)).ρ d (.rs d es.length), H := hset (putS st y.dst (wrapG y c r)).H d (.row k es) } := by
    cases hyd : y.dst with
    | none => rfl
    | some t =>
      have : t ≠ d := fun e => a2 d e1 (by rw [hyd, e])
      simp only [putS]
      rw [upd_comm _ _ this]
  rw [← this]
  exact k2
end
end Go.AM
namespace Go.AM
open Go Go.RowKit
set_option linter.unusedSimpArgs false
set_option linter.unusedVariables false
/-! ### An open order, by a walk in an order of our own -/
section
variable {G : Glob} {C : Ctx} {ops : Array Oper} {md : Region.Mode}
def pairP (C : Ctx) (ops : Array Oper) (x y : Oper) : Bool :=
  pairOk C ops x y || (x.apart ops y && ((cls C true x == 0 && isAppN y) || (isAppN x && cls C true y == 0 && noHop y.op)))
theorem swap_of_pairP {G : Glob} (hC : TabsAll G C) {H0 : AHeap} {x y : Oper} (h : pairP C ops x y = true) : Swap C H0 ops x y := by
  unfold pairP at h
  simp only [Bool.or_eq_true, Bool.and_eq_true, beq_iff_eq] at h
  rcases h with h | ⟨hap, ⟨h1, h2⟩ | ⟨⟨h1, h2⟩, h3⟩⟩
  · exact swap_of_pairOk hC h
  · exact swap_qn hC hap h1 h2
  · exact swap_nq hC hap h1 h2 h3
/-- What must have run before each, in an order of our own. -/
def checkO (pr : Oper → Oper → Bool) (md : Region.Mode) (ops : Array Oper) (fr : Array Nat) : List Nat → List Nat → Bool
  | _, [] => true
  | done, j :: r => (match ops[j]? with
      | none => false
      | some y => (fr.getD j 0 == waitOf md fr y) && (y.after.toList.all fun e => !Region.binds md e || done.contains e.on) && (!done.contains j) &&
          done.all fun i => (fr.getD j 0).testBit i || (match ops[i]? with | some x => pr x y | none => false)) && checkO pr md ops fr (done ++ [j]) r
def checkP (C : Ctx) (md : Region.Mode) (ops : Array Oper) (order : List Nat) : Bool :=
  checkO (pairP C ops) md ops (waits md ops.toList) [] order && (List.range ops.size).all (fun i => order.contains i)
theorem checkO_spec {pr : Oper → Oper → Bool} {fr : Array Nat} : ∀ (l done : List Nat), checkO pr md ops fr done l = true → ∀ (p q : List Nat) (j : Nat), l = p ++ j :: q →
    ∃ y, ops[j]? = some y ∧ fr.getD j 0 = waitOf md fr y ∧ (∀ e ∈ y.after, Region.binds md e = true → e.on ∈ done ++ p) ∧ j ∉ done ++ p ∧ ∀ i, i ∈ done ++ p → (fr.getD j 0).testBit i = false → ∃ x, ops[i]? = some x ∧ pr x y = true
  | [], done, _, p, q, j, h => by cases p <;> cases h
  | a :: r, done, h, p, q, j, hl => by
    unfold checkO at h
    rw [Bool.and_eq_true] at h
    obtain ⟨h1, h2⟩ := h
    cases p with
    | nil =>
      simp only [List.nil_append, List.cons.injEq] at hl
      obtain ⟨rfl, rfl⟩ := hl
      rw [List.append_nil]
      cases hj : ops[a]? with
      | none => rw [hj] at h1; cases h1
      | some y =>
        rw [hj] at h1
        simp only [Bool.and_eq_true, beq_iff_eq] at h1
        obtain ⟨⟨⟨c1, c2⟩, c3⟩, c4⟩ := h1
        refine ⟨y, rfl, c1, fun e he hb => ?_, by simpa using c3, fun i hi hm => ?_⟩
        · have := List.all_eq_true.1 c2 e (by simpa using he)
          simpa [hb] using this
        · have := List.all_eq_true.1 c4 i hi
          rw [hm, Bool.false_or] at this
          cases hx : ops[i]? with
          | none => rw [hx] at this; cases this
          | some x => rw [hx] at this; exact ⟨x, rfl, this⟩
    | cons b p =>
      simp only [List.cons_append, List.cons.injEq] at hl
      obtain ⟨rfl, rfl⟩ := hl
      have := checkO_spec (p ++ j :: q) (done ++ [a]) h2 p q j rfl
      simpa [List.append_assoc] using this
def opsOf (ops : Array Oper) (l : List Nat) : List Oper := l.filterMap fun i => ops[i]?
theorem aAny_perm {G : Glob} {H0 : AHeap} (hC : TabsAll G C) (hE : EMono C) {K : ASt → Prop} {order : List Nat} (hchk : checkP C md ops order = true) : ∀ (l done : List Nat) (listed : Array Bool) (st : ASt), done ++ l = order →
    listed.size = ops.size → (∀ j, j < ops.size → listed.getD j false = decide (j ∈ done)) →
    stepsG C true H0 ops (opsOf ops l) st K → aAny C H0 md ops K l.length listed st := by
  unfold checkP at hchk
  rw [Bool.and_eq_true] at hchk
  obtain ⟨hck, hcov⟩ := hchk
  have hcov : ∀ i, i < ops.size → i ∈ order := fun i hi => by simpa using List.all_eq_true.1 hcov i (List.mem_range.2 hi)
  have hspec : ∀ (p q : List Nat) (j : Nat), order = p ++ j :: q → ∃ y, ops[j]? = some y ∧ (waits md ops.toList).getD j 0 = waitOf md (waits md ops.toList) y ∧ (∀ e ∈ y.after, Region.binds md e = true → e.on ∈ p) ∧ j ∉ p ∧ ∀ i, i ∈ p → ((waits md ops.toList).getD j 0).testBit i = false → ∃ x, ops[i]? = some x ∧ pairP C ops x y = true := by
    intro p q j h
    have := checkO_spec order [] hck p q j h
    simpa using this
  have hcl : ∀ j oj, ops[j]? = some oj → ∀ i, ((waits md ops.toList).getD j 0).testBit i = true → ∃ e ∈ oj.after, Region.binds md e = true ∧ (e.on = i ∨ ((waits md ops.toList).getD e.on 0).testBit i = true) := by
    intro j oj hj i hb
    obtain ⟨p, q, hpq⟩ := List.append_of_mem (hcov j (Array.getElem?_eq_some_iff.1 hj).1)
    obtain ⟨y, hy, hw, _⟩ := hspec p q j hpq
    rw [hj] at hy
    simp only [Option.some.injEq] at hy
    subst hy
    rw [hw] at hb
    exact waitOf_spec hb
  -- what has run is closed under what must have run before
  have hclosed : ∀ (n : Nat) (p q : List Nat) (j : Nat), p.length ≤ n → order = p ++ j :: q → ∀ i, ((waits md ops.toList).getD j 0).testBit i = true → i ∈ p := by
    intro n
    induction n with
    | zero =>
      intro p q j hn hpq i hb
      obtain ⟨y, hy, hw, hdep, _⟩ := hspec p q j hpq
      obtain ⟨e, he, hbd, _⟩ := hcl j y hy i hb
      have := hdep e he hbd
      have hp : p = [] := List.length_eq_zero_iff.1 (by omega)
      subst hp
      cases this
    | succ n ih =>
      intro p q j hn hpq i hb
      obtain ⟨y, hy, hw, hdep, _⟩ := hspec p q j hpq
      obtain ⟨e, he, hbd, hor⟩ := hcl j y hy i hb
      have hep := hdep e he hbd
      rcases hor with rfl | hor
      · exact hep
      · obtain ⟨p1, p2, hp⟩ := List.append_of_mem hep
        have := ih p1 (p2 ++ j :: q) e.on (by rw [hp] at hn; simp at hn; omega) (by rw [hpq, hp]; simp) i hor
        rw [hp]
        exact List.mem_append_left _ this
  intro l
  induction l with
  | nil =>
    intro done listed st hdl hsz hlk h
    rw [List.append_nil] at hdl
    refine ⟨?_, h⟩
    rw [List.eq_nil_iff_forall_not_mem]
    intro j hj
    obtain ⟨h0, o, ho, _⟩ := mem_ready.1 hj
    have hlt := (Array.getElem?_eq_some_iff.1 ho).1
    have := hlk j hlt
    rw [show decide (j ∈ done) = true by rw [decide_eq_true_eq, hdl]; exact hcov j hlt] at this
    rw [getD_tf this] at h0
    cases h0
  | cons i r ih =>
    intro done listed st hdl hsz hlk h
    obtain ⟨oi, hoi, hwi, hdepi, hni, hpr⟩ := hspec done r i hdl.symm
    have hilt := (Array.getElem?_eq_some_iff.1 hoi).1
    have tf : ∀ j, j < ops.size → listed.getD j true = listed.getD j false := fun j hj => by
      have : j < listed.size := by rw [hsz]; exact hj
      simp [this]
    have unl : ∀ j, listed.getD j true = false → j < ops.size ∧ j ∉ done := fun j hj => by
      have hlt : j < ops.size := by
        rcases Nat.lt_or_ge j listed.size with h' | h'
        · rw [← hsz]; exact h'
        · simp [Array.getElem?_eq_none h'] at hj
      rw [tf j hlt, hlk j hlt] at hj
      exact ⟨hlt, by simpa using hj⟩
    have hsteps : stepG C true H0 ops oi st (fun st' => stepsG C true H0 ops (opsOf ops r) st' K) := by
      have e : opsOf ops (i :: r) = oi :: opsOf ops r := by unfold opsOf; rw [List.filterMap_cons, hoi]
      rw [e] at h
      exact h
    refine aAny_first hE hoi (fun j => (waits md ops.toList).getD j 0) hcl r.length listed st ?_ ?_ ?_ ?_ ?_
    · intro Z hZ hall
      have := nodup_len Z (i :: r) hZ (fun j hj => by
        obtain ⟨h1, h2⟩ := unl j (hall j hj)
        have h3 := hcov j h1
        rw [← hdl, List.mem_append] at h3
        rcases h3 with h3 | h3
        · exact absurd h3 h2
        · exact h3)
      simpa using this
    · intro e he i' hb
      have hlt : e < ops.size := by
        rcases Nat.lt_or_ge e listed.size with h' | h'
        · rw [← hsz]; exact h'
        · simp [Array.getElem?_eq_none h'] at he
      rw [hlk e hlt, decide_eq_true_eq] at he
      obtain ⟨p1, p2, hp⟩ := List.append_of_mem he
      have hm := hclosed p1.length p1 (p2 ++ i :: r) e (Nat.le_refl _) (by rw [← hdl, hp]; simp) i' hb
      have hmd : i' ∈ done := by rw [hp]; exact List.mem_append_left _ hm
      have hi'lt : i' < ops.size := by
        obtain ⟨q1, q2, hq⟩ := List.append_of_mem hm
        obtain ⟨y, hy, _⟩ := hspec q1 (q2 ++ e :: (p2 ++ i :: r)) i' (by rw [← hdl, hp, hq]; simp)
        exact (Array.getElem?_eq_some_iff.1 hy).1
      rw [hlk i' hi'lt, decide_eq_true_eq]
      exact hmd
    · intro j oj hj hji hun hm
      obtain ⟨h1, h2⟩ := unl j hun
      have h3 := hcov j h1
      rw [← hdl, List.mem_append, List.mem_cons] at h3
      rcases h3 with h3 | rfl | h3
      · exact absurd h3 h2
      · exact absurd rfl hji
      · obtain ⟨p1, p2, hp⟩ := List.append_of_mem h3
        obtain ⟨y, hy, _, _, _, hpr2⟩ := hspec (done ++ i :: p1) p2 j (by rw [← hdl, hp]; simp)
        rw [hj] at hy
        simp only [Option.some.injEq] at hy
        subst hy
        obtain ⟨x, hx, hxy⟩ := hpr2 i (by simp) hm
        rw [hoi] at hx
        simp only [Option.some.injEq] at hx
        subst hx
        exact swap_of_pairP hC hxy
    · rw [mem_ready]
      refine ⟨by rw [tf i hilt, hlk i hilt]; simpa using hni, oi, hoi, fun e he hb => ?_⟩
      have hed := hdepi e he hb
      have helt : e.on < ops.size := by
        obtain ⟨q1, q2, hq⟩ := List.append_of_mem hed
        obtain ⟨y, hy, _⟩ := hspec q1 (q2 ++ i :: r) e.on (by rw [← hdl, hq]; simp)
        exact (Array.getElem?_eq_some_iff.1 hy).1
      rw [hlk e.on helt]
      simpa using hed
    · refine stepG_mono hE (fun s hs => ?_) hsteps
      refine ih (done ++ [i]) _ s (by rw [← hdl]; simp) (by simpa using hsz) ?_ hs
      intro j hj
      by_cases hjk : i = j
      · subst hjk
        have : i < listed.size := by rw [hsz]; exact hj
        simp [this]
      · rw [getD_set_ne false hjk, hlk j hj]
        have : j ≠ i := fun e => hjk e.symm
        simp [this]
theorem region_any_inP {G : Glob} {E : Base} {K : ASt → Prop} {a : Act} {w : World} {id : Nat} {ops : Array Oper} {H0 : AHeap} {order : List Nat} (r : Option Nat) (n : Nat) (hP0 : ∀ κ, (E.L0 κ).isSome = true → κ ∈ C.pins) (hC : TabsAll G C) (hE : EMono C) (hm : G.P.follows .mixedOrders = true)
    (hchk : checkP C .any ops order = true) (hlen : order.length = ops.size) {st : ASt} {L : Locs} (hs : stepsG C true H0 ops (opsOf ops order) st K) (hR : Rel G E (OpqS G E) C.N st a.tmps w L) (hd : a.defers = E.ds) : (Code.region id ops true).wpIn (FF r) n G.P (QR G E C.N K) a w := by
  refine wpIn_region_draw fun t => ?_
  refine wpOps_in (k := E.ds.length) r n ?_ ?_ ?_ _ a _ ?_ ?_
  · rintro a w ⟨st, L, _, _, hd⟩; rw [hd]; exact Nat.le_refl _
  · exact fun ch a w h => h
  · rintro ⟨a, w, h⟩; exact h
  · rw [hd]; exact Nat.le_refl _
  · simp only [Region.schedule, hm, Bool.true_or, if_true]
    refine wpAny_sound ops.size t _ a _ ?_
    have hx := aAny_perm (K := K) hC hE hchk order [] (Array.replicate ops.size false) st (by simp) (by simp) (fun j hj => by simp [hj]) hs
    rw [hlen] at hx
    refine aAny_wp hP0 hC rfl (Q := QR G E C.N K) (fun a w h => h) ops.size _ a _ ⟨st, L, hx, ?_, hd⟩
    exact hR.grow ⟨rfl, rfl, rfl, Nat.le_refl _, fun _ _ _ => rfl, fun _ _ _ => rfl⟩
/-- A region whose order is open, by a walk in an order of our own. -/
theorem AWp.perm {T : Plan} (order : List Nat) {id : Nat} {rest : Code} {Q : AX → ASt → Prop} {st : ASt} (hchk : checkP C .any ops order = true) (hlen : order.length = ops.size)
    (h : stepsG C true st.H ops (opsOf ops order) st (fun st' => wpc C T rest Q st')) : AWp C (.seq (.region id ops true) rest) Q st := by
  intro G E r n hr hF hP0 a w L hR hd
  refine wpIn_seq (wpIn_mono (region_any_inP (id := id) r n hP0 hF.tabs hF.mono hF.mixed hchk hlen h hR hd) (fun e a w he => ?_))
  cases e with
  | normal =>
    obtain ⟨st2, L2, h1, h2, h3⟩ := he
    exact wpc_sound rest Q _ h1 G E r n hr hF hP0 a w L2 h2 h3
  | _ => exact he.elim
end
end Go.AM
