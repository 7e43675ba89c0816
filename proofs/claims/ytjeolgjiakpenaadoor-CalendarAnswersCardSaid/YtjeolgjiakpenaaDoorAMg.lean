/-
  A part of a proof: see the last text of this claim for what is proved.
-/
import Derived.Test.YtjeolgjiakpenaaDoorAMf
namespace Go.AM
open Go
set_option linter.unusedSimpArgs false
set_option linter.unusedVariables false

section
variable {w : World} {M : Nat → Prop} {L : Locs} {H : AHeap} {S : (List PV → Prop × PV) → Value → Prop} {P : Program}

theorem isBoolD_eq {d : Option TypeDesc} (h : isBoolD d = true) : d = some .bool := by
  unfold isBoolD at h; split at h <;> simp_all
theorem isIfaceD_eq {d : Option TypeDesc} (h : isIfaceD d = true) : ∃ ms, d = some (.interface ms) := by
  unfold isIfaceD at h; split at h <;> simp_all
theorem isPtrD_eq {d : Option TypeDesc} (h : isPtrD d = true) : ∃ e, d = some (.pointer e) := by
  unfold isPtrD at h; split at h <;> simp_all

theorem eqIn_bool (d : Nat) {t : TypeId} (a b : Bool) (h : P.underlying t = some .bool) : (Op.equalIn (d + 1) t (.bool a) (.bool b)).run P w = .ok (a == b) w := by
  simp only [Op.equalIn, Sem.run_bind, run_underlying h, Result.andThen_ok]; rfl
theorem eqIn_nn (d : Nat) {t : TypeId} {ms : Array (String × TypeId)} (h : P.underlying t = some (.interface ms)) : (Op.equalIn (d + 1) t .nilIface .nilIface).run P w = .ok true w := by
  simp only [Op.equalIn, Sem.run_bind, run_underlying h, Result.andThen_ok]; rfl
theorem eqIn_ni (d : Nat) {t u : TypeId} {v : Value} {ms : Array (String × TypeId)} (h : P.underlying t = some (.interface ms)) : (Op.equalIn (d + 1) t .nilIface (.iface u v)).run P w = .ok false w := by
  simp only [Op.equalIn, Sem.run_bind, run_underlying h, Result.andThen_ok]; rfl
theorem eqIn_in (d : Nat) {t u : TypeId} {v : Value} {ms : Array (String × TypeId)} (h : P.underlying t = some (.interface ms)) : (Op.equalIn (d + 1) t (.iface u v) .nilIface).run P w = .ok false w := by
  simp only [Op.equalIn, Sem.run_bind, run_underlying h, Result.andThen_ok]; rfl
theorem eqIn_pn (d : Nat) {t e : TypeId} {b : Option Addr} (h : P.underlying t = some (.pointer e)) : (Op.equalIn (d + 1) t (.pointer none) (.pointer b)).run P w = .ok b.isNone w := by
  simp only [Op.equalIn, Sem.run_bind, run_underlying h, Result.andThen_ok]; rfl
theorem eqIn_np (d : Nat) {t e : TypeId} {b : Addr} (h : P.underlying t = some (.pointer e)) : (Op.equalIn (d + 1) t (.pointer (some b)) (.pointer none)).run P w = .ok false w := by
  simp only [Op.equalIn, Sem.run_bind, run_underlying h, Result.andThen_ok]; rfl

/-- 'Op.equal' where one cell of plain data stands. -/
theorem eqP_run {t : TypeId} {c : Bool} {p q : PV} {x y : Value} (h : (eqP (P.underlying t) c p q).1) (hx : PVRel w M p x) (hy : PVRel w M q y) :
    (Op.equal t x y).run P w = .ok (eqP (P.underlying t) c p q).2 w ∧ (∀ k n, x ≠ .int k n) ∧ (∀ s, x ≠ .string s) ∧ (∀ k b, x ≠ .float k b) ∧ (∀ k a b, x ≠ .complex k a b) ∧ (∀ cs, x ≠ .agg cs) ∧
      ((x = .nilIface ∧ y = .nilIface) → c = true) := by
  unfold eqP at h ⊢
  split at h
  · cases hx; cases hy
    exact ⟨eqIn_bool 9999 _ _ (isBoolD_eq h), by simp, by simp, by simp, by simp, by simp, by simp⟩
  · cases hx; cases hy
    obtain ⟨ms, hm⟩ := isIfaceD_eq h.1
    exact ⟨eqIn_nn 9999 hm, by simp, by simp, by simp, by simp, by simp, fun _ => h.2⟩
  · cases hx; cases hy
    obtain ⟨ms, hm⟩ := isIfaceD_eq h
    exact ⟨eqIn_ni 9999 hm, by simp, by simp, by simp, by simp, by simp, by simp⟩
  · cases hx; cases hy
    obtain ⟨ms, hm⟩ := isIfaceD_eq h
    exact ⟨eqIn_in 9999 hm, by simp, by simp, by simp, by simp, by simp, by simp⟩
  · cases hx; cases hy
    obtain ⟨ms, hm⟩ := isPtrD_eq h
    exact ⟨eqIn_pn 9999 hm, by simp, by simp, by simp, by simp, by simp, by simp⟩
  · cases hx; cases hy
    obtain ⟨ms, hm⟩ := isPtrD_eq h
    exact ⟨eqIn_pn 9999 hm, by simp, by simp, by simp, by simp, by simp, by simp⟩
  · cases hx; cases hy
    obtain ⟨ms, hm⟩ := isPtrD_eq h
    exact ⟨eqIn_np 9999 hm, by simp, by simp, by simp, by simp, by simp, by simp⟩
  · exact h.elim

theorem isC_matches (x : Operand) : (match x with | .const _ => true | _ => false) = isC x := by cases x <;> rfl

theorem binP_run {op : BinOp} {t ty : TypeId} {ox oy : Operand} {p q : PV} {x y : Value} (h : (binP op (P.underlying t) (isC ox || isC oy) p q).1) (hx : PVRel w M p x) (hy : PVRel w M q y) :
    ∃ v, (do eqGuard op t ox oy x y; Go.binOp op t x y : Sem Value).run P w = .ok v w ∧ PVRel w M (binP op (P.underlying t) (isC ox || isC oy) p q).2 v := by
  unfold binP at h ⊢
  split at h
  · rename_i k a k' b
    obtain ⟨rfl, h⟩ := h
    cases hx; cases hy
    obtain ⟨v, hv, hr⟩ := binI_run (w := w) (M := M) (P := P) (t := t) h
    refine ⟨v, ?_, hr⟩
    have hg : (eqGuard op t ox oy (.int k a) (.int k b)).run P w = .ok () w := by
      unfold eqGuard; cases op <;> simp
    simp only [Sem.run_bind, hg, Result.andThen_ok, hv]
  · rename_i a b
    cases hx; cases hy
    obtain ⟨v, hv, hr⟩ := binS_run (w := w) (M := M) (P := P) (t := t) h
    refine ⟨v, ?_, hr⟩
    have hg : (eqGuard op t ox oy (.string ⟨a.toArray⟩) (.string ⟨b.toArray⟩)).run P w = .ok () w := by
      unfold eqGuard; cases op <;> simp
    simp only [Sem.run_bind, hg, Result.andThen_ok, hv]
  · have key : ∀ (hh : (eqP (P.underlying t) (isC ox || isC oy) p q).1) (op : BinOp) (hop : op = .eql ∨ op = .neq), (eqGuard op t ox oy x y).run P w = .ok () w := by
      intro hh op hop
      obtain ⟨_, _, _, _, _, ha, hn⟩ := eqP_run hh hx hy
      unfold eqGuard
      rcases hop with rfl | rfl
      all_goals
        simp only [Bool.not_true, Bool.false_eq_true, if_false]
        split
        · have hc := hn ⟨rfl, rfl⟩
          cases ox <;> cases oy <;> simp_all [isC]
        · exact absurd rfl (ha _)
        · rfl
    cases op <;> simp only at h <;> try exact h.elim
    case eql =>
      obtain ⟨h1, h2, h3, h4, h5, h6, _⟩ := eqP_run h hx hy
      refine ⟨.bool (eqP (P.underlying t) (isC ox || isC oy) p q).2, ?_, .bool _⟩
      simp only [Sem.run_bind, key h .eql (.inl rfl), Result.andThen_ok]
      have : Go.binOp .eql t x y = (do pure (.bool (← Op.equal t x y))) := by
        cases x <;> first | exact absurd rfl (h2 _ _) | exact absurd rfl (h3 _) | exact absurd rfl (h4 _ _) | exact absurd rfl (h5 _ _ _) | (cases y <;> rfl)
      rw [this]
      simp [h1]
    case neq =>
      obtain ⟨h1, h2, h3, h4, h5, h6, _⟩ := eqP_run h hx hy
      refine ⟨.bool (!(eqP (P.underlying t) (isC ox || isC oy) p q).2), ?_, .bool _⟩
      simp only [Sem.run_bind, key h .neq (.inr rfl), Result.andThen_ok]
      have : Go.binOp .neq t x y = (do pure (.bool (!(← Op.equal t x y)))) := by
        cases x <;> first | exact absurd rfl (h2 _ _) | exact absurd rfl (h3 _) | exact absurd rfl (h4 _ _) | exact absurd rfl (h5 _ _ _) | (cases y <;> rfl)
      rw [this]
      simp [h1]

theorem unP_run {op : UnOp} {p : PV} {x : Value} (h : (unP op p).1) (hx : PVRel w M p x) : ∃ v, (Op.unary op x).run P w = .ok v w ∧ PVRel w M (unP op p).2 v := by
  unfold unP at h ⊢
  split at h
  · cases hx
    have h : op = .not := h
    subst h
    exact ⟨_, rfl, .bool _⟩
  · cases hx
    have h : op = .neg := h
    subst h
    exact ⟨_, rfl, .int _ _⟩
  · exact h.elim

theorem convP_run {s d : TypeId} {p : PV} {x : Value} (h : (convP (P.underlying s) (P.underlying d) p).1) (hx : PVRel w M p x) :
    ∃ v, (Go.convert s d x).run P w = .ok v w ∧ PVRel w M (convP (P.underlying s) (P.underlying d) p).2 v := by
  unfold convP at h ⊢
  split at h
  · split at h
    · rename_i ds k hs hd
      cases hx
      refine ⟨_, ?_, .int _ _⟩
      unfold Go.convert
      simp only [Sem.run_bind, run_underlying hs, run_underlying hd, Result.andThen_ok]
      rfl
    · exact h.elim
  · split at h
    · rename_i hs hd
      cases hx
      refine ⟨_, ?_, .str _⟩
      unfold Go.convert
      simp only [Sem.run_bind, run_underlying hs, run_underlying hd, Result.andThen_ok]
      rfl
    · exact h.elim
  · exact h.elim

theorem extractA_run {i : Nat} {v : AV} {x : Value} (h : (extractA i v).1) (hx : AVRel w M L H S v x) : ∃ y, (Instr.extract x i).run P w = .ok y w ∧ AVRel w M L H S (extractA i v).2 y := by
  unfold extractA at h ⊢
  split at h
  · rename_i vs
    have hp := pv_inv hx
    cases hp with
    | tup _ vs' hs hr =>
      have h : i < vs.length := h
      have hlt : i < vs'.size := by omega
      refine ⟨vs'.getD i undef, ?_, .pv _ _ ?_⟩
      · simp [Instr.extract, Array.getElem?_eq_getElem hlt, Array.getD_eq_getD_getElem?]
      · have hh := List.getElem?_eq_getElem h
        have he : vs.getD i default = vs[i] := by simp [List.getD_eq_getElem?_getD, hh]
        simp only [he]
        exact hr _ _ hh
  · exact h.elim

theorem fieldAt_spec {t : TypeId} {f off : Nat} {ft : TypeId} (h : fieldAt P t f = some (off, ft)) : ∃ fs x, P.underlying t = some (.struct fs) ∧ fs[f]? = some x ∧ x.offset = off ∧ x.type = ft := by
  unfold fieldAt at h
  split at h
  · rename_i fs hfs
    obtain ⟨x, hx, he⟩ := Option.map_eq_some_iff.1 h
    simp only [Prod.mk.injEq] at he
    exact ⟨fs, x, hfs, hx, he.1, he.2⟩
  · cases h

theorem fieldV_run {t : TypeId} {f : Nat} {v : AV} {x : Value} (h : (fieldV P t f v).1) (hx : AVRel w M L H S v x) : ∃ y, (Instr.field t x f).run P w = .ok y w ∧ AVRel w M L H S (fieldV P t f v).2 y := by
  unfold fieldV at h ⊢
  split at h
  · rename_i off ft cs hf
    obtain ⟨fs, fx, h1, h2, rfl, rfl⟩ := fieldAt_spec hf
    have hp := pv_inv hx
    cases hp with
    | agg _ vs hs ho hr =>
      obtain ⟨y, hy, hyr⟩ := part_pure (w := w) (M := M) (L := L) (H := H) (S := S) h hs ho hr
      refine ⟨y, ?_, hyr⟩
      unfold Instr.field
      simp only [Sem.run_bind, run_underlying h1, Result.andThen_ok, h2, asAgg, Sem.run_pure, hy]
  · rename_i off ft cs hf
    obtain ⟨fs, fx, h1, h2, rfl, rfl⟩ := fieldAt_spec hf
    cases hx with
    | agg _ vs hs hr =>
      obtain ⟨y, hy, hyr⟩ := part_own (w := w) (M := M) (L := L) (H := H) (S := S) h hs hr
      refine ⟨y, ?_, hyr⟩
      unfold Instr.field
      simp only [Sem.run_bind, run_underlying h1, Result.andThen_ok, h2, asAgg, Sem.run_pure, hy]
  · exact h.elim

theorem addOff_rel {n : Nat} {v : AV} {x : Value} (h : (addOff n v).1) (hx : AVRel w M L H S v x) : ∃ b o, x = .pointer (some ⟨b, o, none⟩) ∧ AVRel w M L H S (addOff n v).2 (.pointer (some ⟨b, o + n, none⟩)) := by
  unfold addOff at h ⊢
  split at h
  · obtain ⟨B, b, cap, h1, hv, h2, rfl⟩ := ptr_inv hx
    exact ⟨b, _, rfl, .ptr _ _ B b cap h1 hv h2⟩
  · obtain ⟨k, es, b, cap, h1, h2, h3, rfl⟩ := rp_inv hx
    exact ⟨b, _, rfl, by rw [Nat.add_assoc]; exact .rp _ _ _ k es b cap h1 h2 h3⟩
  · obtain ⟨b, o, val, rfl, h1, h2⟩ := pp_inv hx
    exact ⟨b, _, rfl, .pv _ _ (by rw [Nat.add_assoc]; exact .pp _ _ b o val h1 h2)⟩
  · exact h.elim

theorem fieldAddrA_run {t : TypeId} {f : Nat} {v : AV} {x : Value} (h : (fieldAddrA P t f v).1) (hx : AVRel w M L H S v x) : ∃ y, (Instr.fieldAt t x f).run P w = .ok y w ∧ AVRel w M L H S (fieldAddrA P t f v).2 y := by
  unfold fieldAddrA at h ⊢
  split at h
  · rename_i off ft hf
    obtain ⟨fs, fx, h1, h2, rfl, rfl⟩ := fieldAt_spec hf
    obtain ⟨ha, hsz, hnz⟩ := h
    obtain ⟨b, o, rfl, hr⟩ := addOff_rel ha hx
    obtain ⟨n, hn⟩ := Option.isSome_iff_exists.1 hsz
    refine ⟨_, ?_, hr⟩
    have hne : n ≠ 0 := fun e => hnz (by rw [hn, e])
    unfold Instr.fieldAt
    simp only [Sem.run_bind, run_underlying h1, Result.andThen_ok, h2, Instr.sureAddr, Sem.run_pure, fieldPlace, run_szOf hn, if_neg hne, Addr.add_lit]
  · exact h.elim
end
end Go.AM
