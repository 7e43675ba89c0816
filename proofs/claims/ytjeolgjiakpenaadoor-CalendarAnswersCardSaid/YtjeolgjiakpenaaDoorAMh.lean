/-
  A part of a proof: see the last text of this claim for what is proved.
-/
import Derived.Test.YtjeolgjiakpenaaDoorAMg
namespace Go.AM
open Go
set_option linter.unusedSimpArgs false
set_option linter.unusedVariables false

section
variable {w : World} {M : Nat → Prop} {L : Locs} {H : AHeap} {S : (List PV → Prop × PV) → Value → Prop} {P : Program}

theorem nth_mem {es : List PV} {i : Nat} (h : i < es.length) : es[i]? = some (PV.nth es i) := by
  unfold PV.nth
  rw [List.getD_eq_getElem?_getD, List.getElem?_eq_getElem h]; rfl
theorem toNat_lt {n : Int} {m : Nat} (h0 : 0 ≤ n) (h1 : n < m) : n.toNat < m := by omega

theorem indexAt_slice {t e : TypeId} {k : IntKind} {n : Int} {b o len cap sz : Nat} (ht : P.underlying t = some (.slice e)) (hs : szOf P e = some sz) (h0 : 0 ≤ n) (h1 : n < len) :
    (Instr.indexAt t (.slice (some ⟨b, o, none⟩) len cap) (.int k n)).run P w = .ok (.pointer (some ⟨b, o + n.toNat * sz, none⟩)) w := by
  unfold Instr.indexAt
  simp only [Sem.run_bind, run_asInt, Result.andThen_ok, run_underlying ht, Sem.run_pure]
  rw [if_pos ⟨h0, h1⟩]
  simp only [Sem.run_bind, run_szOf hs, Result.andThen_ok, Sem.run_pure, Addr.add_lit]
theorem indexAt_array {t e : TypeId} {k : IntKind} {n : Int} {b o len sz : Nat} (ht : P.underlying t = some (.array len e)) (hs : szOf P e = some sz) (h0 : 0 ≤ n) (h1 : n < len) :
    (Instr.indexAt t (.pointer (some ⟨b, o, none⟩)) (.int k n)).run P w = .ok (.pointer (some ⟨b, o + n.toNat * sz, none⟩)) w := by
  unfold Instr.indexAt
  simp only [Sem.run_bind, run_asInt, Result.andThen_ok, run_underlying ht, Sem.run_pure, Instr.sureAddr]
  rw [if_pos ⟨h0, h1⟩]
  simp only [Sem.run_bind, run_szOf hs, Result.andThen_ok, Sem.run_pure, Addr.add_lit]

theorem pint_inv {k : IntKind} {n : Int} {v : Value} (h : PVRel w M (.int k n) v) : v = .int k n := by cases h; rfl

theorem indexAddrA_run {t : TypeId} {x i : AV} {vx vi : Value} (h : (indexAddrA P H t x i).1) (hx : AVRel w M L H S x vx) (hi : AVRel w M L H S i vi) :
    ∃ y, (Instr.indexAt t vx vi).run P w = .ok y w ∧ AVRel w M L H S (indexAddrA P H t x i).2 y := by
  unfold indexAddrA at h ⊢
  split at h
  · rename_i e es k n ht
    obtain ⟨h0, h1, hs⟩ := h
    obtain rfl := int_inv hi
    obtain ⟨a, cap, k', b, o, val, rfl, h2, h3, h4, h5, h6, h7⟩ := sl_inv hx
    have hlt := toNat_lt h0 h1
    have hne : es ≠ [] := by intro e; subst e; simp at hlt
    obtain rfl := h5 hne
    have hm := nth_mem hlt
    have hw : (PV.nth es n.toNat).width = k' := h4 _ (List.mem_of_getElem? hm)
    refine ⟨_, indexAt_slice ht hs h0 h1, .pv _ _ ?_⟩
    rw [hw]
    exact .pp _ 0 b (o + n.toNat * k') (val n.toNat) (fun j c hc => h6 _ _ j c hm hc) (fun j c hc => h7 _ _ j c hm hc)
  · rename_i e key hi' k n ht
    split at h
    · rename_i k' es hH
      obtain ⟨h0, h1, hs⟩ := h
      obtain rfl := int_inv hi
      rcases rs_inv hx with ⟨k2, g1, g2, g3, rfl⟩ | ⟨k2, es2, b, cap, g1, g2, g3, rfl⟩
      · omega
      · rw [hH] at g1
        simp only [Option.some.injEq, ABlk.row.injEq] at g1
        obtain ⟨rfl, rfl⟩ := g1
        refine ⟨_, indexAt_slice ht hs h0 h1, ?_⟩
        have := AVRel.rp (w := w) (M := M) (S := S) key n.toNat 0 k' es b cap hH g2 (by omega)
        simpa using this
    · exact h.elim
  · rename_i e key lo hi' k n ht
    split at h
    · rename_i k' es hH
      obtain ⟨h0, h1, hs⟩ := h
      obtain rfl := int_inv hi
      obtain ⟨k2, es2, b, cap, cap', a, g1, g2, g3, g4, g5, g6, g7, rfl⟩ := rv_inv hx
      rw [hH] at g1
      simp only [Option.some.injEq, ABlk.row.injEq] at g1
      obtain ⟨rfl, rfl⟩ := g1
      obtain rfl := g7 (by omega)
      refine ⟨_, indexAt_slice ht hs h0 (by omega), ?_⟩
      have := AVRel.rp (w := w) (M := M) (S := S) key (lo + n.toNat) 0 k' es b cap hH g2 (by omega)
      rw [← Nat.add_mul]
      simpa using this
    · exact h.elim
  · rename_i len e y k n ht _ _ _
    split at h
    · rename_i sz hs
      obtain ⟨h0, h1, ha⟩ := h
      obtain rfl := int_inv hi
      obtain ⟨b, o, rfl, hr⟩ := addOff_rel ha hx
      exact ⟨_, indexAt_array (by assumption) hs h0 h1, hr⟩
    · exact h.elim
  · exact h.elim

theorem indexA_run {t : TypeId} {x i : AV} {vx vi : Value} (h : (indexA P t x i).1) (hx : AVRel w M L H S x vx) (hi : AVRel w M L H S i vi) :
    ∃ y, (Instr.index t vx vi).run P w = .ok y w ∧ AVRel w M L H S (indexA P t x i).2 y := by
  unfold indexA at h ⊢
  split at h
  · rename_i s k n ht
    obtain ⟨h0, h1⟩ := h
    obtain rfl := int_inv hi
    have hp := pv_inv hx
    cases hp
    have hlt := toNat_lt h0 h1
    refine ⟨_, ?_, .pv _ _ (.int _ _)⟩
    unfold Instr.index
    simp only [Sem.run_bind, run_asInt, Result.andThen_ok, run_underlying ht]
    rw [if_pos h0]
    have : (⟨s.toArray⟩ : ByteArray)[n.toNat]? = some (s.getD n.toNat 0) := by
      rw [List.getD_eq_getElem?_getD, List.getElem?_eq_getElem hlt]
      rw [getElem?_pos (⟨s.toArray⟩ : ByteArray) n.toNat (by simpa [ByteArray.size] using hlt)]
      rfl
    simp only [this, Sem.run_pure]
  · rename_i len e cs k n ht
    split at h
    · rename_i sz hs
      obtain ⟨h0, h1, hp⟩ := h
      obtain rfl := int_inv hi
      have hx' := pv_inv hx
      cases hx' with
      | agg _ vs hs' ho hr =>
        obtain ⟨y, hy, hyr⟩ := part_pure (w := w) (M := M) (L := L) (H := H) (S := S) hp hs' ho hr
        refine ⟨y, ?_, hyr⟩
        unfold Instr.index
        simp only [Sem.run_bind, run_asInt, Result.andThen_ok, run_underlying ht]
        rw [if_pos ⟨h0, h1⟩]
        simp only [Sem.run_bind, run_szOf hs, Result.andThen_ok, hy]
    · exact h.elim
  · rename_i len e cs k n ht
    split at h
    · rename_i sz hs
      obtain ⟨h0, h1, hp⟩ := h
      obtain rfl := int_inv hi
      cases hx with
      | agg _ vs hs' hr =>
        obtain ⟨y, hy, hyr⟩ := part_own (w := w) (M := M) (L := L) (H := H) (S := S) hp hs' hr
        refine ⟨y, ?_, hyr⟩
        unfold Instr.index
        simp only [Sem.run_bind, run_asInt, Result.andThen_ok, run_underlying ht]
        rw [if_pos ⟨h0, h1⟩]
        simp only [Sem.run_bind, run_szOf hs, Result.andThen_ok, hy]
    · exact h.elim
  · exact h.elim

theorem loadA_run {t : TypeId} {x : AV} {vx : Value} (hB : ∀ key B, hget H key = some B → BRel w M L H S key B) (h : (loadA P H t x).1) (hx : AVRel w M L H S x vx) :
    ∃ y, (Instr.loadAt t vx).run P w = .ok y w ∧ AVRel w M L H S (loadA P H t x).2 y := by
  unfold loadA at h ⊢
  split at h
  · rename_i key off
    split at h
    · rename_i cs hH
      obtain ⟨B2, b, cap, g1, gv, g2, rfl⟩ := ptr_inv hx
      obtain ⟨b2, cap2, arr, et, e1, e2, e3, e4⟩ := hB key _ hH
      rw [g2] at e1
      simp only [Option.some.injEq, Prod.mk.injEq] at e1
      obtain ⟨rfl, rfl⟩ := e1
      obtain ⟨y, hy, hr⟩ := load_own (P := P) h e2 e3 e4
      refine ⟨y, ?_, hr⟩
      simp only [Instr.loadAt, Sem.run_bind, Instr.sureAddr, Sem.run_pure, Result.andThen_ok, hy]
    · exact h.elim
  · rename_i key i off
    split at h
    · rename_i k es hH
      obtain ⟨hi, h⟩ := h
      obtain ⟨k2, es2, b, cap, g1, g2, g3, rfl⟩ := rp_inv hx
      rw [hH] at g1
      simp only [Option.some.injEq, ABlk.row.injEq] at g1
      obtain ⟨rfl, rfl⟩ := g1
      have hb := hB key _ hH
      simp only [BRel, g2] at hb
      obtain ⟨hk, hw, arr, et, e1, e2, e3, e4, e5⟩ := hb
      have hm := nth_mem hi
      have hwid := hw _ (List.mem_of_getElem? hm)
      obtain ⟨y, hy, hr⟩ := load_pure (P := P) (w := w) (M := M) (L := L) (H := H) (S := S) (b := b) (o := i * k) (fun j => arr.getD (i * k + j) undef) h
        (fun j c hc => by
          refine ⟨(e5 i _ j c hm hc).1, ?_⟩
          rw [cell_of_row w b _ arr et _ e1]
          have hj : j < k := by
            have := (List.getElem?_eq_some_iff.1 hc).1
            have hw' : (PV.nth es i).cells.length = k := hwid
            omega
          have hlt : i * k + j < arr.size := by
            rw [e2]
            have h1 : (i + 1) * k ≤ cap * k := Nat.mul_le_mul_right _ (by omega)
            have h2 : (i + 1) * k = i * k + k := by rw [Nat.add_mul, Nat.one_mul]
            omega
          simp [Array.getD_eq_getD_getElem?, Array.getElem?_eq_getElem hlt])
        (fun j c hc => (e5 i _ j c hm hc).2)
      refine ⟨y, ?_, hr⟩
      simp only [Instr.loadAt, Sem.run_bind, Instr.sureAddr, Sem.run_pure, Result.andThen_ok, hy]
    · exact h.elim
  · rename_i e off
    obtain ⟨b, o, val, rfl, h1, h2⟩ := pp_inv hx
    obtain ⟨y, hy, hr⟩ := load_pure (P := P) (w := w) (M := M) (L := L) (H := H) (S := S) (b := b) (o := o) val h (fun j c hc => (h1 j c hc).2) h2
    refine ⟨y, ?_, hr⟩
    simp only [Instr.loadAt, Sem.run_bind, Instr.sureAddr, Sem.run_pure, Result.andThen_ok, hy]
  · exact h.elim

theorem nilCheckA_run {o : Oper} {x : Operand} {a : Act} {v : AV} (ho : o.op = .nilCheck x) (h : (nilCheckA v).1) (hx : AVRel w M L H S v (a.eval x)) :
    ∃ y, (execOp a.eval o).run P w = .ok (.value y) w ∧ AVRel w M L H S (nilCheckA v).2 y := by
  unfold nilCheckA at h ⊢
  split at h
  · obtain ⟨B, b, cap, g1, gv, g2, g3⟩ := ptr_inv hx
    refine ⟨a.eval x, ?_, hx⟩
    simp only [execOp, ho, g3]; rfl
  · obtain ⟨k, es, b, cap, g1, g2, g3, g4⟩ := rp_inv hx
    refine ⟨a.eval x, ?_, hx⟩
    simp only [execOp, ho, g4]; rfl
  · obtain ⟨b, o', val, g3, h1, h2⟩ := pp_inv hx
    refine ⟨a.eval x, ?_, hx⟩
    simp only [execOp, ho, g3]; rfl
  · rename_i f cs
    have hp := pv_inv hx
    refine ⟨a.eval x, ?_, hx⟩
    generalize hv : a.eval x = v at *
    cases hp
    simp only [execOp, ho, hv]; rfl
  · refine ⟨a.eval x, ?_, hx⟩
    generalize hv : a.eval x = v at *
    cases hx
    simp only [execOp, ho, hv]; rfl
  · exact h.elim
end
end Go.AM
