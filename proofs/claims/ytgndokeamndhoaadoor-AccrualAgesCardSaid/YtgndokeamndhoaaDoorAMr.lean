/-
  A part of a proof: see the last text of this claim for what is proved.
-/
import Derived.Test.YtgndokeamndhoaaDoorAMq
import Derived.Laws.MakeOwn
namespace Go.AM
open Go
set_option linter.unusedSimpArgs false
set_option linter.unusedVariables false

section
variable {G : Glob} {E : Base} {N : Nat} {st : ASt} {a : Act} {w : World} {L : Locs} {C : Ctx}

theorem cells_newB {v : AV} {x : Value} (hx : AVRel w (Mut E L st.H) L st.H (OpqS G E) v x) (ho : (cellsA v).all AV.one = true) {w' : World} {et : TypeId} {cap : Nat} (κ : Nat) (M' : Nat → Prop) (L' : Locs) (H' : AHeap)
    (hk : Keeps w (Mut E L st.H) w' M') (hc : ∀ key B, hget st.H key = some B → ∃ B', hget H' key = some B' ∧ B.le B' ∧ L' key = L key ∧ (L key = none → B = B'))
    (hl : L' κ = some (w.heap.size, cap)) (hh : w'.heap[w.heap.size]? = some (.cells x.cells et (0, 0))) : BRel w' M' L' H' (OpqS G E) κ (.cells (cellsA v)) := by
  have h1 := (CRel.of_cellsA ho hx).keepAll hk hc
  exact ⟨w.heap.size, cap, x.cells, et, hl, hh, h1.1, h1.2⟩

theorem ofV_free (v : Value) : (ofV v).free = true := by
  have h1 : ∀ v, (ofV1 v).free = true := by intro v; unfold ofV1; split <;> rfl
  unfold ofV
  split
  · rename_i cs
    simp only [AV.free]
    generalize cs.toList = l
    induction l with
    | nil => rfl
    | cons c r ih => simp [AV.freeL, h1, ih]
  · exact h1 _
theorem zeroP_cells {z : Value} (hk : frzOk [] 2 (ofV z)) (w : World) (M : Nat → Prop) : ∀ (j : Nat) c, (zeroP z).cells[j]? = some c → PVRel w M c (z.cells.getD j undef) := by
  have hzr := frz_free (w := w) (M := M) (L := fun _ => none) (H := []) (S := fun _ _ => False) 2 (ofV z) z (ofV_free z) hk (ofV_rel z)
  intro j c hc
  unfold zeroP at hc
  generalize hqq : frz [] 2 (ofV z) = q at *
  cases hzr <;> first
    | (rename_i cs vs h1 h2 h3; simpa [Value.cells] using h3 j c (by simpa [PV.cells] using hc))
    | (simp only [PV.cells] at hc
       cases j with
       | zero => simp at hc; subst hc; simp only [Value.cells]; first | exact PVRel.bool _ | exact PVRel.int _ _ | exact PVRel.str _ | exact PVRel.nilI | exact PVRel.nilP | (constructor <;> assumption)
       | succ j => simp at hc)

theorem makeA_wp (hC : TabsSound G C) (hN : C.N = N) (hR : Rel G E (OpqS G E) N st a.tmps w L) (hd : a.defers = []) {o : Oper} {t : TypeId} {l c : Operand} {K : ASt → Prop} (ho : o.op = .makeSlice t l c)
    (h1 : oc st.ρ l) (h2 : oc st.ρ c) (h : makeA C st o.dst t (ox st.ρ l) (ox st.ρ c) K) : OpYields G.P o a w (fun y w' => Beh G E N K (a.put o.dst y) w') := by
  have hl := ox_rel hR.env l h1
  have hc := ox_rel hR.env c h2
  unfold makeA at h
  rw [hC.prog] at h
  split at h
  · rename_i e kn n km m ht hln hcm
    rw [hln] at hl; rw [hcm] at hc
    have el := int_inv hl
    have ec := int_inv hc
    split at h
    · rename_i k by' z hk hby hz
      obtain ⟨hk0, hzk, g1, g2, g3, g4, g5, g6, g7, g8, g9⟩ := h
      unfold szOf at hk
      obtain ⟨i, hi, hik⟩ := Option.map_eq_some_iff.1 hk
      have hib : i.bytes = by' := by
        unfold bytesT at hby; rw [hi] at hby; simpa using hby
      have hiz : i.zero = some z := by
        unfold zeroT at hz; rw [hi] at hz; simpa using hz
      have hbytes : (i.bytes : Int) * m ≤ 281474976710656 := by rw [hib, Int.mul_comm]; exact g3
      have hrun := run_make (P := G.P) w t e i z ht hi hiz kn km n m g1 g2 hbytes g4
      rw [hik] at hrun
      have hexec : (execOp a.eval o).run G.P w = .ok (.value (.slice (some ⟨w.heap.size, 0, none⟩) n.toNat m.toNat)) (w.alloc (.cells (madeCells z.cells (m.toNat * k)) e)) := by
        simp only [execOp, ho, el, ec, Sem.run_bind, hrun, Result.andThen_ok, Sem.run_pure]
      refine .of_run hexec ?_
      have hq : newB N st o.dst (.row k (List.replicate n.toNat (zeroP z))) (fun d => .rs d n.toNat) K := by rw [← hN]; exact g9
      refine newB_beh (w1 := w) (cap := m.toNat) hq hR hd (Ext.refl _ _) rfl (fun κ M' L' H' hkp hc hl' hheap => ?_) (fun κ w' M' L' H' hg hl' => ?_)
      · unfold BRel
        refine ⟨hk0, fun e' he' => by rw [(List.mem_replicate.1 he').2]; exact g7, ?_⟩
        rw [hl']
        refine ⟨_, e, hheap, size_madeCells _ _, by simp; omega, by simp only [maxLen]; omega, fun i' e' j c he' hcj => ?_⟩
        obtain ⟨rfl, hi'⟩ := getD_replicate_cells (c := e') (j := 0) (k := 0) he'
        refine ⟨List.all_eq_true.1 g8 c (List.mem_of_getElem? hcj), ?_⟩
        have hj : j < k := by
          have h1 := (List.getElem?_eq_some_iff.1 hcj).1
          have h2 : (zeroP z).cells.length = k := g7
          omega
        have hlt : i' * k + j < m.toNat * k := by
          have h3 : (i' + 1) * k ≤ m.toNat * k := Nat.mul_le_mul_right _ (by omega)
          rw [Nat.add_mul, Nat.one_mul] at h3; omega
        have hget : (madeCells z.cells (m.toNat * k)).getD (i' * k + j) undef = z.cells.getD j undef := by
          have hmod : (i' * k + j) % k = j := by rw [Nat.mul_comm, Nat.mul_add_mod, Nat.mod_eq_of_lt hj]
          simp [madeCells, Array.getD_eq_getD_getElem?, hlt, hzk, hmod, hj]
        rw [hget]
        exact zeroP_cells g5 _ _ j c hcj
      · exact .rs κ _ k _ w.heap.size m.toNat hg hl' (by simp)
    · exact h.elim
  · exact h.elim

/-- AN OPERATION, whatever it does: behind it stands what the walk says. -/
theorem aopE_wp (hC : TabsSound G C) (hN : C.N = N) (hR : Rel G E (OpqS G E) N st a.tmps w L) (hd : a.defers = []) {o : Oper} {K : ASt → Prop} (h : aopE C o st K) :
    OpYields G.P o a w (fun y w' => Beh G E N K (a.put o.dst y) w') := by
  have pure : (aopP C st.ρ st.H o.op).1 ∧ putD C.N st o.dst (aopP C st.ρ st.H o.op).2 K → OpYields G.P o a w (fun y w' => Beh G E N K (a.put o.dst y) w') := by
    rintro ⟨h1, h2⟩
    refine (aopP_yields hC.prog hC.pure hR h1).mono (fun v w' ⟨he, hv⟩ => ?_)
    rw [hN] at h2
    exact putD_beh h2 (hR.grow he) hv hd
  unfold aopE at h
  split at h
  · rename_i t ho
    split at h
    · rename_i z hz
      obtain ⟨h1, h2⟩ := h
      rw [hC.prog] at hz
      rw [hN] at h2
      have hexec : (execOp a.eval o).run G.P w = .ok (.value (.pointer (some ⟨w.heap.size, 0, none⟩))) (w.alloc (.cells z.cells t)) := by
        simp only [execOp, ho, Instr.alloc, Sem.run_bind, run_zeroT hz, Result.andThen_ok, newVar, newRow, run_newObj, Sem.run_pure]
        rfl
      refine .of_run hexec ?_
      refine newB_beh (w1 := w) (cap := 0) h2 hR hd (Ext.refl _ _) rfl (fun κ M' L' H' hkp hc hl hheap => ?_) (fun κ w' M' L' H' hg hl => ?_)
      · exact cells_newB (ofV_rel z) h1 κ M' L' H' hkp hc hl hheap
      · exact .ptr κ 0 _ w.heap.size 0 hg rfl hl
    · exact h.elim
  · rename_i t x ho
    obtain ⟨h0, h1, h2⟩ := h
    rw [hN] at h2
    have hx := ox_rel hR.env x h0
    have hexec : (execOp a.eval o).run G.P w = .ok (.value (.pointer (some ⟨w.heap.size, 0, none⟩))) (w.alloc (.cells (a.eval x).cells t)) := by
      simp only [execOp, ho, Instr.box, Sem.run_bind, newVar, newRow, run_newObj, Result.andThen_ok, Sem.run_pure]
      rfl
    refine .of_run hexec ?_
    refine newB_beh (w1 := w) (cap := 0) h2 hR hd (Ext.refl _ _) rfl (fun κ M' L' H' hkp hc hl hheap => ?_) (fun κ w' M' L' H' hg hl => ?_)
    · exact cells_newB hx h1 κ M' L' H' hkp hc hl hheap
    · exact .ptr κ 0 _ w.heap.size 0 hg rfl hl
  · rename_i t l c ho
    exact makeA_wp hC hN hR hd ho h.1 h.2.1 h.2.2
  · rename_i t x v ho
    exact storeA_wp hC hN hR hd ho h.1 h.2.1 h.2.2.1 h.2.2.2
  · rename_i args ts ho
    split at h
    · rename_i s x t tx ha hts
      exact appendA_wp hC hN hR hd ho ha hts h.1 h.2.1 h.2.2
    · exact h.elim
  · rename_i f args ts ho
    split at h
    · rename_i g caps hcal
      split at h
      · rename_i ψ hψ
        obtain ⟨h1, h2, h3⟩ := h
        obtain ⟨vs, hx, hcaps⟩ := calleeA_inv hcal (ox_rel hR.env f h1)
        have hall := (LRel.of_ops hR.env args.toList h2).append hcaps
        obtain ⟨hent, hcall⟩ := hC.eff g ψ hψ _ _ _ _ h3
        unfold OpYields
        have e1 : (args.map a.eval) ++ vs = (args.toList.map a.eval ++ vs.toList).toArray := by rw [map_toArr]; simp
        rw [exec_call ho hx hent w, e1]
        refine (hcall E N a.tmps w L _ hR hall).mono ?_
        rintro e w' ⟨v, r, st', L', rfl, hk, hR', hv⟩
        rw [hN] at hk
        exact ⟨v, rfl, putD_beh hk hR' hv hd⟩
      · exact pure h
    · exact pure h
  · exact pure h
end
end Go.AM
