/-
  A part of a proof: see the last text of this claim for what is proved.
-/
import Derived.Test.YtamiheckgglgaaaGreatDoorAMp
namespace Go.AM
open Go
set_option linter.unusedSimpArgs false
set_option linter.unusedVariables false

section
variable {G : Glob} {E : Base} {N : Nat} {st : ASt} {a : Act} {w : World} {L : Locs} {C : Ctx}

theorem nils_inv {w : World} {M : Nat → Prop} {L : Locs} {H : AHeap} {S : (List PV → Prop × PV) → Value → Prop} {x : Value} (h : AVRel w M L H S .nils x) : x = .slice none 0 0 := by cases h; rfl
theorem drew_ext (w : World) : Ext NoB w w.drew := ⟨rfl, rfl, rfl, Nat.le_refl _, fun _ _ _ => rfl, fun _ _ _ => rfl⟩

theorem appendA_wp (hP0 : ∀ κ, (E.L0 κ).isSome = true → κ ∈ C.pins) (hC : TabsSound G C) (hN : C.N = N) (hR : Rel G E (OpqS G E) N st a.tmps w L) (hd : a.defers = E.ds) {o : Oper} {args : Array Operand} {ts : Array TypeId} {s x : Operand} {t tx : TypeId} {K : ASt → Prop}
    (ho : o.op = .call { callee := .builtin .append, args, argTypes := ts }) (ha : args.toList = [s, x]) (hts : ts.toList = [t, tx]) (h1 : oc st.ρ s) (h2 : oc st.ρ x)
    (h : appendA C st o.dst t tx (ox st.ρ s) (ox st.ρ x) K) : OpYields G.P o a w (fun y w' => Beh G E N K (a.put o.dst y) w') := by
  have hs := ox_rel hR.env s h1
  have hx := ox_rel hR.env x h2
  have e1 : args = #[s, x] := by rw [← Array.toArray_toList (xs := args), ha]
  have e2 : ts = #[t, tx] := by rw [← Array.toArray_toList (xs := ts), hts]
  subst e1; subst e2
  have run : ∀ {v' : Value} {w' : World}, (Builtin.append_ #[t, tx] o.type #[a.eval s, a.eval x]).run G.P w = .ok v' w' → Beh G E N K (a.put o.dst v') w' → OpYields G.P o a w (fun y w' => Beh G E N K (a.put o.dst y) w') := by
    intro v' w' hr hb
    refine .of_run (v := v') (w' := w') ?_ hb
    simp only [execOp, ho, resolve, invoke, builtin, Sem.run_bind, Sem.run_pure, Result.andThen_ok, List.map_toArray, List.map_cons, List.map_nil, hr]
  unfold appendA at h
  rw [hC.prog] at h
  split at h
  · rename_i e es2 ht hsrc
    split at h
    · rename_i k by' z hk hby hz
      obtain ⟨hk0, hzk, hsx, hw2, h⟩ := h
      obtain ⟨hlen, news, hf, hns, hrow⟩ := srcA_run (P := G.P) hR.blk hsrc hw2 hx
      have hones := hrow.ones hw2 hns
      unfold szOf at hk
      obtain ⟨i, hi, hik⟩ := Option.map_eq_some_iff.1 hk
      have hib : i.bytes = by' := by
        unfold bytesT at hby; rw [hi] at hby; simpa using hby
      have hiz : i.zero = some z := by
        unfold zeroT at hz; rw [hi] at hz; simpa using hz
      have htx : (∃ u, G.P.underlying tx = some (.slice u)) ∨ G.P.underlying tx = some .string := by
        unfold isSliceOrStr at hsx
        rcases Bool.or_eq_true _ _ ▸ hsx with hh | hh
        · exact .inl (isSliceD_eq hh)
        · exact .inr (isStrD_eq hh)
      split at h
      · -- onto nil
        rename_i hnil
        rw [hnil] at hs
        obtain ⟨g1, g2, g3⟩ := h
        have hev : a.eval s = .slice none 0 0 := nils_inv hs
        obtain ⟨v', w', hr, hcase⟩ := run_append_any (P := G.P) (w := w) (ty := o.type) (cur := #[]) (et := 0) (b := none) (hi' := 0) (cap := 0) ht htx hi hiz hik hzk hk0 (.inl ⟨hev, rfl, rfl, rfl⟩) hlen hf hns hones (by omega) (by rw [hib, Nat.zero_add]; exact g1)
        refine run hr ?_
        rcases hcase with ⟨rfl, hww, hn0, _⟩ | ⟨g, hg, _⟩ | ⟨cap', arr, rfl, rfl, q1, q2, q3, q4, q5⟩
        · -- nothing came
          obtain rfl := hww.symm
          have hes : es2 = [] := List.eq_nil_of_length_eq_zero hn0
          subst hes
          cases hdst : o.dst with
          | none => rw [hdst] at g3; exact g3.elim
          | some d =>
            rw [hdst] at g3
            obtain ⟨p1, p2, p3⟩ := g3
            have hne : ∀ key B, hget st.H key = some B → key ≠ d := fun key B hb e => by rw [e, p1] at hb; cases hb
            have hc : ∀ key B0, hget st.H key = some B0 → ∃ B', hget (hset st.H d (.row k [])) key = some B' ∧ B0.le B' ∧ (locSet L d none) key = L key ∧ (L key = none → B0 = B') :=
              fun key B0 hb => ⟨B0, by rw [hget_hset_ne _ _ (Ne.symm (hne key B0 hb))]; exact hb, ABlk.le_refl _, by simp [locSet, hne key B0 hb], fun _ => rfl⟩
            have hget : ∀ key B0, hget (hset st.H d (.row k [])) key = some B0 → ∀ b c, (locSet L d none) key = some (b, c) → hget st.H key = some B0 ∧ L key = some (b, c) ∧ key ≠ d := by
              intro key B0 hb b c hl
              by_cases e : key = d
              · subst e; simp [locSet] at hl
              · rw [hget_hset_ne _ _ (Ne.symm e)] at hb
                simp only [locSet, e, if_false] at hl
                exact ⟨hb, hl, e⟩
            have hk' : Keeps w (Mut E L st.H) w (Mut E (locSet L d none) (hset st.H d (.row k []))) := fun b hb hm => ⟨rfl, fun hm' => hm (by
              rcases hm' with hX | ⟨key, B0, c0, m1, m2⟩
              · exact .inl hX
              · obtain ⟨m3, m4, _⟩ := hget key B0 m1 b c0 m2
                exact .inr ⟨key, B0, c0, m3, m4⟩)⟩
            have hR' : Rel G E (OpqS G E) N { ρ := st.ρ, H := hset st.H d (.row k []) } a.tmps w (locSet L d none) :=
              { size := hR.size, ext := hR.ext, inv := hR.inv, glob := hR.glob, old := hR.old, m0 := hR.m0
                own := fun key B b c m1 m2 => by obtain ⟨m3, m4, _⟩ := hget key B m1 b c m2; exact hR.own key B b c m3 m4
                inj := fun k1 k2 B1 B2 b c1 c2 m1 m2 m3 m4 => by
                  obtain ⟨n1, n2, _⟩ := hget k1 B1 m1 b c1 m3
                  obtain ⟨n3, n4, _⟩ := hget k2 B2 m2 b c2 m4
                  exact hR.inj k1 k2 B1 B2 b c1 c2 n1 n3 n2 n4
                blk := fun key B hb => by
                  by_cases e : key = d
                  · subst e
                    simp only [hget_hset_same, Option.some.injEq] at hb
                    subst hb
                    simp [BRel, locSet, hk0]
                  · have hb' := hb
                    simp only [hget_hset_ne _ _ (Ne.symm e)] at hb'
                    exact (hR.blk key B hb').keepAll hk' hc (fun _ _ _ => rfl) (by simp [locSet, e])
                env := fun s => (hR.env s).keep hk' (fun _ _ h => h) hc
                fix := fun k b c hl => by
                  obtain ⟨f1, B0, f2⟩ := hR.fix k b c hl
                  have e := hne k B0 f2
                  exact ⟨by simp [locSet, e, f1], B0, by rw [hget_hset_ne _ _ (Ne.symm e)]; exact f2⟩ }
            exact ⟨_, locSet L d none, p3, hR'.put (by rw [← hN]; exact p2) (.rsN d k (hget_hset_same _ _ _) (by simp [locSet])), hd⟩
        · cases hg
        · have hq : newB N st o.dst (.row k es2) (fun d => .rs d es2.length) K := by rw [← hN]; exact g3
          simp only [Nat.zero_add] at q2
          refine newB_beh (w1 := w.drew) (cap := cap') hq hR hd (drew_ext w) rfl (fun κ M' L' H' hkp hc hl hheap => ?_) (fun κ w' M' L' H' hg hl => ?_)
          · unfold BRel
            refine ⟨hk0, hw2, ?_⟩
            rw [hl]
            refine ⟨arr, e, hheap, q1, by omega, q3, ?_⟩
            have := RowIn.append (es := []) (cur := #[]) (arr := arr) (k := k) (w := w) (M := Mut E L st.H) (fun _ hh => by simp at hh) hw2 (fun i e j c he => by simp at he) hrow (fun m hm => by simp at hm) (fun m hm => by simpa using q5 m hm)
            simp only [List.nil_append] at this
            exact this.keep hkp
          · have := AVRel.rs (w := w') (M := M') (S := OpqS G E) κ es2.length k es2 w.heap.size cap' hg hl (Nat.le_refl _)
            simpa using this
      · -- onto a row of the call's own
        rename_i key hi' hrs
        rw [hrs] at hs
        split at h
        · rename_i k' es d hH hdst
          obtain ⟨g0, rfl, g2, g3, g4, g5, g6⟩ := h
          have hL0 : E.L0 key = none := by
            cases hl0 : E.L0 key with
            | none => rfl
            | some x => exact (notIn_mem g0 (hP0 key (by rw [hl0]; rfl))).elim
          rw [hdst]
          rw [hdst] at run
          have hb := hR.blk key _ hH
          have hw1 : allW k' es := hb.2.1
          have finish : ∀ {v' : Value} {w' : World} {y : Option (Nat × Nat)}, Rel G E (OpqS G E) N { ρ := killR key st.ρ, H := hset (killH key st.H) key (.row k' (es.take hi' ++ es2)) } a.tmps w' (locSet L key y) →
              AVRel w' (Mut E (locSet L key y) (hset (killH key st.H) key (.row k' (es.take hi' ++ es2)))) (locSet L key y) (hset (killH key st.H) key (.row k' (es.take hi' ++ es2))) (OpqS G E) (.rs key (hi' + es2.length)) v' →
              Beh G E N K (a.put (some d) v') w' := fun hr hv => ⟨_, _, g6, hr.put (by rw [← hN]; exact g5) hv, hd⟩
          have hlenT : (es.take hi' ++ es2).length = hi' + es2.length := by simp; omega
          rcases rs_inv hs with ⟨k2, f1, f2, f3, f4⟩ | ⟨k2, es3, b, cap, f1, f2, f3, f4⟩
          · -- it was nil
            subst f3
            rw [hH] at f1
            simp only [Option.some.injEq, ABlk.row.injEq] at f1
            obtain ⟨rfl, rfl⟩ := f1
            obtain ⟨v', w', hr, hcase⟩ := run_append_any (P := G.P) (w := w) (ty := o.type) (cur := #[]) (et := 0) (b := none) (hi' := 0) (cap := 0) ht htx hi hiz hik hzk hk0 (.inl ⟨f4, rfl, rfl, rfl⟩) hlen hf hns hones (by omega) (by rw [hib]; exact g3)
            refine run hr ?_
            rcases hcase with ⟨rfl, hww, hn0, _⟩ | ⟨g, hg, _⟩ | ⟨cap', arr, rfl, rfl, q1, q2, q3, q4, q5⟩
            · obtain rfl := hww.symm
              have hes : es2 = [] := List.eq_nil_of_length_eq_zero hn0
              subst hes
              obtain ⟨hR', _⟩ := hR.turnBlock (w' := w) hH hL0 (x := none) (B' := .row k' ([].take 0 ++ [])) (fun k hk _ => rfl) (Nat.le_refl _) rfl rfl rfl (fun _ => rfl) (fun b cap h => by cases h)
                (fun M' L' H' hkp hc hl => by simp [BRel, hl, hk0])
              exact finish hR' (by have := AVRel.rsN (w := w) (M := Mut E (locSet L key none) (hset (killH key st.H) key (.row k' ([].take 0 ++ [])))) (L := locSet L key none) (H := hset (killH key st.H) key (.row k' ([].take 0 ++ []))) (S := OpqS G E) key k' (by simpa using hget_hset_same (killH key st.H) key (.row k' [])) (by simp [locSet]); simpa using this)
            · cases hg
            · simp only [Nat.zero_add] at q2
              obtain ⟨hR', _⟩ := hR.turnBlock (w' := w.drew.alloc (.cells arr e)) hH hL0 (x := some (w.heap.size, cap')) (B' := .row k' ([].take 0 ++ es2))
                (fun k hk _ => heap_alloc_old w.drew _ hk) (by simp) rfl rfl rfl (fun a => frozen_alloc w.drew _ _ a) (fun b cap h => by simp only [Option.some.injEq, Prod.mk.injEq] at h; exact .inr (by omega))
                (fun M' L' H' hkp hc hl => by
                  unfold BRel
                  refine ⟨hk0, by simpa [allW] using hw2, ?_⟩
                  rw [hl]
                  refine ⟨arr, e, heap_alloc_new w.drew _, q1, by simpa using q2, q3, ?_⟩
                  have := RowIn.append (es := []) (cur := #[]) (arr := arr) (k := k') (w := w) (M := Mut E L st.H) (fun _ hh => by simp at hh) hw2 (fun i e j c he => by simp at he) hrow (fun m hm => by simp at hm) (fun m hm => by simpa using q5 m hm)
                  have h9 := this.keep hkp
                  simpa [RowIn] using h9)
              refine finish hR' ?_
              exact .rs key _ k' _ w.heap.size cap' (hget_hset_same _ _ _) (by simp [locSet]) (by rw [hlenT]; exact Nat.le_refl _)
          · rw [hH] at f1
            simp only [Option.some.injEq, ABlk.row.injEq] at f1
            obtain ⟨rfl, rfl⟩ := f1
            simp only [BRel, f2] at hb
            obtain ⟨_, _, arr0, et, p1, p2, p3, p4, p5⟩ := hb
            have hlenE : (es.take hi').length = hi' := by simp; omega
            have hrow0 : RowIn w (Mut E L st.H) k' (es.take hi') arr0 := fun i e j c he hc => by
              rw [List.getElem?_take] at he
              split at he
              · exact p5 i e j c he hc
              · cases he
            obtain ⟨v', w', hr, hcase⟩ := run_append_any (P := G.P) (w := w) (ty := o.type) (cur := arr0) (et := et) (b := some b) (hi' := hi') (cap := cap) ht htx hi hiz hik hzk hk0 (.inr ⟨b, rfl, f4, p1, p2, by omega, p4⟩) hlen hf hns hones g4 (by rw [hib]; exact g3)
            refine run hr ?_
            rcases hcase with ⟨_, _, _, hg⟩ | ⟨g, hg, hroom, rfl, rfl⟩ | ⟨cap', arr, rfl, rfl, q1, q2, q3, q4, q5⟩
            · cases hg
            · -- there was room
              cases hg
              have hfit : hi' * k' + news.toList.length ≤ arr0.size := by
                rw [Array.length_toList, hns, p2, ← Nat.add_mul]; exact Nat.mul_le_mul_right _ hroom
              obtain ⟨r1, r2, r3, r4, r5⟩ := setRow_facts (w := w) (b := b) (arr := (arr0.toList.take (hi' * k') ++ news.toList ++ arr0.toList.drop (hi' * k' + news.toList.length)).toArray)
              have hgd : ∀ m, ((arr0.toList.take (hi' * k') ++ news.toList ++ arr0.toList.drop (hi' * k' + news.toList.length)).toArray).getD m undef = if hi' * k' ≤ m ∧ m < hi' * k' + es2.length * k' then news.getD (m - hi' * k') undef else arr0.getD m undef := by
                intro m
                simp only [Array.getD_eq_getD_getElem?]
                rw [splice_get _ _ _ _ hfit]
                simp only [Array.length_toList, hns]
                split
                · simp
                · rfl
              obtain ⟨hR', _⟩ := hR.turnBlock (w' := w.setRow b (arr0.toList.take (hi' * k') ++ news.toList ++ arr0.toList.drop (hi' * k' + news.toList.length)).toArray) hH hL0 (x := some (b, cap)) (B' := .row k' (es.take hi' ++ es2))
                (fun k _ hk => r1 k (hk b cap f2)) (by omega) r3 r4 r5 setRow_frozen (fun b' cap'' h => by simp only [Option.some.injEq, Prod.mk.injEq] at h; exact .inl ⟨cap, by rw [← h.1]; exact f2⟩)
                (fun M' L' H' hkp hc hl => by
                  unfold BRel
                  refine ⟨hk0, allW_append (allW_take hw1) hw2, ?_⟩
                  rw [hl]
                  refine ⟨_, et, setRow_heap w b arr0 _ et _ p1, ?_, by rw [hlenT]; exact hroom, p4, ?_⟩
                  · rw [splice_eq _ _ _ hfit, size_putA]; exact p2
                  · refine (RowIn.append (cur := arr0) (allW_take hw1) hw2 hrow0 hrow (fun m hm => ?_) (fun m hm => ?_)).keep hkp
                    · rw [hlenE] at hm; rw [hgd, if_neg (by omega)]
                    · rw [hlenE, hgd, if_pos (by omega)]; congr 1; omega)
              refine finish hR' ?_
              exact .rs key _ k' _ b cap (hget_hset_same _ _ _) (by simp [locSet]) (by rw [hlenT]; exact Nat.le_refl _)
            · -- a new row
              obtain ⟨hR', _⟩ := hR.turnBlock (w' := w.drew.alloc (.cells arr e)) hH hL0 (x := some (w.heap.size, cap')) (B' := .row k' (es.take hi' ++ es2))
                (fun k hk _ => heap_alloc_old w.drew _ hk) (by simp) rfl rfl rfl (fun a => frozen_alloc w.drew _ _ a) (fun b cap h => by simp only [Option.some.injEq, Prod.mk.injEq] at h; exact .inr (by omega))
                (fun M' L' H' hkp hc hl => by
                  unfold BRel
                  refine ⟨hk0, allW_append (allW_take hw1) hw2, ?_⟩
                  rw [hl]
                  refine ⟨arr, e, heap_alloc_new w.drew _, q1, by rw [hlenT]; exact q2, q3, ?_⟩
                  exact (RowIn.append (cur := arr0) (allW_take hw1) hw2 hrow0 hrow (fun m hm => q4 m (by rw [hlenE] at hm; exact hm)) (fun m hm => by rw [hlenE]; exact q5 m hm)).keep hkp)
              refine finish hR' ?_
              exact .rs key _ k' _ w.heap.size cap' (hget_hset_same _ _ _) (by simp [locSet]) (by rw [hlenT]; exact Nat.le_refl _)
        · exact h.elim
      · exact h.elim
    · exact h.elim
  · exact h.elim
end
end Go.AM
