/-
  A part of a proof: see the last text of this claim for what is proved.
-/
import Derived.Test.YthdlbokgbkejnaaGreatDoorAX
import Derived.Test.YthdlbokgbkejnaaGreatDoorCM
import Derived.Shelf.Strings.Builder1
import Derived.Test.YthdlbokgbkejnaaGreatDoorGH
namespace Go.AM
open Go Go.Proofs Go.Shelf Go.RowKit
set_option linter.unusedVariables false
set_option linter.unusedSimpArgs false
set_option maxRecDepth 100000
def BufV (w : World) (e : TypeId) (v : Value) (bs : List UInt8) : Prop :=
  (v = .slice none 0 0 ∧ bs = []) ∨ ∃ g cap arr, v = .slice (some ⟨g, 0, none⟩) bs.length cap ∧ w.heap[g]? = some (.cells arr e (0, 0)) ∧ arr.size = cap ∧ bs.length ≤ cap ∧ cap ≤ maxLen ∧ ∀ (i : Nat) (c : UInt8), bs[i]? = some c → arr.getD i undef = .int .u8 c.toNat
theorem u8_inv {w : World} {M : Nat → Prop} {n : Int} {v : Value} (h : PVRel w M (.int .u8 n) v) : v = .int .u8 n := by cases h; rfl
theorem run_append_bytes {P : Program} {t u ty e : TypeId} {i : TypeInfo} (ht : P.underlying t = some (.slice e)) (hu : P.underlying u = some .string) (hi : P.info? e = some i) (hz : i.zero = some (.int .u8 0)) (hsize : i.size = 1) (hby : i.bytes = 1)
    (w : World) (v : Value) (bs s : List UInt8) (hv : BufV w e v bs) (h63 : bs.length + s.length ≤ 140737488355328) :
    ∃ v' w', (Builtin.append_ #[t, u] ty #[v, .string ⟨s.toArray⟩]).run P w = .ok v' w' ∧ BufV w' e v' (bs ++ s) ∧ w'.os = w.os ∧ w'.tape = w.tape ∧ w'.output = w.output ∧ w.heap.size ≤ w'.heap.size ∧
      (∀ k, k < w.heap.size → v.ownBlock ≠ some k → w'.heap[k]? = w.heap[k]?) ∧ (∀ g, v'.ownBlock = some g → v.ownBlock = some g ∨ w.heap.size ≤ g) := by
  have hM : bs.length + s.length ≤ maxLen := by simp only [maxLen]; omega
  obtain ⟨hlen, news, hf, hns, hrow⟩ := srcA_run (P := P) (w := w) (M := NoB) (L := fun _ => none) (H := []) (S := fun _ _ => False) (v := .pv (.str s)) (k := 1) (es2 := s.map fun b => .int .u8 b.toNat) (fun key B hk => by cases hk) rfl (by
    intro x hx; obtain ⟨c, _, rfl⟩ := List.mem_map.1 hx; rfl) (.pv _ _ (.str s))
  have hw2 : allW 1 (s.map fun b => PV.int .u8 b.toNat) := by intro x hx; obtain ⟨c, _, rfl⟩ := List.mem_map.1 hx; rfl
  have hones := hrow.ones hw2 hns
  simp only [List.length_map] at hlen hf hns
  have hnew : ∀ (j : Nat) (c : UInt8), s[j]? = some c → news.getD j undef = .int .u8 c.toNat := fun j c hj => by
    have := (hrow j (.int .u8 c.toNat) 0 (.int .u8 c.toNat) (by rw [List.getElem?_map, hj]; rfl) rfl).2
    rw [Nat.mul_one, Nat.add_zero] at this
    exact u8_inv this
  have hs63 : ∀ {n : Nat}, n ≤ bs.length → (n + s.length) * i.bytes ≤ 140737488355328 := fun {n} hn => by rw [hby, Nat.mul_one]; omega
  rcases hv with ⟨rfl, rfl⟩ | ⟨g, cap, arr0, rfl, p1, p2, p3, p4, p5⟩
  · obtain ⟨v', w', hr, hcase⟩ := run_append_any (P := P) (w := w) (ty := ty) (cur := #[]) (et := 0) (b := none) (hi' := 0) (cap := 0) (k := 1) ht (.inr hu) hi hz hsize rfl (by omega) (.inl ⟨rfl, rfl, rfl, rfl⟩) hlen hf hns hones (by simp only [maxLen] at hM ⊢; omega) (hs63 (Nat.zero_le _))
    rcases hcase with ⟨rfl, rfl, hn0, _⟩ | ⟨g, hg, _⟩ | ⟨cap', arr, rfl, rfl, q1, q2, q3, q4, q5⟩
    · have hs0 : s = [] := List.eq_nil_of_length_eq_zero hn0
      subst hs0
      exact ⟨_, _, hr, .inl ⟨rfl, rfl⟩, rfl, rfl, rfl, Nat.le_refl _, fun _ _ _ => rfl, fun g hg => by cases hg⟩
    · cases hg
    · refine ⟨_, _, hr, .inr ⟨w.heap.size, cap', arr, by simp, heap_alloc_new w.drew _, by simpa using q1, by simpa using q2, q3, fun j c hj => ?_⟩, rfl, rfl, rfl, by simp, fun k hk _ => heap_alloc_old w.drew _ hk, fun g hg => .inr ?_⟩
      · have hjl := (List.getElem?_eq_some_iff.1 hj).1
        have := q5 j (by simpa using hjl)
        simp only [Nat.zero_mul, Nat.zero_add] at this
        rw [this]; exact hnew j c (by simpa using hj)
      · have : w.heap.size = g := by simpa [Value.ownBlock] using hg
        omega
  · obtain ⟨v', w', hr, hcase⟩ := run_append_any (P := P) (w := w) (ty := ty) (cur := arr0) (et := e) (b := some g) (hi' := bs.length) (cap := cap) (k := 1) ht (.inr hu) hi hz hsize rfl (by omega) (.inr ⟨g, rfl, rfl, p1, by omega, p3, p4⟩) hlen hf hns hones hM (hs63 (Nat.le_refl _))
    have hl : (bs ++ s).length = bs.length + s.length := List.length_append
    rcases hcase with ⟨_, _, _, hg⟩ | ⟨g', hg, hroom, rfl, rfl⟩ | ⟨cap', arr, rfl, rfl, q1, q2, q3, q4, q5⟩
    · cases hg
    · cases hg
      have hfit : bs.length * 1 + news.toList.length ≤ arr0.size := by
        have : news.toList.length = s.length := by simpa using hns
        omega
      obtain ⟨r1, r2, r3, r4, r5⟩ := setRow_facts (w := w) (b := g) (arr := (arr0.toList.take (bs.length * 1) ++ news.toList ++ arr0.toList.drop (bs.length * 1 + news.toList.length)).toArray)
      refine ⟨_, _, hr, .inr ⟨g, cap, _, by rw [hl], setRow_heap w g arr0 _ e _ p1, ?_, by rw [hl]; exact hroom, p4, fun j c hj => ?_⟩, r3, r4, r5, by omega, fun k hk hne => r1 k (fun e => hne (by rw [e]; rfl)), fun g' hg => .inl (by simpa [Value.ownBlock] using hg)⟩
      · rw [splice_eq _ _ _ hfit, size_putA]; exact p2
      · simp only [Array.getD_eq_getD_getElem?]
        rw [splice_get _ _ _ _ hfit]
        simp only [Array.length_toList, hns, Nat.mul_one]
        by_cases hj1 : j < bs.length
        · rw [if_neg (by omega)]
          rw [List.getElem?_append_left hj1] at hj
          have := p5 j c hj
          simpa [Array.getD_eq_getD_getElem?] using this
        · have hj2 := (List.getElem?_eq_some_iff.1 hj).1
          rw [hl] at hj2
          rw [if_pos ⟨by omega, by omega⟩]
          rw [List.getElem?_append_right (by omega)] at hj
          have := hnew _ c hj
          simpa [Array.getD_eq_getD_getElem?] using this
    · refine ⟨_, _, hr, .inr ⟨w.heap.size, cap', arr, by rw [hl], heap_alloc_new w.drew _, by simpa using q1, by rw [hl]; exact q2, q3, fun j c hj => ?_⟩, rfl, rfl, rfl, by simp, fun k hk _ => heap_alloc_old w.drew _ hk, fun g' hg => .inr ?_⟩
      · by_cases hj1 : j < bs.length
        · rw [List.getElem?_append_left hj1] at hj
          rw [q4 j (by omega)]; exact p5 j c hj
        · have hj2 := (List.getElem?_eq_some_iff.1 hj).1
          rw [hl] at hj2
          rw [List.getElem?_append_right (by omega)] at hj
          have := q5 (j - bs.length) (by omega)
          rw [show bs.length * 1 + (j - bs.length) = j by omega] at this
          rw [this]; exact hnew _ c hj
      · have : w.heap.size = g' := by simpa [Value.ownBlock] using hg
        omega
theorem wpList_append_bytes {P : Program} {w : World} {ops : Array Oper} {rest : List Oper} {o : Oper} {a : Act} {Q : Exit → Act → World → Prop} (hgd : o.guard = none) (sl x : Operand) (t u : TypeId)
    (ho : o.op = .call { callee := .builtin .append, args := #[sl, x], argTypes := #[t, u] }) (e : TypeId) (i : TypeInfo) (ht : P.underlying t = some (.slice e)) (hu : P.underlying u = some .string) (hi : P.info? e = some i) (hz : i.zero = some (.int .u8 0)) (hsize : i.size = 1) (hby : i.bytes = 1)
    (v : Value) (bs s : List UInt8) (hs : a.eval sl = v) (hv : BufV w e v bs) (hx : a.eval x = .string ⟨s.toArray⟩) (h63 : bs.length + s.length ≤ 140737488355328)
    (h : ∀ v' w', BufV w' e v' (bs ++ s) → w'.os = w.os → w'.tape = w.tape → w'.output = w.output → w.heap.size ≤ w'.heap.size → (∀ k, k < w.heap.size → v.ownBlock ≠ some k → w'.heap[k]? = w.heap[k]?) → (∀ g, v'.ownBlock = some g → v.ownBlock = some g ∨ w.heap.size ≤ g) →
      wpList P ops Q rest (a.put o.dst v') w') : wpList P ops Q (o :: rest) a w := by
  refine wpList_plain hgd fun K hK => ?_
  obtain ⟨v', w', hr, h1, h2, h3, h4, h5, h6, h7⟩ := run_append_bytes (ty := o.type) ht hu hi hz hsize hby w v bs s hv h63
  unfold Oper.wp execOp
  simp only [ho, resolve, invoke, builtin, Sem.run_bind, Sem.run_pure, Result.andThen_ok, List.map_toArray, List.map_cons, List.map_nil, hs, hx, hr]
  exact hK _ _ (h v' w' h1 h2 h3 h4 h5 h6 h7)
variable {P : Program} {ρ : Ren}
structure Wrote (w w' : World) (b : Nat) (v : Value) (T e : TypeId) (bs : List UInt8) : Prop where
  var : ∃ v', w'.heap[b]? = some (.cells #[.pointer (some ⟨b, 0, none⟩), v'] T (0, 0)) ∧ BufV w' e v' bs ∧ ∀ g, v'.ownBlock = some g → v.ownBlock = some g ∨ w.heap.size ≤ g
  os : w'.os = w.os
  tape : w'.tape = w.tape
  output : w'.output = w.output
  size : w.heap.size ≤ w'.heap.size
  block : ∀ k, k < w.heap.size → k ≠ b → v.ownBlock ≠ some k → w'.heap[k]? = w.heap[k]?
set_option maxHeartbeats 1000000 in
theorem wstr_fine (L : Lays.n166 P ρ) (X : Builder.Extra P ρ) (b : Nat) (p v : Value) (bs s : List UInt8) (w : World) (hbk : w.heap[b]? = some (.cells #[p, v] (ρ.t 72) (0, 0))) (hp : p = .pointer none ∨ p = .pointer (some ⟨b, 0, none⟩)) (hv : BufV w (ρ.t 5) v bs) (hne : v.ownBlock ≠ some b)
    (hlen : bs.length + s.length ≤ 140737488355328) :
    Calls P (ρ.f 166) #[.pointer (some ⟨b, 0, none⟩), .string ⟨s.toArray⟩] w fun e w' => e = .returned (.tuple #[.int .i64 s.length, .nilIface]) ∧ Wrote w w' b v (ρ.t 72) (ρ.t 5) (bs ++ s) := by
  obtain ⟨i0, hi, hz0, hz1, hz2⟩ := info_parts X.infoByte
  have mixed := L.mixed
  have t72 := L.t72; have a72 := L.a72; have z72 := L.z72; have v72 := L.v72; have u72 := run_underlying L.t72
  have t70 := L.t70; have a70 := L.a70; have z70 := L.z70; have v70 := L.v70; have u70 := run_underlying L.t70
  have t37 := L.t37; have a37 := L.a37; have z37 := L.z37; have v37 := L.v37; have u37 := run_underlying L.t37
  have t3 := L.t3; have a3 := L.a3; have z3 := L.z3; have v3 := L.v3; have u3 := run_underlying L.t3
  have t9 := L.t9; have a9 := L.a9; have z9 := L.z9; have v9 := L.v9; have u9 := run_underlying L.t9
  have t4 := L.t4; have a4 := L.a4; have z4 := L.z4; have v4 := L.v4; have u4 := run_underlying L.t4
  have t164 := L.t164; have a164 := L.a164; have z164 := L.z164; have v164 := L.v164; have u164 := run_underlying L.t164
  have t5 := X.t5; have a5 := X.a5; have z5 := X.z5; have v5 := X.v5; have u5 := run_underlying X.t5
  have e240 : ∀ args w, (callFunc (ρ.f 240) args).run P w = .ok (.enter (ρ.f 240) args) w := enters_of L.f240 (by kernel_rfl) rfl
  have hlt : b < w.heap.size := (Array.getElem?_eq_some_iff.1 hbk).1
  have hcc : Calls P (ρ.f 240) #[.pointer (some ⟨b, 0, none⟩)] w fun e w' => e = .returned (.tuple #[]) ∧ w'.heap[b]? = some (.cells #[.pointer (some ⟨b, 0, none⟩), v] (ρ.t 72) (0, 0)) ∧ w'.os = w.os ∧ w'.tape = w.tape ∧ w'.output = w.output ∧ w'.heap.size = w.heap.size ∧ ∀ k, k ≠ b → w'.heap[k]? = w.heap[k]? := by
    rcases hp with rfl | rfl
    · refine (Any.Builder_copyCheck_fresh { L with } X.toX72 b w (by rw [Lib.cell_of_heap hbk]; rfl) (by simp [World.shape?, hbk]) (Lib.frozen_of_heap hbk 0)).mono ?_
      rintro e w' ⟨rfl, rfl⟩
      exact ⟨rfl, by simp [World.setCell, Array.getElem?_modify, hbk], rfl, rfl, rfl, by simp [World.setCell], fun k hk => Below.heap_setCell _ _ _ _ hk⟩
    · refine (Any.Builder_copyCheck_used { L with } X.toX72 b w (by rw [Lib.cell_of_heap hbk]; rfl)).mono ?_
      rintro e w' ⟨rfl, rfl⟩
      exact ⟨rfl, hbk, rfl, rfl, rfl, rfl, fun _ _ => rfl⟩
  go_enter L.f166, Body.n166_ntmps ρ
  go_wp2_with (go_at_fn (ρ.f 240); refine hcc.mono ?_)
  rintro e w1 ⟨rfl, hbk1, ho1, ht1, hu1, hs1, hb1⟩
  have hv1 : BufV w1 (ρ.t 5) v bs := by
    rcases hv with h | ⟨g, cap, arr, rfl, h1, h2⟩
    · exact .inl h
    · exact .inr ⟨g, cap, arr, rfl, (hb1 g (fun e => hne (by rw [e]; rfl))).trans h1, h2⟩
  have c0 : w1.cell? ⟨b, 0, none⟩ = some (.pointer (some ⟨b, 0, none⟩)) := by rw [Lib.cell_of_heap hbk1]; rfl
  have c1 : w1.cell? ⟨b, 1, none⟩ = some v := by rw [Lib.cell_of_heap hbk1]; rfl
  go_wp2_with (at_builtin; refine wpList_append_bytes rfl _ _ (ρ.t 37) (ρ.t 9) rfl (ρ.t 5) i0 L.t37 L.t9 hi hz0 hz1 hz2 v bs s rfl hv1 rfl hlen ?_)
  intro v' w2 hv2 ho2 ht2 hu2 hs2 hk2 hg2
  have hb2 : w2.heap[b]? = some (.cells #[.pointer (some ⟨b, 0, none⟩), v] (ρ.t 72) (0, 0)) := by
    rw [hk2 b (by omega) hne]; exact hbk1
  have d0 : w2.cell? ⟨b, 0, none⟩ = some (.pointer (some ⟨b, 0, none⟩)) := by rw [Lib.cell_of_heap hb2]; rfl
  have d1 : w2.cell? ⟨b, 1, none⟩ = some v := by rw [Lib.cell_of_heap hb2]; rfl
  have f1 : w2.frozen? ⟨b, 1, none⟩ = false := Lib.frozen_of_heap hb2 1
  obtain ⟨ao, n', cap, rfl⟩ : ∃ ao n' cap, v' = .slice ao n' cap := by
    rcases hv2 with ⟨hv, _⟩ | ⟨g, cap, cur, hv, _⟩
    · exact ⟨_, _, _, hv⟩
    · exact ⟨_, _, _, hv⟩
  go_wp2
  go_ret2
  have hgb : ∀ g, (Value.slice ao n' cap).ownBlock = some g → g ≠ b := fun g hg e => by
    rcases hg2 g hg with h | h
    · exact hne (by rw [← e]; exact h)
    · omega
  refine ⟨by simp [ByteArray.size], ⟨_, ?_, ?_, fun g hg => (hg2 g hg).imp id (fun h => by omega)⟩, ?_, ?_, ?_, ?_, fun k hk hkb hkv => ?_⟩
  · simp [World.setCell, Array.getElem?_modify, hb2]
  · rcases hv2 with h | ⟨g, cap, arr, h0, h1, h2⟩
    · exact .inl h
    · refine .inr ⟨g, cap, arr, h0, ?_, h2⟩
      rw [Below.heap_setCell _ _ _ _ (hgb g (by rw [h0]; rfl))]; exact h1
  · first | exact ho2 | exact ho2.trans ho1
  · first | exact ht2 | exact ht2.trans ht1
  · first | exact hu2 | exact hu2.trans hu1
  · simp [World.setCell]; omega
  · rw [Below.heap_setCell _ _ _ _ hkb, hk2 k (by omega) hkv, hb1 k hkb]
end Go.AM
namespace Go.AM
open Go Go.Proofs Go.Shelf Go.RowKit
set_option linter.unusedVariables false
set_option linter.unusedSimpArgs false
set_option maxRecDepth 100000
variable {P : Program} {ρ : Ren}
theorem freeze_heap (w : World) (g n k : Nat) (h : k ≠ g) : (w.freeze ⟨g, 0, none⟩ n).heap[k]? = w.heap[k]? := by
  unfold World.freeze
  split
  · rfl
  · simp only [Array.getElem?_modify]
    rw [if_neg (Ne.symm h)]
theorem freeze_facts (w : World) (g n : Nat) : (w.freeze ⟨g, 0, none⟩ n).os = w.os ∧ (w.freeze ⟨g, 0, none⟩ n).tape = w.tape ∧ (w.freeze ⟨g, 0, none⟩ n).output = w.output ∧ (w.freeze ⟨g, 0, none⟩ n).heap.size = w.heap.size := by
  unfold World.freeze
  split
  · exact ⟨rfl, rfl, rfl, rfl⟩
  · exact ⟨rfl, rfl, rfl, by simp⟩
structure Read (w w' : World) (v : Value) : Prop where
  os : w'.os = w.os
  tape : w'.tape = w.tape
  output : w'.output = w.output
  size : w.heap.size ≤ w'.heap.size
  block : ∀ k, k < w.heap.size → v.ownBlock ≠ some k → w'.heap[k]? = w.heap[k]?
theorem Read.of_below {w w' : World} {v : Value} (h : Below w.heap.size w w') : Read w w' v := ⟨h.os, h.tape, h.output, h.size, fun k hk _ => h.block k hk⟩
set_option maxHeartbeats 1000000 in
theorem bstr_some (L : Lays.n169 P ρ) (X : Builder.Extra P ρ) (b g cap : Nat) (p : Value) (arr : Array Value) (l : List UInt8) (w : World) (hbk : w.heap[b]? = some (.cells #[p, .slice (some ⟨g, 0, none⟩) l.length cap] (ρ.t 72) (0, 0))) (hg : w.heap[g]? = some (.cells arr (ρ.t 5) (0, 0)))
    (hcs : arr.size = cap) (hnc : l.length ≤ cap) (hcm : cap ≤ maxLen) (hc : ∀ (i : Nat) (c : UInt8), l[i]? = some c → arr.getD i undef = .int .u8 c.toNat) (h0 : l ≠ []) :
    Calls P (ρ.f 169) #[.pointer (some ⟨b, 0, none⟩)] w fun e w' => e = .returned (.string ⟨l.toArray⟩) ∧ Read w w' (.slice (some ⟨g, 0, none⟩) l.length cap) := by
  have hl0 : l.length ≠ 0 := by simpa using h0
  have c1 : w.drew.cell? ⟨b, 1, none⟩ = some (.slice (some ⟨g, 0, none⟩) l.length cap) := by
    have : w.drew.heap[b]? = some (.cells #[p, .slice (some ⟨g, 0, none⟩) l.length cap] (ρ.t 72) (0, 0)) := hbk
    rw [Lib.cell_of_heap this]; rfl
  have hSD : (Builtin.unsafeSliceData_ #[(ρ.t 37)] (ρ.t 127) #[.slice (some ⟨g, 0, none⟩) l.length cap]).run P w.drew = .ok (.pointer (some ⟨g, 0, none⟩)) w.drew :=
    Lib.run_unsafeSliceData_row _ _ _ _ _ _ (by omega)
  have hg' : w.drew.heap[g]? = some (.cells arr (ρ.t 5) (0, 0)) := hg
  have hUS : (Builtin.unsafeString_ #[(ρ.t 127), (ρ.t 3)] (ρ.t 9) #[.pointer (some ⟨g, 0, none⟩), .int .i64 l.length]).run P w.drew = .ok (.string ⟨l.toArray⟩) (w.drew.freeze ⟨g, 0, none⟩ l.length) := by
    refine Lib.run_unsafeString_row w.drew (ρ.t 127) (ρ.t 3) (ρ.t 9) (ρ.t 5) L.t127 X.cellsByte g arr.size (by simp [World.shape?, hg']) l h0 (by omega) (by unfold maxLen at hcm; omega) ?_
    intro j x hx
    have hj := (List.getElem?_eq_some_iff.1 hx).1
    have h1 := hc j x hx
    have hj2 : j < arr.size := by omega
    have h2 : arr[j]? = some (.int .u8 x.toNat) := by
      rw [Array.getElem?_eq_getElem hj2]
      simpa [Array.getD, hj2] using h1
    have h3 : w.drew.cell? ⟨g, j, none⟩ = some (.int .u8 x.toNat) := by rw [Lib.cell_of_heap hg']; exact h2
    have e : ((⟨g, 0, none⟩ : Addr).add j) = ⟨g, j, none⟩ := by
      unfold Addr.add
      split <;> simp_all
    rw [e]; exact h3
  have mixed := L.mixed
  have t72 := L.t72; have a72 := L.a72; have z72 := L.z72; have v72 := L.v72; have u72 := run_underlying L.t72
  have t70 := L.t70; have a70 := L.a70; have z70 := L.z70; have v70 := L.v70; have u70 := run_underlying L.t70
  have t37 := L.t37; have a37 := L.a37; have z37 := L.z37; have v37 := L.v37; have u37 := run_underlying L.t37
  have t127 := L.t127; have a127 := L.a127; have z127 := L.z127; have v127 := L.v127; have u127 := run_underlying L.t127
  have t3 := L.t3; have a3 := L.a3; have z3 := L.z3; have v3 := L.v3; have u3 := run_underlying L.t3
  have t9 := L.t9; have a9 := L.a9; have z9 := L.z9; have v9 := L.v9; have u9 := run_underlying L.t9
  have t5 := X.t5; have a5 := X.a5; have z5 := X.z5; have v5 := X.v5; have u5 := run_underlying X.t5
  go_enter L.f169, Body.n169_ntmps ρ
  go_wp2
  go_region_o
  all_goals
    go_wp2
    go_ret
    obtain ⟨x1, x2, x3, x4⟩ := freeze_facts w.drew g l.length
    exact ⟨rfl, x1, x2, x3, Nat.le_of_eq x4.symm, fun k hk hne => freeze_heap w.drew g l.length k (fun e => hne (by rw [e]; rfl))⟩
theorem bstr_fine (L : Lays.n169 P ρ) (X : Builder.Extra P ρ) (b : Nat) (p v : Value) (bs : List UInt8) (w : World) (hbk : w.heap[b]? = some (.cells #[p, v] (ρ.t 72) (0, 0))) (hv : BufV w (ρ.t 5) v bs) :
    Calls P (ρ.f 169) #[.pointer (some ⟨b, 0, none⟩)] w fun e w' => e = .returned (.string ⟨bs.toArray⟩) ∧ Read w w' v := by
  rcases hv with ⟨rfl, rfl⟩ | ⟨g, cap, arr, rfl, h1, h2, h3, h4, h5⟩
  · refine (Any.Builder_String_nil L X w.heap.size b p w hbk).mono ?_
    rintro e w' ⟨rfl, hb⟩
    exact ⟨rfl, .of_below hb⟩
  · cases bs with
    | cons x r => exact bstr_some L X b g cap p arr (x :: r) w hbk h1 h2 h3 h4 h5 (by simp)
    | nil =>
      by_cases hc : cap = 0
      · subst hc
        refine (Any.Builder_String_noroom L X w.heap.size b g p arr w (Nat.le_refl _) hbk h1).mono ?_
        rintro e w' ⟨rfl, hb⟩
        exact ⟨rfl, .of_below hb⟩
      · refine (Any.Builder_String_room L X w.heap.size b g cap p w hc hbk).mono ?_
        rintro e w' ⟨rfl, hb⟩
        exact ⟨rfl, .of_below hb⟩
end Go.AM
namespace Go.AM
open Go Go.Proofs Go.Shelf Go.RowKit
set_option linter.unusedVariables false
set_option linter.unusedSimpArgs false
set_option maxRecDepth 100000
def bldAddr (κ : Nat) : AV → Prop
  | .pv .nilP => True
  | .ptr κ' 0 => κ' = κ
  | _ => False
def psiWS (T e : TypeId) : ESpec := fun d args st K => match args with
  | [.ptr κ 0, .pv (.str s)] => match hget st.H κ with
    | some (.typed T' [a, .bufh κ2 n]) => match hget st.H κ2 with
      | some (.buf e' bs) => T' = T ∧ e' = e ∧ 1000000 ≤ κ2 ∧ bldAddr κ a ∧ bs.length + s.length ≤ 140737488355328 ∧
          K (.pv (.tup [.int .i64 s.length, .nilI])) ⟨killR κ2 st.ρ, hset (hset (killH κ2 st.H) κ2 (.buf e (bs ++ s))) κ (.typed T [.ptr κ 0, .bufh κ2 (bs.length + s.length)])⟩
      | _ => False
    | _ => False
  | _ => False
def psiSt (T e : TypeId) : ESpec := fun d args st K => match args with
  | [.ptr κ 0] => match hget st.H κ with
    | some (.typed T' [a, .bufh κ2 n]) => match hget st.H κ2 with
      | some (.buf e' bs) => T' = T ∧ e' = e ∧ 1000000 ≤ κ2 ∧ K (.pv (.str bs)) ⟨killR κ2 st.ρ, hset (killH κ2 st.H) κ2 (.buf e [])⟩
      | _ => False
    | _ => False
  | _ => False
theorem psiWS_mono {T e : TypeId} : ∀ d args st (K K' : AV → ASt → Prop), (∀ r s, K r s → K' r s) → psiWS T e d args st K → psiWS T e d args st K' := by
  intro d args st K K' hk h
  unfold psiWS at h ⊢
  split at h
  · split at h
    · rename_i hκ
      split at h
      · rename_i hκ2
        exact ⟨h.1, h.2.1, h.2.2.1, h.2.2.2.1, h.2.2.2.2.1, hk _ _ h.2.2.2.2.2⟩
      · exact h.elim
    · exact h.elim
  · exact h.elim
theorem psiSt_mono {T e : TypeId} : ∀ d args st (K K' : AV → ASt → Prop), (∀ r s, K r s → K' r s) → psiSt T e d args st K → psiSt T e d args st K' := by
  intro d args st K K' hk h
  unfold psiSt at h ⊢
  split at h
  · split at h
    · rename_i hκ
      split at h
      · rename_i hκ2
        exact ⟨h.1, h.2.1, h.2.2.1, hk _ _ h.2.2.2⟩
      · exact h.elim
    · exact h.elim
  · exact h.elim
theorem lrel1 {w : World} {M : Nat → Prop} {L : Locs} {H : AHeap} {S : (List PV → Prop × PV) → Value → Prop} {v : AV} {xs : List Value} (h : LRel w M L H S [v] xs) : ∃ x, xs = [x] ∧ AVRel w M L H S v x := by
  cases h with
  | cons _ x _ xs h1 h2 => cases h2; exact ⟨x, rfl, h1⟩
theorem lrel2 {w : World} {M : Nat → Prop} {L : Locs} {H : AHeap} {S : (List PV → Prop × PV) → Value → Prop} {v u : AV} {xs : List Value} (h : LRel w M L H S [v, u] xs) : ∃ x y, xs = [x, y] ∧ AVRel w M L H S v x ∧ AVRel w M L H S u y := by
  cases h with
  | cons _ x _ xs h1 h2 =>
    obtain ⟨y, rfl, h3⟩ := lrel1 h2
    exact ⟨x, y, rfl, h1, h3⟩
section
variable {G : Glob} {E : Base} {N : Nat} {st : ASt} {a : Array Value} {w : World} {L : Locs} {S : (List PV → Prop × PV) → Value → Prop}
theorem bld_facts (hR : Rel G E S N st a w L) {κ κ2 n : Nat} {T e : TypeId} {a0 : AV} {bs : List UInt8} (h1 : hget st.H κ = some (.typed T [a0, .bufh κ2 n])) (h2 : hget st.H κ2 = some (.buf e bs)) :
    ∃ b cap p v, L κ = some (b, cap) ∧ w.heap[b]? = some (.cells #[p, v] T (0, 0)) ∧ AVRel w (Mut E L st.H) L st.H S a0 p ∧ BufV w e v bs ∧ v.ownBlock ≠ some b ∧ (∀ g, v.ownBlock = some g → ∃ c, L κ2 = some (g, c)) ∧ (∀ g c, L κ2 = some (g, c) → v.ownBlock = some g) := by
  obtain ⟨b, cap, arr, e1, e2, e3, e4⟩ := hR.blk κ _ h1
  have hb2 := hR.blk κ2 _ h2
  match arr, e3 with
  | ⟨[p, v]⟩, _ =>
    have hp := e4 0 a0 rfl
    have hv := e4 1 (.bufh κ2 n) rfl
    simp only [Array.getD_eq_getD_getElem?, List.getElem?_toArray, List.getElem?_cons_zero, List.getElem?_cons_succ, Option.getD_some] at hp hv
    refine ⟨b, cap, p, v, e1, e2, hp, ?_⟩
    cases hv with
    | bufN _ e' g1 g2 =>
      rw [h2] at g1
      simp only [Option.some.injEq, ABlk.buf.injEq] at g1
      obtain ⟨rfl, rfl⟩ := g1
      exact ⟨.inl ⟨rfl, rfl⟩, by simp [Value.ownBlock], fun g hg => by simp [Value.ownBlock] at hg, fun g c hl => by rw [g2] at hl; cases hl⟩
    | buf _ e' bs' b2 cap2 g1 g2 =>
      rw [h2] at g1
      simp only [Option.some.injEq, ABlk.buf.injEq] at g1
      obtain ⟨rfl, rfl⟩ := g1
      simp only [BRel, g2] at hb2
      obtain ⟨arr2, f1, f2, f3, f4, f5⟩ := hb2
      refine ⟨.inr ⟨b2, cap2, arr2, rfl, f1, f2, f3, f4, f5⟩, fun he => ?_, fun g hg => ⟨cap2, ?_⟩, fun g c hl => ?_⟩
      · have he : b2 = b := by simpa [Value.ownBlock] using he
        subst he
        have := hR.inj κ κ2 _ _ _ _ _ h1 h2 e1 g2
        subst this
        rw [h1] at h2; cases h2
      · have hg : b2 = g := by simpa [Value.ownBlock] using hg
        rw [← hg]; exact g2
      · rw [g2] at hl; cases hl; rfl
theorem Rel.emptyBuf (hR : Rel G E S N st a w L) {d : Nat} {e : TypeId} (p1 : hget st.H d = none) :
    Rel G E S N { st with H := hset st.H d (.buf e []) } a w (locSet L d none) := by
  have hne : ∀ key B, hget st.H key = some B → key ≠ d := fun key B hb e => by rw [e, p1] at hb; cases hb
  have hc : ∀ key B0, hget st.H key = some B0 → ∃ B', hget (hset st.H d (.buf e [])) key = some B' ∧ B0.le B' ∧ (locSet L d none) key = L key ∧ (L key = none → B0 = B') :=
    fun key B0 hb => ⟨B0, by rw [hget_hset_ne _ _ (Ne.symm (hne key B0 hb))]; exact hb, ABlk.le_refl _, by simp [locSet, hne key B0 hb], fun _ => rfl⟩
  have hget : ∀ key B0, hget (hset st.H d (.buf e [])) key = some B0 → ∀ b c, (locSet L d none) key = some (b, c) → hget st.H key = some B0 ∧ L key = some (b, c) ∧ key ≠ d := by
    intro key B0 hb b c hl
    by_cases e : key = d
    · subst e; simp [locSet] at hl
    · rw [hget_hset_ne _ _ (Ne.symm e)] at hb
      simp only [locSet, e, if_false] at hl
      exact ⟨hb, hl, e⟩
  have hk' : Keeps w (Mut E L st.H) w (Mut E (locSet L d none) (hset st.H d (.buf e []))) := fun b hb hm => ⟨rfl, fun hm' => hm (by
    rcases hm' with hX | ⟨key, B0, c0, m1, m2⟩
    · exact .inl hX
    · obtain ⟨m3, m4, _⟩ := hget key B0 m1 b c0 m2
      exact .inr ⟨key, B0, c0, m3, m4⟩)⟩
  exact
    { size := hR.size, ext := hR.ext, inv := hR.inv, glob := hR.glob, old := hR.old, m0 := hR.m0
      own := fun key B b c m1 m2 => by obtain ⟨m3, m4, _⟩ := hget key B m1 b c m2; exact hR.own key B b c m3 m4
      inj := fun k1 k2 B1 B2 b c1 c2 m1 m2 m3 m4 => by
        obtain ⟨n1, n2, _⟩ := hget k1 B1 m1 b c1 m3
        obtain ⟨n3, n4, _⟩ := hget k2 B2 m2 b c2 m4
        exact hR.inj k1 k2 B1 B2 b c1 c2 n1 n3 n2 n4
      blk := fun key B hb => by
        by_cases e : key = d
        · subst e
          simp only [hget_hset_same, Option.some.injEq] at hb
          subst hb
          simp [BRel, locSet]
        · have hb' := hb
          simp only [hget_hset_ne _ _ (Ne.symm e)] at hb'
          exact (hR.blk key B hb').keepAll hk' hc (fun _ _ _ => rfl) (by simp [locSet, e])
      env := fun s => (hR.env s).keep hk' (fun _ _ h => h) hc
      fix := fun k b c hl => by
        obtain ⟨f1, B0, f2⟩ := hR.fix k b c hl
        have e := hne k B0 f2
        exact ⟨by simp [locSet, e, f1], B0, by rw [hget_hset_ne _ _ (Ne.symm e)]; exact f2⟩ }
end
theorem bst_sound {G : Glob} {ρ : Ren} (LL : Lays.n169 G.P ρ) (X9 : Builder.Extra G.P ρ) (hE : Enterable G.P (ρ.f 169)) : ESound G (ρ.f 169) (psiSt (ρ.t 72) (ρ.t 5)) := by
  intro d args st K h
  unfold psiSt at h
  split at h
  · rename_i κ
    split at h
    · rename_i T' a0 κ2 n hκ
      split at h
      · rename_i e' bs hκ2
        obtain ⟨rfl, rfl, h2, hK⟩ := h
        refine ⟨hE, fun E N a w L xs hR hargs hp => ?_⟩
        obtain ⟨x, rfl, hx⟩ := lrel1 hargs
        obtain ⟨b, cap, p, v, f1, f2, f3, f4, f5, f6, f7⟩ := bld_facts hR hκ hκ2
        obtain ⟨B, b', cap', g1, g2, g3, rfl⟩ := ptr_inv hx
        rw [f1] at g3
        cases g3
        refine (bstr_fine LL X9 b p v bs w f2 f4).mono ?_
        rintro e w' ⟨rfl, hr⟩
        have hL0 : E.L0 κ2 = none := by
          cases hl : E.L0 κ2 with
          | none => rfl
          | some bc => have := hp κ2 (by rw [hl]; rfl); omega
        obtain ⟨hR', _⟩ := hR.turnBlock' (w' := w') hκ2 hL0 (x := none) (B' := .buf (ρ.t 5) []) (fun k hk hne => hr.block k hk (fun ho => by
            obtain ⟨c, hc⟩ := f6 k ho
            exact hne k c hc rfl)) hr.size hr.os hr.tape hr.output (fun b cap h => by cases h) (fun M' L' H' hkp hc hl => by simp [BRel, hl])
        exact ⟨_, _, _, _, rfl, hK, hR', .pv _ _ (.str bs)⟩
      · exact h.elim
    · exact h.elim
  · exact h.elim
theorem bws_sound {G : Glob} {ρ : Ren} (LL : Lays.n166 G.P ρ) (X9 : Builder.Extra G.P ρ) (hE : Enterable G.P (ρ.f 166)) : ESound G (ρ.f 166) (psiWS (ρ.t 72) (ρ.t 5)) := by
  intro d args st K h
  unfold psiWS at h
  split at h
  · rename_i κ s
    split at h
    · rename_i T' a0 κ2 n hκ
      split at h
      · rename_i e' bs hκ2
        obtain ⟨rfl, rfl, h2, ha, hlen, hK⟩ := h
        refine ⟨hE, fun E N a w L xs hR hargs hp => ?_⟩
        obtain ⟨x, y, rfl, hx, hy⟩ := lrel2 hargs
        obtain ⟨b, cap, p, v, f1, f2, f3, f4, f5, f6, f7⟩ := bld_facts hR hκ hκ2
        obtain ⟨B, b', cap', g1, g2, g3, rfl⟩ := ptr_inv hx
        rw [f1] at g3
        cases g3
        have hy := pv_inv hy
        cases hy
        have hp' : p = .pointer none ∨ p = .pointer (some ⟨b, 0, none⟩) := by
          unfold bldAddr at ha
          split at ha
          · have := pv_inv f3; cases this; exact .inl rfl
          · subst ha
            obtain ⟨B, b2, cap2, _, _, h3, rfl⟩ := ptr_inv f3
            rw [f1] at h3; cases h3; exact .inr rfl
          · exact ha.elim
        have hne : κ ≠ κ2 := fun e => by rw [e, hκ2] at hκ; cases hκ
        have hbw : b < w.heap.size := (Array.getElem?_eq_some_iff.1 f2).1
        refine (wstr_fine LL X9 b p v bs s w f2 hp' f4 f5 hlen).mono ?_
        rintro e w' ⟨rfl, hr⟩
        obtain ⟨v', y1, y2, y3⟩ := hr.var
        have hL0 : E.L0 κ2 = none := by
          cases hl : E.L0 κ2 with
          | none => rfl
          | some bc => have := hp κ2 (by rw [hl]; rfl); omega
        have hbs' : b < w'.heap.size := Nat.lt_of_lt_of_le hbw hr.size
        obtain ⟨w1, hw1⟩ : ∃ w1, w'.putObj b (.cells #[p, v] (ρ.t 72) (0, 0)) = w1 := ⟨_, rfl⟩
        have z1 : w1.heap[b]? = some (.cells #[p, v] (ρ.t 72) (0, 0)) := by rw [← hw1]; exact World.putObj_heap_same hbs'
        have z2 : ∀ k, k ≠ b → w1.heap[k]? = w'.heap[k]? := fun k hk => by rw [← hw1]; exact World.putObj_heap_other hk
        have z3 : w1.heap.size = w'.heap.size := by rw [← hw1]; simp [World.putObj]
        have z4 : w1.os = w'.os ∧ w1.tape = w'.tape ∧ w1.output = w'.output := by rw [← hw1]; exact ⟨rfl, rfl, rfl⟩
        have hgb : ∀ g, v'.ownBlock = some g → g ≠ b := fun g hg e => by
          rcases y3 g hg with h | h
          · exact f5 (by rw [← e]; exact h)
          · omega
        obtain ⟨xx, hxx1, hxx2, hxx3⟩ : ∃ xx : Option (Nat × Nat), (∀ g c, xx = some (g, c) → v'.ownBlock = some g) ∧ (∀ M' L' H', L' κ2 = xx → BRel w1 M' L' H' (OpqS G E) κ2 (.buf (ρ.t 5) (bs ++ s))) ∧
            (∀ M' L' H', hget H' κ2 = some (.buf (ρ.t 5) (bs ++ s)) → L' κ2 = xx → AVRel w' M' L' H' (OpqS G E) (.bufh κ2 (bs.length + s.length)) v') := by
          rcases y2 with ⟨rfl, q⟩ | ⟨g, c, arr, rfl, q1, q2, q3, q4, q5⟩
          · refine ⟨none, (fun g c h => by cases h), (fun M' L' H' hl => by simp only [BRel, hl]; exact q), fun M' L' H' hg hl => ?_⟩
            have hl0 : bs.length + s.length = 0 := by have := congrArg List.length q; simpa using this
            rw [hl0]
            rw [q] at hg
            exact .bufN κ2 (ρ.t 5) hg hl
          · refine ⟨some (g, c), (fun g' c' h => by cases h; rfl), (fun M' L' H' hl => by simp only [BRel, hl]; exact ⟨arr, (z2 g (hgb g rfl)).trans q1, q2, q3, q4, q5⟩), fun M' L' H' hg hl => ?_⟩
            have := AVRel.buf (w := w') (M := M') (S := OpqS G E) κ2 (ρ.t 5) (bs ++ s) g c hg hl
            rw [← List.length_append]; exact this
        obtain ⟨hR1, _⟩ := hR.turnBlock' (w' := w1) hκ2 hL0 (x := xx) (B' := .buf (ρ.t 5) (bs ++ s)) (fun k hk hnk => by
            by_cases e : k = b
            · subst e; exact z1.trans f2.symm
            · rw [z2 k e]; exact hr.block k hk e (fun ho => by obtain ⟨c, hc⟩ := f6 k ho; exact hnk k c hc rfl)) (by have := hr.size; omega) (z4.1.trans hr.os) (z4.2.1.trans hr.tape) (z4.2.2.trans hr.output)
          (fun g c hg => by
            rcases y3 g (hxx1 g c hg) with h | h
            · exact .inl (f6 g h)
            · exact .inr h) (fun M' L' H' hkp hc hl => hxx2 M' L' H' hl)
        have hκ' : hget (hset (killH κ2 st.H) κ2 (.buf (ρ.t 5) (bs ++ s))) κ = some (ABlk.kill κ2 (.typed (ρ.t 72) [a0, .bufh κ2 n])) := by
          rw [hget_hset_ne _ _ (Ne.symm hne), hget_killH, hκ]; rfl
        have hlκ : (locSet L κ2 xx) κ = some (b, cap) := by simp [locSet, hne, f1]
        have hR2 := hR1.writeBlock' (w' := w') (B' := .typed (ρ.t 72) [.ptr κ 0, .bufh κ2 (bs.length + s.length)]) hκ' hlκ rfl (fun k hk => (z2 k hk).symm) z3.symm z4.1.symm z4.2.1.symm z4.2.2.symm (fun M' H' hkp hc => by
          obtain ⟨B1, m1, m2, _⟩ := hc κ _ hκ'
          obtain ⟨B2, n1, n2, _, _⟩ := hc κ2 _ (hget_hset_same _ _ _)
          have hB2 : B2 = .buf (ρ.t 5) (bs ++ s) := by
            cases B2 with
            | buf e' bs' => obtain ⟨rfl, rfl⟩ := n2; rfl
            | _ => exact n2.elim
          subst hB2
          refine ⟨b, cap, #[.pointer (some ⟨b, 0, none⟩), v'], hlκ, y1, rfl, fun j c hj => ?_⟩
          match j with
          | 0 =>
            simp only [List.getElem?_cons_zero, Option.some.injEq] at hj
            subst hj
            have hv1 : B1.isVar = true := by cases B1 <;> first | rfl | exact m2.elim
            exact .ptr κ 0 B1 b cap m1 hv1 hlκ
          | 1 =>
            simp only [List.getElem?_cons_succ, List.getElem?_cons_zero, Option.some.injEq] at hj
            subst hj
            exact hxx3 M' _ H' n1 (by simp [locSet])
          | j + 2 => simp at hj)
        refine ⟨_, _, _, _, rfl, hK, hR2, .pv _ _ (.tup _ _ rfl (fun i c hc => ?_))⟩
        match i with
        | 0 => simp only [List.getElem?_cons_zero, Option.some.injEq] at hc; subst hc; exact .int .i64 _
        | 1 => simp only [List.getElem?_cons_succ, List.getElem?_cons_zero, Option.some.injEq] at hc; subst hc; exact .nilI
        | i + 2 => simp at hc
      · exact h.elim
    · exact h.elim
  · exact h.elim
end Go.AM
namespace Go.AM
open Go Go.RowKit
set_option linter.unusedVariables false
set_option linter.unusedSimpArgs false
theorem AWp.builder {C : Ctx} {T : Plan} {id d : Nat} {t ty : TypeId} {pos : String} {af : Array Edge} {rest : Code} {Q : AX → ASt → Prop} {st : ASt} (e : TypeId) (hz : zeroT C.P t = some (.agg #[.pointer none, .slice none 0 0]))
    (hd1 : hget st.H d = none) (hd2 : hget st.H (d + 1000000) = none) (hN : d < C.N)
    (h : wpc C T rest Q ⟨upd st.ρ d (.ptr d 0), hset (hset st.H (d + 1000000) (.buf e [])) d (.typed t [.pv .nilP, .bufh (d + 1000000) 0])⟩) :
    AWp C (.seq (.region id #[⟨some d, .alloc t, ty, pos, af, none⟩] false) rest) Q st := by
  intro G E r n hr hF hP0 a w L hR hd
  have hPP : C.P = G.P := hF.tabs.base.prog
  rw [hPP] at hz
  refine wpIn_seq ?_
  suffices hreg : wpOps G.P #[⟨some d, .alloc t, ty, pos, af, none⟩] (QR G E C.N (fun st' => st' = ⟨upd st.ρ d (.ptr d 0), hset (hset st.H (d + 1000000) (.buf e [])) d (.typed t [.pv .nilP, .bufh (d + 1000000) 0])⟩)) [0] a w by
    refine wpIn_mono (wpIn_region (wpOps_in (k := E.ds.length) r n ?_ ?_ ?_ _ a w ?_ hreg)) (fun e a w he => ?_)
    · rintro a w ⟨st, L, _, _, hd⟩; rw [hd]; exact Nat.le_refl _
    · exact fun ch a w h => h
    · rintro ⟨a, w, h⟩; exact h
    · rw [hd]; exact Nat.le_refl _
    · cases e with
      | normal =>
        obtain ⟨st2, L2, rfl, h2, h3⟩ := he
        exact wpc_sound rest Q _ h G E r n hr hF hP0 a w L2 h2 h3
      | _ => exact he.elim
  unfold wpOps
  simp only [List.getElem?_toArray, List.getElem?_cons_zero]
  rw [if_pos (show Region.wanted _ _ = true from rfl)]
  have hexec : (execOp a.eval ⟨some d, .alloc t, ty, pos, af, none⟩).run G.P w = .ok (.value (.pointer (some ⟨w.heap.size, 0, none⟩))) (w.alloc (.cells #[.pointer none, .slice none 0 0] t)) := by
    simp only [execOp, Instr.alloc, Sem.run_bind, run_zeroT hz, Result.andThen_ok, newVar, newRow, run_newObj, Sem.run_pure]
    rfl
  have o1 : OpYields G.P ⟨some d, .alloc t, ty, pos, af, none⟩ a w (fun v w' => w' = w.alloc (.cells #[.pointer none, .slice none 0 0] t) ∧ v = .pointer (some ⟨w.heap.size, 0, none⟩)) := .of_run hexec ⟨rfl, rfl⟩
  refine .inl (o1.wp (fun v w' ⟨hw, hv⟩ => ?_))
  subst hw; subst hv
  have hR0 := hR.emptyBuf (e := e) hd2
  have hne : d ≠ d + 1000000 := by omega
  have hg0 : hget (hset st.H (d + 1000000) (.buf e [])) d = none := by rw [hget_hset_ne _ _ (Ne.symm hne)]; exact hd1
  unfold wpOps
  refine newB_beh (K := fun st' => st' = (⟨upd st.ρ d (.ptr d 0), hset (hset st.H (d + 1000000) (.buf e [])) d (.typed t [.pv .nilP, .bufh (d + 1000000) 0])⟩ : ASt)) (N := C.N) (st := { st with H := hset st.H (d + 1000000) (.buf e []) }) (d := some d) (B := .typed t [.pv .nilP, .bufh (d + 1000000) 0]) (v := fun d => .ptr d 0) (w1 := w) (cap := 0) ⟨hg0, hN, rfl⟩ hR0 hd (Ext.refl _ _) rfl (fun κ M' L' H' hkp hc hl hheap => ?_) (fun κ w' M' L' H' hg hl => ?_)
  · obtain ⟨B', n1, n2, n3, n4⟩ := hc (d + 1000000) _ (hget_hset_same _ _ _)
    have hL : (locSet L (d + 1000000) none) (d + 1000000) = none := by simp [locSet]
    have hB := n4 hL
    subst hB
    refine ⟨w.heap.size, 0, _, hl, hheap, rfl, fun j c hj => ?_⟩
    match j with
    | 0 =>
      simp only [List.getElem?_cons_zero, Option.some.injEq] at hj
      subst hj
      exact .pv _ _ .nilP
    | 1 =>
      simp only [List.getElem?_cons_succ, List.getElem?_cons_zero, Option.some.injEq] at hj
      subst hj
      exact .bufN _ e n1 (n3.trans hL)
    | j + 2 => simp at hj
  · exact .ptr κ 0 _ w.heap.size 0 hg rfl hl
end Go.AM
