/-
  A part of a proof: see the last text of this claim for what is proved.
-/
import Derived.Test.YtamiheckgglgaaaDoorAMk
import Derived.Laws.BytesString
namespace Go.AM
open Go
set_option linter.unusedSimpArgs false
set_option linter.unusedVariables false

section
variable {w : World} {M : Nat → Prop} {L : Locs} {H : AHeap} {S : (List PV → Prop × PV) → Value → Prop} {P : Program}

theorem one_of_rel {p : PV} {v : Value} (h1 : p.one = true) (h : PVRel w M p v) : v.oneCell' = true := by
  cases h <;> first | rfl | simp [PV.one] at h1

/-- A row of plain elements in an array. -/
def RowIn (w : World) (M : Nat → Prop) (k : Nat) (es : List PV) (arr : Array Value) : Prop :=
  ∀ (i : Nat) e (j : Nat) c, es[i]? = some e → e.cells[j]? = some c → c.one = true ∧ PVRel w M c (arr.getD (i * k + j) undef)

theorem pos_lt {es : List PV} {k i j : Nat} {e c : PV} (hw : allW k es) (he : es[i]? = some e) (hc : e.cells[j]? = some c) : j < k ∧ i < es.length ∧ i * k + j < es.length * k := by
  have hj : j < k := by
    have h1 := (List.getElem?_eq_some_iff.1 hc).1
    have h2 : e.cells.length = k := hw e (List.mem_of_getElem? he)
    omega
  have hi := (List.getElem?_eq_some_iff.1 he).1
  refine ⟨hj, hi, ?_⟩
  have h3 : (i + 1) * k ≤ es.length * k := Nat.mul_le_mul_right _ (by omega)
  rw [Nat.add_mul, Nat.one_mul] at h3
  omega

/-- What append takes over, as cells. -/
theorem srcA_run {v : AV} {x : Value} {k : Nat} {es2 : List PV} (hB : ∀ key B, hget H key = some B → BRel w M L H S key B) (h : srcA H v = some es2) (hw : allW k es2) (hx : AVRel w M L H S v x) :
    (Builtin.lenOf x).run P w = .ok es2.length w ∧ ∃ news : Array Value, (Builtin.firstCells k es2.length x).run P w = .ok news w ∧ news.size = es2.length * k ∧ RowIn w M k es2 news := by
  -- cells that lie in a row of memory
  have mem : ∀ (b o : Nat) (len cap : Nat) (val : Nat → Nat → Value), (∀ (i : Nat) e (j : Nat) c, es2[i]? = some e → e.cells[j]? = some c → c.one = true ∧ w.cell? ⟨b, o + i * k + j, none⟩ = some (val i j) ∧ PVRel w M c (val i j)) →
      ∃ news : Array Value, (Builtin.firstCells k es2.length (.slice (some ⟨b, o, none⟩) len cap)).run P w = .ok news w ∧ news.size = es2.length * k ∧ RowIn w M k es2 news := by
    intro b o len cap val hv
    rcases Nat.eq_zero_or_pos k with rfl | hk
    · refine ⟨#[], ?_, by simp, fun i e j c he hc => ?_⟩
      · simp [Builtin.firstCells, loadCells, loadCellsFrom]
      · have := pos_lt hw he hc; omega
    · refine ⟨((List.range (es2.length * k)).map fun m => val (m / k) (m % k)).toArray, ?_, by simp, fun i e j c he hc => ?_⟩
      · simp only [Builtin.firstCells]
        refine run_loadCells (P := P) w ⟨b, o, none⟩ (es2.length * k) (fun m => val (m / k) (m % k)) (fun m hm => ?_)
        rw [Addr.add_lit]
        have hi : m / k < es2.length := Nat.div_lt_of_lt_mul (by rw [Nat.mul_comm]; exact hm)
        have hj : m % k < k := Nat.mod_lt _ hk
        have he := List.getElem?_eq_getElem hi
        have hlen : (es2[m / k]).cells.length = k := hw _ (List.getElem_mem hi)
        have hc : (es2[m / k]).cells[m % k]? = some ((es2[m / k]).cells[m % k]'(by omega)) := List.getElem?_eq_getElem (by omega)
        have := (hv _ _ _ _ he hc).2.1
        rw [show o + m / k * k + m % k = o + m by rw [Nat.add_assoc, Nat.mul_comm, Nat.div_add_mod]] at this
        exact this
      · obtain ⟨hj, hi, hlt⟩ := pos_lt hw he hc
        obtain ⟨h1, h2, h3⟩ := hv i e j c he hc
        refine ⟨h1, ?_⟩
        rw [getD_range _ _ _ hlt]
        have e1 : (i * k + j) / k = i := by rw [Nat.mul_comm, Nat.mul_add_div hk]; simp [Nat.div_eq_of_lt hj]
        have e2 : (i * k + j) % k = j := by rw [Nat.mul_comm, Nat.mul_add_mod, Nat.mod_eq_of_lt hj]
        rw [e1, e2]; exact h3
  have row : ∀ (key k' : Nat) (es : List PV) (b cap : Nat), hget H key = some (.row k' es) → L key = some (b, cap) → ∀ (lo hi : Nat), lo ≤ hi → hi ≤ es.length → es2 = (es.take hi).drop lo → ∀ (len c : Nat), es2 ≠ [] →
      ∃ news : Array Value, (Builtin.firstCells k es2.length (.slice (some ⟨b, lo * k', none⟩) len c)).run P w = .ok news w ∧ news.size = es2.length * k ∧ RowIn w M k es2 news := by
    intro key k' es b cap g1 g2 lo hi g3 g4 g5 len c g6
    have hb := hB key _ g1
    simp only [BRel, g2] at hb
    obtain ⟨hk0, hw0, arr, et, f1, f2, f3, f4, f5⟩ := hb
    have hkk : k' = k := by
      obtain ⟨p, hp⟩ := List.exists_mem_of_ne_nil _ g6
      have h1 := hw p hp
      rw [g5] at hp
      have h2 := hw0 p (List.mem_of_mem_take (List.mem_of_mem_drop hp))
      omega
    subst hkk
    refine mem b (lo * k') len c (fun i j => arr.getD ((lo + i) * k' + j) undef) (fun i e j cc he hc => ?_)
    have he' := he
    rw [g5, List.getElem?_drop, List.getElem?_take] at he'
    split at he'
    · have h5 := f5 _ e j cc he' hc
      obtain ⟨hj, hi', hlt⟩ := pos_lt hw0 he' hc
      refine ⟨h5.1, ?_, h5.2⟩
      rw [← Nat.add_mul, cell_of_row w b _ arr et _ f1]
      have hlt2 : (lo + i) * k' + j < arr.size := by
        rw [f2]; exact Nat.lt_of_lt_of_le hlt (Nat.mul_le_mul_right _ f3)
      simp [Array.getD_eq_getD_getElem?, Array.getElem?_eq_getElem hlt2]
    · cases he'
  unfold srcA at h
  split at h
  · simp only [Option.some.injEq] at h
    subst h
    obtain ⟨a, cap, k', b, o, val, rfl, g2, g3, g4, g5, g6, g7⟩ := sl_inv hx
    refine ⟨by simp [Builtin.lenOf], ?_⟩
    rename_i es
    by_cases hne : es = []
    · subst hne
      exact ⟨#[], by cases a <;> simp [Builtin.firstCells, loadCells, loadCellsFrom], by simp, fun i e j c he _ => by simp at he⟩
    · obtain rfl := g5 hne
      have hkk : k' = k := by
        obtain ⟨p, hp⟩ := List.exists_mem_of_ne_nil _ hne
        have := hw p hp; have := g4 p hp; omega
      subst hkk
      exact mem b o _ _ val (fun i e j c he hc => ⟨(g6 i e j c he hc).2.1, (g6 i e j c he hc).2.2, g7 i e j c he hc⟩)
  · simp only [Option.some.injEq] at h
    subst h
    rename_i s
    have hp := pv_inv hx
    cases hp
    have hsz : (⟨s.toArray⟩ : ByteArray).size = s.length := by simp [ByteArray.size]
    refine ⟨by simp [Builtin.lenOf, hsz], ?_⟩
    rcases Nat.eq_zero_or_pos s.length with h0 | h0
    · have : s = [] := List.eq_nil_of_length_eq_zero h0
      subst this
      exact ⟨#[], by simp [Builtin.firstCells], by simp, fun i e j c he _ => by simp at he⟩
    · have hk1 : k = 1 := by
        obtain ⟨b, hb⟩ := List.exists_mem_of_ne_nil s (by intro e; subst e; simp at h0)
        have := hw (.int .u8 b.toNat) (List.mem_map.2 ⟨b, hb, rfl⟩)
        simpa [PV.width, PV.cells] using this.symm
      subst hk1
      refine ⟨(s.map fun b => Value.int .u8 b.toNat).toArray, ?_, by simp, fun i e j c he hc => ?_⟩
      · simp only [Builtin.firstCells, Sem.run_pure, List.length_map]
        congr 1
        have : (⟨s.toArray⟩ : ByteArray).extract 0 s.length = ⟨s.toArray⟩ := by
          rw [Lib.extract_eq]; simp
        rw [this]
        apply Array.ext'
        simp
      · rw [List.getElem?_map] at he
        obtain ⟨b, hb, rfl⟩ := Option.map_eq_some_iff.1 he
        cases j with
        | zero =>
          simp [PV.cells] at hc
          subst hc
          refine ⟨rfl, ?_⟩
          have : (s.map fun b => Value.int .u8 b.toNat).toArray.getD (i * 1 + 0) undef = .int .u8 b.toNat := by
            simp [Array.getD_eq_getD_getElem?, hb]
          rw [this]; exact .int _ _
        | succ j => simp [PV.cells] at hc
  · simp only [Option.some.injEq] at h
    subst h
    cases hx
    exact ⟨by simp [Builtin.lenOf], #[], by simp [Builtin.firstCells], by simp, fun i e j c he _ => by simp at he⟩
  · rename_i key hi
    split at h
    · rename_i k' es hH
      simp only [Option.some.injEq] at h
      rcases rs_inv hx with ⟨k2, g1, g2, g3, rfl⟩ | ⟨k2, es3, b, cap, g1, g2, g3, rfl⟩
      · subst g3
        simp only [List.take_zero] at h
        subst h
        exact ⟨by simp [Builtin.lenOf], #[], by simp [Builtin.firstCells], by simp, fun i e j c he _ => by simp at he⟩
      · rw [hH] at g1
        simp only [Option.some.injEq, ABlk.row.injEq] at g1
        obtain ⟨rfl, rfl⟩ := g1
        have hlen : es2.length = hi := by rw [← h]; simp; omega
        refine ⟨by simp [Builtin.lenOf, hlen], ?_⟩
        by_cases hne : es2 = []
        · subst hne
          exact ⟨#[], by simp [Builtin.firstCells, loadCells, loadCellsFrom], by simp, fun i e j c he _ => by simp at he⟩
        · have := row key k' es b cap hH g2 0 hi (by omega) g3 (by simpa using h.symm) hi cap hne
          simpa using this
    · cases h
  · rename_i key lo hi
    split at h
    · rename_i k' es hH
      simp only [Option.some.injEq] at h
      obtain ⟨k2, es3, b, cap, cap', a, g1, g2, g3, g4, g5, g6, g7, rfl⟩ := rv_inv hx
      rw [hH] at g1
      simp only [Option.some.injEq, ABlk.row.injEq] at g1
      obtain ⟨rfl, rfl⟩ := g1
      have hlen : es2.length = hi - lo := by rw [← h]; simp; omega
      refine ⟨by simp [Builtin.lenOf, hlen], ?_⟩
      by_cases hne : es2 = []
      · subst hne
        exact ⟨#[], by cases a <;> simp [Builtin.firstCells, loadCells, loadCellsFrom], by simp, fun i e j c he _ => by simp at he⟩
      · have hlt : lo < hi := by have := List.length_pos_iff.2 hne; omega
        obtain rfl := g7 hlt
        exact row key k' es b cap hH g2 lo hi g3 g4 h.symm _ _ hne
    · cases h
  · cases h

theorem RowIn.ones {k : Nat} {es : List PV} {arr : Array Value} (hw : allW k es) (hs : arr.size = es.length * k) (h : RowIn w M k es arr) : ∀ u, u ∈ arr.toList → u.oneCell' = true := by
  intro u hu
  obtain ⟨m, hm⟩ := List.mem_iff_getElem?.1 hu
  have hlt : m < es.length * k := by have := (List.getElem?_eq_some_iff.1 hm).1; simpa [hs] using this
  rcases Nat.eq_zero_or_pos k with rfl | hk
  · omega
  · have hi : m / k < es.length := Nat.div_lt_of_lt_mul (by rw [Nat.mul_comm]; exact hlt)
    have hj : m % k < k := Nat.mod_lt _ hk
    have he := List.getElem?_eq_getElem hi
    have hlen : (es[m / k]).cells.length = k := hw _ (List.getElem_mem hi)
    have hc : (es[m / k]).cells[m % k]? = some ((es[m / k]).cells[m % k]'(by omega)) := List.getElem?_eq_getElem (by omega)
    obtain ⟨h1, h2⟩ := h _ _ _ _ he hc
    rw [show m / k * k + m % k = m by rw [Nat.mul_comm, Nat.div_add_mod]] at h2
    have e : arr.getD m undef = u := by
      rw [Array.getElem?_toList] at hm
      simp [Array.getD_eq_getD_getElem?, hm]
    rw [e] at h2
    exact one_of_rel h1 h2
theorem RowIn.keep {w' : World} {M' : Nat → Prop} {k : Nat} {es : List PV} {arr : Array Value} (h : RowIn w M k es arr) (hk : Keeps w M w' M') : RowIn w' M' k es arr :=
  fun i e j c he hc => ⟨(h i e j c he hc).1, (h i e j c he hc).2.keep hk⟩
/-- Two rows, one behind the other. -/
theorem RowIn.append {k : Nat} {es es2 : List PV} {arr cur news : Array Value} (hw : allW k es) (hw2 : allW k es2) (h1 : RowIn w M k es cur) (h2 : RowIn w M k es2 news)
    (e1 : ∀ m, m < es.length * k → arr.getD m undef = cur.getD m undef) (e2 : ∀ m, m < es2.length * k → arr.getD (es.length * k + m) undef = news.getD m undef) : RowIn w M k (es ++ es2) arr := by
  intro i e j c he hc
  by_cases hi : i < es.length
  · rw [List.getElem?_append_left hi] at he
    have := pos_lt hw he hc
    rw [e1 _ this.2.2]
    exact h1 i e j c he hc
  · rw [List.getElem?_append_right (by omega)] at he
    have hp := pos_lt hw2 he hc
    have e3 : i * k + j = es.length * k + ((i - es.length) * k + j) := by
      rw [← Nat.add_assoc, ← Nat.add_mul]; congr 2; omega
    rw [e3, e2 _ hp.2.2]
    exact h2 _ e j c he hc
theorem allW_append {k : Nat} {es es2 : List PV} (h1 : allW k es) (h2 : allW k es2) : allW k (es ++ es2) := fun e he => (List.mem_append.1 he).elim (h1 e) (h2 e)
theorem allW_take {k n : Nat} {es : List PV} (h : allW k es) : allW k (es.take n) := fun e he => h e (List.mem_of_mem_take he)
end


section
variable {w : World} {M : Nat → Prop} {L : Locs} {H : AHeap} {S : (List PV → Prop × PV) → Value → Prop} {P : Program}
theorem isByteD_eq {d : Option TypeDesc} (h : isByteD d = true) : d = some (.int .u8) := by
  unfold isByteD at h; split at h <;> simp_all
theorem fold_bytes (ns : List Int) : ∀ (s : List UInt8), ns.foldl (fun r n => r.push (UInt8.ofNat n.toNat)) (⟨s.toArray⟩ : ByteArray) = ⟨(s ++ ns.map fun n => UInt8.ofNat n.toNat).toArray⟩ := by
  induction ns with
  | nil => intro s; simp
  | cons n ns ih =>
    intro s
    have : (⟨s.toArray⟩ : ByteArray).push (UInt8.ofNat n.toNat) = ⟨(s ++ [UInt8.ofNat n.toNat]).toArray⟩ := by
      simp [ByteArray.push]
    rw [List.foldl_cons, this, ih]
    simp
theorem convA_run {s d : TypeId} {v : AV} {x : Value} (hB : ∀ key B, hget H key = some B → BRel w M L H S key B) (h : (convA P H s d v).1) (hx : AVRel w M L H S v x) :
    ∃ y, (Go.convert s d x).run P w = .ok y w ∧ AVRel w M L H S (convA P H s d v).2 y := by
  unfold convA at h ⊢
  split at h
  · rename_i e hs hd
    split at h
    · rename_i es hsrc
      obtain ⟨h1, h0, h2⟩ := h
      have he := isByteD_eq h1
      have hw : allW 1 es := fun p hp => by
        have := List.all_eq_true.1 h2 p hp
        cases p <;> first | rfl | simp [isU8] at this
      obtain ⟨hlen, news, hf, hns, hrow⟩ := srcA_run (P := P) hB hsrc hw hx
      refine ⟨.string ⟨(es.map toByte).toArray⟩, ?_, .pv _ _ (.str _)⟩
      -- the cells are the bytes
      have hnews : news = ((es.map fun p => (match p with | .int _ n => n | _ => 0 : Int)).map (Value.int .u8)).toArray := by
        apply Array.ext_getElem?
        intro m
        by_cases hm : m < es.length
        · have hp := List.getElem?_eq_getElem hm
          have hu := List.all_eq_true.1 h2 _ (List.getElem_mem hm)
          have hc : (es[m]).cells[0]? = some es[m] := by
            revert hu; generalize es[m] = p; intro hu
            cases p <;> first | rfl | simp [isU8] at hu
          have hr := (hrow m _ 0 _ hp hc).2
          have hmn : m < news.size := by omega
          simp only [Nat.mul_one, Nat.add_zero, Array.getD_eq_getD_getElem?, Array.getElem?_eq_getElem hmn, Option.getD_some] at hr
          simp only [List.getElem?_toArray, List.getElem?_map, hp, Option.map_some, Array.getElem?_eq_getElem hmn]
          revert hu hr
          generalize es[m] = p
          intro hu hr
          cases p <;> simp only [isU8] at hu <;> try (cases hu; done)
          rename_i k n
          cases k <;> simp at hu
          have h9 : news[m] = .int .u8 n := pint_inv hr
          rw [h9]
        · rw [Array.getElem?_eq_none (by omega), Array.getElem?_eq_none (by simp; omega)]
      have hmap : (es.map fun p => (match p with | .int _ n => n | _ => 0 : Int)).map (fun n => UInt8.ofNat n.toNat) = es.map toByte := by
        rw [List.map_map]
        apply List.map_congr_left
        intro p hp
        have := List.all_eq_true.1 h2 p hp
        cases p <;> first | rfl | simp [isU8] at this
      -- the value is a slice
      have hsl : ∃ a n c, x = .slice a n c := by
        unfold srcA at hsrc
        split at hsrc
        · obtain ⟨a, cap, k', b, o, val, rfl, _⟩ := sl_inv hx; exact ⟨_, _, _, rfl⟩
        · simp [isStrV] at h0
        · cases hx; exact ⟨_, _, _, rfl⟩
        · rcases rs_inv hx with ⟨_, _, _, _, rfl⟩ | ⟨_, _, _, _, _, _, _, rfl⟩ <;> exact ⟨_, _, _, rfl⟩
        · obtain ⟨_, _, _, _, _, _, _, _, _, _, _, _, _, rfl⟩ := rv_inv hx; exact ⟨_, _, _, rfl⟩
        · cases hsrc
      obtain ⟨a, n, c, rfl⟩ := hsl
      have hn : n = es.length := by simpa [Builtin.lenOf] using hlen
      subst hn
      rw [run_convert_bytes_string w s d e a _ c hs he hd]
      cases a with
      | none =>
        simp only [Builtin.firstCells, Sem.run_pure, Result.ok.injEq] at hf
        have hz : es = [] := by
          have : news.size = 0 := by rw [← hf.1]; rfl
          exact List.eq_nil_of_length_eq_zero (by omega)
        subst hz
        rfl
      | some ad =>
        simp only [Builtin.firstCells, Nat.mul_one] at hf
        rw [hnews] at hf
        rw [run_bytesToString w ad _ c _ hf]
        have := fold_bytes (es.map fun p => (match p with | .int _ n => n | _ => 0 : Int)) []
        rw [hmap, List.nil_append] at this
        rw [← this]
        rfl
    · exact h.elim
  · split at h
    · obtain ⟨y, hy, hr⟩ := convP_run (P := P) h (pv_inv hx)
      exact ⟨y, hy, .pv _ _ hr⟩
    · exact h.elim

theorem putA_get0 : ∀ (xs : List Value) (off : Nat) (arr : Array Value) (j : Nat), off + xs.length ≤ arr.size → (putA off xs arr)[j]? = if off ≤ j ∧ j < off + xs.length then xs[j - off]? else arr[j]?
  | [], off, arr, j, _ => by simp [putA]; omega
  | x :: xs, off, arr, j, h => by
    simp only [List.length_cons] at h
    rw [putA, putA_get0 xs (off + 1) _ j (by simp; omega)]
    by_cases h1 : off + 1 ≤ j ∧ j < off + 1 + xs.length
    · rw [if_pos h1, if_pos (by simp; omega)]
      obtain ⟨m, rfl⟩ : ∃ m, j = off + 1 + m := ⟨j - (off + 1), by omega⟩
      rw [show off + 1 + m - (off + 1) = m by omega, show off + 1 + m - off = m + 1 by omega, List.getElem?_cons_succ]
    · rw [if_neg h1]
      by_cases h2 : j = off
      · subst h2
        rw [if_pos (by simp), Array.getElem?_setIfInBounds]
        simp; omega
      · rw [if_neg (by simp; omega), Array.getElem?_setIfInBounds_ne (Ne.symm h2)]
theorem size_putA0 : ∀ (xs : List Value) (off : Nat) (arr : Array Value), (putA off xs arr).size = arr.size
  | [], _, _ => rfl
  | x :: xs, off, arr => by rw [putA, size_putA0 xs]; simp

/-- A literal's parts, laid one behind the other. -/
theorem fill_dense {k : Nat} : ∀ (parts : List (Nat × Value)) (i0 : Nat) (arr : Array Value), idxOk i0 (parts.map (·.1)) = true → (∀ p, p ∈ parts → p.2.cells.size = k) → (i0 + parts.length) * k ≤ arr.size →
    ∃ arr', Instr.fill (fun i => some (i * k, k)) arr parts = some arr' ∧ arr'.size = arr.size ∧ (∀ m, m < i0 * k → arr'[m]? = arr[m]?) ∧
      (∀ (i : Nat) p (j : Nat), parts[i]? = some p → j < k → arr'.getD ((i0 + i) * k + j) undef = p.2.cells.getD j undef) := by
  intro parts
  induction parts with
  | nil => intro i0 arr _ _ _; exact ⟨arr, rfl, rfl, fun _ _ => rfl, fun i p j h => by simp at h⟩
  | cons p parts ih =>
    intro i0 arr hi hs hl
    obtain ⟨i, v⟩ := p
    simp only [List.map_cons, idxOk, Bool.and_eq_true, beq_iff_eq] at hi
    obtain ⟨rfl, hi⟩ := hi
    have hv : v.cells.size = k := hs _ List.mem_cons_self
    simp only [List.length_cons] at hl
    have hl1 : (i + 1 + parts.length) * k ≤ arr.size := by rw [show i + 1 + parts.length = i + (parts.length + 1) by omega]; exact hl
    have hik : i * k + k ≤ arr.size := by
      have h1 : (i + 1) * k ≤ (i + 1 + parts.length) * k := Nat.mul_le_mul_right _ (by omega)
      rw [Nat.add_mul, Nat.one_mul] at h1; omega
    obtain ⟨arr', h1, h2, h3, h4⟩ := ih (i + 1) (putA (i * k) v.cells.toList arr) hi (fun p hp => hs p (List.mem_cons_of_mem _ hp)) (by rw [size_putA0]; exact hl1)
    have hget : ∀ m, (putA (i * k) v.cells.toList arr)[m]? = if i * k ≤ m ∧ m < i * k + k then v.cells.toList[m - i * k]? else arr[m]? := by
      intro m
      have := putA_get0 v.cells.toList (i * k) arr m (by simp [hv]; exact hik)
      simpa [hv] using this
    refine ⟨arr', ?_, by rw [h2, size_putA0], fun m hm => ?_, fun i' p j hp hj => ?_⟩
    · unfold Instr.fill
      have : (decide (v.cells.size ≠ k) || decide (i * k + v.cells.size > arr.size)) = false := by simp [hv]; omega
      simp only [this, Bool.false_eq_true, if_false]
      rw [fold_cells]
      exact h1
    · rw [h3 m (by rw [Nat.add_mul]; omega), hget, if_neg (by omega)]
    · cases i' with
      | zero =>
        simp only [List.getElem?_cons_zero, Option.some.injEq] at hp
        subst hp
        have hm : i * k + j < (i + 1) * k := by rw [Nat.add_mul, Nat.one_mul]; omega
        simp only [Array.getD_eq_getD_getElem?, Nat.add_zero]
        rw [h3 _ hm, hget, if_pos (by omega), show i * k + j - i * k = j by omega]
        simp
      | succ i' =>
        have := h4 i' p j (by simpa using hp) hj
        rw [← this, show i + (i' + 1) = i + 1 + i' by omega]
end
end Go.AM
