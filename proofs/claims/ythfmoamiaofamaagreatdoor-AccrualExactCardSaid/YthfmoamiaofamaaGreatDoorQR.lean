/-
  A part of a proof: see the last text of this claim for what is proved.
-/
import Derived.Test.YthfmoamiaofamaaGreatDoorDM
import Derived.Test.YthfmoamiaofamaaGreatDoorCM
import Derived.Shelf.Spec.SlicesGrow
import Derived.RangeFuncRecord
import Derived.Test.YthfmoamiaofamaaGreatDoorZMa
namespace Go.AM
open Go Go.Proofs Go.Shelf
set_option linter.unusedVariables false
set_option linter.unusedSimpArgs false
def psiGrow (k : Nat) : ESpec := fun d args st K =>
  ∃ n : Int, args = [.nils, .pv (.int .i64 n)] ∧ 0 ≤ n ∧ n ≤ 1000000 ∧ hget st.H d = none ∧ K (.rs d 0) { st with H := hset st.H d (.row k []) }
theorem psiGrow_mono {k : Nat} : ∀ d args st (K K' : AV → ASt → Prop), (∀ r s, K r s → K' r s) → psiGrow k d args st K → psiGrow k d args st K' :=
  fun d args st K K' hk ⟨n, h1, h2, h3, h4, h5⟩ => ⟨n, h1, h2, h3, h4, hk _ _ h5⟩
theorem psiGrow_eq {k d : Nat} {n : Int} {ρ : Nat → AV} {H : AHeap} {K : AV → ASt → Prop} : psiGrow k d [.nils, .pv (.int .i64 n)] ⟨ρ, H⟩ K = ((0 ≤ n ∧ n ≤ 1000000) ∧ hget H d = none ∧ K (.rs d 0) ⟨ρ, hset H d (.row k [])⟩) :=
  propext ⟨fun ⟨m, e, h2, h3, h4, h5⟩ => by
    simp only [List.cons.injEq, AV.pv.injEq, PV.int.injEq, and_true, true_and] at e
    subst e; exact ⟨⟨h2, h3⟩, h4, h5⟩, fun ⟨⟨h2, h3⟩, h4, h5⟩ => ⟨n, rfl, h2, h3, h4, h5⟩⟩
theorem ESound.of_grow {G : Glob} {ρ : Ren} (L : Lays8.n4 G.P ρ) (i0 : TypeInfo) (z : Value) (hi0 : G.P.info? (ρ.t 25) = some i0) (hz0 : i0.zero = some z) (hs0 : 0 < i0.size) (hzc : z.cells.size = i0.size) (hb : i0.bytes ≤ 1000000) (hE : Enterable G.P (ρ.f 4)) : ESound G (ρ.f 4) (psiGrow i0.size) := by
  intro d args st K hψ
  obtain ⟨n, rfl, h0, h1, h2, hK⟩ := hψ
  refine ⟨hE, fun E N a w L' xs hR hargs _ => ?_⟩
  obtain ⟨m, rfl⟩ := Int.eq_ofNat_of_zero_le h0
  have hxs : xs = [.slice none 0 0, .int .i64 m] := by
    cases hargs with
    | cons v x vs ys hx hr =>
      cases hr with
      | cons v2 x2 vs2 ys2 hx2 hr2 =>
        cases hr2
        cases hx
        cases hx2 with
        | pv p v h => cases h; rfl
  subst hxs
  rcases Nat.eq_zero_or_pos m with rfl | hm
  · refine (Any8.slices_Grow_room L none 0 0 0 w (Nat.le_refl _) (by omega) (by omega) (by omega)).mono ?_
    rintro e w' ⟨rfl, rfl⟩
    exact ⟨_, _, _, locSet L' d none, rfl, hK, hR.emptyRow h2 hs0, .rsN d _ (hget_hset_same _ _ _) (by simp [locSet])⟩
  · have hmb : m * i0.bytes ≤ 1000000 * 1000000 := Nat.mul_le_mul (by omega) hb
    refine (Any8.slices_Grow_grow L i0 z hi0 hz0 hs0 none 0 0 m [] w (Nat.le_refl _) (by omega) (by rw [Nat.zero_add]; omega) (by omega) (by simp) (fun _ => rfl) (fun a h => by cases h)).mono ?_
    rintro e w' ⟨rfl, rfl⟩
    have hG1 : 0 + m ≤ grownCap w (0 + m) 0 (ρ.t 25) := grownCap_ge w _ _ _
    have hG2 : grownCap w (0 + m) 0 (ρ.t 25) ≤ maxLen := grownCap_le_maxLen w _ _ _ (by unfold maxLen; omega)
    generalize grownCap w (0 + m) 0 (ρ.t 25) = c at hG1 hG2 ⊢
    have hbel : RowKit.Below w.heap.size w (w.drew.alloc (.cells (([] : List Value).toArray ++ Builtin.zeroCells z.cells (0 + m - 0) ++ Builtin.zeroCells z.cells (c - (0 + m))) (ρ.t 25))) :=
      RowKit.Below.alloc (⟨rfl, rfl, rfl, Nat.le_refl _, fun i hi => rfl⟩ : RowKit.Below w.heap.size w w.drew) (Nat.le_refl _) _
    refine ⟨_, .rs d 0, _, locSet L' d (some (w.heap.size, c)), rfl, hK, hR.newBlockAt h2 (.of_below hbel) (Nat.le_refl _) (fun M' L2 H2 hM hl => ?_), ?_⟩
    · simp only [BRel, hl]
      refine ⟨hs0, (by simp), _, ρ.t 25, World.alloc_heap_new w.drew _, ?_, Nat.zero_le _, hG2, fun i e j c he => by simp at he⟩
      simp only [Array.size_append, List.size_toArray, size_zeroCells, hzc, List.length_nil, Nat.zero_add, ← Nat.add_mul]
      congr 1; omega
    · exact .rs d 0 i0.size [] w.heap.size c (hget_hset_same _ _ _) (by simp [locSet]) (Nat.zero_le _)
end Go.AM
namespace Go.AM
open Go Go.Proofs
set_option linter.unusedVariables false
set_option linter.unusedSimpArgs false
def arrV (s : List Int) : List AV := s.map fun n => .pv (.int .i64 n)
def arrP (s : List Int) : List PV := s.map fun n => .int .i64 n
theorem arrV_len {s : List Int} : (arrV s).length = s.length := by simp [arrV]
theorem arrP_len {s : List Int} : (arrP s).length = s.length := by simp [arrP]
theorem arrV_get {s : List Int} {i : Nat} (h : i < s.length) : (arrV s).getD i .top = .pv (.int .i64 (s.getD i 0)) := by
  simp [arrV, List.getD_eq_getElem?_getD, h]
theorem arrP_get {s : List Int} {i : Nat} (h : i < s.length) : (arrP s).getD i default = .int .i64 (s.getD i 0) := by
  simp [arrP, List.getD_eq_getElem?_getD, h]
theorem arrV_set {s : List Int} {i : Nat} {n : Int} : (arrV s).set i (.pv (.int .i64 n)) = arrV (s.set i n) := by
  simp [arrV, List.map_set]
theorem arrV_one {s : List Int} : (arrV s).all AV.one = true := by
  unfold arrV; rw [List.all_map]; exact List.all_eq_true.2 (fun x _ => rfl)
theorem arrV_kill {κ : Nat} {s : List Int} : AV.killL κ (arrV s) = arrV s := by
  rw [AV.killL_eq]; unfold arrV; rw [List.map_map]; rfl
theorem arrV_take {s : List Int} {n : Nat} (h : s.length = n) : (arrV s).take n = arrV s := List.take_of_length_le (by rw [arrV_len]; omega)
theorem arrP_take {s : List Int} {n : Nat} (h : s.length = n) : (arrP s).take n = arrP s := List.take_of_length_le (by rw [arrP_len]; omega)
theorem arrV_frz {H : AHeap} {n : Nat} {s : List Int} : (arrV s).map (frz H n) = arrP s := by
  unfold arrV arrP; rw [List.map_map]
  refine List.map_congr_left (fun x _ => ?_)
  cases n <;> rfl
theorem arrV_frzOk {H : AHeap} {n : Nat} {s : List Int} : ∀ c, c ∈ arrV s → c.one = true ∧ frzOk H n c := by
  intro c hc
  obtain ⟨x, _, rfl⟩ := List.mem_map.1 hc
  refine ⟨rfl, ?_⟩
  cases n <;> trivial
theorem arrP_av {s : List Int} : (arrP s).map AV.pv = arrV s := by unfold arrV arrP; rw [List.map_map]; rfl
theorem arrV_rep {n : Nat} {a : Int} : List.map ofV1 (Array.replicate n (Value.int IntKind.i64 a)).toList = arrV (List.replicate n a) := by
  simp [arrV, ofV1]
theorem arrV_get_ne {s : List Int} {i j : Nat} {v : Int} (h : i ≠ j) (hj : j < s.length) : (arrV (s.set i v)).getD j .top = .pv (.int .i64 (s.getD j 0)) := by
  rw [arrV_get (by rw [List.length_set]; exact hj)]
  simp [List.getD_eq_getElem?_getD, List.getElem?_set_ne h]
theorem putL_pre : ∀ (vs cs pre : List AV), vs.length = cs.length → putL pre.length vs (pre ++ cs) = pre ++ vs
  | [], cs, pre, h => by
    have : cs = [] := List.length_eq_zero_iff.1 (by simpa using h.symm)
    subst this; rfl
  | v :: vs, cs, pre, h => by
    cases cs with
    | nil => simp at h
    | cons c cs =>
      have h' : vs.length = cs.length := by simpa using h
      have e := putL_pre vs cs (pre ++ [v]) h'
      rw [List.length_append, List.length_singleton, List.append_assoc, List.append_assoc] at e
      unfold putL
      rw [show (pre ++ c :: cs).set pre.length v = pre ++ v :: cs by simp]
      exact e
theorem arrV_put {s t : List Int} (h : s.length = t.length) : putL 0 (arrV s) (arrV t) = arrV s := by
  have := putL_pre (arrV s) (arrV t) [] (by rw [arrV_len, arrV_len, h])
  simpa using this
/-- A list by its places. -/
def tab (n : Nat) (f : Nat → Int) : List Int := (List.range n).map f
theorem tab_len {n : Nat} {f : Nat → Int} : (tab n f).length = n := by simp [tab]
theorem tab_get {n i : Nat} {f : Nat → Int} (h : i < n) : (tab n f).getD i 0 = f i := by simp [tab, List.getD_eq_getElem?_getD, h]
theorem tab_set {n j : Nat} {f : Nat → Int} {v : Int} : (tab n f).set j v = tab n (fun i => if i = j then v else f i) := by
  apply List.ext_getElem
  · simp [tab]
  · intro i h1 h2
    rw [List.getElem_set]
    simp [tab]
    by_cases h : j = i
    · subst h; simp
    · have : ¬ i = j := fun e => h e.symm
      simp [h, this]
theorem tab_rep {n : Nat} {a : Int} : List.replicate n a = tab n (fun _ => a) := by
  apply List.ext_getElem
  · simp [tab]
  · intro i h1 h2; simp [tab]
theorem tab_congr {n : Nat} {f g : Nat → Int} (h : ∀ i, i < n → f i = g i) : tab n f = tab n g := by
  unfold tab
  exact List.map_congr_left (fun i hi => h i (by simpa using hi))
end Go.AM
