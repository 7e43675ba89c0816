/-
  A part of a proof: see the last text of this claim for what is proved.
-/
import Derived.Test.YtcmkdpdinjkokaaGreatDoorX7c
/-! What a good law is, for the checker: plain -/
namespace Go.AM
open Go Go.Proofs Go.IntWalk
set_option maxRecDepth 100000
set_option maxHeartbeats 1000000
set_option linter.unusedSimpArgs false
set_option linter.unusedVariables false
theorem nm5_ok : ∀ n, n ∈ nm5 → nmF n = true ∧ n.length ≤ 100 := by decide +kernel
theorem fstG_ok {l : List PV} (h : ∀ i, i < l.length → hdF l i = 0) : ∀ k i, i + k ≤ l.length → fstG l k i = (0, 0)
  | 0, _, _ => rfl
  | k + 1, i, hi => by
    unfold fstG
    rw [h i (by omega)]
    exact fstG_ok h k (i + 1) (by omega)
theorem tree_len {l : List PV} (h : treeC (l.map hCode)) : l.length ≤ 45 := by
  have := h.len
  rwa [List.length_map] at this
theorem hCode_getD {l : List PV} {i : Nat} (h : i < l.length) : hCode (l.getD i default) ∈ l.map hCode := List.mem_map.2 ⟨_, getD_mem h, rfl⟩
/-- The tree of a made law is valid. -/
theorem tree_valid {l : List PV} (h : treeC (l.map hCode)) (hn : nameP l) : (fstF l).2 = 0 := by
  have h45 := tree_len h
  have hd : ∀ i, i < l.length → hdF l i = 0 := by
    intro i hi
    have hm := hCode_getD hi
    have hs := h.sx hm
    obtain ⟨c, n, he, _, hn5⟩ := hn _ (getD_mem hi)
    have hc : hCode (l.getD i default) = c := by rw [he]; rfl
    have hnm : hName (l.getD i default) = n := by rw [he]; rfl
    unfold hdF
    rw [hc] at hm hs ⊢
    rw [hnm, (SX_par c hs).1, (nm5_ok n hn5).1]
    simp only [Bool.not_true, cond_false]
    have ho : (decide ((0 : Int) < (i : Int)) && decide (0 ≤ cmpC (hCode (l.getD (i - 1) default)) c)) = false := by
      cases i with
      | zero => rfl
      | succ j =>
        have h1 := h.ord
        rw [List.pairwise_map] at h1
        have h2 := pw_getD h1 (show j < j + 1 by omega) hi
        rw [hc] at h2
        have h3 : decide (0 ≤ cmpC (hCode (l.getD j default)) c) = false := decide_eq_false (by omega)
        show (_ && decide (0 ≤ cmpC (hCode (l.getD j default)) c)) = false
        rw [h3, Bool.and_false]
    rw [ho, cond_false, (SX_par c hs).2]
    have hp : (!(parF c == []) && !(l.any (fun e => hCode e == parF c))) = false := by
      rcases h.2 c hm with hp | hp
      · rw [hp]; rfl
      · obtain ⟨e, he2, he3⟩ := List.mem_map.1 hp
        have : l.any (fun e => hCode e == parF c) = true := List.any_eq_true.2 ⟨e, he2, by simp [he3]⟩
        rw [this]; simp
    rw [hp, cond_false]
  unfold fstF
  have c0 : decide ((60 : Int) < (l.length : Int)) = false := by simp; omega
  rw [c0, cond_false, fstG_ok hd l.length 0 (by omega)]
theorem nameP.isHn {l : List PV} (hn : nameP l) : ∀ e, e ∈ l → isHn e := fun e he => by
  obtain ⟨c, n, rfl, hc, h5⟩ := hn e he
  have := (nm5_ok n h5).2
  exact ⟨c, n, rfl, by omega, by omega⟩
section
variable {L : List (List UInt8)}
theorem under_leaf (h : treeC L) : ∀ (n : Nat) (s t : List UInt8), s.length ≤ n → s ∈ L → t ∈ SX → undC s t = true → s = t ∨ ∃ z, z ∈ L ∧ parF z = t
  | n, s, t, hn, hs, ht, hu => by
    rcases SX_und s (h.sx hs) t ht hu with rfl | ⟨h1, h2, h3⟩
    · exact .inl rfl
    · have hp := (h.2 s hs).resolve_left h3
      cases n with
      | zero => omega
      | succ n =>
        rcases under_leaf h n (parF s) t (by omega) hp ht h1 with h4 | h4
        · exact .inr ⟨s, hs, h4⟩
        · exact .inr h4
theorem lvC_mem {s : List UInt8} {top : List UInt8} (hs : s ∈ lvC L top) : s ∈ L := (List.mem_filter.1 hs).1
/-- A leaf lies under no other one. -/
theorem leaf_under (h : treeC L) {s t : List UInt8} (hs : s ∈ lvC L []) (ht : t ∈ lvC L []) (hu : undC s t = true) : s = t := by
  rcases under_leaf h s.length s t (Nat.le_refl _) (lvC_mem hs) (h.sx (lvC_mem ht)) hu with h1 | ⟨z, hz, hp⟩
  · exact h1
  · have h2 := (List.mem_filter.1 ht).2
    rw [all_par h] at h2
    simp only [Bool.and_eq_true, List.all_eq_true] at h2
    have h3 := h2.1.2 z hz
    rw [hp] at h3
    simp at h3
end
def Law.lv (l : Law) : List (List UInt8) := lvC (l.tree.map hCode) []
theorem Law.ok.k {l : Law} (h : l.ok) : LawK l := h.2.2.2.2.2.2.2.2.2
section
variable {l : Law}
theorem LawK.lvE (h : LawK l) : leavesF l.tree [] = l.lv.map PV.str := leaves_eq h.tc (.inl rfl)
theorem LawK.mem (h : LawK l) {s : List UInt8} (hs : PV.str s ∈ leavesF l.tree []) : s ∈ l.lv := by
  rw [h.lvE] at hs
  obtain ⟨c, hc, e⟩ := List.mem_map.1 hs
  injection e with e
  rw [← e]; exact hc
theorem LawK.code (h : LawK l) {s : List UInt8} (hs : s ∈ l.lv) : s ∈ l.tree.map hCode := lvC_mem hs
theorem LawK.len (h : LawK l) {s : List UInt8} (hs : s ∈ l.tree.map hCode) : s.length ≤ 100 := (SX_gd s (h.tc.sx hs)).2
theorem LawK.lvlen (h : LawK l) : l.lv.length ≤ 45 := Nat.le_trans (List.length_filter_le _ _) h.tc.len
theorem Law.ok.ckQ (h : l.ok) : ckQ l l.lv := by
  have hk := h.k
  obtain ⟨h1, h2, h3, _⟩ := h
  have h4 := hk.lvlen
  have h5 := tree_len hk.tc
  exact ⟨by omega, h3.isH, by omega, by omega, by omega⟩
theorem lin_mem {lv : List PV} {first years yy : Int} {la : List PV} (h : LinI lv first years lv.length yy la) {x : PV} (hx : x ∈ la) :
    ∃ s y m, x = .agg [.str s, .int .i64 y, .int .i64 m] ∧ (first ≤ y ∧ y < first + years) ∧ (0 ≤ m ∧ m ≤ 5000) ∧ PV.str s ∈ lv := by
  obtain ⟨s, y, m, e, h1, h2, h3⟩ := h.2 x hx
  refine ⟨s, y, m, e, h1, h2, ?_⟩
  rcases h3 with ⟨j, hj, hs⟩ | ⟨hs, _⟩
  · rw [← hs]; exact getD_mem hj
  · rw [List.getD_eq_getElem?_getD, List.getElem?_eq_none (Nat.le_refl _)] at hs
    cases hs
theorem LawK.line (h : LawK l) (hq : ckQ l l.lv) : ∀ x, x ∈ l.a → lineP (ckV l l.lv) x := fun x hx => by
  obtain ⟨s, y, m, rfl, h1, h2, h3⟩ := lin_mem h.ln hx
  exact ⟨l, l.lv, s, y, m, rfl, rfl, hq, h.mem h3, h1, by omega⟩
theorem LawK.lineI (h : LawK l) : ∀ x, x ∈ l.a → isL3 x := fun x hx => by
  obtain ⟨s, y, m, rfl, h1, h2, h3⟩ := lin_mem h.ln hx
  have := h.len (h.code (h.mem h3))
  exact ⟨s, y, m, rfl, by omega⟩
theorem LawK.lineO (h : LawK l) : ∀ i, i + 1 < l.a.length → linO (l.a.getD i default) (l.a.getD (i + 1) default) < 0 := fun i hi => pw_getD h.ln.1 (by omega) hi
theorem bnd_ok {b : List PV} (h : LawK l) (hq : ckQ l l.lv) (hy : 1 ≤ l.years) (hb : BndI l.tree l.first l.tree.length b) :
    (∀ x, x ∈ b → boundP (ckV l l.lv) x) ∧ (∀ x, x ∈ b → isL3 x) ∧ ∀ i, i + 1 < b.length → linO (b.getD i default) (b.getD (i + 1) default) < 0 := by
  refine ⟨fun x hx => ?_, fun x hx => ?_, fun i hi => pw_getD hb.1 (by omega) hi⟩
  · obtain ⟨s, y, m, rfl, h1, h2, j, hj, hj2, h3⟩ := hb.2 x hx
    have hm := hCode_getD hj2
    rw [h3] at hm
    exact ⟨l, l.lv, s, y, m, rfl, rfl, hq, hm, by omega, by omega⟩
  · obtain ⟨s, y, m, rfl, h1, h2, j, hj, hj2, h3⟩ := hb.2 x hx
    have hm := hCode_getD hj2
    rw [h3] at hm
    have := h.len hm
    exact ⟨s, y, m, rfl, by omega⟩
/-- An earmark: its source is a leaf under 9, its code a leaf. -/
theorem LawK.ear (h : LawK l) {x : PV} (hx : x ∈ l.d) : ∃ s c p, x = .agg [.str s, .str c, .int .i64 p] ∧ (0 ≤ p ∧ p ≤ 50) ∧ c ∈ l.lv ∧ s ∈ l.lv ∧ PV.str s ∈ leavesF l.tree [57] := by
  obtain ⟨s, c, p, e, h1, h2, j, hj, hj2, h3⟩ := h.ea.2 x hx
  have hm := getD_mem hj2
  rw [h3] at hm
  exact ⟨s, c, p, e, h1, h.mem h2, h.mem (leavesF_sub hm), hm⟩
theorem LawK.earP' (h : LawK l) (hq : ckQ l l.lv) : ∀ x, x ∈ l.d → earmarkP (ckV l l.lv) x := fun x hx => by
  obtain ⟨s, c, p, rfl, h1, h2, h3, _⟩ := h.ear hx
  exact ⟨l, l.lv, s, c, p, rfl, rfl, hq, h.code h3, h2, by omega⟩
theorem LawK.earI (h : LawK l) : ∀ x, x ∈ l.d → isE3 x := fun x hx => by
  obtain ⟨s, c, p, rfl, h1, h2, h3, _⟩ := h.ear hx
  have a := h.len (h.code h3)
  have b := h.len (h.code h2)
  exact ⟨s, c, p, rfl, by omega, by omega⟩
theorem LawK.earO' (h : LawK l) : ∀ i, i + 1 < l.d.length → earO (l.d.getD i default) (l.d.getD (i + 1) default) < 0 := fun i hi => by
  have h1 : cmpC _ _ < 0 := pw_getD h.ea.1 (show i < i + 1 by omega) hi
  unfold earO orF
  have e : (cmpC (srcOf (l.d.getD i default)) (srcOf (l.d.getD (i + 1) default)) != 0) = true := bne_iff_ne.2 (by omega)
  rw [e, cond_true]; exact h1
theorem LawK.nine (h : LawK l) : (leavesF l.tree [57]).length ≤ 3 := by
  rw [leaves_eq h.tc (.inr (by decide)), List.length_map, lv_eq h.tc (by decide)]
  exact Nat.le_trans (List.length_filter_le _ _) (by decide +kernel)
theorem LawK.con (h : LawK l) (hn : nineP l.tree) (hq : ckQ l l.lv) : ∀ x, x ∈ l.e → condP (ckV l l.lv) x := fun x hx => by
  obtain ⟨c, y, am, k, d, s, z, rfl, h1, h2, h3, h4⟩ := h.co.2 x hx
  obtain ⟨e, he, hc⟩ := hn
  have h9 : ([57] : List UInt8) ∈ l.tree.map hCode := List.mem_map.2 ⟨e, he, hc⟩
  refine ⟨l, l.lv, c, y, am, k, d, s, z, rfl, rfl, hq, h.mem h1, h2, by omega, ?_⟩
  rcases h4 with ⟨a1, a2, a3, a4⟩ | ⟨a1, a2, a3, a4⟩
  · exact .inl ⟨a1, by omega, a3, a4⟩
  · exact .inr ⟨a1, a2, by rw [a3]; exact h9, by omega⟩
theorem LawK.conI (h : LawK l) : ∀ x, x ∈ l.e → isC7 x := fun x hx => by
  obtain ⟨c, y, am, k, d, s, z, rfl, h1, h2, h3, h4⟩ := h.co.2 x hx
  have a := h.len (h.code (h.mem h1))
  refine ⟨c, y, am, k, d, s, z, rfl, by omega, ?_⟩
  rcases h4 with ⟨a1, a2, a3, a4⟩ | ⟨a1, a2, a3, a4⟩ <;> subst a3 <;> simp
theorem LawK.rul (h : LawK l) (hq : ckQ l l.lv) : ∀ x, x ∈ l.f → rulP (ckV l l.lv) x := fun x hx => by
  obtain ⟨n, s, c, p, rfl, h1, h2, h3, h4⟩ := h.ru.2 x hx
  exact ⟨l, l.lv, n, s, c, p, rfl, rfl, hq, h2, h3, by omega, h4⟩
theorem LawK.rulI (h : LawK l) : ∀ x, x ∈ l.f → isR4 x := fun x hx => by
  obtain ⟨n, s, c, p, rfl, h1, h2, h3, h4⟩ := h.ru.2 x hx
  have a := h.len h2
  have b := h.len h3
  exact ⟨n, s, c, p, rfl, by omega, by omega⟩
theorem LawK.rulO' (h : LawK l) : ∀ i, i + 1 < l.f.length → rulO (l.f.getD i default) (l.f.getD (i + 1) default) < 0 := fun i hi => by
  have h1 := pw_getD h.ru.1 (show i < i + 1 by omega) hi
  unfold rulO cmpI
  rw [decide_eq_true h1, cond_true]; decide
end
/-! ### Shares -/
def shV (leaf : List UInt8) (x : PV) : Int := if undC leaf (srcOf x) = true then pctOf x else 0
def isEp (x : PV) : Prop := ∃ s c p, x = .agg [.str s, .str c, .int .i64 p] ∧ s.length ≤ 1000 ∧ (0 ≤ p ∧ p ≤ 100)
theorem shV_le {leaf : List UInt8} {x : PV} (h : isEp x) : 0 ≤ shV leaf x ∧ shV leaf x ≤ 100 := by
  obtain ⟨s, c, p, rfl, _, h2⟩ := h
  unfold shV
  split
  · exact h2
  · omega
theorem sh_bound {leaf : List UInt8} : ∀ d : List PV, (∀ x, x ∈ d → isEp x) → 0 ≤ sumL (d.map (shV leaf)) ∧ sumL (d.map (shV leaf)) ≤ 100 * (d.length : Int)
  | [], _ => by simp [sumL]
  | x :: r, h => by
    have h1 := sh_bound (leaf := leaf) r (fun y hy => h y (List.mem_cons_of_mem _ hy))
    have h2 := shV_le (leaf := leaf) (h x List.mem_cons_self)
    simp only [List.map_cons, sumL, List.length_cons]
    omega
theorem sh_le {s : List UInt8} (hs : s ∈ SX) : ∀ d : List PV, d.Pairwise earLt → (∀ x, x ∈ d → ∃ t c p, x = .agg [.str t, .str c, .int .i64 p] ∧ (0 ≤ p ∧ p ≤ 50) ∧ (undC s t = true → s = t)) → sumL (d.map (shV s)) ≤ 50
  | [], _, _ => by simp [sumL]
  | x :: r, hp, h => by
    rw [List.pairwise_cons] at hp
    obtain ⟨t, c, p, rfl, h1, h2⟩ := h x List.mem_cons_self
    have ih := sh_le hs r hp.2 (fun y hy => h y (List.mem_cons_of_mem _ hy))
    have hv : shV s (.agg [.str t, .str c, .int .i64 p]) = if undC s t = true then p else 0 := rfl
    simp only [List.map_cons, sumL, hv]
    by_cases hu : undC s t = true
    · rw [if_pos hu]
      have e := h2 hu
      subst e
      have : sumL (r.map (shV s)) = sumL (r.map fun _ => (0 : Int)) := sumL_congr fun y hy => by
        obtain ⟨t', c', p', rfl, _, h2'⟩ := h y (List.mem_cons_of_mem _ hy)
        show (if undC s t' = true then p' else 0) = 0
        rw [if_neg]
        intro hu'
        have e' := h2' hu'
        subst e'
        have h3 : cmpC s s < 0 := hp.1 _ hy
        rw [SX_self s hs] at h3
        omega
      rw [this, sumL_zero]; omega
    · rw [if_neg hu]; omega
theorem LawK.sh {l : Law} (h : LawK l) : ∀ s, s ∈ l.lv → sumL (l.d.map (shV s)) ≤ 50 := fun s hs =>
  sh_le (h.tc.sx (h.code hs)) l.d h.ea.1 fun x hx => by
    obtain ⟨t, c, p, e, h1, h2, h3, _⟩ := h.ear hx
    exact ⟨t, c, p, e, h1, fun hu => leaf_under h.tc hs h3 hu⟩
theorem LawK.shI {l : Law} (h : LawK l) : ∀ x, x ∈ l.d → isEp x := fun x hx => by
  obtain ⟨t, c, p, e, h1, h2, h3, _⟩ := h.ear hx
  have := h.len (h.code h3)
  exact ⟨t, c, p, e, by omega, by omega⟩
end Go.AM
