/-
  A part of a proof: see the last text of this claim for what is proved.
-/
import Derived.Test.YtifefpabgchglaaGreatDoorR6j
namespace Go.AM
open Go Go.Proofs
set_option maxRecDepth 100000
set_option maxHeartbeats 4000000
set_option linter.unusedSimpArgs false
set_option linter.unusedVariables false
/-! ### Leaves and children: the plain law -/
def isCode (s : List UInt8) : Bool := decide ((0 : Int) < ((partsR s).length : Int))
def parC (s : List UInt8) : List UInt8 := bif isCode s then dotF s s.length else []
def lvC (L : List (List UInt8)) (top : List UInt8) : List (List UInt8) := L.filter (fun c => isCode c && L.all (fun x => !(parC x == c)) && (top == [] || undC c top))
def chC (L : List (List UInt8)) (code : List UInt8) : List (List UInt8) := L.filter (fun c => isCode c && (parC c == code))
theorem SX_par : ∀ c, c ∈ SX → isCode c = true ∧ parC c = parF c := by decide +kernel
theorem SX_ne : ∀ c, c ∈ SX → c ≠ [] := by decide +kernel
theorem SX_und : ∀ y, y ∈ SX → ∀ c, c ∈ SX → undC y c = true → y = c ∨ (undC (parF y) c = true ∧ (parF y).length < y.length ∧ parF y ≠ []) := by decide +kernel
theorem SX_part : ∀ top, top ∈ SX → SX.filter (fun c => undC c top) = top :: (SX.filter (fun c => parF c == top)).flatMap (fun c => SX.filter (fun d => undC d c)) := by decide +kernel
theorem SX_part0 : SX = (SX.filter (fun c => parF c == [])).flatMap (fun c => SX.filter (fun d => undC d c)) := by decide +kernel
theorem SX_long : ∀ x, x ∈ SX → x.length ≤ 7 ∧ (parF x ≠ [] → (parF x).length < x.length) := by decide +kernel
section
variable {L : List (List UInt8)}
theorem over_sx (h : treeC L) (P : List UInt8 → Bool) : L.filter P = SX.filter (fun c => P c && L.contains c) := by
  have : L.filter P = (SX.filter (fun c => L.contains c)).filter P := by rw [← h.1]
  rw [this, List.filter_filter]
theorem all_par (h : treeC L) (c : List UInt8) : L.all (fun x => !(parC x == c)) = L.all (fun x => !(parF x == c)) := by
  rw [Bool.eq_iff_iff, List.all_eq_true, List.all_eq_true]
  exact ⟨fun h1 x hx => by rw [← (SX_par x (h.sx hx)).2]; exact h1 x hx, fun h1 x hx => by rw [(SX_par x (h.sx hx)).2]; exact h1 x hx⟩
/-- A leaf that is there. -/
def lfC (L : List (List UInt8)) (c : List UInt8) : Bool := L.contains c && L.all (fun x => !(parF x == c))
theorem lv_eq (h : treeC L) {top : List UInt8} (ht : top ≠ []) : lvC L top = (SX.filter (fun c => undC c top)).filter (lfC L) := by
  unfold lvC
  rw [over_sx h, List.filter_filter]
  apply List.filter_congr
  intro c hc
  have e : (top == []) = false := by simpa using ht
  rw [(SX_par c hc).1, all_par h, e]
  unfold lfC
  cases undC c top <;> cases L.contains c <;> cases L.all (fun x => !(parF x == c)) <;> rfl
theorem lv_eq0 (h : treeC L) : lvC L [] = SX.filter (lfC L) := by
  unfold lvC
  rw [over_sx h]
  apply List.filter_congr
  intro c hc
  rw [(SX_par c hc).1, all_par h]
  unfold lfC
  cases L.contains c <;> cases L.all (fun x => !(parF x == c)) <;> rfl
theorem ch_eq (h : treeC L) (code : List UInt8) : chC L code = (SX.filter (fun c => parF c == code)).filter (fun c => L.contains c) := by
  unfold chC
  rw [over_sx h, List.filter_filter]
  apply List.filter_congr
  intro c hc
  rw [(SX_par c hc).1, (SX_par c hc).2]
  cases (parF c == code) <;> cases L.contains c <;> rfl
theorem up_mem (h : treeC L) : ∀ (n : Nat) (y c : List UInt8), y.length ≤ n → y ∈ L → c ∈ SX → undC y c = true → c ∈ L
  | n, y, c, hn, hy, hc, hu => by
    rcases SX_und y (h.sx hy) c hc hu with rfl | ⟨h1, h2, h3⟩
    · exact hy
    · have hp := (h.2 y hy).resolve_left h3
      cases n with
      | zero => omega
      | succ n => exact up_mem h n (parF y) c (by omega) hp hc h1
theorem lv_nil (h : treeC L) {c : List UInt8} (hc : c ∈ SX) (hn : c ∉ L) : lvC L c = [] := by
  rw [lv_eq h (SX_ne c hc), List.filter_eq_nil_iff]
  intro y hy hl
  unfold lfC at hl
  simp only [Bool.and_eq_true, List.contains_iff_mem] at hl
  exact hn (up_mem h _ y c (Nat.le_refl _) hl.1 hc (List.mem_filter.1 hy).2)
theorem flat_drop (h : treeC L) : ∀ {C : List (List UInt8)}, (∀ c, c ∈ C → c ∈ SX) → C.flatMap (lvC L) = (C.filter (fun c => L.contains c)).flatMap (lvC L)
  | [], _ => rfl
  | c :: r, hC => by
    have ih := flat_drop h (C := r) (fun x hx => hC x (List.mem_cons_of_mem _ hx))
    rw [List.flatMap_cons, List.filter_cons, ih]
    by_cases hm : c ∈ L
    · rw [if_pos (List.contains_iff_mem.2 hm), List.flatMap_cons]
    · rw [if_neg (fun h9 => hm (List.contains_iff_mem.1 h9)), lv_nil h (hC c List.mem_cons_self) hm, List.nil_append]
theorem flat_lv (h : treeC L) {C : List (List UInt8)} (hC : ∀ c, c ∈ C → c ∈ SX) : (C.flatMap (fun c => SX.filter (fun d => undC d c))).filter (lfC L) = (C.filter (fun c => L.contains c)).flatMap (lvC L) := by
  rw [← flat_drop h hC]
  induction C with
  | nil => rfl
  | cons c r ih =>
    rw [List.flatMap_cons, List.filter_append, List.flatMap_cons, ih (fun x hx => hC x (List.mem_cons_of_mem _ hx)), lv_eq h (SX_ne c (hC c List.mem_cons_self))]
theorem lv_step (h : treeC L) {top : List UInt8} (ht : top ∈ SX) : lvC L top = [top].filter (lfC L) ++ (chC L top).flatMap (lvC L) := by
  rw [lv_eq h (SX_ne top ht), SX_part top ht, show top :: (SX.filter (fun c => parF c == top)).flatMap (fun c => SX.filter (fun d => undC d c)) = [top] ++ (SX.filter (fun c => parF c == top)).flatMap (fun c => SX.filter (fun d => undC d c)) from rfl,
    List.filter_append, flat_lv h (fun c hc => (List.mem_filter.1 hc).1), ch_eq h]
theorem lv_all (h : treeC L) : lvC L [] = (chC L []).flatMap (lvC L) := by
  rw [lv_eq0 h, ch_eq h, ← flat_lv h (fun c hc => (List.mem_filter.1 hc).1)]
  conv => lhs; rw [SX_part0]
theorem lv_ne (h : treeC L) : ∀ (n : Nat) (c : List UInt8), c ∈ L → 7 - c.length ≤ n → lvC L c ≠ []
  | n, c, hc, hn => by
    have hcs := h.sx hc
    rw [lv_step h hcs]
    by_cases hl : lfC L c = true
    · simp [List.filter_cons, hl]
    · have hl : lfC L c = false := by simpa using hl
      unfold lfC at hl
      rw [List.contains_iff_mem.2 hc, Bool.true_and, List.all_eq_false] at hl
      obtain ⟨x, hx, hxp⟩ := hl
      have hxp : parF x = c := by simpa using hxp
      have hx7 := SX_long x (h.sx hx)
      have hlt : c.length < x.length := by
        have := hx7.2 (by rw [hxp]; exact SX_ne c hcs)
        rwa [hxp] at this
      cases n with
      | zero => omega
      | succ n =>
        have ih := lv_ne h n x hx (by omega)
        have hxc : x ∈ chC L c := by
          rw [ch_eq h]
          simp only [List.mem_filter, beq_iff_eq, List.contains_iff_mem]
          exact ⟨⟨h.sx hx, hxp⟩, hx⟩
        intro h9
        rw [List.append_eq_nil_iff, List.flatMap_eq_nil_iff] at h9
        exact ih (h9.2 x hxc)
/-- What the statement expects of a heading. -/
def wantC (L : List (List UInt8)) (top : List UInt8) : List (List UInt8) := if (chC L top).flatMap (lvC L) = [] then [top] else (chC L top).flatMap (lvC L)
theorem law_leaves (h : treeC L) {top : List UInt8} (ht : top ∈ L) : lvC L top = wantC L top := by
  have hts := h.sx ht
  have hs := lv_step h hts
  have hn := lv_ne h 7 top ht (by omega)
  unfold wantC
  by_cases hl : lfC L top = true
  · have hch : chC L top = [] := by
      rw [ch_eq h, List.filter_eq_nil_iff]
      intro x hx hm
      have h2 := (List.mem_filter.1 hx).2
      unfold lfC at hl
      simp only [Bool.and_eq_true, List.all_eq_true] at hl
      have h3 := hl.2 x (List.contains_iff_mem.1 hm)
      rw [h2] at h3; cases h3
    rw [hs, hch]
    simp [List.filter_cons, hl]
  · have hl : lfC L top = false := by simpa using hl
    have e : [top].filter (lfC L) = [] := by simp [List.filter_cons, hl]
    rw [e, List.nil_append] at hs
    rw [hs] at hn
    rw [if_neg hn]; exact hs
end
end Go.AM
