/-
  A part of a proof: see the last text of this claim for what is proved.
-/
import Derived.Test.YtjeolgjiakpenaaDoorAMa
namespace Go.AM
open Go
set_option linter.unusedVariables false
set_option linter.unusedSimpArgs false

/-- What a slot holds, as the walk knows it: plain data; a handle of a block of the call's own ('key'); 'top': whatever. -/
inductive AV where
  | pv (p : PV)
  | nils
  | ptr (key off : Nat)
  | rs (key hi : Nat)
  | rv (key lo hi : Nat)
  | rp (key i off : Nat)
  | agg (cs : List AV)
  | clo (f : FuncId) (caps : List AV)
  | whn (b : Bool) (v : AV)
  | opq (φ : List PV → Prop × PV)
  | top
instance : Inhabited AV := ⟨.top⟩

/-- A block of the call's own: a variable's cells; a row of a slice that may grow; a variable of which only so much is known that its cells are plain data with 'J'. -/
inductive ABlk where
  | cells (cs : List AV)
  | row (k : Nat) (es : List PV)
  | obj (J : List PV → Prop)
def ABlk.isVar : ABlk → Bool
  | .row _ _ => false
  | _ => true

abbrev AHeap := List (Nat × ABlk)
def hget : AHeap → Nat → Option ABlk
  | [], _ => none
  | (i, b) :: r, j => if i = j then some b else hget r j
def hset : AHeap → Nat → ABlk → AHeap
  | [], j, c => [(j, c)]
  | (i, b) :: r, j, c => if i = j then (i, c) :: r else (i, b) :: hset r j c
def hdel : AHeap → Nat → AHeap
  | [], _ => []
  | (i, b) :: r, j => if i = j then hdel r j else (i, b) :: hdel r j

theorem hget_hset_same (H : AHeap) (k : Nat) (B : ABlk) : hget (hset H k B) k = some B := by
  induction H with
  | nil => simp [hset, hget]
  | cons x r ih =>
    obtain ⟨i, b⟩ := x
    by_cases h : i = k <;> simp [hset, hget, h, ih]
theorem hget_hset_ne (H : AHeap) {k j : Nat} (B : ABlk) (h : k ≠ j) : hget (hset H k B) j = hget H j := by
  induction H with
  | nil => simp [hset, hget, h]
  | cons x r ih =>
    obtain ⟨i, b⟩ := x
    by_cases hi : i = k
    · subst hi; simp [hset, hget, h]
    · simp [hset, hget, hi, ih]
theorem hget_hdel_same (H : AHeap) (k : Nat) : hget (hdel H k) k = none := by
  induction H with
  | nil => simp [hdel, hget]
  | cons x r ih =>
    obtain ⟨i, b⟩ := x
    by_cases h : i = k <;> simp [hdel, hget, h, ih]
theorem hget_hdel_ne (H : AHeap) {k j : Nat} (h : k ≠ j) : hget (hdel H k) j = hget H j := by
  induction H with
  | nil => simp [hdel, hget]
  | cons x r ih =>
    obtain ⟨i, b⟩ := x
    by_cases hi : i = k
    · subst hi; simp [hdel, hget, h, ih]
    · simp [hdel, hget, hi, ih]

/-- Where the blocks of the call's own lie: a block's number, and how many elements it has room for. -/
abbrev Locs := Nat → Option (Nat × Nat)
/-- The blocks that may be written. -/
def Own (L : Locs) (H : AHeap) (b : Nat) : Prop := ∃ key B cap, hget H key = some B ∧ L key = some (b, cap)

section
variable (w : World) (M : Nat → Prop) (L : Locs) (H : AHeap) (S : (List PV → Prop × PV) → Value → Prop)
inductive AVRel : AV → Value → Prop where
  | pv (p : PV) (v : Value) : PVRel w M p v → AVRel (.pv p) v
  | nils : AVRel .nils (.slice none 0 0)
  | ptr (key off : Nat) (B : ABlk) (b cap : Nat) : hget H key = some B → B.isVar = true → L key = some (b, cap) → AVRel (.ptr key off) (.pointer (some ⟨b, off, none⟩))
  | rsN (key k : Nat) : hget H key = some (.row k []) → L key = none → AVRel (.rs key 0) (.slice none 0 0)
  | rs (key hi k : Nat) (es : List PV) (b cap : Nat) : hget H key = some (.row k es) → L key = some (b, cap) → hi ≤ es.length → AVRel (.rs key hi) (.slice (some ⟨b, 0, none⟩) hi cap)
  | rv (key lo hi k : Nat) (es : List PV) (b cap cap' : Nat) (a : Option Addr) : hget H key = some (.row k es) → L key = some (b, cap) → lo ≤ hi → hi ≤ es.length → hi - lo ≤ cap' → cap' ≤ maxLen →
      (lo < hi → a = some ⟨b, lo * k, none⟩) → AVRel (.rv key lo hi) (.slice a (hi - lo) cap')
  | rp (key i off k : Nat) (es : List PV) (b cap : Nat) : hget H key = some (.row k es) → L key = some (b, cap) → i < es.length → AVRel (.rp key i off) (.pointer (some ⟨b, i * k + off, none⟩))
  | agg (cs : List AV) (vs : Array Value) : vs.size = cs.length → (∀ i c, cs[i]? = some c → AVRel c (vs.getD i undef)) → AVRel (.agg cs) (.agg vs)
  | clo (f : FuncId) (caps : List AV) (vs : Array Value) : vs.size = caps.length → (∀ i c, caps[i]? = some c → AVRel c (vs.getD i undef)) → AVRel (.clo f caps) (.func (.func f) #[] vs)
  | whnT (v : AV) (x : Value) : AVRel v x → AVRel (.whn true v) x
  | whnF (v : AV) : AVRel (.whn false v) undef
  | opq (φ : List PV → Prop × PV) (x : Value) : S φ x → AVRel (.opq φ) x
  | top (x : Value) : AVRel .top x

/-- One cell holds it, and it is known to. -/
def AV.one : AV → Bool
  | .pv p => p.one
  | .nils | .ptr .. | .rs .. | .rv .. | .rp .. | .clo .. => true
  | _ => false

def BRel (key : Nat) : ABlk → Prop
  | .cells cs => ∃ b cap arr et, L key = some (b, cap) ∧ w.heap[b]? = some (.cells arr et (0, 0)) ∧ arr.size = cs.length ∧
      ∀ j c, cs[j]? = some c → AVRel w M L H S c (arr.getD j undef)
  | .row k es => 0 < k ∧ (∀ e, e ∈ es → e.width = k) ∧ match L key with
      | none => es = []
      | some (b, cap) => ∃ arr et, w.heap[b]? = some (.cells arr et (0, 0)) ∧ arr.size = cap * k ∧ es.length ≤ cap ∧ cap ≤ maxLen ∧
          (∀ i e j c, es[i]? = some e → e.cells[j]? = some c → c.one = true ∧ PVRel w M c (arr.getD (i * k + j) undef))
  | .obj J => ∃ cs b cap arr et, J cs ∧ (∀ c, c ∈ cs → c.one = true) ∧ L key = some (b, cap) ∧ w.heap[b]? = some (.cells arr et (0, 0)) ∧ arr.size = cs.length ∧
      ∀ j c, cs[j]? = some c → PVRel w M c (arr.getD j undef)
end

mutual
/-- The handles of a block forgotten. -/
def AV.kill (κ : Nat) : AV → AV
  | .ptr key off => if key = κ then .top else .ptr key off
  | .rs key hi => if key = κ then .top else .rs key hi
  | .rv key lo hi => if key = κ then .top else .rv key lo hi
  | .rp key i off => if key = κ then .top else .rp key i off
  | .agg cs => .agg (AV.killL κ cs)
  | .clo f caps => .clo f (AV.killL κ caps)
  | .whn b v => .whn b (AV.kill κ v)
  | .pv p => .pv p
  | .nils => .nils
  | .opq φ => .opq φ
  | .top => .top
def AV.killL (κ : Nat) : List AV → List AV
  | [] => []
  | c :: r => AV.kill κ c :: AV.killL κ r
end
theorem AV.killL_eq (κ : Nat) (cs : List AV) : AV.killL κ cs = cs.map (AV.kill κ) := by
  induction cs with
  | nil => rfl
  | cons c r ih => simp [AV.killL, ih]

/-- A block of one kind, at least as long. -/
def ABlk.le : ABlk → ABlk → Prop
  | .cells _, .cells _ => True
  | .cells _, .obj _ => True
  | .obj _, .cells _ => True
  | .obj _, .obj _ => True
  | .row k es, .row k' es' => k = k' ∧ es.length ≤ es'.length
  | _, _ => False
theorem ABlk.le_var {B B' : ABlk} (h : B.le B') (hv : B.isVar = true) : B'.isVar = true := by
  cases B <;> cases B' <;> first | rfl | exact h.elim | (simp [ABlk.isVar] at hv)

section
variable {w w' : World} {M M' : Nat → Prop} {L L' : Locs} {H H' : AHeap} {S S' : (List PV → Prop × PV) → Value → Prop}
theorem AVRel.keepKill (κ : Nat) (hk : Keeps w M w' M') (hs : ∀ φ x, S φ x → S' φ x)
    (hc : ∀ key B, key ≠ κ → hget H key = some B → ∃ B', hget H' key = some B' ∧ B.le B' ∧ L' key = L key ∧ (L key = none → B = B'))
    {v : AV} {x : Value} (h : AVRel w M L H S v x) : AVRel w' M' L' H' S' (v.kill κ) x := by
  induction h with
  | pv p v h => exact .pv p v (h.keep hk)
  | nils => exact .nils
  | ptr key off B b cap h1 hv h2 =>
    by_cases e : key = κ
    · simp only [AV.kill, e, if_true]; exact .top _
    · simp only [AV.kill, e, if_false]
      obtain ⟨B', hB, hle, hL, _⟩ := hc key _ e h1
      exact .ptr key off B' b cap hB (ABlk.le_var hle hv) (hL.trans h2)
  | rsN key k h1 h2 =>
    by_cases e : key = κ
    · simp only [AV.kill, e, if_true]; exact .top _
    · simp only [AV.kill, e, if_false]
      obtain ⟨B', hB, hle, hL, he⟩ := hc key _ e h1
      rw [← he h2] at hB
      exact .rsN key k hB (hL.trans h2)
  | rs key hi k es b cap h1 h2 h3 =>
    by_cases e : key = κ
    · simp only [AV.kill, e, if_true]; exact .top _
    · simp only [AV.kill, e, if_false]
      obtain ⟨B', hB, hle, hL, _⟩ := hc key _ e h1
      cases B' with
      | cells => exact hle.elim
      | obj => exact hle.elim
      | row k' es' => obtain ⟨rfl, hl⟩ := hle; exact .rs key hi k es' b cap hB (hL.trans h2) (Nat.le_trans h3 hl)
  | rv key lo hi k es b cap cap' a h1 h2 h3 h4 h5 h6 h7 =>
    by_cases e : key = κ
    · simp only [AV.kill, e, if_true]; exact .top _
    · simp only [AV.kill, e, if_false]
      obtain ⟨B', hB, hle, hL, _⟩ := hc key _ e h1
      cases B' with
      | cells => exact hle.elim
      | obj => exact hle.elim
      | row k' es' => obtain ⟨rfl, hl⟩ := hle; exact .rv key lo hi k es' b cap cap' a hB (hL.trans h2) h3 (Nat.le_trans h4 hl) h5 h6 h7
  | rp key i off k es b cap h1 h2 h3 =>
    by_cases e : key = κ
    · simp only [AV.kill, e, if_true]; exact .top _
    · simp only [AV.kill, e, if_false]
      obtain ⟨B', hB, hle, hL, _⟩ := hc key _ e h1
      cases B' with
      | cells => exact hle.elim
      | obj => exact hle.elim
      | row k' es' => obtain ⟨rfl, hl⟩ := hle; exact .rp key i off k es' b cap hB (hL.trans h2) (Nat.lt_of_lt_of_le h3 hl)
  | agg cs vs hz _ ih =>
    simp only [AV.kill, AV.killL_eq]
    refine .agg _ _ (by simpa using hz) (fun i c hc' => ?_)
    rw [List.getElem?_map] at hc'
    obtain ⟨d, hd, rfl⟩ := Option.map_eq_some_iff.1 hc'
    exact ih i d hd
  | clo f caps vs hz _ ih =>
    simp only [AV.kill, AV.killL_eq]
    refine .clo _ _ _ (by simpa using hz) (fun i c hc' => ?_)
    rw [List.getElem?_map] at hc'
    obtain ⟨d, hd, rfl⟩ := Option.map_eq_some_iff.1 hc'
    exact ih i d hd
  | whnT v x _ ih => exact .whnT _ _ ih
  | whnF v => exact .whnF _
  | opq φ x h => exact .opq φ x (hs φ x h)
  | top x => exact .top x

theorem AVRel.keep (hk : Keeps w M w' M') (hs : ∀ φ x, S φ x → S' φ x)
    (hc : ∀ key B, hget H key = some B → ∃ B', hget H' key = some B' ∧ B.le B' ∧ L' key = L key ∧ (L key = none → B = B'))
    {v : AV} {x : Value} (h : AVRel w M L H S v x) : AVRel w' M' L' H' S' v x := by
  induction h with
  | pv p v h => exact .pv p v (h.keep hk)
  | nils => exact .nils
  | ptr key off B b cap h1 hv h2 =>
    obtain ⟨B', hB, hle, hL, _⟩ := hc key _ h1
    exact .ptr key off B' b cap hB (ABlk.le_var hle hv) (hL.trans h2)
  | rsN key k h1 h2 =>
    obtain ⟨B', hB, hle, hL, he⟩ := hc key _ h1
    rw [← he h2] at hB
    exact .rsN key k hB (hL.trans h2)
  | rs key hi k es b cap h1 h2 h3 =>
    obtain ⟨B', hB, hle, hL, _⟩ := hc key _ h1
    cases B' with
    | cells => exact hle.elim
    | obj => exact hle.elim
    | row k' es' => obtain ⟨rfl, hl⟩ := hle; exact .rs key hi k es' b cap hB (hL.trans h2) (Nat.le_trans h3 hl)
  | rv key lo hi k es b cap cap' a h1 h2 h3 h4 h5 h6 h7 =>
    obtain ⟨B', hB, hle, hL, _⟩ := hc key _ h1
    cases B' with
    | cells => exact hle.elim
    | obj => exact hle.elim
    | row k' es' => obtain ⟨rfl, hl⟩ := hle; exact .rv key lo hi k es' b cap cap' a hB (hL.trans h2) h3 (Nat.le_trans h4 hl) h5 h6 h7
  | rp key i off k es b cap h1 h2 h3 =>
    obtain ⟨B', hB, hle, hL, _⟩ := hc key _ h1
    cases B' with
    | cells => exact hle.elim
    | obj => exact hle.elim
    | row k' es' => obtain ⟨rfl, hl⟩ := hle; exact .rp key i off k es' b cap hB (hL.trans h2) (Nat.lt_of_lt_of_le h3 hl)
  | agg cs vs hz _ ih => exact .agg _ _ hz ih
  | clo f caps vs hz _ ih => exact .clo _ _ _ hz ih
  | whnT v x _ ih => exact .whnT _ _ ih
  | whnF v => exact .whnF _
  | opq φ x h => exact .opq φ x (hs φ x h)
  | top x => exact .top x
end
end Go.AM
