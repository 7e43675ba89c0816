/-
  A part of a proof: see the last text of this claim for what is proved.
-/
import Derived.Test.YtjeolgjiakpenaaDoorAMd
namespace Go.AM
open Go
set_option linter.unusedSimpArgs false
set_option linter.unusedVariables false

section
variable {w : World} {M : Nat → Prop} {L : Locs} {H : AHeap} {S : (List PV → Prop × PV) → Value → Prop} {P : Program}

theorem run_asInt (k : IntKind) (n : Int) : (asIntOf (.int k n)).run P w = .ok (k, n) w := rfl

/-- '+', '-' and their kin, comparisons, on integers. -/
theorem binI_run {op : BinOp} {k : IntKind} {a b : Int} {t : TypeId} (h : (binI op k a b).1) :
    ∃ v, (Go.binOp op t (.int k a) (.int k b)).run P w = .ok v w ∧ PVRel w M (binI op k a b).2 v := by
  cases op <;> simp only [binI] at h ⊢
  case add => exact ⟨_, by simp [Go.binOp, Op.intArith], .int _ _⟩
  case sub => exact ⟨_, by simp [Go.binOp, Op.intArith], .int _ _⟩
  case mul => exact ⟨_, by simp [Go.binOp, Op.intArith], .int _ _⟩
  case quo => exact ⟨_, by simp [Go.binOp, Op.intDiv, h], .int _ _⟩
  case rem => exact ⟨_, by simp [Go.binOp, Op.intDiv, h], .int _ _⟩
  case eql => exact ⟨_, by simp [Go.binOp, Op.intCmp], .bool _⟩
  case neq => exact ⟨_, by simp [Go.binOp, Op.intCmp], .bool _⟩
  case lss => exact ⟨_, by simp [Go.binOp, Op.intCmp], .bool _⟩
  case leq => exact ⟨_, by simp [Go.binOp, Op.intCmp], .bool _⟩
  case gtr => exact ⟨_, by simp [Go.binOp, Op.intCmp], .bool _⟩
  case geq => exact ⟨_, by simp [Go.binOp, Op.intCmp], .bool _⟩

theorem ba_toList (s : List UInt8) : (⟨s.toArray⟩ : ByteArray).toList = s := by
  rw [ByteArray.toList_eq]
theorem ba_append (a b : List UInt8) : (⟨a.toArray⟩ ++ ⟨b.toArray⟩ : ByteArray) = ⟨(a ++ b).toArray⟩ := by
  rw [ByteArray.ext_iff]; simp [ByteArray.data_append]
theorem binS_run {op : BinOp} {a b : List UInt8} {t : TypeId} (h : (binS op a b).1) :
    ∃ v, (Go.binOp op t (.string ⟨a.toArray⟩) (.string ⟨b.toArray⟩)).run P w = .ok v w ∧ PVRel w M (binS op a b).2 v := by
  cases op <;> simp only [binS] at h ⊢
  case add =>
    refine ⟨.string ⟨(a ++ b).toArray⟩, ?_, .str _⟩
    have hh : ¬ ((a.length + b.length : Nat) : Int) > IntKind.i64.max := by
      have : IntKind.i64.max = 9223372036854775807 := by decide
      omega
    have hs : ∀ l : List UInt8, (⟨l.toArray⟩ : ByteArray).size = l.length := fun l => by simp [ByteArray.size]
    simp only [Go.binOp, Op.stringOp, hs, if_neg hh, ba_append, Sem.run_pure]
  case eql => exact ⟨_, by simp [Go.binOp, Op.stringOp, ba_toList], .bool _⟩
  case neq => exact ⟨_, by simp [Go.binOp, Op.stringOp, ba_toList], .bool _⟩
  case lss => exact ⟨_, by simp [Go.binOp, Op.stringOp, ba_toList], .bool _⟩
  case leq => exact ⟨_, by simp [Go.binOp, Op.stringOp, ba_toList], .bool _⟩
  case gtr => exact ⟨_, by simp [Go.binOp, Op.stringOp, ba_toList], .bool _⟩
  case geq => exact ⟨_, by simp [Go.binOp, Op.stringOp, ba_toList], .bool _⟩
end
end Go.AM
