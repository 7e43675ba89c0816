/-
  A part of a proof: see the last text of this claim for what is proved.
-/
import Derived.Test.YtdfnogmpijdpbaaGreatDoorP1
namespace Go.AM
open Go Go.RowKit Go.Shelf Go.Proofs
attribute [local go_sem] Oper.semAt_some
set_option maxHeartbeats 1000000
def seqW (w : World) (s sep : ByteArray) : World := ((w.alloc (.cells #[.string s] 9)).alloc (.cells #[.string sep] 9)).alloc (.cells #[.int .i64 0] 3)
def seqV (w : World) : Value := .func (.func 72) #[] #[.pointer (some ⟨w.heap.size + 1, 0, none⟩), .pointer (some ⟨w.heap.size, 0, none⟩), .pointer (some ⟨w.heap.size + 1 + 1, 0, none⟩)]
theorem splitSeq_in (F : Fence) (n : Nat) (h41 : F.fn 66) (hro : F.round = none) (s sep : ByteArray) (w : World) :
    CallsIn F n Tryz.prog 66 #[.string s, .string sep, .int .i64 0] w fun e w' => e = .returned (seqV w) ∧ w' = seqW w s sep := by
  refine callsIn_of_wp Tryz.func66 rfl h41 ?_ hro
  simp only [Tryz.ntmps66, List.size_toArray, List.length_cons, List.length_nil, Nat.reduceAdd, Nat.reduceSub, Array.replicate_succ, Array.replicate_zero, List.push_toArray, List.append_toArray, List.nil_append, List.cons_append]
  gi_wp2
  go_ret
  exact ⟨rfl, rfl⟩
theorem SplitSeq_in (F : Fence) (n : Nat) (h36 : F.fn 56) (h41 : F.fn 66) (hro : F.round = none) (hn : 1 ≤ n) (s sep : ByteArray) (w : World) :
    CallsIn F n Tryz.prog 56 #[.string s, .string sep] w fun e w' => e = .returned (seqV w) ∧ w' = seqW w s sep := by
  refine callsIn_of_wp Tryz.func56 rfl h36 ?_ hro
  simp only [Tryz.ntmps56, List.size_toArray, List.length_cons, List.length_nil, Nat.reduceAdd, Nat.reduceSub, Array.replicate_succ, Array.replicate_zero, List.push_toArray, List.append_toArray, List.nil_append, List.cons_append]
  gi_wp2_with (gi_at_call 66; refine (splitSeq_in F (n - 1) h41 hro _ _ _).mono ?_; rintro e w' ⟨rfl, rfl⟩)
  go_ret
  exact ⟨rfl, rfl⟩
end Go.AM
