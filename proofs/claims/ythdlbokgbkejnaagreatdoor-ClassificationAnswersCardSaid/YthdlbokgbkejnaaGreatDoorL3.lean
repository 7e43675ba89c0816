/-
  A part of a proof: see the last text of this claim for what is proved.
-/
import Derived.Test.YthdlbokgbkejnaaGreatDoorL1
import Derived.Test.YthdlbokgbkejnaaGreatDoorR3e
import Derived.Test.YthdlbokgbkejnaaGreatDoorOM
import Derived.Test.YthdlbokgbkejnaaGreatDoorFMa
import Derived.Shelf.Strings.Cut
import Derived.Shelf.Strings.Prefix
import Derived.WalkSmall
namespace Go.AM
open Go Go.RowKit Go.Shelf Go.Proofs Go.IntWalk
attribute [local go_sem] Oper.semAt_some
set_option maxHeartbeats 2000000
set_option maxRecDepth 100000
set_option linter.unusedVariables false
set_option linter.unusedSimpArgs false
theorem Lines_calls (s : ByteArray) (w : World) : Calls Tryz.prog 60 #[.string s] w fun e w' => e = .returned (.func (.func 78) #[] #[.pointer (some ⟨w.heap.size, 0, none⟩)]) ∧ w' = w.alloc (.cells #[.string s] 9) := by
  refine (callsIn_wide (n := 8)).1 (callsIn_of_wp Tryz.func60 rfl trivial ?_ rfl)
  simp only [Tryz.ntmps60, List.size_toArray, List.length_cons, List.length_nil, Nat.reduceAdd, Nat.reduceSub, Array.replicate_succ, Array.replicate_zero, List.push_toArray, List.append_toArray, List.nil_append, List.cons_append]
  gi_wp2
  go_ret
  exact ⟨rfl, rfl⟩
def psiLn (g : FuncId) : ESpec := fun d args st K => match args with
  | [.pv (.str s)] => hget st.H d = none ∧ K (.clo g [.ptr d 0]) { st with H := hset st.H d (.cells [.pv (.str s)]) }
  | _ => False
theorem psiLn_mono {g : FuncId} : ∀ d args st (K K' : AV → ASt → Prop), (∀ r s, K r s → K' r s) → psiLn g d args st K → psiLn g d args st K' := by
  intro d args st K K' hk h
  unfold psiLn at h ⊢
  split at h
  · exact ⟨h.1, hk _ _ h.2⟩
  · exact h.elim
theorem w_linesS : ESound GG 60 (psiLn 78) := by
  intro d args st K h
  unfold psiLn at h
  split at h
  · rename_i s
    obtain ⟨h1, hK⟩ := h
    refine ⟨⟨_, Tryz.func60, by kernel_rfl, by kernel_rfl⟩, fun E N a w L xs hR hargs hp => ?_⟩
    obtain ⟨x, rfl, hx⟩ := lrel1 hargs
    have hx := pv_inv hx
    cases hx
    refine (Lines_calls ⟨s.toArray⟩ w).mono ?_
    rintro e w' ⟨rfl, rfl⟩
    obtain ⟨hR', _⟩ := hR.newBlock (B := .cells [.pv (.str s)]) (arr := #[.string ⟨s.toArray⟩]) (et := 9) (cap := 0) (w1 := w) h1 (Ext.refl _ _) rfl (fun M' L' H' hkp hc hl hheap => by
      refine ⟨w.heap.size, 0, _, 9, hl, hheap, rfl, fun j c hj => ?_⟩
      match j with
      | 0 => simp only [List.getElem?_cons_zero, Option.some.injEq] at hj; subst hj; exact .pv _ _ (.str s)
      | j + 1 => simp at hj)
    refine ⟨_, _, _, _, rfl, hK, hR', .clo _ _ _ rfl (fun i c hc => ?_)⟩
    match i with
    | 0 => simp only [List.getElem?_cons_zero, Option.some.injEq] at hc; subst hc; exact .ptr d 0 _ w.heap.size 0 (hget_hset_same _ _ _) rfl (by simp [locSet])
    | i + 1 => simp at hc
  · exact h.elim
def tsQ : PSpec := on_ss (fun s p => s.length ≤ 9223372036854775807) (fun s p => .str (Lib.trimSuffix s p))
theorem w_tsQ : PSound GG 62 tsQ := by
  refine PSound.of_shelf ⟨_, Tryz.func62, by kernel_rfl, by kernel_rfl⟩ fun args ha X w vs hi hg hx har => ?_
  obtain ⟨s, p, rfl, h0⟩ := on_ss_inv ha
  obtain ⟨a, b, rfl, ra, rb⟩ := arel2 har
  obtain rfl := rel_str ra
  obtain rfl := rel_str rb
  refine (Any.strings_TrimSuffix lTS ⟨s.toArray⟩ ⟨p.toArray⟩ w (by simpa [ByteArray.size] using h0)).mono ?_
  rintro e w' ⟨rfl, rfl⟩
  refine ⟨_, rfl, ?_, .refl _ _⟩
  show PVRel _ _ (.str (Lib.trimSuffix s p)) _
  have := PVRel.str (w := w') (M := X) (Lib.trimSuffix s p)
  simpa using this
theorem xJoin : Builder.Extra Tryz.prog lJoin_ren := {
  sizeBuilder := by kernel_rfl
  liesBuilder := by kernel_rfl
  t5 := Tryz.underlying5
  a5 := Tryz.isAgg5
  z5 := Tryz.sizeOf5
  v5 := Tryz.zeroValue5
  infoByte := by kernel_rfl
  cellsByte := by kernel_rfl
  sizeByte := by kernel_rfl
  neB5 := by decide }
theorem w_wsS : ESound GG 52 (psiWS 80 5) := bws_sound (G := GG) (ρ := lJoin_ren) { lJoin with } xJoin ⟨_, Tryz.func52, by kernel_rfl, by kernel_rfl⟩
theorem xBS : Builder.Extra Tryz.prog lBS_ren := {
  sizeBuilder := by kernel_rfl
  liesBuilder := by kernel_rfl
  t5 := Tryz.underlying5
  a5 := Tryz.isAgg5
  z5 := Tryz.sizeOf5
  v5 := Tryz.zeroValue5
  infoByte := by kernel_rfl
  cellsByte := by kernel_rfl
  sizeByte := by kernel_rfl
  neB5 := by decide }
theorem w_bsS : ESound GG 53 (psiSt 80 5) := bst_sound (G := GG) (ρ := lBS_ren) lBS xBS ⟨_, Tryz.func53, by kernel_rfl, by kernel_rfl⟩
theorem GG_I {w : World} (h : GG.I w) : (cellE 0 w ∧ cellE 1 w) ∧ cellI 2 w ∧ Lib.TabIs Tryz.prog w "internal/strconv.uint64pow10" .u64 Lib.pow10Tab := h
def cutP (s sep : List UInt8) : PV := .tup [.str (Lib.cut s sep).1, .str (Lib.cut s sep).2.1, .bool (Lib.cut s sep).2.2]
def cutQ : PSpec := on_ss (fun s _ => s.length < 4294967281) cutP
theorem w_cutQ : PSound GG 61 cutQ := by
  refine PSound.of_shelf ⟨_, Tryz.func61, by kernel_rfl, by kernel_rfl⟩ fun args ha X w vs hi hg hx har => ?_
  obtain ⟨s, p, rfl, h0⟩ := on_ss_inv ha
  obtain ⟨a, b, rfl, ra, rb⟩ := arel2 har
  obtain rfl := rel_str ra
  obtain rfl := rel_str rb
  obtain ⟨m, hm⟩ := (GG_I hi).2.1
  refine (Any.strings_Cut lCut ⟨s.toArray⟩ ⟨p.toArray⟩ m w (by simpa [ByteArray.size] using h0) hm).mono ?_
  rintro e w' ⟨rfl, n, rfl⟩
  refine ⟨_, rfl, ?_, below_drewN (.refl _ w) n⟩
  show PVRel _ _ (cutP s p) _
  refine .tup _ _ rfl (fun i c hc => ?_)
  match i with
  | 0 => simp only [List.getElem?_cons_zero, Option.some.injEq] at hc; subst hc; exact .str _
  | 1 => simp only [List.getElem?_cons_succ, List.getElem?_cons_zero, Option.some.injEq] at hc; subst hc; exact .str _
  | 2 => simp only [List.getElem?_cons_succ, List.getElem?_cons_zero, Option.some.injEq] at hc; subst hc; exact .bool _
  | i + 3 => simp at hc
end Go.AM
