/-
  A part of a proof: see the last text of this claim for what is proved.
-/
import Derived.Test.YtamiheckgglgaaaGreatDoorL1
import Derived.Test.YtamiheckgglgaaaGreatDoorS2a
import Derived.Test.YtamiheckgglgaaaGreatDoorOM
import Derived.Test.YtamiheckgglgaaaGreatDoorFMa
import Derived.Shelf.Strings.Count
import Derived.Shelf.Strings.Prefix
/-! the shelf's contracts: Lines, Builder, Count, TrimSuffix, Split, Join, Atoi, Itoa -/
namespace Go.AM
open Go Go.RowKit Go.Shelf Go.Proofs Go.IntWalk
attribute [local go_sem] Oper.semAt_some
set_option maxHeartbeats 2000000
set_option maxRecDepth 100000
set_option linter.unusedVariables false
set_option linter.unusedSimpArgs false
theorem Lines_calls (s : ByteArray) (w : World) : Calls Tryz.prog 41 #[.string s] w fun e w' => e = .returned (.func (.func 56) #[] #[.pointer (some ⟨w.heap.size, 0, none⟩)]) ∧ w' = w.alloc (.cells #[.string s] 9) := by
  refine (callsIn_wide (n := 8)).1 (callsIn_of_wp Tryz.func41 rfl trivial ?_ rfl)
  simp only [Tryz.ntmps41, List.size_toArray, List.length_cons, List.length_nil, Nat.reduceAdd, Nat.reduceSub, Array.replicate_succ, Array.replicate_zero, List.push_toArray, List.append_toArray, List.nil_append, List.cons_append]
  gi_wp2
  go_ret
  exact ⟨rfl, rfl⟩
/-- strings.Lines: a closure that holds the text in a box of its own. -/
def psiLn (g : FuncId) : ESpec := fun d args st K => match args with
  | [.pv (.str s)] => hget st.H d = none ∧ K (.clo g [.ptr d 0]) { st with H := hset st.H d (.cells [.pv (.str s)]) }
  | _ => False
theorem psiLn_eq {g : FuncId} {d : Nat} {s : List UInt8} {ρ : Nat → AV} {H : AHeap} {K : AV → ASt → Prop} : psiLn g d [.pv (.str s)] ⟨ρ, H⟩ K = (hget H d = none ∧ K (.clo g [.ptr d 0]) ⟨ρ, hset H d (.cells [.pv (.str s)])⟩) := rfl
theorem psiLn_mono {g : FuncId} : ∀ d args st (K K' : AV → ASt → Prop), (∀ r s, K r s → K' r s) → psiLn g d args st K → psiLn g d args st K' := by
  intro d args st K K' hk h
  unfold psiLn at h ⊢
  split at h
  · exact ⟨h.1, hk _ _ h.2⟩
  · exact h.elim
theorem w_linesS : ESound GG 41 (psiLn 56) := by
  intro d args st K h
  unfold psiLn at h
  split at h
  · rename_i s
    obtain ⟨h1, hK⟩ := h
    refine ⟨⟨_, Tryz.func41, by kernel_rfl, by kernel_rfl⟩, fun E N a w L xs hR hargs hp => ?_⟩
    obtain ⟨x, rfl, hx⟩ := lrel1 hargs
    have hx := pv_inv hx
    cases hx
    refine (Lines_calls ⟨s.toArray⟩ w).mono ?_
    rintro e w' ⟨rfl, rfl⟩
    obtain ⟨hR', _⟩ := hR.newBlock (B := .cells [.pv (.str s)]) (arr := #[.string ⟨s.toArray⟩]) (et := 9) (cap := 0) (w1 := w) h1 (Ext.refl _ _) rfl (fun M' L' H' hkp hc hl hheap => by
      refine ⟨w.heap.size, 0, _, 9, hl, hheap, rfl, fun j c hj => ?_⟩
      match j with
      | 0 => simp only [List.getElem?_cons_zero, Option.some.injEq] at hj; subst hj; exact .pv _ _ (.str s)
      | j + 1 => simp at hj)
    refine ⟨_, _, _, _, rfl, hK, hR', .clo _ _ _ rfl (fun i c hc => ?_)⟩
    match i with
    | 0 => simp only [List.getElem?_cons_zero, Option.some.injEq] at hc; subst hc; exact .ptr d 0 _ w.heap.size 0 (hget_hset_same _ _ _) rfl (by simp [locSet])
    | i + 1 => simp at hc
  · exact h.elim
/-! ### shelf functions from text to text -/
def on_ss (p : List UInt8 → List UInt8 → Prop) (f : List UInt8 → List UInt8 → PV) : PSpec
  | [.str a0, .str a1] => (p a0 a1, f a0 a1)
  | _ => (False, default)
theorem on_ss_eq {p : List UInt8 → List UInt8 → Prop} {f : List UInt8 → List UInt8 → PV} {a0 : List UInt8} {a1 : List UInt8} : on_ss p f [.str a0, .str a1] = (p a0 a1, f a0 a1) := rfl
theorem on_ss_inv {p : List UInt8 → List UInt8 → Prop} {f : List UInt8 → List UInt8 → PV} {args : List PV} (h : (on_ss p f args).1) : ∃ a0 : List UInt8, ∃ a1 : List UInt8, args = [.str a0, .str a1] ∧ p a0 a1 := by
  unfold on_ss at h
  split at h
  · exact ⟨_, _, rfl, h⟩
  · exact h.elim
def cntQ : PSpec := on_ss (fun s p => ∃ c, p = [c]) (fun s p => .int .i64 (s.count (p.headD 0)))
theorem w_cntQ : PSound GG 40 cntQ := by
  refine PSound.of_shelf ⟨_, Tryz.func40, by kernel_rfl, by kernel_rfl⟩ fun args ha X w vs hi hg hx har => ?_
  obtain ⟨s, p, rfl, c, rfl⟩ := on_ss_inv ha
  obtain ⟨a, b, rfl, ra, rb⟩ := arel2 har
  obtain rfl := rel_str ra
  obtain rfl := rel_str rb
  refine (Any.strings_Count_one lCount ⟨s.toArray⟩ c w).mono ?_
  rintro e w' ⟨rfl, rfl⟩
  refine ⟨_, rfl, ?_, .refl _ _⟩
  show PVRel _ _ (.int .i64 ((s.count c : Nat) : Int)) _
  have : Lib.countByte (ByteArray.mk s.toArray).data.toList c = s.count c := by simp [Lib.countByte]
  rw [this]
  exact .int _ _
def tsQ : PSpec := on_ss (fun s p => s.length ≤ 9223372036854775807) (fun s p => .str (Lib.trimSuffix s p))
theorem w_tsQ : PSound GG 43 tsQ := by
  refine PSound.of_shelf ⟨_, Tryz.func43, by kernel_rfl, by kernel_rfl⟩ fun args ha X w vs hi hg hx har => ?_
  obtain ⟨s, p, rfl, h0⟩ := on_ss_inv ha
  obtain ⟨a, b, rfl, ra, rb⟩ := arel2 har
  obtain rfl := rel_str ra
  obtain rfl := rel_str rb
  refine (Any.strings_TrimSuffix lTS ⟨s.toArray⟩ ⟨p.toArray⟩ w (by simpa [ByteArray.size] using h0)).mono ?_
  rintro e w' ⟨rfl, rfl⟩
  refine ⟨_, rfl, ?_, .refl _ _⟩
  show PVRel _ _ (.str (Lib.trimSuffix s p)) _
  have := PVRel.str (w := w') (M := X) (Lib.trimSuffix s p)
  simpa using this
theorem xJoin : Builder.Extra Tryz.prog lJoin_ren := {
  sizeBuilder := by kernel_rfl
  liesBuilder := by kernel_rfl
  t5 := Tryz.underlying5
  a5 := Tryz.isAgg5
  z5 := Tryz.sizeOf5
  v5 := Tryz.zeroValue5
  infoByte := by kernel_rfl
  cellsByte := by kernel_rfl
  sizeByte := by kernel_rfl
  neB5 := by decide }
theorem w_joinQ : PSound GG 47 joinQ  := join_sound (G := GG) (ρ := lJoin_ren) lJoin xJoin ⟨_, Tryz.func47, by kernel_rfl, by kernel_rfl⟩
theorem w_wsS : ESound GG 29 (psiWS 55 5) := bws_sound (G := GG) (ρ := lJoin_ren) { lJoin with } xJoin ⟨_, Tryz.func29, by kernel_rfl, by kernel_rfl⟩
theorem xBS : Builder.Extra Tryz.prog lBS_ren := {
  sizeBuilder := by kernel_rfl
  liesBuilder := by kernel_rfl
  t5 := Tryz.underlying5
  a5 := Tryz.isAgg5
  z5 := Tryz.sizeOf5
  v5 := Tryz.zeroValue5
  infoByte := by kernel_rfl
  cellsByte := by kernel_rfl
  sizeByte := by kernel_rfl
  neB5 := by decide }
theorem w_bsS : ESound GG 31 (psiSt 55 5) := bst_sound (G := GG) (ρ := lBS_ren) lBS xBS ⟨_, Tryz.func31, by kernel_rfl, by kernel_rfl⟩
theorem GG_I {w : World} (h : GG.I w) : (cellE 1 w ∧ cellE 2 w) ∧ cellI 0 w ∧ Lib.TabIs Tryz.prog w "internal/strconv.uint64pow10" .u64 Lib.pow10Tab := h
theorem w_itoaS : PSound GG 46 itoaQ := itoa_sound lItoa ⟨_, Tryz.func46, by kernel_rfl, by kernel_rfl⟩ (fun w h => (GG_I h).2.2)
theorem w_atoiS : PSound GG 59 (atoiQ (lAtoi_ren.t 168)) := atoi_sound lAtoi ⟨_, Tryz.func59, by kernel_rfl, by kernel_rfl⟩ (fun w h => (GG_I h).1)
end Go.AM
