/-
  A part of a proof: see the last text of this claim for what is proved.
-/
import Derived.Test.YthdlbokgbkejnaaGreatDoorP0
import Derived.Test.YthdlbokgbkejnaaGreatDoorNM
import Derived.Test.YthdlbokgbkejnaaGreatDoorCM
import Derived.RangeFuncBound
import Derived.RangeFuncCalls
import Derived.RangeFuncLeaves
import Derived.Shelf.Abstract
import Derived.Shelf.RegionOpen
import Derived.WalkKit
import Derived.OwnWalkIn
import Derived.TacticsInMore
import Derived.LoopNIn
import Derived.LoopIn
import Derived.RangeFuncBox
import Derived.Maps.AppendAt
import Derived.Shelf.Small.Strs
import Derived.Test.YthdlbokgbkejnaaGreatDoorProg
namespace Go.AM
open Go Go.RowKit Go.Shelf Go.Proofs
attribute [local go_sem] Oper.semAt_some
set_option maxHeartbeats 2000000
set_option maxRecDepth 100000
set_option linter.unusedVariables false
set_option linter.unusedSimpArgs false
def lineCut : List UInt8 → List UInt8 × List UInt8
  | [] => ([], [])
  | c :: r => if c = 10 then ([c], r) else (c :: (lineCut r).1, (lineCut r).2)
theorem lineCut_app : ∀ l : List UInt8, (lineCut l).1 ++ (lineCut l).2 = l
  | [] => rfl
  | c :: r => by
    unfold lineCut
    split
    · rfl
    · simp [lineCut_app r]
theorem lineCut_lt {c : UInt8} {r : List UInt8} : (lineCut (c :: r)).2.length < (c :: r).length := by
  have h := congrArg List.length (lineCut_app (c :: r))
  have h1 : (lineCut (c :: r)).1 ≠ [] := by unfold lineCut; split <;> simp
  have h2 := List.length_pos_iff.2 h1
  simp only [List.length_append, List.length_cons] at h ⊢
  omega
def linesOf : List UInt8 → List (List UInt8)
  | [] => []
  | c :: r => (lineCut (c :: r)).1 :: linesOf (lineCut (c :: r)).2
termination_by l => l.length
decreasing_by exact lineCut_lt
theorem linesOf_nil : linesOf [] = [] := by unfold linesOf; rfl
theorem linesOf_cons {c : UInt8} {r : List UInt8} : linesOf (c :: r) = (lineCut (c :: r)).1 :: linesOf (lineCut (c :: r)).2 := by
  conv => lhs; unfold linesOf
theorem lineCut_ix : ∀ l : List UInt8, (Lib.indexByte l 10 = -1 ∧ lineCut l = (l, [])) ∨ (∃ k : Nat, Lib.indexByte l 10 = (k : Int) ∧ k < l.length ∧ lineCut l = (l.take (k + 1), l.drop (k + 1)))
  | [] => .inl ⟨rfl, rfl⟩
  | c :: r => by
    unfold lineCut Lib.indexByte
    by_cases h : c = 10
    · refine .inr ⟨0, ?_, by simp, ?_⟩
      · simp [h]
      · simp [h]
    · rcases lineCut_ix r with ⟨h1, h2⟩ | ⟨k, h1, h2, h3⟩
      · refine .inl ⟨?_, ?_⟩
        · simp [h, h1]
        · simp [h, h2]
      · refine .inr ⟨k + 1, ?_, by simp; omega, ?_⟩
        · have : ¬ ((k : Int) = -1) := by omega
          simp [h, h1, this]
        · simp [h, h3]
def txtB (l : List UInt8) : ByteArray := ⟨l.toArray⟩
theorem txtB_data (b : ByteArray) : txtB b.data.toList = b := by cases b; simp [txtB]
theorem txtB_take (l : List UInt8) (k : Nat) (h : k ≤ l.length) : txtB (l.take k) = (txtB l).extract 0 k := by
  rw [← txtB_data ((txtB l).extract 0 k), Lib.extract_from_zero]
  simp [txtB]
theorem txtB_drop (l : List UInt8) (k : Nat) (h : k ≤ l.length) : txtB (l.drop k) = (txtB l).extract k l.length := by
  have hs : (txtB l).size = l.length := by simp [txtB, ByteArray.size]
  rw [← txtB_data ((txtB l).extract k l.length), ← hs, Lib.extract_to_end]
  simp [txtB]
noncomputable def boxLen (b : Nat) (W : World) : Nat := match W.cell? ⟨b, 0, none⟩ with | some (.string s) => s.size | _ => 0
theorem ext_box {W : World} {b : Nat} {t : TypeId} {v u : Value} (h : Boxed W b t v) : Ext (fun x => x ∈ [b]) W (W.setCell ⟨b, 0, none⟩ u) := by
  have g := grownBy_setCell' W b u
  exact .of g.os g.tape g.output g.size (fun k hk hn => g.block k hk (fun e => hn (by cases e; exact List.mem_cons_self)))
theorem lines_iter (b : Nat) (t : TypeId) (s : List UInt8) (hs : s.length ≤ 1000000000000) (w : World) (hb : Boxed w b t (.string (txtB s))) :
    IterS Tryz.prog 78 (linesOf s) #[.pointer (some ⟨b, 0, none⟩)] [b] w := by
  intro l J Jx hJ hJx hY W hJ0 hW
  have hbW : Boxed W b t (.string (txtB s)) := (hW b List.mem_cons_self).trans hb
  have c1 := hbW.cell
  refine (callsIn_wide (n := 8)).1 (callsIn_of_wp Tryz.func78 rfl trivial ?_ rfl)
  simp only [Tryz.ntmps78, List.size_toArray, List.length_cons, List.length_nil, Nat.reduceAdd, Nat.reduceSub, Array.replicate_succ, Array.replicate_zero, List.push_toArray, List.append_toArray, List.nil_append, List.cons_append]
  gi_wp2
  gi_loopw [] (fun wr => ∃ i cur, J i wr ∧ i ≤ (linesOf s).length ∧ Boxed wr b t (.string (txtB cur)) ∧ linesOf cur = (linesOf s).drop i ∧ cur.length ≤ s.length) (fun wr => boxLen b wr)
  case atStart => exact ⟨0, s, hJ0, Nat.zero_le _, hbW, by simp, Nat.le_refl _⟩
  case round =>
    obtain ⟨i, cur, hJi, hi, hbx, hcur, hlen⟩ := hrel
    have e1 := hbx.cell
    have f1 := hbx.frozen
    have hL : boxLen b wr = cur.length := by unfold boxLen; rw [e1]; simp [txtB, ByteArray.size]
    have hsz : (txtB cur).size = cur.length := by simp [txtB, ByteArray.size]
    cases cur with
    | nil =>
      have hi2 : i = (linesOf s).length := by
        rw [linesOf_nil] at hcur
        have := congrArg List.length hcur
        simp only [List.length_nil, List.length_drop] at this
        omega
      gi_wp2
      go_end0
      rw [hi2] at hJi
      exact ⟨⟨_, rfl⟩, .inl hJi⟩
    | cons c r =>
      rw [linesOf_cons] at hcur
      have hi3 : (linesOf s)[i]? = some (lineCut (c :: r)).1 := by
        have := congrArg (fun l => l[0]?) hcur
        simp only [List.getElem?_cons_zero, List.getElem?_drop, Nat.add_zero] at this
        exact this.symm
      have hi4 := (List.getElem?_eq_some_iff.1 hi3).1
      have hcur2 : linesOf (lineCut (c :: r)).2 = (linesOf s).drop (i + 1) := by
        have := congrArg List.tail hcur
        simpa [List.tail_drop] using this
      have hlt := lineCut_lt (c := c) (r := r)
      obtain ⟨cr, hcr⟩ : ∃ cr, c :: r = cr := ⟨_, rfl⟩
      rw [hcr] at e1 hL hsz hi3 hcur2 hlt hlen hbx
      have hpos : 0 < cr.length := by rw [← hcr]; simp
      rcases lineCut_ix cr with ⟨hix, hlc⟩ | ⟨k, hix, hk, hlc⟩
      · rw [hlc] at hi3 hcur2 hlt
        have hix' : Lib.indexByte (txtB cr).data.toList (10 : Int).toNat.toUInt8 = -1 := by simpa [txtB] using hix
        obtain ⟨fn, tmps, assign, body, hy, hR⟩ := hY 7 i _ (wr.setCell ⟨b, 0, none⟩ (.string ⟨#[]⟩)) hi3 (hJ i _ _ hJi (ext_box hbx))
        have hy : (Instr.yield l #[.string (txtB cr)]).run Tryz.prog (wr.setCell ⟨b, 0, none⟩ (.string ⟨#[]⟩)) = .ok (.round l fn tmps assign body) (wr.setCell ⟨b, 0, none⟩ (.string ⟨#[]⟩)) := hy
        gi_wp2_with (refine ⟨trivial, ?_⟩; gi_at_call 79; refine (callsIn_wide.2 (Any.strings_IndexByte lIB (txtB cr) 10 _)).mono ?_; rintro e w' ⟨rfl, rfl⟩; rw [hix'])
        refine hR.mono ?_
        rintro e W3 (⟨rfl, hJ3, hk3⟩ | ⟨rfl, hx3, hk3⟩)
        · have hb3 : Boxed W3 b t (.string ⟨#[]⟩) := (hk3 b List.mem_cons_self).trans (hbx.set _)
          gi_wp2
          refine ⟨⟨i + 1, [], hJ3, hi4, hb3, hcur2, by simp⟩, ?_⟩
          rw [hL]
          have q := hb3.cell
          unfold boxLen
          rw [q]
          exact hpos
        · gi_wp2
          refine bodyPost_ret (results_none rfl _ _ _) rfl ?_
          exact ⟨⟨_, rfl⟩, .inr hx3⟩
      · rw [hlc] at hi3 hcur2 hlt
        have hix' : Lib.indexByte (txtB cr).data.toList (10 : Int).toNat.toUInt8 = k := by simpa [txtB] using hix
        simp only at hi3 hcur2 hlt
        have hw1 := txtB_take cr (k + 1) (by omega)
        have hw2 := txtB_drop cr (k + 1) (by omega)
        have exd : ∀ W : World, Ext (fun x => x ∈ [b]) W W.drew := fun W => .of rfl rfl rfl (Nat.le_refl _) (fun _ _ _ => rfl)
        have ed : wr.drew.cell? ⟨b, 0, none⟩ = some (.string (txtB cr)) := e1
        have fd : wr.drew.frozen? ⟨b, 0, none⟩ = false := f1
        obtain ⟨fn, tmps, assign, body, hy, hR⟩ := hY 7 i _ (wr.setCell ⟨b, 0, none⟩ (.string (txtB (cr.drop (k + 1))))).drew hi3 (hJ i _ _ hJi ((ext_box hbx).trans (exd _)))
        have hy : (Instr.yield l #[.string (txtB (cr.take (k + 1)))]).run Tryz.prog (wr.setCell ⟨b, 0, none⟩ (.string (txtB (cr.drop (k + 1))))).drew = .ok (.round l fn tmps assign body) (wr.setCell ⟨b, 0, none⟩ (.string (txtB (cr.drop (k + 1))))).drew := hy
        rw [hw1, hw2] at hy
        rw [hw2] at hR
        have mixed : Tryz.prog.follows .mixedOrders = true := by kernel_rfl
        gi_wp2_with (refine ⟨trivial, ?_⟩; gi_at_call 79; refine (callsIn_wide.2 (Any.strings_IndexByte lIB (txtB cr) 10 _)).mono ?_; rintro e w' ⟨rfl, rfl⟩; rw [hix'])
        gi_region_o
        gi_wp2
        refine hR.mono ?_
        rintro e W3 (⟨rfl, hJ3, hk3⟩ | ⟨rfl, hx3, hk3⟩)
        · have hb3 : Boxed W3 b t (.string (txtB (cr.drop (k + 1)))) := by rw [hw2]; exact (hk3 b List.mem_cons_self).trans (hbx.set _)
          gi_wp2
          refine ⟨⟨i + 1, cr.drop (k + 1), hJ3, hi4, hb3, hcur2, by omega⟩, ?_⟩
          rw [hL]
          have q := hb3.cell
          unfold boxLen
          rw [q]
          simp only [txtB, ByteArray.size, List.size_toArray]
          omega
        · gi_wp2
          refine bodyPost_ret (results_none rfl _ _ _) rfl ?_
          exact ⟨⟨_, rfl⟩, .inr hx3⟩
theorem lines_A {κ : Nat} {s : List UInt8} {H : AHeap} (hs : s.length ≤ 1000000000000) (hκ : hget H κ = some (.cells [.pv (.str s)])) : IterA Tryz.prog 78 [.ptr κ 0] H [κ] (linesOf s) := by
  refine ⟨⟨_, Tryz.func78, by kernel_rfl, by kernel_rfl⟩, fun w M L S vs hB hz hv => ?_⟩
  have h0 := hv 0 (.ptr κ 0) rfl
  match vs, hz with
  | ⟨[v]⟩, _ =>
    simp only [Array.getD_eq_getD_getElem?, List.getElem?_toArray, List.getElem?_cons_zero, Option.getD_some] at h0
    obtain ⟨B, b, cap, g1, g2, g3, rfl⟩ := ptr_inv h0
    obtain ⟨b', cap', arr, et, e1, e2, e3, e4⟩ := hB κ _ hκ
    rw [g3] at e1
    cases e1
    refine ⟨[b], fun x hx => ⟨κ, _, cap, List.mem_cons_self, hκ, by simp only [List.mem_singleton] at hx; rw [hx]; exact g3⟩, ?_⟩
    match arr, e3 with
    | ⟨[u]⟩, _ =>
      have hu := e4 0 (.pv (.str s)) rfl
      simp only [Array.getD_eq_getD_getElem?, List.getElem?_toArray, List.getElem?_cons_zero, Option.getD_some] at hu
      have hu := pv_inv hu
      cases hu
      exact lines_iter b et s hs w e2
end Go.AM
