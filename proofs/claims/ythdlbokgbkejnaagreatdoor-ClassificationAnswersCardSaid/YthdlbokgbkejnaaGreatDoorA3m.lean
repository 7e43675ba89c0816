/-
  ClassificationAnswers: for every input the call returns true: the functions of chapter 3 answer as the reference does.
-/
import Derived.Test.YthdlbokgbkejnaaGreatDoorCards
import Derived.Test.YthdlbokgbkejnaaGreatDoorTie
import Derived.WalkKit
import Derived.ProofKit
import Derived.OpenShut
import Derived.Deep.DeepHandedRow
import Derived.Lib.LaidTab
import Derived.Deep.DeepLaidRun
import Derived.Test.YthdlbokgbkejnaaGreatDoorAX
import Derived.Test.YthdlbokgbkejnaaGreatDoorCD
import Derived.Test.YthdlbokgbkejnaaGreatDoorA6
set_option linter.unusedSimpArgs false
set_option linter.unusedVariables false
namespace Go.Proofs.YthdlbokgbkejnaaGreatDoor.classificationAnswers
open Go.ChangeShapes Go.WideShapes Go.ChangeAt Go.RowKit Go.AM
open Go.ChangeMaps (open_string shut_string)
theorem own : ownKnob Tryz.prog.godebug = none := by kernel_rfl
theorem laidOut : laidOutB Tryz.prog = true := by kernel_rfl
set_option maxRecDepth 100000 in
theorem contract (H : Type) (enc : TypeId × Value → H) (W : World) (base : Nat) (args : Array Value) (ds gs : List (DataW H)) (before : List MemPlace)
    (hL : laidMetH Tryz.prog Rows.classificationAnswersRow.laid W) (hsh : W.ShapedOpen Tryz.prog) (hval : ∀ (j : Nat) t v, Tryz.f3.params[j]? = some t → args[j]? = some v → Value.okWide Tryz.prog W .any base t v)
    (hW : DataW.Whole enc Tryz.prog Tryz.f3.params.toList Rows.classificationAnswersSpec.vars false W args.toList ds gs before) :
    Calls Tryz.prog 3 args W fun e W' => ∃ v, e = .returned v ∧ Rows.classificationAnswersSpec.post enc Tryz.prog Tryz.f3 false true false false W args v W' := by
  have hW' := hW
  obtain ⟨p, q, hA0, hV, rfl, hfz, hnd⟩ := hW
  have hA : DataW.TrodAll enc Tryz.prog W 0 (fun _ => true) true Tryz.f3.params.toList args.toList ds p := hA0
  rw [Tryz.params3] at hA hval
  obtain ⟨v0, vs0, d0, ds0, p0, q0, hargs, rfl, rfl, h0, r0⟩ := trodAll_cons hA
  obtain ⟨v1, vs1, d1, ds1, p1, q1, rfl, rfl, rfl, h1, r1⟩ := trodAll_cons r0
  obtain ⟨v2, vs2, d2, ds2, p2, q2, rfl, rfl, rfl, h2, r2⟩ := trodAll_cons r1
  obtain ⟨v3, vs3, d3, ds3, p3, q3, rfl, rfl, rfl, h3, r3⟩ := trodAll_cons r2
  obtain ⟨v4, vs4, d4, ds4, p4, q4, rfl, rfl, rfl, h4, r4⟩ := trodAll_cons r3
  obtain ⟨v5, vs5, d5, ds5, p5, q5, rfl, rfl, rfl, h5, r5⟩ := trodAll_cons r4
  obtain ⟨v6, vs6, d6, ds6, p6, q6, rfl, rfl, rfl, h6, r6⟩ := trodAll_cons r5
  obtain ⟨v7, vs7, d7, ds7, p7, q7, rfl, rfl, rfl, h7, r7⟩ := trodAll_cons r6
  obtain ⟨rfl, rfl, rfl⟩ := trodAll_nil r7
  obtain rfl : args = #[v0, v1, v2, v3, v4, v5, v6, v7] := by cases args; simp_all
  obtain ⟨rfl, rfl⟩ := trodVars_none hV
  obtain ⟨a0, len, cap, rfl⟩ := okWide_slice Tryz.underlying22 (hval 0 22 v0 rfl rfl)
  obtain ⟨es, hes, hel, hei⟩ := ints_arg Tryz.underlying22 Tryz.underlying3 (by kernel_rfl) h0
  obtain ⟨x1, rfl, rfl, rfl, wx1⟩ := open_string Tryz.underlying9 (hval 1 9 v1 rfl rfl) h1
  obtain ⟨x2, rfl, rfl, rfl, wx2⟩ := open_string Tryz.underlying9 (hval 2 9 v2 rfl rfl) h2
  obtain ⟨c3, hs3, hr3⟩ := arg_any (shHeads) (by kernel_rfl) (hval 3 23 v3 rfl rfl) h3
  obtain ⟨c4, hs4, hr4⟩ := arg_any (shLines) (by kernel_rfl) (hval 4 24 v4 rfl rfl) h4
  obtain ⟨x5, rfl, rfl, rfl, wx5⟩ := open_int Tryz.underlying3 (hval 5 3 v5 rfl rfl) h5
  obtain ⟨c6, hs6, hr6⟩ := arg_any (shInts) (by kernel_rfl) (hval 6 22 v6 rfl rfl) h6
  obtain ⟨x7, rfl, rfl, rfl, wx7⟩ := open_string Tryz.underlying9 (hval 7 9 v7 rfl rfl) h7
  clear hA0
  simp only [List.append_nil, List.nil_append] at hW'
  have hlt0 : ∀ x ∈ p0, x.block < W.heap.size := fun x hx => hW'.lt x (by simp [hx])
  have hlt3 : ∀ x ∈ p3, x.block < W.heap.size := fun x hx => hW'.lt x (by simp [hx])
  have hlt4 : ∀ x ∈ p4, x.block < W.heap.size := fun x hx => hW'.lt x (by simp [hx])
  have hlt6 : ∀ x ∈ p6, x.block < W.heap.size := fun x hx => hW'.lt x (by simp [hx])
  have rx1 : x1.data.toList.length ≤ 9223372036854775807 := len_data wx1
  have rx2 : x2.data.toList.length ≤ 9223372036854775807 := len_data wx2
  have rx5 : -9223372036854775808 ≤ x5 ∧ x5 ≤ 9223372036854775807 := by simpa [Lit.wf, IntKind.min, IntKind.max, IntKind.signed, IntKind.bits] using wx5
  have rx7 : x7.data.toList.length ≤ 9223372036854775807 := len_data wx7
  have hL2 : laidMet Tryz.prog Rows.classificationAnswersRow.laid W := hL
  have hI : GG.I W := by
    refine ⟨⟨?_, ?_⟩, ?_, ?_⟩
    · exact laid_iface hL2 (n := "strconv.ErrSyntax") (List.mem_of_getElem? (i := 5) rfl) (g := 0) (by kernel_rfl) (t := 69) (by kernel_rfl) Tryz.underlying69
    · exact laid_iface hL2 (n := "strconv.ErrRange") (List.mem_of_getElem? (i := 4) rfl) (g := 1) (by kernel_rfl) (t := 69) (by kernel_rfl) Tryz.underlying69
    · exact Go.Proofs.cell_of_shapedOpen_int (zero := #[.int .i64 0]) hsh (of_decide_eq_true (by kernel_rfl)) (by kernel_rfl) (by kernel_rfl) (by kernel_rfl) (by kernel_rfl) Tryz.underlying3
    · exact laid_tab hL2 (n := "internal/strconv.uint64pow10") (zs := Lib.pow10Tab) (List.mem_of_getElem? (i := 2) rfl) (g := 5) (by kernel_rfl) (t := 135) (by kernel_rfl) Tryz.underlying135 Tryz.underlying113 (by kernel_rfl) (by kernel_rfl)
  have walk := law_calls (W := W) (vs := #[.slice a0 len cap, .string x1, .string x2, v3, v4, .int .i64 x5, v6, .string x7]) w_exP (args := [.sl es, .str x1.data.toList, .str x2.data.toList, boxSh (shHeads) c3, boxSh (shLines) c4, .int .i64 x5, boxSh (shInts) c6, .str x7.data.toList]) (by exact ⟨⟨hel, hei⟩, heads_of hs3, lines_of hs4, ints_of hs6⟩) rfl hI (by have h := globE_size hI; show 6 ≤ W.heap.size; omega)
    ⟨rfl, fun i p hp => by
      match i, hp with
      | 0, hp => cases hp; exact hes
      | 1, hp => cases hp; exact (by have e : (⟨x1.data.toList.toArray⟩ : ByteArray) = x1 := textB_data' x1; have := PVRel.str (w := W) (M := NoB) x1.data.toList; rw [e] at this; exact this)
      | 2, hp => cases hp; exact (by have e : (⟨x2.data.toList.toArray⟩ : ByteArray) = x2 := textB_data' x2; have := PVRel.str (w := W) (M := NoB) x2.data.toList; rw [e] at this; exact this)
      | 3, hp => cases hp; exact hr3
      | 4, hp => cases hp; exact hr4
      | 5, hp => cases hp; exact .int _ _
      | 6, hp => cases hp; exact hr6
      | 7, hp => cases hp; exact (by have e : (⟨x7.data.toList.toArray⟩ : ByteArray) = x7 := textB_data' x7; have := PVRel.str (w := W) (M := NoB) x7.data.toList; rw [e] at this; exact this)
      | i + 8, hp => simp at hp⟩
  refine walk.mono fun e W' ⟨he, hg⟩ => ?_
  subst he
  exact ⟨_, rfl, post_of_ext (pa := p0 ++ ([] ++ ([] ++ (p3 ++ (p4 ++ ([] ++ (p6 ++ []))))))) (pv := []) hW' (fun _ _ _ => trodAll_cons_mk (shut_bool Tryz.underlying4 _) trodAll_mk0)
    (fun sp hsp => (trodAll_cons_mk (WideElems.Trod_stays laidOut (by kernel_rfl) (of_decide_eq_true (by kernel_rfl)) h0 (fun x hx => hg.below.same (hlt0 x hx)) (fun x hx => hsp x (by simp [hx]))) (trodAll_cons_mk (shut_string Tryz.underlying9 wx1) (trodAll_cons_mk (shut_string Tryz.underlying9 wx2) (trodAll_cons_mk (WideElems.Trod_stays laidOut (by kernel_rfl) (of_decide_eq_true (by kernel_rfl)) h3 (fun x hx => hg.below.same (hlt3 x hx)) (fun x hx => hsp x (by simp [hx]))) (trodAll_cons_mk (WideElems.Trod_stays laidOut (by kernel_rfl) (of_decide_eq_true (by kernel_rfl)) h4 (fun x hx => hg.below.same (hlt4 x hx)) (fun x hx => hsp x (by simp [hx]))) (trodAll_cons_mk (shut_int Tryz.underlying3 wx5) (trodAll_cons_mk (WideElems.Trod_stays laidOut (by kernel_rfl) (of_decide_eq_true (by kernel_rfl)) h6 (fun x hx => hg.below.same (hlt6 x hx)) (fun x hx => hsp x (by simp [hx]))) (trodAll_cons_mk (shut_string Tryz.underlying9 wx7) trodAll_mk0))))))))) (fun _ _ => rfl) (by simp)
    hg (ok_one (by kernel_rfl) rfl (okWide_bool_mk Tryz.underlying4 _))⟩
mutual
def flatD : DataW Unit → List Value
  | .agg ds => flatL ds
  | .lit (.int k n) => [.int k n]
  | _ => []
def flatL : List (DataW Unit) → List Value
  | [] => []
  | d :: r => flatD d ++ flatL r
end
noncomputable def low : Nat := (World.holding Tryz.prog default ⟨#[], #[], []⟩).heap.size
abbrev synS : ByteArray := { data := #[105, 110, 118, 97, 108, 105, 100, 32, 115, 121, 110, 116, 97, 120] }
abbrev rngS : ByteArray := { data := #[118, 97, 108, 117, 101, 32, 111, 117, 116, 32, 111, 102, 32, 114, 97, 110, 103, 101] }
noncomputable def laidWorld (os : Os) : World :=
  layRow (layRow (layRow (layRow (layRow (layRow (layRow (World.holding Tryz.prog os ⟨#[.cells #[.string synS] 133, .cells #[.string rngS] 133], #[], []⟩)
    5 (flatD Rows.laid_internal_strconv_uint64pow10)) 6 (flatD Rows.laid_math_bits_deBruijn32tab)) 7 (flatD Rows.laid_math_bits_deBruijn64tab))
    3 (flatD Rows.laid_unicode_utf8_first)) 4 (flatD Rows.laid_unicode_utf8_acceptRanges))
    0 [.iface 131 (.pointer (some ⟨low, 0, none⟩))]) 1 [.iface 131 (.pointer (some ⟨low + 1, 0, none⟩))]
set_option maxRecDepth 100000 in
theorem laid_met (os : Os) : laidMet Tryz.prog Rows.classificationAnswersRow.laid ((laidWorld os).forCall (fun _ _ => 0) ⟨#[], #[.slice none 0 0, .string ⟨#[]⟩, .string ⟨#[]⟩, .slice none 0 0, .slice none 0 0, .int .i64 0, .slice none 0 0, .string ⟨#[]⟩], []⟩).memory :=
  laidMet_of_run3 8 (by kernel_rfl) (by kernel_rfl) (by kernel_rfl)
set_option maxRecDepth 100000 in
theorem reads (os : Os) {H : Type} (enc : TypeId × Value → H) : ∃ places, DataW.whole enc Tryz.prog ((laidWorld os).forCall (fun _ _ => 0) ⟨#[], #[.slice none 0 0, .string ⟨#[]⟩, .string ⟨#[]⟩, .slice none 0 0, .slice none 0 0, .int .i64 0, .slice none 0 0, .string ⟨#[]⟩], []⟩).memory Tryz.f3.params.toList Rows.classificationAnswersSpec.vars false #[Value.slice none 0 0, .string ⟨#[]⟩, .string ⟨#[]⟩, .slice none 0 0, .slice none 0 0, .int .i64 0, .slice none 0 0, .string ⟨#[]⟩].toList 8 = some ([.nil, .lit (.string []), .lit (.string []), .nil, .nil, .lit (.int .i64 0), .nil, .lit (.string [])], [], places) :=
  ⟨[], by kernel_rfl⟩
set_option maxRecDepth 100000 in
theorem lifted (os : Os) (started : os.Started) (H : Type) (enc : TypeId × Value → H) (F : Stop.Interp) :
    ReturnsInHanded {} Tryz.checked os 3 .any ((OpenSpec.ofChange Rows.classificationAnswersSpec).preRow enc Tryz.prog Tryz.f3 Rows.classificationAnswersRow.domain false Rows.classificationAnswersRow.laid) (((OpenSpec.ofChange Rows.classificationAnswersSpec).at F).post enc Tryz.prog Tryz.f3 false true false false) := by
  obtain ⟨places, hx⟩ := reads os enc
  refine returnsInHanded_of_row (C := Tryz.checked) (s := OpenSpec.ofChange Rows.classificationAnswersSpec) own started (by kernel_rfl) Tryz.func3
    (witness_row_at (enc := enc) (C := Tryz.checked) false (laidWorld os) #[.slice none 0 0, .string ⟨#[]⟩, .string ⟨#[]⟩, .slice none 0 0, .slice none 0 0, .int .i64 0, .slice none 0 0, .string ⟨#[]⟩] rfl (by kernel_rfl) (by kernel_rfl) (by kernel_rfl)
      (OpenSpec.preRow_of_cond 8 hx (by kernel_rfl) (fun k hk => by cases hk) (by kernel_rfl) (laid_met os))) ?_
  intro W base args ds gs before hval hW _ _ _ hL hsh _
  exact contract H enc W base args ds gs before hL hsh hval hW
theorem said : Rows.ClassificationAnswersSaid :=
  OpenClaim.holds_of_cond 3 Tryz.f3 rfl rfl rfl rfl rfl rfl rfl ⟨rfl, rfl, rfl, rfl, rfl⟩ rfl rfl rfl rfl rfl (by kernel_rfl) Tryz.func3 (by kernel_rfl)
    (of_decide_eq_true (by kernel_rfl)) (by unfold Func.isWrapper; first | (rw [if_pos (by decide +kernel)]; kernel_rfl) | (rw [if_neg (by decide +kernel)]; exact ⟨rfl, rfl⟩))
    (fun os started H enc _ F => by rw [OpenClaim.pre_eq_preRow]; exact lifted os started H enc F)
theorem plain (f : FuncId) (fn : Func) (hf : Tryz.pinned.checked.prog.funcNamed "treasury/treasurylaw03.ClassificationAnswers" = some f) (hfn : Tryz.pinned.checked.prog.funcs[f]? = some fn) :
    true = Tryz.pinned.checked.prog.looks [] ∧ ∀ (j : Nat) t, fn.params[j]? = some t → Tryz.pinned.checked.prog.wantsStandIn t = false := by
  obtain rfl : f = 3 := Option.some.inj ((show Tryz.prog.funcNamed "treasury/treasurylaw03.ClassificationAnswers" = some 3 by kernel_rfl).symm.trans hf) |>.symm
  obtain rfl : fn = Tryz.f3 := (Option.some.inj (Tryz.func3.symm.trans hfn)).symm
  refine ⟨by kernel_rfl, fun j t ht => ?_⟩
  rw [Tryz.params3] at ht
  have : t = 22 ∨ t = 9 ∨ t = 9 ∨ t = 23 ∨ t = 24 ∨ t = 3 ∨ t = 22 ∨ t = 9 := by simpa using Array.mem_of_getElem? ht
  rcases this with rfl | rfl | rfl | rfl | rfl | rfl | rfl | rfl
  · exact (show Tryz.prog.wantsStandIn 22 = false by kernel_rfl)
  · exact (show Tryz.prog.wantsStandIn 9 = false by kernel_rfl)
  · exact (show Tryz.prog.wantsStandIn 9 = false by kernel_rfl)
  · exact (show Tryz.prog.wantsStandIn 23 = false by kernel_rfl)
  · exact (show Tryz.prog.wantsStandIn 24 = false by kernel_rfl)
  · exact (show Tryz.prog.wantsStandIn 3 = false by kernel_rfl)
  · exact (show Tryz.prog.wantsStandIn 22 = false by kernel_rfl)
  · exact (show Tryz.prog.wantsStandIn 9 = false by kernel_rfl)
theorem card : Rows.ClassificationAnswersCardSaid :=
  Claim7.holds_tied_plain_at .later [] _ _ _ _ said (fun _ h => by cases h) (by kernel_rfl) (fun _ h => by cases h) classificationAnswers_row_tie rfl ⟨rfl, rfl⟩ (by kernel_rfl) rfl plain (by kernel_rfl)
end Go.Proofs.YthdlbokgbkejnaaGreatDoor.classificationAnswers
