/-
  A part of a proof: see the last text of this claim for what is proved.
-/
import Derived.Test.YtdbnifmcikljdaaGreatDoorCls
import Derived.Test.YtdbnifmcikljdaaGreatDoorCD
import Derived.Test.YtdbnifmcikljdaaGreatDoorGH
import Derived.Shelf.Small.Bits
import Derived.Test.YtdbnifmcikljdaaGreatDoorZMa
namespace Go.AM
open Go Go.Proofs Go.IntWalk
set_option maxRecDepth 100000
set_option maxHeartbeats 1000000
set_option linter.unusedSimpArgs false
set_option linter.unusedVariables false
def on_pp (p : PV → PV → Prop) (f : PV → PV → PV) : PSpec
  | [a0, a1] => (p a0 a1, f a0 a1)
  | _ => (False, default)
theorem on_pp_eq {p : PV → PV → Prop} {f : PV → PV → PV} {a0 : PV} {a1 : PV} : on_pp p f [a0, a1] = (p a0 a1, f a0 a1) := rfl
theorem on_pp_inv {p : PV → PV → Prop} {f : PV → PV → PV} {args : List PV} (h : (on_pp p f args).1) : ∃ a0 : PV, ∃ a1 : PV, args = [a0, a1] ∧ p a0 a1 := by
  unfold on_pp at h
  split at h
  · exact ⟨_, _, rfl, h⟩
  · exact h.elim
def on_w (p : Int → Prop) (f : Int → PV) : PSpec
  | [.int .u64 a0] => (p a0, f a0)
  | _ => (False, default)
theorem on_w_eq {p : Int → Prop} {f : Int → PV} {a0 : Int} : on_w p f [.int .u64 a0] = (p a0, f a0) := rfl
theorem on_w_inv {p : Int → Prop} {f : Int → PV} {args : List PV} (h : (on_w p f args).1) : ∃ a0 : Int, args = [.int .u64 a0] ∧ p a0 := by
  unfold on_w at h
  split at h
  · exact ⟨_, rfl, h⟩
  · exact h.elim
theorem getD_mem {l : List PV} {i : Nat} (h : i < l.length) : l.getD i default ∈ l := by
  rw [List.getD_eq_getElem?_getD, List.getElem?_eq_getElem h]; exact List.getElem_mem _
theorem take_succ_getD {l : List PV} {i : Nat} (h : i < l.length) : l.take (i + 1) = l.take i ++ [l.getD i default] := by
  rw [List.take_add_one, List.getD_eq_getElem?_getD, List.getElem?_eq_getElem h]; rfl
def amg (a b c : Int) : Bool := decide (b ≤ a) && decide (a ≤ c)
noncomputable def amongS : PSpec := on_iii (fun _ _ _ => True) (fun a b c => .bool (amg a b c))
theorem w_amongS : PSound GG 32 amongS := by
  refine PSound.of_wpc (C := cxP Tryz.prog Tcls [] 15) (T := plan0) Tryz.func32 rfl rfl rfl (Fit.pure (G := GG) hTcls mixed) (fun args h => ?_)
  unfold amongS at h
  obtain ⟨a, b, c, rfl, hp⟩ := on_iii_inv h
  refine ⟨by simp [cxP], ?_⟩
  simp only [amongS, on_iii_eq, Tryz.f32, argL, plan0]
  simp only [go_sem, ↓reduceIte, reduceCtorEq, Nat.reduceEqDiff, Nat.reduceLT, ↓all_qV, Int.reduceToNat, Int.reduceLT, Int.reduceLE, Nat.reduceAdd, Nat.reduceLeDiff, Nat.reduceMul]
  rfl
def vldM (n : Int) : Bool := decide (0 ≤ n) && decide (n ≤ 1000000000000)
noncomputable def validMS : PSpec := on_i (fun _ => True) (fun n => .bool (vldM n))
theorem w_validMS : PSound GG 47 validMS := by
  refine PSound.of_wpc (C := cxP Tryz.prog Tcls [] 9) (T := plan0) Tryz.func47 rfl rfl rfl (Fit.pure (G := GG) hTcls mixed) (fun args h => ?_)
  unfold validMS at h
  obtain ⟨n, rfl, hp⟩ := on_i_inv h
  refine ⟨by simp [cxP], ?_⟩
  simp only [validMS, on_i_eq, Tryz.f47, argL, plan0]
  simp only [go_sem, ↓reduceIte, reduceCtorEq, Nat.reduceEqDiff, Nat.reduceLT, ↓all_qV, Int.reduceToNat, Int.reduceLT, Int.reduceLE, Nat.reduceAdd, Nat.reduceLeDiff, Nat.reduceMul]
  rfl
noncomputable def codeS : PSpec := on_s (fun s => s.length ≤ 1000000000000) (fun s => .bool (decide ((0 : Int) < (partsR s).length)))
theorem k_codeS_54 {args : List PV} : Tcls 54 args = partsCS args := rfl
theorem w_codeS : PSound GG 31 codeS := by
  refine PSound.of_wpc (C := cxP Tryz.prog Tcls [] 7) (T := plan0) Tryz.func31 rfl rfl rfl (Fit.pure (G := GG) hTcls mixed) (fun args h => ?_)
  unfold codeS at h
  obtain ⟨s, rfl, hp⟩ := on_s_inv h
  refine ⟨by simp [cxP], ?_⟩
  simp only [codeS, on_s_eq, Tryz.f31, argL, plan0]
  simp only [k_codeS_54, partsCS, on_s_eq, List.length_map, Tryz.underlying3, sz3, by3, ze3, Tryz.underlying4, sz4, by4, ze4, Tryz.underlying9, sz9, by9, ze9, Tryz.underlying22, sz22, by22, ze22, go_sem, ↓reduceIte, reduceCtorEq, Nat.reduceEqDiff, Nat.reduceLT, ↓all_qV, Int.reduceToNat, Int.reduceLT, Int.reduceLE, Nat.reduceAdd, Nat.reduceLeDiff, Nat.reduceMul]
  exact hp
noncomputable def U1 (g : FuncId) : PSpec := (putΦ (putΦ (putΦ Tcls 32 amongS) 47 validMS) 31 codeS) g
theorem hU1 : TabSound GG U1 := (((hTcls.put w_amongS).put w_validMS).put w_codeS)
structure Opn where
  o : Int
  c : Int
  k : List UInt8
  y : Int
  a : Int
  deriving DecidableEq, Inhabited
def opV (x : Opn) : PV := .agg [.int .i64 x.o, .int .i64 x.c, .str x.k, .int .i64 x.y, .int .i64 x.a]
def opOf : PV → Opn
  | .agg [.int _ o, .int _ c, .str k, .int _ y, .int _ a] => ⟨o, c, k, y, a⟩
  | _ => default
theorem opOf_opV (x : Opn) : opOf (opV x) = x := rfl
theorem opOf_agg {o c y a : Int} {k : List UInt8} : opOf (.agg [.int .i64 o, .int .i64 c, .str k, .int .i64 y, .int .i64 a]) = ⟨o, c, k, y, a⟩ := rfl
theorem map_opOf (l : List Opn) : (l.map opV).map opOf = l := by simp [List.map_map, Function.comp_def, opOf_opV]
theorem getD_op {l : List Opn} {i : Nat} (h : i < l.length) : (l.map opV).getD i default = opV (l.getD i default) := by
  simp [List.getD_eq_getElem?_getD, h]
def isOp (e : PV) : Prop := ∃ x : Opn, e = opV x ∧ x.k.length ≤ 1000000000000
def opB (x : Opn) : Bool := amg x.o 1 6 && amg x.c 1 1000000 && decide ((0 : Int) < (partsR x.k).length) && amg x.y 0 100 && decide (0 < x.a) && vldM x.a
noncomputable def openS : PSpec := on_p isOp (fun e => .bool (opB (opOf e)))
theorem k_openS_31 {args : List PV} : U1 31 args = codeS args := rfl
theorem k_openS_32 {args : List PV} : U1 32 args = amongS args := rfl
theorem k_openS_47 {args : List PV} : U1 47 args = validMS args := rfl
theorem w_openS : PSound GG 30 openS := by
  refine PSound.of_wpc (C := cxP Tryz.prog U1 [] 31) (T := plan0) Tryz.func30 rfl rfl rfl (Fit.pure (G := GG) hU1 mixed) (fun args h => ?_)
  unfold openS at h
  obtain ⟨e, rfl, hp⟩ := on_p_inv h
  refine ⟨by simp [cxP], ?_⟩
  simp only [openS, on_p_eq, Tryz.f30, argL, plan0]
  obtain ⟨⟨o, c, k, y, a⟩, rfl, hk⟩ := hp
  simp only [opV, opOf_agg, opB, k_openS_31, codeS, on_s_eq, k_openS_32, amongS, on_iii_eq, k_openS_47, validMS, on_i_eq, Tryz.underlying1, sz1, by1, ze1, Tryz.underlying2, sz2, by2, ze2, Tryz.underlying3, sz3, by3, ze3, Tryz.underlying4, sz4, by4, ze4, Tryz.underlying9, sz9, by9, ze9, Tryz.underlying37, sz37, by37, ze37, fa37_0, fa37_1, fa37_2, fa37_3, fa37_4, go_sem, ↓reduceIte, reduceCtorEq, Nat.reduceEqDiff, Nat.reduceLT, ↓all_qV, Int.reduceToNat, Int.reduceLT, Int.reduceLE, Nat.reduceAdd, Nat.reduceLeDiff, Nat.reduceMul]
  exact ⟨fun _ => hk, rfl⟩
def orF : List Int → Int
  | [] => 0
  | x :: r => bif x != 0 then x else orF r
noncomputable def orS : PSpec := on_l (fun es => ∃ l : List Int, es = l.map intV ∧ l.length ≤ 1000000000000) (fun es => .int .i64 (orF (es.map nOf)))
theorem w_orS : PSound GG 52 orS := by
  refine PSound.of_wpc (C := cxP Tryz.prog U1 [] 18) (T := plan0) Tryz.func52 rfl rfl rfl (Fit.pure (G := GG) hU1 mixed) (fun args h => ?_)
  unfold orS at h
  obtain ⟨es, rfl, hp⟩ := on_l_inv h
  refine ⟨by simp [cxP], ?_⟩
  simp only [orS, on_l_eq, Tryz.f52, argL, plan0]
  obtain ⟨l, rfl, hl⟩ := hp
  have hn : ∀ l : List Int, (l.map intV).map nOf = l := fun l => by simp [List.map_map, Function.comp_def, nOf, intV]
  simp only [hn, List.length_map, Tryz.underlying3, sz3, by3, ze3, Tryz.underlying4, sz4, by4, ze4, Tryz.underlying22, sz22, by22, ze22, go_sem, ↓reduceIte, reduceCtorEq, Nat.reduceEqDiff, Nat.reduceLT, ↓all_qV, Int.reduceToNat, Int.reduceLT, Int.reduceLE, Nat.reduceAdd, Nat.reduceLeDiff, Nat.reduceMul]
  refine AWp.loop (T := plan0) (α := Nat) (fun i => ([(3, .pv (.int .i64 0)), (6, .pv (.sl (l.map intV))), (7, .pv (.int .i64 l.length)), (8, .pv (.int .i64 i))], [])) (fun i => i ≤ l.length ∧ orF (l.drop i) = orF l) (fun i => l.length - i)
    ⟨0, ⟨Nat.zero_le _, rfl⟩, ⟨by simp [fitR, look], trivial, rfl, rfl, rfl⟩⟩ ?_
  rintro i ⟨h1, h2⟩
  have hi1 : IntKind.i64.wrap ((i : Int) + 1) = ((i + 1 : Nat) : Int) := by rw [i64_in _ (by omega)]; omega
  by_cases hlt : i < l.length
  · have c0 : decide ((i : Int) < (l.length : Int)) = true := by simp; omega
    have k1 := getD_intV hlt
    rw [List.drop_eq_getElem_cons hlt, orF] at h2
    have e2 : l.getD i 0 = l[i] := by simp [List.getD_eq_getElem?_getD, hlt]
    rw [e2] at k1
    simp only [c0, k1, hi1, List.length_map, Tryz.underlying3, sz3, by3, ze3, Tryz.underlying4, sz4, by4, ze4, Tryz.underlying22, sz22, by22, ze22, plan0, go_sem, ↓reduceIte, reduceCtorEq, Nat.reduceEqDiff, Nat.reduceLT, ↓all_qV, Int.reduceToNat, Int.reduceLT, Int.reduceLE, Nat.reduceAdd, Nat.reduceLeDiff, Nat.reduceMul]
    refine ⟨⟨by omega, by omega⟩, fun h3 => ?_, fun h3 => ⟨i + 1, ⟨by omega, ?_⟩, by omega, ⟨by simp [fitR, look], trivial, rfl, rfl, rfl⟩⟩⟩
    · rw [h3] at h2; rw [← h2]; rfl
    · rw [h3] at h2; exact h2
  · have c0 : decide ((i : Int) < (l.length : Int)) = false := by simp; omega
    rw [List.drop_eq_nil_of_le (by omega)] at h2
    simp only [c0, List.length_map, Tryz.underlying3, sz3, by3, ze3, Tryz.underlying4, sz4, by4, ze4, Tryz.underlying22, sz22, by22, ze22, plan0, go_sem, ↓reduceIte, reduceCtorEq, Nat.reduceEqDiff, Nat.reduceLT, ↓all_qV, Int.reduceToNat, Int.reduceLT, Int.reduceLE, Nat.reduceAdd, Nat.reduceLeDiff, Nat.reduceMul]
    rw [← h2]; rfl
noncomputable def U2 (g : FuncId) : PSpec := (putΦ (putΦ U1 30 openS) 52 orS) g
theorem hU2 : TabSound GG U2 := ((hU1.put w_openS).put w_orS)
def cmpO (x y : Opn) : Int := orF [cmpC x.k y.k, cmpI x.o y.o, cmpI x.c y.c]
noncomputable def compareS : PSpec := on_pp (fun a b => isOp a ∧ isOp b) (fun a b => .int .i64 (cmpO (opOf a) (opOf b)))
theorem k_compareS_33 {args : List PV} : U2 33 args = cmpCS args := rfl
theorem k_compareS_52 {args : List PV} : U2 52 args = orS args := rfl
theorem k_compareS_53 {args : List PV} : U2 53 args = cmpIS args := rfl
theorem w_compareS : PSound GG 28 compareS := by
  refine PSound.of_wpc (C := cxP Tryz.prog U2 [] 22) (T := plan0) Tryz.func28 rfl rfl rfl (Fit.pure (G := GG) hU2 mixed) (fun args h => ?_)
  unfold compareS at h
  obtain ⟨p, q, rfl, hp⟩ := on_pp_inv h
  refine ⟨by simp [cxP], ?_⟩
  simp only [compareS, on_pp_eq, Tryz.f28, argL, plan0]
  obtain ⟨⟨⟨o, c, k, y, a⟩, rfl, hk⟩, ⟨⟨o', c', k', y', a'⟩, rfl, hk'⟩⟩ := hp
  simp only [opV, opOf_agg, cmpO, k_compareS_33, cmpCS, on_ss_eq, k_compareS_52, orS, on_l_eq, k_compareS_53, cmpIS, on_ii_eq, Tryz.underlying1, sz1, by1, ze1, Tryz.underlying2, sz2, by2, ze2, Tryz.underlying3, sz3, by3, ze3, Tryz.underlying9, sz9, by9, ze9, Tryz.underlying22, sz22, by22, ze22, Tryz.underlying37, sz37, by37, ze37, fa37_0, fa37_1, fa37_2, fa37_3, fa37_4, go_sem, ↓reduceIte, reduceCtorEq, Nat.reduceEqDiff, Nat.reduceLT, ↓all_qV, Int.reduceToNat, Int.reduceLT, Int.reduceLE, Nat.reduceAdd, Nat.reduceLeDiff, Nat.reduceMul]
  exact ⟨by kernel_rfl, ⟨hk, hk'⟩, ⟨[cmpC k k', cmpI o o', cmpI c c'], rfl, by simp⟩, rfl⟩
noncomputable def U3 (g : FuncId) : PSpec := (putΦ U2 28 compareS) g
theorem hU3 : TabSound GG U3 := (hU2.put w_compareS)
noncomputable def bitsS : PSpec := on_w (fun n => 0 ≤ n ∧ n < 18446744073709551616) (fun n => .int .i64 (Lib.bitLen n.toNat))
theorem w_bitsS : PSound GG 51 bitsS := by
  refine PSound.of_shelf ⟨_, Tryz.func51, by kernel_rfl, by kernel_rfl⟩ fun args ha X w vs hi hg hx har => ?_
  obtain ⟨n, rfl, h0⟩ := on_w_inv ha
  obtain ⟨v, rfl, hv⟩ := arel1 har
  obtain rfl := rel_int hv
  refine (Any.bits_Len lBits n w (by omega) (by omega)).mono ?_
  rintro e w' ⟨rfl, rfl⟩
  exact ⟨_, rfl, .int _ _, RowKit.Below.refl _ _⟩
noncomputable def U4 (g : FuncId) : PSpec := (putΦ U3 51 bitsS) g
theorem hU4 : TabSound GG U4 := (hU3.put w_bitsS)
end Go.AM
