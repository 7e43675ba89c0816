/-
  A part of a proof: see the last text of this claim for what is proved.
-/
import Derived.Test.YtdbnifmcikljdaaGreatDoorC5b
import Derived.Test.YtdbnifmcikljdaaGreatDoorZMa
namespace Go.AM
open Go Go.Proofs Go.IntWalk
set_option maxRecDepth 100000
set_option maxHeartbeats 1000000
set_option linter.unusedSimpArgs false
set_option linter.unusedVariables false
structure Lft where
  k : List UInt8
  a : Int
  deriving DecidableEq, Inhabited
def lfV (x : Lft) : PV := .agg [.str x.k, .int .i64 x.a]
def lfOf : PV → Lft
  | .agg [.str k, .int _ a] => ⟨k, a⟩
  | _ => default
theorem lfOf_lfV (x : Lft) : lfOf (lfV x) = x := rfl
theorem lfOf_agg {a : Int} {k : List UInt8} : lfOf (.agg [.str k, .int .i64 a]) = ⟨k, a⟩ := rfl
theorem map_lfOf (l : List Lft) : (l.map lfV).map lfOf = l := by simp [List.map_map, Function.comp_def, lfOf_lfV]
theorem getD_lf {l : List Lft} {i : Nat} (h : i < l.length) : (l.map lfV).getD i default = lfV (l.getD i default) := by
  simp [List.getD_eq_getElem?_getD, h]
def nameV (x : Opn) : PV := .agg [.int .i64 x.o, .int .i64 x.c]
def seenV (l : List Opn) : List (PV × PV) := l.map fun x => (nameV x, .bool true)
def namB (x : Opn) (l : List Opn) : Bool := l.any fun y => y.o == x.o && y.c == x.c
theorem seen_get (x : Opn) : ∀ l : List Opn, mval (.bool false) (nameV x) (seenV l) = .bool (namB x l)
  | [] => rfl
  | y :: r => by
    have ih := seen_get x r
    unfold mval seenV namB at ih ⊢
    simp only [List.map_cons, List.any_cons, mget]
    have e : keyEqB (nameV x) (nameV y) = (y.o == x.o && y.c == x.c) := by
      have h1 : ∀ a b : Int, (a == b) = (b == a) := fun a b => by rw [Bool.eq_iff_iff, beq_iff_eq, beq_iff_eq]; exact eq_comm
      simp only [nameV, keyEqB, keyEqL, keyEq1, Bool.and_true]
      rw [h1 x.o, h1 x.c]
    rw [e]
    by_cases h : (y.o == x.o && y.c == x.c) = true
    · rw [if_pos h, h]; rfl
    · rw [if_neg h]
      have : (y.o == x.o && y.c == x.c) = false := by simpa using h
      rw [this, Bool.false_or]; exact ih
theorem seen_put (x : Opn) : ∀ {l : List Opn}, namB x l = false → mput (nameV x) (.bool true) (seenV l) = seenV (l ++ [x])
  | [], _ => rfl
  | y :: r, h => by
    unfold namB at h
    rw [List.any_cons, Bool.or_eq_false_iff] at h
    have e : keyEqB (nameV x) (nameV y) = false := by
      have h1 : ∀ a b : Int, (a == b) = (b == a) := fun a b => by rw [Bool.eq_iff_iff, beq_iff_eq, beq_iff_eq]; exact eq_comm
      simp only [nameV, keyEqB, keyEqL, keyEq1, Bool.and_true]
      rw [h1 x.o, h1 x.c]; exact h.1
    have ih := seen_put x (l := r) h.2
    unfold seenV at ih ⊢
    simp only [List.map_cons, List.cons_append, mput, e, Bool.false_eq_true, if_false]
    rw [ih]
theorem seen_keys {P : Program} {t : TypeId} (h : ∀ a b : Int, keyOkB P t (.agg [.int .i64 a, .int .i64 b]) = true) (l : List Opn) : ∀ p, p ∈ seenV l → keyOkB P t p.1 = true := by
  intro p hp
  obtain ⟨x, _, rfl⟩ := List.mem_map.1 hp
  exact h _ _
def okOs (y0 : Int) : List Opn → List Opn → Bool
  | _, [] => true
  | seen, x :: r => opB x && !namB x seen && x.y == y0 && okOs y0 (seen ++ [x]) r
def ltK : Option (List UInt8) → List UInt8 → Bool
  | none, _ => true
  | some k, c => decide (cmpC k c < 0)
def okLs : Option (List UInt8) → List Lft → Bool
  | _, [] => true
  | pr, x :: r => decide ((0 : Int) < (partsR x.k).length) && amg x.a 0 1000000000000000 && ltK pr x.k && okLs (some x.k) r
theorem okLs_cons {pr : Option (List UInt8)} {x : Lft} {r : List Lft} : okLs pr (x :: r) = (decide ((0 : Int) < (partsR x.k).length) && amg x.a 0 1000000000000000 && ltK pr x.k && okLs (some x.k) r) := rfl
def chkF (l : List Opn) (left : List Lft) : Int :=
  bif decide (60 < (l.length : Int)) || decide (60 < (left.length : Int)) then 3 else bif okOs (l.headD default).y [] l && okLs none left then 0 else 88
noncomputable def checkS : PSpec := on_ll (fun a b => (∃ l : List Opn, a = l.map opV ∧ ∀ x, x ∈ l → x.k.length ≤ 1000000000000) ∧ (∃ l : List Lft, b = l.map lfV ∧ ∀ x, x ∈ l → x.k.length ≤ 1000000000000) ∧ a.length ≤ 1000000000000 ∧ b.length ≤ 1000000000000)
  (fun a b => .int .i64 (chkF (a.map opOf) (b.map lfOf)))
theorem mem_getD' {α : Type} [Inhabited α] {l : List α} {i : Nat} (h : i < l.length) : l.getD i default ∈ l := by
  rw [List.getD_eq_getElem?_getD, List.getElem?_eq_getElem h]; exact List.getElem_mem _
theorem drop_cons' {α : Type} [Inhabited α] {l : List α} {i : Nat} (h : i < l.length) : l.drop i = l.getD i default :: l.drop (i + 1) := by
  rw [List.drop_eq_getElem_cons h]; simp [List.getD_eq_getElem?_getD, h]
theorem take_succ' {α : Type} [Inhabited α] {l : List α} {i : Nat} (h : i < l.length) : l.take (i + 1) = l.take i ++ [l.getD i default] := by
  rw [List.take_add_one, List.getD_eq_getElem?_getD, List.getElem?_eq_getElem h]; rfl
theorem keyN {a b : Int} : keyOkB Tryz.prog 70 (.agg [.int .i64 a, .int .i64 b]) = true := by
  kernel_rfl
theorem k_checkS_30 {args : List PV} : U4 30 args = openS args := rfl
theorem k_checkS_31 {args : List PV} : U4 31 args = codeS args := rfl
theorem k_checkS_32 {args : List PV} : U4 32 args = amongS args := rfl
theorem k_checkS_33 {args : List PV} : U4 33 args = cmpCS args := rfl
theorem w_checkS : PSound GG 14 checkS := by
  refine PSound.of_wpc (C := cxP Tryz.prog U4 [] 85) (T := plan0) Tryz.func14 rfl rfl rfl (Fit.pure (G := GG) hU4 mixed) (fun args h => ?_)
  unfold checkS at h
  obtain ⟨p, q, rfl, hp⟩ := on_ll_inv h
  refine ⟨by simp [cxP], ?_⟩
  simp only [checkS, on_ll_eq, Tryz.f14, argL, plan0]
  obtain ⟨⟨l, rfl, hl⟩, ⟨left, rfl, hf⟩, hn, hm⟩ := hp
  simp only [List.length_map] at hn hm
  simp only [map_opOf, map_lfOf, List.length_map, k_checkS_30, openS, on_p_eq, k_checkS_31, codeS, on_s_eq, k_checkS_32, amongS, on_iii_eq, k_checkS_33, cmpCS, on_ss_eq, Tryz.underlying1, sz1, by1, ze1, Tryz.underlying3, sz3, by3, ze3, Tryz.underlying4, sz4, by4, ze4, Tryz.underlying9, sz9, by9, ze9, Tryz.underlying23, sz23, by23, ze23, Tryz.underlying24, sz24, by24, ze24, Tryz.underlying37, sz37, by37, ze37, fa37_0, fa37_1, fa37_2, fa37_3, fa37_4, Tryz.underlying40, sz40, by40, ze40, fa40_0, fa40_1, Tryz.underlying42, sz42, by42, ze42, Tryz.underlying68, sz68, by68, ze68, Tryz.underlying70, sz70, by70, ze70, fa70_0, fa70_1, go_sem, ↓reduceIte, reduceCtorEq, Nat.reduceEqDiff, Nat.reduceLT, ↓all_qV, Int.reduceToNat, Int.reduceLT, Int.reduceLE, Nat.reduceAdd, Nat.reduceLeDiff, Nat.reduceMul]
  refine ⟨fun h1 => by unfold chkF; rw [h1]; rfl, fun h1 => ?_⟩
  have hs : l.length ≤ 60 ∧ left.length ≤ 60 := by
    simp only [Bool.or_eq_false_iff, decide_eq_false_iff_not] at h1; omega
  have hres : chkF l left = bif okOs (l.headD default).y [] l && okLs none left then 0 else 88 := by unfold chkF; rw [h1]; rfl
  rw [hres]
  refine AWp.loop (T := plan0) (α := Nat) (fun i => ([(0, .pv (.sl (l.map opV))), (1, .pv (.sl (left.map lfV))), (5, .mp 19), (20, .pv (.sl (l.map opV))), (21, .pv (.int .i64 l.length)), (22, .pv (.int .i64 i))], [(19, .map (seenV (l.take i)))]))
    (fun i => i ≤ l.length ∧ okOs (l.headD default).y [] l = okOs (l.headD default).y (l.take i) (l.drop i)) (fun i => l.length - i)
    ⟨0, ⟨Nat.zero_le _, by simp⟩, ⟨by simp [fitR, look], by simp [fitH, hget, seenV], rfl, rfl, rfl⟩⟩ ?_
  rintro i ⟨g1, g2⟩
  have hi1 : IntKind.i64.wrap ((i : Int) + 1) = ((i + 1 : Nat) : Int) := by rw [i64_in _ (by omega)]; omega
  by_cases hlt : i < l.length
  · have c0 : decide ((i : Int) < (l.length : Int)) = true := by simp; omega
    have e1 := getD_op hlt
    have e0 : (l.map opV).getD 0 default = opV (l.headD default) := by
      cases l with
      | nil => simp at hlt
      | cons y r => rfl
    have hk := hl _ (mem_getD' hlt)
    rw [drop_cons' hlt, okOs] at g2
    have htk := take_succ' hlt
    generalize l.getD i default = x at e1 hk g2 htk
    generalize l.headD default = x0 at e0 g2 ⊢
    obtain ⟨o, c, k, y, a⟩ := x
    obtain ⟨o0, c0', k0, y0, a0⟩ := x0
    have sg := seen_get ⟨o, c, k, y, a⟩ (l.take i)
    have sp := seen_put ⟨o, c, k, y, a⟩ (l := l.take i)
    have sk := seen_keys (P := Tryz.prog) (t := 70) (fun a b => keyN) (l.take i)
    have iop : isOp (.agg [.int .i64 o, .int .i64 c, .str k, .int .i64 y, .int .i64 a]) := ⟨⟨o, c, k, y, a⟩, rfl, hk⟩
    simp only [opV, nameV] at e1 e0 sg sp g2
    simp only [c0, e1, e0, hi1, sg, opOf_agg, keyN, List.length_map, List.take_succ_cons, List.take_nil, k_checkS_30, openS, on_p_eq, k_checkS_31, codeS, on_s_eq, k_checkS_32, amongS, on_iii_eq, k_checkS_33, cmpCS, on_ss_eq, Tryz.underlying1, sz1, by1, ze1, Tryz.underlying3, sz3, by3, ze3, Tryz.underlying4, sz4, by4, ze4, Tryz.underlying9, sz9, by9, ze9, Tryz.underlying23, sz23, by23, ze23, Tryz.underlying24, sz24, by24, ze24, Tryz.underlying37, sz37, by37, ze37, fa37_0, fa37_1, fa37_2, fa37_3, fa37_4, Tryz.underlying40, sz40, by40, ze40, fa40_0, fa40_1, Tryz.underlying42, sz42, by42, ze42, Tryz.underlying68, sz68, by68, ze68, Tryz.underlying70, sz70, by70, ze70, fa70_0, fa70_1, plan0, go_sem, ↓reduceIte, reduceCtorEq, Nat.reduceEqDiff, Nat.reduceLT, ↓all_qV, Int.reduceToNat, Int.reduceLT, Int.reduceLE, Nat.reduceAdd, Nat.reduceLeDiff, Nat.reduceMul, ev_callG, gcallK_b, gcallK_w, callGc_true, callGc_false, List.forall_mem_cons, List.not_mem_nil, PV.one, AV.one]
    have kf : ∀ a b : Int, flatB Tryz.prog 70 [.int .i64 a, .int .i64 b] = true := fun a b => keyN
    and_intros
    all_goals try first | (show checkD _ _ _ = true; kernel_rfl) | omega | (intros; omega) | rfl | trivial | assumption
    · exact fun _ => sk
    · exact fun h9 => by simpa using h9
    · intro h9
      have : (opB ⟨o, c, k, y, a⟩ && !namB ⟨o, c, k, y, a⟩ (l.take i) && y == y0) = false := by
        rw [Bool.eq_false_iff]; intro h8
        simp only [Bool.and_eq_true, Bool.not_eq_true', beq_iff_eq] at h8
        rw [h8.1.1, h8.1.2, h8.2] at h9
        simp at h9
      rw [g2, this]; rfl
    · intro h9
      simp only [Bool.or_eq_false_iff, Bool.not_eq_false', bne_eq_false_iff_eq] at h9
      obtain ⟨⟨h7, h8⟩, rfl⟩ := h9
      refine ⟨sk, i + 1, ⟨by omega, ?_⟩, by omega, ⟨by simp [fitR, look], ?_, rfl, rfl, rfl⟩⟩
      · rw [g2, h7, h8, htk]; simp
      · rw [htk, ← sp h8]; simp [fitH, hget]
  · have c0 : decide ((i : Int) < (l.length : Int)) = false := by simp; omega
    rw [show l.drop i = [] from List.drop_eq_nil_of_le (by omega), okOs] at g2
    rw [g2, Bool.true_and]
    simp only [c0, List.length_map, Tryz.underlying1, sz1, by1, ze1, Tryz.underlying3, sz3, by3, ze3, Tryz.underlying4, sz4, by4, ze4, Tryz.underlying9, sz9, by9, ze9, Tryz.underlying23, sz23, by23, ze23, Tryz.underlying24, sz24, by24, ze24, Tryz.underlying37, sz37, by37, ze37, fa37_0, fa37_1, fa37_2, fa37_3, fa37_4, Tryz.underlying40, sz40, by40, ze40, fa40_0, fa40_1, Tryz.underlying42, sz42, by42, ze42, Tryz.underlying68, sz68, by68, ze68, Tryz.underlying70, sz70, by70, ze70, fa70_0, fa70_1, plan0, go_sem, ↓reduceIte, reduceCtorEq, Nat.reduceEqDiff, Nat.reduceLT, ↓all_qV, Int.reduceToNat, Int.reduceLT, Int.reduceLE, Nat.reduceAdd, Nat.reduceLeDiff, Nat.reduceMul]
    refine AWp.loop (T := plan0) (α := Nat) (fun i => ([(1, .pv (.sl (left.map lfV))), (51, .pv (.sl (left.map lfV))), (52, .pv (.int .i64 left.length)), (53, .pv (.int .i64 i))], []))
      (fun i => i ≤ left.length ∧ okLs none left = okLs (if i = 0 then none else some (left.getD (i - 1) default).k) (left.drop i)) (fun i => left.length - i)
      ⟨0, ⟨Nat.zero_le _, by simp⟩, ⟨by simp [fitR, look], by simp [fitH], rfl, rfl, rfl⟩⟩ ?_
    clear g1 g2 hi1 c0 hlt
    rintro i ⟨g1, g2⟩
    have hi1 : IntKind.i64.wrap ((i : Int) + 1) = ((i + 1 : Nat) : Int) := by rw [i64_in _ (by omega)]; omega
    by_cases hlt : i < left.length
    · have c0 : decide ((i : Int) < (left.length : Int)) = true := by simp; omega
      have e1 := getD_lf hlt
      have hk := hf _ (mem_getD' hlt)
      rw [drop_cons' hlt, okLs_cons] at g2
      have hnx : left.getD (i + 1 - 1) default = left.getD i default := rfl
      have hstep : ∀ j, i + 1 = j → okLs (some (left.getD i default).k) (left.drop (i + 1)) = okLs (if j = 0 then none else some (left.getD (j - 1) default).k) (left.drop j) := fun j hj => by
        subst hj; rw [if_neg (by omega)]; rfl
      cases i with
      | zero =>
        have c0 : decide ((0 : Int) < (left.length : Int)) = true := by simp; omega
        have w1 : IntKind.i64.wrap (0 - 1) = -1 := by decide
        generalize left.getD 0 default = x at e1 hk g2 hstep
        obtain ⟨k, a⟩ := x
        simp only [lfV] at e1
        simp only [if_true, ltK, Bool.and_true] at g2
        simp only [c0, decide_false, w1, e1, hi1, neg1, lfOf_agg, List.length_map, List.take_succ_cons, List.take_nil, k_checkS_30, openS, on_p_eq, k_checkS_31, codeS, on_s_eq, k_checkS_32, amongS, on_iii_eq, k_checkS_33, cmpCS, on_ss_eq, Tryz.underlying1, sz1, by1, ze1, Tryz.underlying3, sz3, by3, ze3, Tryz.underlying4, sz4, by4, ze4, Tryz.underlying9, sz9, by9, ze9, Tryz.underlying23, sz23, by23, ze23, Tryz.underlying24, sz24, by24, ze24, Tryz.underlying37, sz37, by37, ze37, fa37_0, fa37_1, fa37_2, fa37_3, fa37_4, Tryz.underlying40, sz40, by40, ze40, fa40_0, fa40_1, Tryz.underlying42, sz42, by42, ze42, Tryz.underlying68, sz68, by68, ze68, Tryz.underlying70, sz70, by70, ze70, fa70_0, fa70_1, plan0, go_sem, ↓reduceIte, reduceCtorEq, Nat.reduceEqDiff, Nat.reduceLT, ↓all_qV, Int.reduceToNat, Int.reduceLT, Int.reduceLE, Nat.reduceAdd, Nat.reduceLeDiff, Nat.reduceMul, ev_callG, gcallK_b, gcallK_w, callGc_true, callGc_false, List.forall_mem_cons, List.not_mem_nil, PV.one, AV.one]
        and_intros
        all_goals try first | (show checkD _ _ _ = true; kernel_rfl) | omega | (intros; omega) | rfl | trivial | assumption
        · exact fun h9 => by simpa using h9
        · intro h9
          have : (decide ((0 : Int) < (partsR k).length) && amg a 0 1000000000000000) = false := by
            rw [Bool.eq_false_iff]; intro h8
            simp only [Bool.and_eq_true, decide_eq_true_eq] at h8
            simp only [Bool.or_eq_true, Bool.not_eq_true', decide_eq_false_iff_not] at h9
            rcases h9 with h9 | h9
            · exact h9 h8.1
            · rw [h8.2] at h9; cases h9
          rw [g2, this]; rfl
        · intro h9
          simp only [Bool.or_eq_false_iff, Bool.not_eq_false'] at h9
          refine ⟨0 + 1, ⟨by omega, ?_⟩, by omega, ⟨by simp [fitR, look, show IntKind.i64.wrap (0 + 1) = 1 by decide, show IntKind.i64.wrap 1 = 1 by decide], trivial, rfl, rfl, rfl⟩⟩
          rw [g2, h9.1, h9.2, ← hstep _ rfl]; simp
      | succ j =>
        have c1 : decide ((0 : Int) < ((j + 1 : Nat) : Int)) = true := by simp
        have w1 : IntKind.i64.wrap (((j + 1 : Nat) : Int) - 1) = (j : Int) := by rw [i64_in _ (by omega)]; omega
        have e2 := getD_lf (l := left) (i := j) (by omega)
        have hk2 := hf _ (mem_getD' (l := left) (i := j) (by omega))
        simp only [Nat.add_sub_cancel, ltK, if_neg (show ¬ j + 1 = 0 by omega)] at g2
        generalize left.getD (j + 1) default = x at e1 hk g2 hstep
        generalize left.getD j default = x' at e2 hk2 g2
        obtain ⟨k, a⟩ := x
        obtain ⟨k', a'⟩ := x'
        simp only [lfV] at e1 e2
        simp only [c0, c1, w1, e1, e2, hi1, lfOf_agg, List.length_map, List.take_succ_cons, List.take_nil, k_checkS_30, openS, on_p_eq, k_checkS_31, codeS, on_s_eq, k_checkS_32, amongS, on_iii_eq, k_checkS_33, cmpCS, on_ss_eq, Tryz.underlying1, sz1, by1, ze1, Tryz.underlying3, sz3, by3, ze3, Tryz.underlying4, sz4, by4, ze4, Tryz.underlying9, sz9, by9, ze9, Tryz.underlying23, sz23, by23, ze23, Tryz.underlying24, sz24, by24, ze24, Tryz.underlying37, sz37, by37, ze37, fa37_0, fa37_1, fa37_2, fa37_3, fa37_4, Tryz.underlying40, sz40, by40, ze40, fa40_0, fa40_1, Tryz.underlying42, sz42, by42, ze42, Tryz.underlying68, sz68, by68, ze68, Tryz.underlying70, sz70, by70, ze70, fa70_0, fa70_1, plan0, go_sem, ↓reduceIte, reduceCtorEq, Nat.reduceEqDiff, Nat.reduceLT, ↓all_qV, Int.reduceToNat, Int.reduceLT, Int.reduceLE, Nat.reduceAdd, Nat.reduceLeDiff, Nat.reduceMul, ev_callG, gcallK_b, gcallK_w, callGc_true, callGc_false, List.forall_mem_cons, List.not_mem_nil, PV.one, AV.one]
        and_intros
        all_goals try first | (show checkD _ _ _ = true; kernel_rfl) | omega | (intros; omega) | rfl | trivial | assumption
        · exact fun h9 => by simpa using h9
        · exact fun _ => ⟨hk2, hk⟩
        · intro h9
          have : (decide ((0 : Int) < (partsR k).length) && amg a 0 1000000000000000 && decide (cmpC k' k < 0)) = false := by
            rw [Bool.eq_false_iff]; intro h8
            simp only [Bool.and_eq_true, decide_eq_true_eq] at h8
            simp only [Bool.or_eq_true, Bool.not_eq_true', decide_eq_false_iff_not, decide_eq_true_eq] at h9
            rcases h9 with (h9 | h9) | h9
            · exact h9 h8.1.1
            · rw [h8.1.2] at h9; cases h9
            · omega
          rw [g2, this]; rfl
        · intro h9
          simp only [Bool.or_eq_false_iff, Bool.not_eq_false', decide_eq_false_iff_not] at h9
          refine ⟨j + 1 + 1, ⟨by omega, ?_⟩, by omega, ⟨by simp [fitR, look], trivial, rfl, rfl, rfl⟩⟩
          rw [g2, h9.1.1, h9.1.2, ← hstep _ rfl, show decide (cmpC k' k < 0) = true by simp; omega]; simp
    · have c0 : decide ((i : Int) < (left.length : Int)) = false := by simp; omega
      rw [show left.drop i = [] from List.drop_eq_nil_of_le (by omega), okLs] at g2
      rw [g2]
      simp only [c0, List.length_map, Tryz.underlying1, sz1, by1, ze1, Tryz.underlying3, sz3, by3, ze3, Tryz.underlying4, sz4, by4, ze4, Tryz.underlying9, sz9, by9, ze9, Tryz.underlying23, sz23, by23, ze23, Tryz.underlying24, sz24, by24, ze24, Tryz.underlying37, sz37, by37, ze37, fa37_0, fa37_1, fa37_2, fa37_3, fa37_4, Tryz.underlying40, sz40, by40, ze40, fa40_0, fa40_1, Tryz.underlying42, sz42, by42, ze42, Tryz.underlying68, sz68, by68, ze68, Tryz.underlying70, sz70, by70, ze70, fa70_0, fa70_1, plan0, go_sem, ↓reduceIte, reduceCtorEq, Nat.reduceEqDiff, Nat.reduceLT, ↓all_qV, Int.reduceToNat, Int.reduceLT, Int.reduceLE, Nat.reduceAdd, Nat.reduceLeDiff, Nat.reduceMul]
      try rfl
noncomputable def U5 (g : FuncId) : PSpec := (putΦ U4 14 checkS) g
theorem hU5 : TabSound GG U5 := (hU4.put w_checkS)
end Go.AM
