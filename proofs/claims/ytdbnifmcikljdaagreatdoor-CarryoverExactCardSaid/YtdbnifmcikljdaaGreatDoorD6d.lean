/-
  A part of a proof: see the last text of this claim for what is proved.
-/
import Derived.Test.YtdbnifmcikljdaaGreatDoorD6c
import Derived.Test.YtdbnifmcikljdaaGreatDoorNE
import Derived.Test.YtdbnifmcikljdaaGreatDoorZMa
namespace Go.AM
open Go Go.Proofs Go.IntWalk
set_option maxRecDepth 100000
set_option maxHeartbeats 1000000
set_option linter.unusedSimpArgs false
set_option linter.unusedVariables false
def insO (b : Opn) (out : List Opn) : List Opn := (rins ltO b out.reverse).reverse
theorem insO_nil (b : Opn) : insO b [] = [b] := rfl
theorem insO_snoc (b y : Opn) (p : List Opn) : insO b (p ++ [y]) = bif ltO b y then insO b p ++ [y] else p ++ [y, b] := by
  unfold insO
  rw [List.reverse_append]
  show (rins ltO b (y :: p.reverse)).reverse = _
  rw [rins]
  cases ltO b y <;> simp
theorem isortO_snoc (l : List Opn) (x : Opn) : isort ltO (l ++ [x]) = insO x (isort ltO l) := by
  unfold isort insO
  rw [rsort_snoc, List.reverse_reverse]
def restL (m : IM) (left : List Lft) : List Lft := left.map fun y => ⟨y.k, aget y.k m⟩
theorem okLs_pw : ∀ {l : List Lft} {pr : Option (List UInt8)}, okLs pr l = true → (∀ k, pr = some k → 0 < (partsR k).length → ∀ x, x ∈ l → cmpL (partsR k) (partsR x.k) < 0) ∧ l.Pairwise (fun a b => a.k ≠ b.k)
  | [], _, _ => ⟨(fun _ _ _ x hx => by cases hx), .nil⟩
  | y :: r, pr, h => by
    rw [okLs_cons] at h
    simp only [Bool.and_eq_true, decide_eq_true_eq] at h
    obtain ⟨⟨⟨h1, h2⟩, h3⟩, h4⟩ := h
    obtain ⟨i1, i2⟩ := okLs_pw h4
    have i1 := i1 y.k rfl (by omega)
    refine ⟨fun k hk hp x hx => ?_, List.pairwise_cons.2 ⟨fun x hx e => ?_, i2⟩⟩
    · subst hk
      have h3 : cmpC k y.k < 0 := of_decide_eq_true h3
      rw [cmpC_L hp] at h3
      rcases List.mem_cons.1 hx with rfl | hx
      · exact h3
      · have h5 := i1 x hx
        have a1 := cmpL_neg (partsR k) (partsR y.k)
        have a3 := cmpL_neg (partsR k) (partsR x.k)
        have b1 := cmpL_le (partsR k) (partsR y.k) (partsR x.k)
        have b2 := cmpL_le (partsR x.k) (partsR k) (partsR y.k)
        have a2 := cmpL_neg (partsR y.k) (partsR x.k)
        omega
    · have h5 := i1 x hx
      rw [← e] at h5
      have := cmpL_neg (partsR y.k) (partsR y.k)
      omega
theorem restI_gen : ∀ (left : List Lft) (m : IM) (c : List UInt8), (∀ y, y ∈ left → y.k ≠ c) → aget c (left.foldl (fun m x => aput x.k x.a m) m) = aget c m
  | [], _, _, _ => rfl
  | x :: r, m, c, h => by
    rw [List.foldl_cons, restI_gen r _ c (fun y hy => h y (List.mem_cons_of_mem _ hy)), aget_aput, if_neg]
    have := h x List.mem_cons_self
    simpa using fun e => this e.symm
theorem restL_init {left : List Lft} (hp : left.Pairwise (fun a b => a.k ≠ b.k)) : restL (restI left) left = left := by
  have key : ∀ (left : List Lft) (m : IM), left.Pairwise (fun a b => a.k ≠ b.k) → restL (left.foldl (fun m x => aput x.k x.a m) m) left = left := by
    intro left
    induction left with
    | nil => intro m _; rfl
    | cons x r ih =>
      intro m hp
      rw [List.pairwise_cons] at hp
      have h1 : aget x.k (r.foldl (fun m x => aput x.k x.a m) (aput x.k x.a m)) = x.a := by
        rw [restI_gen r _ x.k (fun y hy e => hp.1 y hy e.symm), aget_aput, if_pos (by simp)]
      have h2 := ih (aput x.k x.a m) hp.2
      unfold restL at h2 ⊢
      rw [List.foldl_cons, List.map_cons, h2, h1]
  exact key left [] hp
def hasK (c : List UInt8) (l : List Lft) : Bool := l.any fun y => y.k == c
theorem hasK_snoc (c : List UInt8) (l : List Lft) (y : Lft) : hasK c (l ++ [y]) = (hasK c l || y.k == c) := by
  unfold hasK; simp
def onlyK (m : IM) (left : List Lft) : Prop := ∀ c, hasK c left = false → aget c m = 0
theorem onlyK_init (left : List Lft) : onlyK (restI left) left := by
  intro c h
  unfold restI
  rw [restI_gen]
  · rfl
  · intro y hy e
    have : hasK c left = true := List.any_eq_true.2 ⟨y, hy, by simp [e]⟩
    rw [h] at this; cases this
noncomputable def rcarS : PSpec := on_ll (fun a b => (∃ l : List Opn, a = l.map opV ∧ isOps l) ∧ (∃ l : List Lft, b = l.map lfV ∧ isLfs l) ∧ a.length ≤ 1000000 ∧ b.length ≤ 1000000000000)
  (fun a b => carF (a.map opOf) (b.map lfOf))
def mixL (m m' : IM) (left : List Lft) (j : Nat) : List PV := (left.take j).map (fun y => lfV ⟨y.k, aget y.k m'⟩) ++ (left.drop j).map (fun y => lfV ⟨y.k, aget y.k m⟩)
theorem mixL_zero {m m' : IM} {left : List Lft} : mixL m m' left 0 = (restL m left).map lfV := by
  unfold mixL restL
  rw [List.map_map, List.take_zero, List.drop_zero]; rfl
theorem mixL_end {m m' : IM} {left : List Lft} : mixL m m' left left.length = (restL m' left).map lfV := by
  unfold mixL restL
  rw [List.map_map, List.take_length, List.drop_length]; simp [Function.comp_def]
theorem mixL_len (m m' : IM) (left : List Lft) (j : Nat) : (mixL m m' left j).length = left.length := by
  unfold mixL
  simp only [List.length_append, List.length_map, List.length_take, List.length_drop]; omega
theorem mixL_get {m m' : IM} {left : List Lft} {j : Nat} (h : j < left.length) : (mixL m m' left j).getD j default = lfV ⟨(left.getD j default).k, aget (left.getD j default).k m⟩ := by
  unfold mixL
  rw [drop_cons' h, List.map_cons, List.getD_eq_getElem?_getD, List.getElem?_append_right (by simp; omega), List.length_map, List.length_take, Nat.min_eq_left (by omega), Nat.sub_self]
  rfl
theorem mixL_set {m m' : IM} {left : List Lft} {j : Nat} (h : j < left.length) : (mixL m m' left j).set j (lfV ⟨(left.getD j default).k, aget (left.getD j default).k m'⟩) = mixL m m' left (j + 1) := by
  unfold mixL
  rw [drop_cons' h, List.map_cons, List.set_append, if_neg (by simp; omega), List.length_map, List.length_take, Nat.min_eq_left (by omega), Nat.sub_self, List.set_cons_zero, take_succ' h]
  simp
def planR : Plan := { keep := fun _ => none, cut := fun _ => false, stop := fun i => i == 6 }
def planS : Plan := { keep := fun _ => none, cut := fun _ => false, stop := fun i => i == 8 }
theorem k_rcarS_15 {args : List PV} : V2 15 args = rchkS args := rfl
theorem k_rcarS_29 {args : List PV} : V2 29 args = befOS args := rfl
theorem w_rcarS : PSound GG 13 rcarS := by
  refine PSound.of_wpc (C := cxQ Tryz.prog V2 noΘ noΨ [] [] 143) (T := planR) Tryz.func13 rfl rfl rfl (Fit.all (G := GG) hV2 hnoΘ hnoΨ mixed) (fun args h => ?_)
  unfold rcarS at h
  obtain ⟨p, q, rfl, ⟨l, rfl, hl⟩, ⟨left, rfl, hf⟩, hn, hm⟩ := on_ll_inv h
  refine ⟨by simp [cxQ], ?_⟩
  simp only [List.length_map] at hn hm
  simp only [map_opOf, map_lfOf, rcarS, on_ll_eq, List.length_map, Nat.reduceBEq, k_rcarS_15, rchkS, on_ll_eq, k_rcarS_29, befOS, on_pp_eq, loadC_eq, List.take_succ_cons, List.take_nil, Tryz.underlying1, sz1, by1, ze1, Tryz.underlying2, sz2, by2, ze2, Tryz.underlying3, sz3, by3, ze3, Tryz.underlying4, sz4, by4, ze4, Tryz.underlying9, sz9, by9, ze9, Tryz.underlying23, sz23, by23, ze23, Tryz.underlying24, sz24, by24, ze24, Tryz.underlying26, sz26, by26, ze26, fa26_0, fa26_1, fa26_2, Tryz.underlying37, sz37, by37, ze37, fa37_0, fa37_1, fa37_2, fa37_3, fa37_4, Tryz.underlying40, sz40, by40, ze40, fa40_0, fa40_1, Tryz.underlying42, sz42, by42, ze42, Tryz.f13, argL, planR, go_sem, ↓reduceIte, reduceCtorEq, Nat.reduceEqDiff, Nat.reduceLT, ↓all_qV, Int.reduceToNat, Int.reduceLT, Int.reduceLE, Nat.reduceAdd, Nat.reduceLeDiff, Nat.reduceMul, ev_callG, gcallK_b, gcallK_w, callGc_true, callGc_false, List.forall_mem_cons, List.not_mem_nil, PV.one, AV.one]
  refine ⟨⟨⟨l, rfl, hl⟩, ⟨left, rfl, hf⟩, by omega, hm⟩, fun h1 => ?_, fun h1 => ?_⟩
  · unfold carF
    rw [h1]
    rfl
  have hc0 : chkF l left = 0 := by simpa using h1
  obtain ⟨hn6, hm6, hos, hls⟩ := chk_ok hc0
  have hres : carF l left = .tup [carV (runC l left).2.1 (runC l left).2.2 (lapF (runC l left).1 left), .int .i64 0] := by unfold carF; rw [h1]; rfl
  rw [hres]
  clear h1 hres h
  refine AWp.adoptS (s := 7) (κ := 51) (k := 5) (by simp [look]) rfl (by decide) ?_
  have hsl : ∀ i, i ≤ l.length → (isort ltO (l.take i)).length = i := fun i hi => by rw [isort_length, List.length_take]; omega
  refine AWp.loop (T := planR) (α := Nat) (fun i => ([(1, .pv (.sl (left.map lfV))), (4, .ptr 4 0), (7, .rs 51 i), (27, .pv (.sl (l.map opV))), (28, .pv (.int .i64 l.length)), (29, .pv (.int .i64 i))], [(4, .cells [.nils, .nils, .nils]), (51, .row 5 ((isort ltO (l.take i)).map opV))])) (fun i => i ≤ l.length) (fun i => l.length - i)
    ⟨0, Nat.zero_le _, ⟨by simp [fitR, look, upd], by simp [fitH, hget, hset, isort, rsort], rfl, rfl, rfl⟩⟩ ?_
  intro i hi
  have hi1 : IntKind.i64.wrap ((i : Int) + 1) = ((i + 1 : Nat) : Int) := by rw [i64_in _ (by omega)]; omega
  have hlen := hsl i hi
  simp only [Nat.reduceBEq, planR, go_sem, ↓reduceIte, reduceCtorEq, Nat.reduceEqDiff, Nat.reduceLT, ↓all_qV, Int.reduceToNat, Int.reduceLT, Int.reduceLE, Nat.reduceAdd, Nat.reduceLeDiff, Nat.reduceMul, ev_callG, gcallK_b, gcallK_w, callGc_true, callGc_false]
  refine AWp.freeze (T := planS) 51 5 (α := Unit) (fun _ => (isort ltO (l.take i)).map opV) (fun _ => ([(1, .pv (.sl (left.map lfV))), (4, .ptr 4 0), (7, .pv (.sl ((isort ltO (l.take i)).map opV))), (27, .pv (.sl (l.map opV))), (28, .pv (.int .i64 l.length)), (29, .pv (.int .i64 i))], [(4, .cells [.nils, .nils, .nils])])) (fun _ => True) ⟨(), trivial, ⟨by simp [hget], rfl, ?_, ?_, rfl, rfl, rfl⟩⟩ ?_
  · have tkS : ((isort ltO (l.take i)).map opV).take i = (isort ltO (l.take i)).map opV := List.take_of_length_le (by rw [List.length_map, hlen]; exact Nat.le_refl _)
    refine ⟨.inl (by simp [look]), .inl (by simp [look]), .inr ⟨i, by simp [look], by simp [hlen], by rw [tkS]⟩, .inl (by simp [look]), .inl (by simp [look]), .inl (by simp [look]), trivial⟩
  · exact ⟨by simp [hget], trivial⟩
  rintro _ _
  by_cases hlt : i < l.length
  · have c0 : decide ((i : Int) < (l.length : Int)) = true := by simp; omega
    have e1 := getD_op hlt
    have hk := hl _ (mem_getD' hlt)
    have hst : isort ltO (l.take (i + 1)) = insO (l.getD i default) (isort ltO (l.take i)) := by rw [take_succ' hlt]; exact isortO_snoc _ _
    have hom : ∀ z, z ∈ isort ltO (l.take i) → z.k.length ≤ 1000000000000 := fun z hz => hl z (List.mem_of_mem_take ((mem_isort ltO).1 hz))
    generalize l.getD i default = x at e1 hst hk
    generalize isort ltO (l.take i) = out at hlen hst hom ⊢
    obtain ⟨o, c, k, y, a⟩ := x
    simp only [opV] at e1
    simp only at hk
    simp only [c0, e1, hi1, Nat.reduceBEq, List.length_map, k_rcarS_15, rchkS, on_ll_eq, k_rcarS_29, befOS, on_pp_eq, loadC_eq, List.take_succ_cons, List.take_nil, Tryz.underlying1, sz1, by1, ze1, Tryz.underlying2, sz2, by2, ze2, Tryz.underlying3, sz3, by3, ze3, Tryz.underlying4, sz4, by4, ze4, Tryz.underlying9, sz9, by9, ze9, Tryz.underlying23, sz23, by23, ze23, Tryz.underlying24, sz24, by24, ze24, Tryz.underlying26, sz26, by26, ze26, fa26_0, fa26_1, fa26_2, Tryz.underlying37, sz37, by37, ze37, fa37_0, fa37_1, fa37_2, fa37_3, fa37_4, Tryz.underlying40, sz40, by40, ze40, fa40_0, fa40_1, Tryz.underlying42, sz42, by42, ze42, planS, go_sem, ↓reduceIte, reduceCtorEq, Nat.reduceEqDiff, Nat.reduceLT, ↓all_qV, Int.reduceToNat, Int.reduceLT, Int.reduceLE, Nat.reduceAdd, Nat.reduceLeDiff, Nat.reduceMul, ev_callG, gcallK_b, gcallK_w, callGc_true, callGc_false]
    refine ⟨⟨by omega, by omega⟩, ?_⟩
    refine AWp.seqc (T := plan0) ?_
    simp only [List.length_map, hlen, Tryz.underlying1, sz1, by1, ze1, Tryz.underlying2, sz2, by2, ze2, Tryz.underlying3, sz3, by3, ze3, Tryz.underlying4, sz4, by4, ze4, Tryz.underlying9, sz9, by9, ze9, Tryz.underlying23, sz23, by23, ze23, Tryz.underlying24, sz24, by24, ze24, Tryz.underlying26, sz26, by26, ze26, fa26_0, fa26_1, fa26_2, Tryz.underlying37, sz37, by37, ze37, fa37_0, fa37_1, fa37_2, fa37_3, fa37_4, Tryz.underlying40, sz40, by40, ze40, fa40_0, fa40_1, Tryz.underlying42, sz42, by42, ze42, plan0, go_sem, ↓reduceIte, reduceCtorEq, Nat.reduceEqDiff, Nat.reduceLT, ↓all_qV, Int.reduceToNat, Int.reduceLT, Int.reduceLE, Nat.reduceAdd, Nat.reduceLeDiff, Nat.reduceMul, ev_callG, gcallK_b, gcallK_w, callGc_true, callGc_false]
    refine AWp.seqc (T := plan0) ?_
    simp only [plan0, go_sem, ↓reduceIte, reduceCtorEq, Nat.reduceEqDiff, Nat.reduceLT, ↓all_qV, Int.reduceToNat, Int.reduceLT, Int.reduceLE, Nat.reduceAdd, Nat.reduceLeDiff, Nat.reduceMul, ev_callG, gcallK_b, gcallK_w, callGc_true, callGc_false]
    refine AWp.loop (T := plan0) (α := Nat) (fun k' => ([(1, .pv (.sl (left.map lfV))), (4, .ptr 4 0), (7, .pv (.sl (out.map opV))), (9, .ptr 9 0), (10, .pv (.int .i64 k')), (27, .pv (.sl (l.map opV))), (28, .pv (.int .i64 l.length)), (29, .pv (.int .i64 i))], [(4, .cells [.nils, .nils, .nils]), (9, .cells [.pv (.int .i64 o), .pv (.int .i64 c), .pv (.str k), .pv (.int .i64 y), .pv (.int .i64 a)])]))
      (fun k' => k' ≤ i ∧ insO ⟨o, c, k, y, a⟩ out = insO ⟨o, c, k, y, a⟩ (out.take k') ++ out.drop k') (fun k' => k')
      ⟨i, ⟨Nat.le_refl _, by rw [List.take_of_length_le (by omega), List.drop_of_length_le (by omega), List.append_nil]⟩, ⟨by simp [fitR, look], by simp [fitH, hget], rfl, rfl, rfl⟩⟩ ?_
    rintro k' ⟨k1, k2⟩
    have tki : (out.map opV).take i = out.map opV := List.take_of_length_le (by simp [hlen])
    have hwo : ∀ e, e ∈ out.map opV → 5 = e.cells.length := fun e he => by obtain ⟨z, _, rfl⟩ := List.mem_map.1 he; rfl
    have hwx : ∀ e, e ∈ [PV.agg [.int .i64 o, .int .i64 c, .str k, .int .i64 y, .int .i64 a]] → e.cells.length = 5 := fun e he => by rw [List.mem_singleton] at he; subst he; rfl
    have hwn : ∀ e, e ∈ ([] : List PV) → e.cells.length = 5 := fun e he => by cases he
    have iop : isOp (.agg [.int .i64 o, .int .i64 c, .str k, .int .i64 y, .int .i64 a]) := ⟨⟨o, c, k, y, a⟩, rfl, hk⟩
    cases k' with
    | zero =>
      have q1 : decide ((0 : Int) < 0) = false := by decide
      simp only [q1, List.length_map, hlen, k_rcarS_15, rchkS, on_ll_eq, k_rcarS_29, befOS, on_pp_eq, loadC_eq, List.take_succ_cons, List.take_nil, Tryz.underlying1, sz1, by1, ze1, Tryz.underlying2, sz2, by2, ze2, Tryz.underlying3, sz3, by3, ze3, Tryz.underlying4, sz4, by4, ze4, Tryz.underlying9, sz9, by9, ze9, Tryz.underlying23, sz23, by23, ze23, Tryz.underlying24, sz24, by24, ze24, Tryz.underlying26, sz26, by26, ze26, fa26_0, fa26_1, fa26_2, Tryz.underlying37, sz37, by37, ze37, fa37_0, fa37_1, fa37_2, fa37_3, fa37_4, Tryz.underlying40, sz40, by40, ze40, fa40_0, fa40_1, Tryz.underlying42, sz42, by42, ze42, plan0, go_sem, ↓reduceIte, reduceCtorEq, Nat.reduceEqDiff, Nat.reduceLT, ↓all_qV, Int.reduceToNat, Int.reduceLT, Int.reduceLE, Nat.reduceAdd, Nat.reduceLeDiff, Nat.reduceMul, ev_callG, gcallK_b, gcallK_w, callGc_true, callGc_false]
      have nf : ∀ {p : Prop}, decide False = true → p := fun h => by simp at h
      refine ⟨by kernel_rfl, nf, nf, nf, fun h => by simp at h, fun _ => ?_⟩
      refine AWp.perm0 [0, 1, 2, 4, 5, 3, 6, 7, 8, 9, 10, 11] (by kernel_rfl) rfl ?_
      simp only [opsOf, List.filterMap_cons, List.filterMap_nil, List.getElem?_toArray, List.getElem?_cons_succ, List.getElem?_cons_zero, hi1, hlen, tki, List.length_map, k_rcarS_15, rchkS, on_ll_eq, k_rcarS_29, befOS, on_pp_eq, loadC_eq, List.take_succ_cons, List.take_nil, Tryz.underlying1, sz1, by1, ze1, Tryz.underlying2, sz2, by2, ze2, Tryz.underlying3, sz3, by3, ze3, Tryz.underlying4, sz4, by4, ze4, Tryz.underlying9, sz9, by9, ze9, Tryz.underlying23, sz23, by23, ze23, Tryz.underlying24, sz24, by24, ze24, Tryz.underlying26, sz26, by26, ze26, fa26_0, fa26_1, fa26_2, Tryz.underlying37, sz37, by37, ze37, fa37_0, fa37_1, fa37_2, fa37_3, fa37_4, Tryz.underlying40, sz40, by40, ze40, fa40_0, fa40_1, Tryz.underlying42, sz42, by42, ze42, plan0, go_sem, ↓reduceIte, reduceCtorEq, Nat.reduceEqDiff, Nat.reduceLT, ↓all_qV, Int.reduceToNat, Int.reduceLT, Int.reduceLE, Nat.reduceAdd, Nat.reduceLeDiff, Nat.reduceMul, ev_callG, gcallK_b, gcallK_w, callGc_true, callGc_false]
      refine ⟨⟨by omega, hwo⟩, (fun c hc => by simp only [List.mem_cons, List.not_mem_nil, or_false] at hc; rcases hc with rfl | rfl | rfl | rfl | rfl <;> exact ⟨rfl, trivial⟩), rfl, hwn, by simp only [maxLen]; omega, rfl, hwx, by simp only [maxLen]; omega, ⟨by omega, hwo⟩, rfl, fun e he => (hwo e he).symm, by omega, by simp only [maxLen]; omega, i + 1, by omega, by omega, ⟨by simp [fitR, look]; omega, ?_, rfl, rfl, rfl⟩⟩
      rw [hst, k2, List.take_zero, List.drop_zero, insO_nil]
      simp [fitH, hget, opV]
    | succ j =>
      have q1 : decide (0 < ((j + 1 : Nat) : Int)) = true := by simp
      have w2 : IntKind.i64.wrap (((j + 1 : Nat) : Int) - 1) = (j : Int) := by rw [i64_in _ (by omega)]; omega
      have e2 := getD_op (l := out) (i := j) (by omega)
      have hk2 := hom _ (mem_getD' (l := out) (i := j) (by omega))
      have hst2 : insO ⟨o, c, k, y, a⟩ (out.take (j + 1)) = bif ltO ⟨o, c, k, y, a⟩ (out.getD j default) then insO ⟨o, c, k, y, a⟩ (out.take j) ++ [out.getD j default] else out.take j ++ [out.getD j default, ⟨o, c, k, y, a⟩] := by rw [take_succ' (by omega), insO_snoc]
      have hd := drop_cons' (l := out) (i := j) (by omega)
      have ht := take_succ' (l := out) (i := j) (by omega)
      generalize out.getD j default = z at e2 hst2 hd ht hk2
      obtain ⟨o', c', kz, y', a'⟩ := z
      have iop2 : isOp (.agg [.int .i64 o', .int .i64 c', .str kz, .int .i64 y', .int .i64 a']) := ⟨⟨o', c', kz, y', a'⟩, rfl, hk2⟩
      simp only [opV] at e2
      simp only [q1, w2, e2, opOf_agg, befO_lt, List.length_map, hlen, k_rcarS_15, rchkS, on_ll_eq, k_rcarS_29, befOS, on_pp_eq, loadC_eq, List.take_succ_cons, List.take_nil, Tryz.underlying1, sz1, by1, ze1, Tryz.underlying2, sz2, by2, ze2, Tryz.underlying3, sz3, by3, ze3, Tryz.underlying4, sz4, by4, ze4, Tryz.underlying9, sz9, by9, ze9, Tryz.underlying23, sz23, by23, ze23, Tryz.underlying24, sz24, by24, ze24, Tryz.underlying26, sz26, by26, ze26, fa26_0, fa26_1, fa26_2, Tryz.underlying37, sz37, by37, ze37, fa37_0, fa37_1, fa37_2, fa37_3, fa37_4, Tryz.underlying40, sz40, by40, ze40, fa40_0, fa40_1, Tryz.underlying42, sz42, by42, ze42, plan0, go_sem, ↓reduceIte, reduceCtorEq, Nat.reduceEqDiff, Nat.reduceLT, ↓all_qV, Int.reduceToNat, Int.reduceLT, Int.reduceLE, Nat.reduceAdd, Nat.reduceLeDiff, Nat.reduceMul, ev_callG, gcallK_b, gcallK_w, callGc_true, callGc_false]
      refine ⟨by kernel_rfl, ⟨by omega, by omega⟩, ⟨(fun c hc => by simp only [List.mem_cons, List.not_mem_nil, or_false] at hc; rcases hc with rfl | rfl | rfl | rfl | rfl <;> exact ⟨rfl, trivial⟩), iop, iop2⟩, fun h9 => ⟨j, ⟨by omega, ?_⟩, by omega, ⟨by simp [fitR, look], by simp [fitH, hget], rfl, rfl, rfl⟩⟩, fun h9 => ?_⟩
      · rw [k2, hst2, h9, hd]; simp
      refine AWp.perm0 [0, 1, 2, 4, 5, 3, 6, 7, 8, 9, 10, 11] (by kernel_rfl) rfl ?_
      obtain ⟨A, hA⟩ : ∃ A, (out.take (j + 1)).map opV = A := ⟨_, rfl⟩
      obtain ⟨D, hD⟩ : ∃ D, (out.drop (j + 1)).map opV = D := ⟨_, rfl⟩
      have hA1 : (out.map opV).take (j + 1) = A := by rw [← hA]; exact (List.map_take ..).symm
      have hD1 : (out.map opV).drop (j + 1) = D := by rw [← hD]; exact (List.map_drop ..).symm
      have hAl : A.length = j + 1 := by rw [← hA, List.length_map, List.length_take]; omega
      have hDl : D.length = i - (j + 1) := by rw [← hD, List.length_map, List.length_drop]; omega
      have tA : A.take (j + 1) = A := List.take_of_length_le (by omega)
      have tB : ∀ z : PV, (A ++ [z]).take (j + 1 + 1) = A ++ [z] := fun z => List.take_of_length_le (by simp; omega)
      have hwA : ∀ e, e ∈ A → e.cells.length = 5 := fun e he => (hwo e (by rw [← hA1] at he; exact List.mem_of_mem_take he)).symm
      have hwD : ∀ e, e ∈ D → e.cells.length = 5 := fun e he => (hwo e (by rw [← hD1] at he; exact List.mem_of_mem_drop he)).symm
      have lB : ∀ z : PV, (A ++ [z]).length = j + 1 + 1 := fun z => by simp; omega
      simp only [opsOf, List.filterMap_cons, List.filterMap_nil, List.getElem?_toArray, List.getElem?_cons_succ, List.getElem?_cons_zero, hi1, hlen, tki, hA1, hD1, hAl, hDl, tA, tB, lB, List.length_map, k_rcarS_15, rchkS, on_ll_eq, k_rcarS_29, befOS, on_pp_eq, loadC_eq, List.take_succ_cons, List.take_nil, Tryz.underlying1, sz1, by1, ze1, Tryz.underlying2, sz2, by2, ze2, Tryz.underlying3, sz3, by3, ze3, Tryz.underlying4, sz4, by4, ze4, Tryz.underlying9, sz9, by9, ze9, Tryz.underlying23, sz23, by23, ze23, Tryz.underlying24, sz24, by24, ze24, Tryz.underlying26, sz26, by26, ze26, fa26_0, fa26_1, fa26_2, Tryz.underlying37, sz37, by37, ze37, fa37_0, fa37_1, fa37_2, fa37_3, fa37_4, Tryz.underlying40, sz40, by40, ze40, fa40_0, fa40_1, Tryz.underlying42, sz42, by42, ze42, plan0, go_sem, ↓reduceIte, reduceCtorEq, Nat.reduceEqDiff, Nat.reduceLT, ↓all_qV, Int.reduceToNat, Int.reduceLT, Int.reduceLE, Nat.reduceAdd, Nat.reduceLeDiff, Nat.reduceMul, ev_callG, gcallK_b, gcallK_w, callGc_true, callGc_false]
      refine ⟨⟨by omega, by omega, hwo⟩, (fun c hc => by simp only [List.mem_cons, List.not_mem_nil, or_false] at hc; rcases hc with rfl | rfl | rfl | rfl | rfl <;> exact ⟨rfl, trivial⟩), rfl, hwA, by omega, by simp only [maxLen]; omega, rfl, hwx, Nat.le_refl _, by omega, by simp only [maxLen]; omega, ⟨by omega, by omega, hwo⟩, rfl, hwD, Nat.le_refl _, by omega, by simp only [maxLen]; omega, i + 1, by omega, by omega, ⟨by simp [fitR, look]; omega, ?_, rfl, rfl, rfl⟩⟩
      rw [hst, k2, hst2, h9]
      simp [fitH, hget, ← hA, ← hD, ht, opV]
  · have c0 : decide ((i : Int) < (l.length : Int)) = false := by simp; omega
    have hil : i = l.length := by omega
    subst hil
    rw [List.take_length] at hlen ⊢
    have hsr : (isort ltO l).length = l.length := hlen
    have hso : ∀ x, x ∈ isort ltO l → opB x = true ∧ x.k.length ≤ 1000000000000 := fun x hx => ⟨okOs_mem hos x ((mem_isort ltO).1 hx), hl x ((mem_isort ltO).1 hx)⟩
    unfold runC
    generalize isort ltO l = srt at hsr hso ⊢
    simp only [c0, Nat.reduceBEq, List.length_map, k_rcarS_15, rchkS, on_ll_eq, k_rcarS_29, befOS, on_pp_eq, loadC_eq, List.take_succ_cons, List.take_nil, Tryz.underlying1, sz1, by1, ze1, Tryz.underlying2, sz2, by2, ze2, Tryz.underlying3, sz3, by3, ze3, Tryz.underlying4, sz4, by4, ze4, Tryz.underlying9, sz9, by9, ze9, Tryz.underlying23, sz23, by23, ze23, Tryz.underlying24, sz24, by24, ze24, Tryz.underlying26, sz26, by26, ze26, fa26_0, fa26_1, fa26_2, Tryz.underlying37, sz37, by37, ze37, fa37_0, fa37_1, fa37_2, fa37_3, fa37_4, Tryz.underlying40, sz40, by40, ze40, fa40_0, fa40_1, Tryz.underlying42, sz42, by42, ze42, planS, go_sem, ↓reduceIte, reduceCtorEq, Nat.reduceEqDiff, Nat.reduceLT, ↓all_qV, Int.reduceToNat, Int.reduceLT, Int.reduceLE, Nat.reduceAdd, Nat.reduceLeDiff, Nat.reduceMul, ev_callG, gcallK_b, gcallK_w, callGc_true, callGc_false]
    have hwl : ∀ e, e ∈ left.map lfV → e.cells.length = 2 := fun e he => by obtain ⟨z, _, rfl⟩ := List.mem_map.1 he; rfl
    refine ⟨rfl, hwl, by omega, by simp only [maxLen]; omega, ?_⟩
    refine AWp.adoptC (b := 12) (i := 0) (κ := 8001) (k := 5) rfl rfl rfl (by decide) ?_
    refine AWp.adoptC (b := 12) (i := 1) (κ := 8002) (k := 5) rfl rfl rfl (by decide) ?_
    refine AWp.adoptC (b := 12) (i := 2) (κ := 8003) (k := 2) rfl rfl rfl (by decide) ?_
    have hini := restL_init (okLs_pw hls).2
    have honl := onlyK_init left
    have himb : imB (restI left) := by
      intro c
      cases hh : hasK c left with
      | false => rw [honl c hh]; omega
      | true =>
        obtain ⟨y, hy, e⟩ := List.any_eq_true.1 hh
        have e : y.k = c := by simpa using e
        have h2 : (⟨y.k, aget y.k (restI left)⟩ : Lft) ∈ restL (restI left) left := List.mem_map.2 ⟨y, hy, rfl⟩
        rw [hini, e] at h2
        exact okLs_mem hls _ h2
    generalize restI left = m0 at hini honl himb ⊢
    clear hsl hi hi1 hlen c0
    refine AWp.loop (T := plan0) (α := Nat × IM × List Opn × List Opn) (fun z => ([(4, .ptr 4 0), (11, .rs 61 left.length), (12, .ptr 12 0), (62, .pv (.sl (srt.map opV))), (63, .pv (.int .i64 srt.length)), (64, .pv (.int .i64 z.1))],
        [(4, .cells [.nils, .nils, .nils]), (61, .row 2 ((restL z.2.1 left).map lfV)), (12, .cells [.rs 8001 z.2.2.1.length, .rs 8002 z.2.2.2.length, .rs 8003 0]), (8001, .row 5 (z.2.2.1.map opV)), (8002, .row 5 (z.2.2.2.map opV)), (8003, .row 2 [])]))
      (fun z => z.1 ≤ srt.length ∧ z.2 = (srt.take z.1).foldl stepC (m0, [], []) ∧ imB z.2.1 ∧ onlyK z.2.1 left ∧ z.2.2.1.length ≤ z.1 ∧ z.2.2.2.length ≤ z.1) (fun z => srt.length - z.1)
      ⟨(0, m0, [], []), ⟨Nat.zero_le _, rfl, himb, honl, Nat.le_refl _, Nat.le_refl _⟩, ⟨by simp [fitR, look, hsr], by simp [fitH, hget, hset, hini], rfl, rfl, rfl⟩⟩ ?_
    clear himb honl
    rintro ⟨i, m, ca, sh⟩ ⟨g1, g2, g3, g6, g4, g5⟩
    simp only at g1 g2 g3 g4 g5 g6
    have hi1 : IntKind.i64.wrap ((i : Int) + 1) = ((i + 1 : Nat) : Int) := by rw [i64_in _ (by omega)]; omega
    have tk1 : (ca.map opV).take ca.length = ca.map opV := List.take_of_length_le (by simp)
    have tk2 : (sh.map opV).take sh.length = sh.map opV := List.take_of_length_le (by simp)
    by_cases hlt : i < srt.length
    · have c0 : decide ((i : Int) < (srt.length : Int)) = true := by simp; omega
      have e1 := getD_op hlt
      obtain ⟨hob, hkl⟩ := hso _ (mem_getD' hlt)
      have hst : (srt.take (i + 1)).foldl stepC (m0, [], []) = stepC (m, ca, sh) (srt.getD i default) := by
        rw [take_succ' hlt, List.foldl_append, ← g2]; rfl
      generalize srt.getD i default = x at e1 hob hkl hst
      have ham := op_amount hob
      have hcv := cov_le g3 (x := x) (by omega)
      have hrr := g3 x.k
      obtain ⟨o, c, k, y, a⟩ := x
      simp only [stepC] at hst
      have hcf : (if aget k m < a then aget k m else a) = covF m ⟨o, c, k, y, a⟩ := rfl
      generalize covF m ⟨o, c, k, y, a⟩ = cv at hcv hcf hst
      simp only at hcv hrr ham
      have him : imB (aput k (aget k m - cv) m) := imB_put g3 ⟨by omega, by omega⟩
      have hon : onlyK (aput k (aget k m - cv) m) left := by
        intro d hd
        rw [aget_aput]
        split
        · rename_i e
          have e : d = k := by simpa using e
          subst e
          have := g6 d hd
          omega
        · exact g6 d hd
      have hnk : (bif hasK k left then cv else 0) = cv := by
        cases hh : hasK k left with
        | true => rfl
        | false => have := g6 k hh; simp only [cond_false]; omega
      simp only [opV] at e1
      simp only [c0, e1, hi1, List.length_map, k_rcarS_15, rchkS, on_ll_eq, k_rcarS_29, befOS, on_pp_eq, loadC_eq, List.take_succ_cons, List.take_nil, Tryz.underlying1, sz1, by1, ze1, Tryz.underlying2, sz2, by2, ze2, Tryz.underlying3, sz3, by3, ze3, Tryz.underlying4, sz4, by4, ze4, Tryz.underlying9, sz9, by9, ze9, Tryz.underlying23, sz23, by23, ze23, Tryz.underlying24, sz24, by24, ze24, Tryz.underlying26, sz26, by26, ze26, fa26_0, fa26_1, fa26_2, Tryz.underlying37, sz37, by37, ze37, fa37_0, fa37_1, fa37_2, fa37_3, fa37_4, Tryz.underlying40, sz40, by40, ze40, fa40_0, fa40_1, Tryz.underlying42, sz42, by42, ze42, plan0, go_sem, ↓reduceIte, reduceCtorEq, Nat.reduceEqDiff, Nat.reduceLT, ↓all_qV, Int.reduceToNat, Int.reduceLT, Int.reduceLE, Nat.reduceAdd, Nat.reduceLeDiff, Nat.reduceMul, ev_callG, gcallK_b, gcallK_w, callGc_true, callGc_false, List.forall_mem_cons, List.not_mem_nil, PV.one, AV.one]
      obtain ⟨m', hm'⟩ : ∃ m', aput k (aget k m - cv) m = m' := ⟨_, rfl⟩
      rw [hm'] at hst him hon
      have hgm : ∀ d, aget d m' = if d == k then aget k m - cv else aget d m := fun d => by rw [← hm', aget_aput]
      clear hm'
      refine ⟨⟨by omega, by omega⟩, ?_⟩
      refine AWp.loop (T := plan0) (α := Nat) (fun j => ([(4, .ptr 4 0), (11, .rs 61 left.length), (12, .ptr 12 0), (14, .ptr 14 0), (15, .pv (.int .i64 (bif hasK k (left.take j) then cv else 0))), (62, .pv (.sl (srt.map opV))), (63, .pv (.int .i64 srt.length)), (64, .pv (.int .i64 i)), (68, .rs 61 left.length), (69, .pv (.int .i64 left.length)), (70, .pv (.int .i64 j))],
          [(4, .cells [.nils, .nils, .nils]), (61, .row 2 (mixL m m' left j)), (12, .cells [.rs 8001 ca.length, .rs 8002 sh.length, .rs 8003 0]), (14, .cells [.pv (.int .i64 o), .pv (.int .i64 c), .pv (.str k), .pv (.int .i64 y), .pv (.int .i64 a)]), (8001, .row 5 (ca.map opV)), (8002, .row 5 (sh.map opV)), (8003, .row 2 [])]))
        (fun j => j ≤ left.length) (fun j => left.length - j)
        ⟨0, Nat.zero_le _, ⟨by simp [fitR, look, hasK], by simp [fitH, hget, mixL_zero], rfl, rfl, rfl⟩⟩ ?_
      intro j hj
      have hj1 : IntKind.i64.wrap ((j : Int) + 1) = ((j + 1 : Nat) : Int) := by rw [i64_in _ (by omega)]; omega
      by_cases hjt : j < left.length
      · have q0 : decide ((j : Int) < (left.length : Int)) = true := by simp; omega
        have e2 := mixL_get (m := m) (m' := m') hjt
        have e3 := mixL_set (m := m) (m' := m') hjt
        have hml := mixL_len m m' left j
        have hns : hasK k (left.take (j + 1)) = (hasK k (left.take j) || (left.getD j default).k == k) := by rw [take_succ' hjt, hasK_snoc]
        generalize left.getD j default = z at e2 e3 hns
        obtain ⟨kz, az⟩ := z
        have hgz := hgm kz
        simp only [lfV] at e2 e3
        simp only at hns
        generalize mixL m m' left j = R at e2 e3 hml ⊢
        simp only [q0, e2, hj1, boxP, putP, List.length_map, k_rcarS_15, rchkS, on_ll_eq, k_rcarS_29, befOS, on_pp_eq, loadC_eq, List.take_succ_cons, List.take_nil, Tryz.underlying1, sz1, by1, ze1, Tryz.underlying2, sz2, by2, ze2, Tryz.underlying3, sz3, by3, ze3, Tryz.underlying4, sz4, by4, ze4, Tryz.underlying9, sz9, by9, ze9, Tryz.underlying23, sz23, by23, ze23, Tryz.underlying24, sz24, by24, ze24, Tryz.underlying26, sz26, by26, ze26, fa26_0, fa26_1, fa26_2, Tryz.underlying37, sz37, by37, ze37, fa37_0, fa37_1, fa37_2, fa37_3, fa37_4, Tryz.underlying40, sz40, by40, ze40, fa40_0, fa40_1, Tryz.underlying42, sz42, by42, ze42, plan0, go_sem, ↓reduceIte, reduceCtorEq, Nat.reduceEqDiff, Nat.reduceLT, ↓all_qV, Int.reduceToNat, Int.reduceLT, Int.reduceLE, Nat.reduceAdd, Nat.reduceLeDiff, Nat.reduceMul, ev_callG, gcallK_b, gcallK_w, callGc_true, callGc_false, List.forall_mem_cons, List.not_mem_nil, PV.one, AV.one]
        and_intros
        all_goals try first | (show checkD _ _ _ = true; kernel_rfl) | omega | (intros; omega) | rfl | trivial | assumption
        · intro h9
          have h9 : kz = k := by simpa using h9
          subst h9
          have hg : aget kz m' = aget kz m - cv := by rw [hgz, if_pos (by simp)]
          have w1 : IntKind.i64.wrap (aget kz m - cv) = aget kz m - cv := i64_in _ (by omega)
          rw [hg] at e3
          refine ⟨by kernel_rfl, ⟨by omega, by omega⟩, by omega, ⟨by omega, by omega⟩, by omega, ⟨by omega, by omega⟩, by omega, j + 1, by omega, by omega, ⟨by simp [fitR, look, hns, hcf], ?_, rfl, rfl, rfl⟩⟩
          rw [hcf, w1, e3]
          simp [fitH, hget]
        · intro h9
          have hne : ¬ (kz == k) = true := by rw [h9]; simp
          rw [hgz, if_neg hne] at e3
          have hself : R.set j (.agg [.str kz, .int .i64 (aget kz m)]) = R := by
            rw [← e2, List.getD_eq_getElem?_getD, List.getElem?_eq_getElem (by omega)]; exact List.set_getElem_self ..
          rw [hself] at e3
          refine ⟨j + 1, by omega, by omega, ⟨by simp [fitR, look, hns, h9], ?_, rfl, rfl, rfl⟩⟩
          rw [← e3]
          simp [fitH, hget]
      · have q0 : decide ((j : Int) < (left.length : Int)) = false := by simp; omega
        have hjl : j = left.length := by omega
        subst hjl
        rw [List.take_length, hnk, mixL_end]
        have w2 : IntKind.i64.wrap (a - cv) = a - cv := i64_in _ (by omega)
        have hdc : decide (0 < a - cv) = decide (cv < a) := by rw [Bool.eq_iff_iff, decide_eq_true_eq, decide_eq_true_eq]; omega
        rw [hdc] at hst
        simp only [q0, hi1, tk1, tk2, w2, List.length_map, k_rcarS_15, rchkS, on_ll_eq, k_rcarS_29, befOS, on_pp_eq, loadC_eq, List.take_succ_cons, List.take_nil, Tryz.underlying1, sz1, by1, ze1, Tryz.underlying2, sz2, by2, ze2, Tryz.underlying3, sz3, by3, ze3, Tryz.underlying4, sz4, by4, ze4, Tryz.underlying9, sz9, by9, ze9, Tryz.underlying23, sz23, by23, ze23, Tryz.underlying24, sz24, by24, ze24, Tryz.underlying26, sz26, by26, ze26, fa26_0, fa26_1, fa26_2, Tryz.underlying37, sz37, by37, ze37, fa37_0, fa37_1, fa37_2, fa37_3, fa37_4, Tryz.underlying40, sz40, by40, ze40, fa40_0, fa40_1, Tryz.underlying42, sz42, by42, ze42, plan0, go_sem, ↓reduceIte, reduceCtorEq, Nat.reduceEqDiff, Nat.reduceLT, ↓all_qV, Int.reduceToNat, Int.reduceLT, Int.reduceLE, Nat.reduceAdd, Nat.reduceLeDiff, Nat.reduceMul, ev_callG, gcallK_b, gcallK_w, callGc_true, callGc_false, List.forall_mem_cons, List.not_mem_nil, PV.one, AV.one]
        refine ⟨fun c1 => ?_, fun c1 => ?_⟩
        · rw [c1] at hst
          refine ⟨rfl, Nat.le_refl _, by omega, by simp only [maxLen]; omega, fun c2 => ⟨rfl, Nat.le_refl _, by omega, by simp only [maxLen]; omega, (i + 1, _, ca ++ [⟨o, c, k, y, cv⟩], sh ++ [⟨o, c, k, y, a - cv⟩]), ⟨by simp only; omega, by rw [hst, c2]; rfl, him, hon, ?_, ?_⟩, by simp only; omega, ⟨by simp [fitR, look], by simp [fitH, hget, opV], rfl, rfl, rfl⟩⟩,
            fun c2 => ⟨(i + 1, _, ca ++ [⟨o, c, k, y, cv⟩], sh), ⟨by simp only; omega, by rw [hst, c2]; rfl, him, hon, ?_, ?_⟩, by simp only; omega, ⟨by simp [fitR, look], by simp [fitH, hget, opV], rfl, rfl, rfl⟩⟩⟩ <;> simp <;> omega
        · rw [c1] at hst
          refine ⟨fun c2 => ⟨rfl, Nat.le_refl _, by omega, by simp only [maxLen]; omega, (i + 1, _, ca, sh ++ [⟨o, c, k, y, a - cv⟩]), ⟨by simp only; omega, by rw [hst, c2]; rfl, him, hon, ?_, ?_⟩, by simp only; omega, ⟨by simp [fitR, look], by simp [fitH, hget, opV], rfl, rfl, rfl⟩⟩,
            fun c2 => ⟨(i + 1, _, ca, sh), ⟨by simp only; omega, by rw [hst, c2]; rfl, him, hon, ?_, ?_⟩, by simp only; omega, ⟨by simp [fitR, look], by simp [fitH, hget, opV], rfl, rfl, rfl⟩⟩⟩ <;> simp <;> omega
    · have c0 : decide ((i : Int) < (srt.length : Int)) = false := by simp; omega
      rw [List.take_of_length_le (by omega)] at g2
      have hrl : (restL m left).length = left.length := by unfold restL; rw [List.length_map]
      simp only [c0, tk1, tk2, hrl, List.length_map, k_rcarS_15, rchkS, on_ll_eq, k_rcarS_29, befOS, on_pp_eq, loadC_eq, List.take_succ_cons, List.take_nil, Tryz.underlying1, sz1, by1, ze1, Tryz.underlying2, sz2, by2, ze2, Tryz.underlying3, sz3, by3, ze3, Tryz.underlying4, sz4, by4, ze4, Tryz.underlying9, sz9, by9, ze9, Tryz.underlying23, sz23, by23, ze23, Tryz.underlying24, sz24, by24, ze24, Tryz.underlying26, sz26, by26, ze26, fa26_0, fa26_1, fa26_2, Tryz.underlying37, sz37, by37, ze37, fa37_0, fa37_1, fa37_2, fa37_3, fa37_4, Tryz.underlying40, sz40, by40, ze40, fa40_0, fa40_1, Tryz.underlying42, sz42, by42, ze42, plan0, go_sem, ↓reduceIte, reduceCtorEq, Nat.reduceEqDiff, Nat.reduceLT, ↓all_qV, Int.reduceToNat, Int.reduceLT, Int.reduceLE, Nat.reduceAdd, Nat.reduceLeDiff, Nat.reduceMul, ev_callG, gcallK_b, gcallK_w, callGc_true, callGc_false, List.forall_mem_cons, List.not_mem_nil, PV.one, AV.one]
      rw [← g2]
      refine AWp.loop (T := plan0) (α := Nat × List Lft) (fun z => ([(4, .ptr 4 0), (12, .ptr 12 0), (126, .rs 61 left.length), (127, .pv (.int .i64 left.length)), (128, .pv (.int .i64 z.1))],
          [(4, .cells [.nils, .nils, .nils]), (61, .row 2 ((restL m left).map lfV)), (12, .cells [.rs 8001 ca.length, .rs 8002 sh.length, .rs 8003 z.2.length]), (8001, .row 5 (ca.map opV)), (8002, .row 5 (sh.map opV)), (8003, .row 2 (z.2.map lfV))]))
        (fun z => z.1 ≤ left.length ∧ z.2 = lapF m (left.take z.1) ∧ z.2.length ≤ z.1) (fun z => left.length - z.1)
        ⟨(0, []), ⟨Nat.zero_le _, rfl, Nat.le_refl _⟩, ⟨by simp [fitR, look], by simp [fitH, hget, hset], rfl, rfl, rfl⟩⟩ ?_
      clear g1 g2 hi1 c0
      rintro ⟨j, la⟩ ⟨g1, g2, g6⟩
      simp only at g1 g2 g6
      have hi1 : IntKind.i64.wrap ((j : Int) + 1) = ((j + 1 : Nat) : Int) := by rw [i64_in _ (by omega)]; omega
      have tk3 : (la.map lfV).take la.length = la.map lfV := List.take_of_length_le (by simp)
      by_cases hlt : j < left.length
      · have c0 : decide ((j : Int) < (left.length : Int)) = true := by simp; omega
        have e1 := getD_lf (l := restL m left) (i := j) (by omega)
        have e4 : (restL m left).getD j default = ⟨(left.getD j default).k, aget (left.getD j default).k m⟩ := by
          unfold restL
          simp [List.getD_eq_getElem?_getD, hlt]
        rw [e4] at e1
        have hst : lapF m (left.take (j + 1)) = la ++ lapF m [left.getD j default] := by
          rw [take_succ' hlt, lapF_append, ← g2]
        generalize left.getD j default = x at e1 hst
        obtain ⟨k, a⟩ := x
        simp only [lapF] at hst
        simp only [lfV] at e1
        simp only [c0, e1, hi1, tk3, hrl, List.length_map, k_rcarS_15, rchkS, on_ll_eq, k_rcarS_29, befOS, on_pp_eq, loadC_eq, List.take_succ_cons, List.take_nil, Tryz.underlying1, sz1, by1, ze1, Tryz.underlying2, sz2, by2, ze2, Tryz.underlying3, sz3, by3, ze3, Tryz.underlying4, sz4, by4, ze4, Tryz.underlying9, sz9, by9, ze9, Tryz.underlying23, sz23, by23, ze23, Tryz.underlying24, sz24, by24, ze24, Tryz.underlying26, sz26, by26, ze26, fa26_0, fa26_1, fa26_2, Tryz.underlying37, sz37, by37, ze37, fa37_0, fa37_1, fa37_2, fa37_3, fa37_4, Tryz.underlying40, sz40, by40, ze40, fa40_0, fa40_1, Tryz.underlying42, sz42, by42, ze42, plan0, go_sem, ↓reduceIte, reduceCtorEq, Nat.reduceEqDiff, Nat.reduceLT, ↓all_qV, Int.reduceToNat, Int.reduceLT, Int.reduceLE, Nat.reduceAdd, Nat.reduceLeDiff, Nat.reduceMul, ev_callG, gcallK_b, gcallK_w, callGc_true, callGc_false, List.forall_mem_cons, List.not_mem_nil, PV.one, AV.one]
        and_intros
        all_goals try first | (show checkD _ _ _ = true; kernel_rfl) | omega | (intros; omega) | rfl | trivial | assumption
        · intro c1
          rw [c1, cond_true] at hst
          exact ⟨rfl, Nat.le_refl _, by omega, by simp only [maxLen]; omega, (j + 1, la ++ [⟨k, aget k m⟩]), ⟨by simp only; omega, hst.symm, by simp; omega⟩, by simp only; omega, ⟨by simp [fitR, look], by simp [fitH, hget, lfV], rfl, rfl, rfl⟩⟩
        · intro c1
          rw [c1, cond_false, List.append_nil] at hst
          exact ⟨(j + 1, la), ⟨by simp only; omega, hst.symm, by simp only; omega⟩, by simp only; omega, ⟨by simp [fitR, look], by simp [fitH, hget], rfl, rfl, rfl⟩⟩
      · have c0 : decide ((j : Int) < (left.length : Int)) = false := by simp; omega
        rw [List.take_of_length_le (by omega)] at g2
        simp only [c0, tk1, tk2, tk3, List.length_map, k_rcarS_15, rchkS, on_ll_eq, k_rcarS_29, befOS, on_pp_eq, loadC_eq, List.take_succ_cons, List.take_nil, Tryz.underlying1, sz1, by1, ze1, Tryz.underlying2, sz2, by2, ze2, Tryz.underlying3, sz3, by3, ze3, Tryz.underlying4, sz4, by4, ze4, Tryz.underlying9, sz9, by9, ze9, Tryz.underlying23, sz23, by23, ze23, Tryz.underlying24, sz24, by24, ze24, Tryz.underlying26, sz26, by26, ze26, fa26_0, fa26_1, fa26_2, Tryz.underlying37, sz37, by37, ze37, fa37_0, fa37_1, fa37_2, fa37_3, fa37_4, Tryz.underlying40, sz40, by40, ze40, fa40_0, fa40_1, Tryz.underlying42, sz42, by42, ze42, plan0, go_sem, ↓reduceIte, reduceCtorEq, Nat.reduceEqDiff, Nat.reduceLT, ↓all_qV, Int.reduceToNat, Int.reduceLT, Int.reduceLE, Nat.reduceAdd, Nat.reduceLeDiff, Nat.reduceMul, ev_callG, gcallK_b, gcallK_w, callGc_true, callGc_false, List.forall_mem_cons, List.not_mem_nil, PV.one, AV.one]
        and_intros
        all_goals try first | (show checkD _ _ _ = true; kernel_rfl) | omega | (intros; omega) | rfl | trivial | assumption | (rw [g2]; rfl)
noncomputable def V3 (g : FuncId) : PSpec := (putΦ V2 13 rcarS) g
theorem hV3 : TabSound GG V3 := (hV2.put w_rcarS)
end Go.AM
