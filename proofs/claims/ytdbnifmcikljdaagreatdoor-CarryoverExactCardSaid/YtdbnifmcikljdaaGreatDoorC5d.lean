/-
  A part of a proof: see the last text of this claim for what is proved.
-/
import Derived.Test.YtdbnifmcikljdaaGreatDoorC5c
import Derived.Test.YtdbnifmcikljdaaGreatDoorZMa
namespace Go.AM
open Go Go.Proofs Go.IntWalk
set_option maxRecDepth 100000
set_option maxHeartbeats 1000000
set_option linter.unusedSimpArgs false
set_option linter.unusedVariables false
abbrev IM := List (List UInt8 × Int)
def imV (m : IM) : List (PV × PV) := m.map fun p => (PV.str p.1, PV.int .i64 p.2)
def aput (c : List UInt8) (n : Int) : IM → IM
  | [] => [(c, n)]
  | (k, v) :: r => if c == k then (c, n) :: r else (k, v) :: aput c n r
def aget (c : List UInt8) : IM → Int
  | [] => 0
  | (k, v) :: r => if c == k then v else aget c r
theorem mput_imV (c : List UInt8) (n : Int) : ∀ l, mput (.str c) (.int .i64 n) (imV l) = imV (aput c n l)
  | [] => rfl
  | (k, v) :: r => by
    have ih := mput_imV c n r
    show (if (c == k) = true then _ else _) = _
    unfold aput
    by_cases h : (c == k) = true
    · simp only [h, if_true]; rfl
    · simp only [h, Bool.false_eq_true, if_false]; exact congrArg (List.cons _) ih
theorem mget_imV (c : List UInt8) : ∀ l, mval (.int .i64 0) (.str c) (imV l) = .int .i64 (aget c l)
  | [] => rfl
  | (k, v) :: r => by
    have ih := mget_imV c r
    unfold mval at ih ⊢
    show Option.getD (if (c == k) = true then _ else _) _ = _
    unfold aget
    by_cases h : (c == k) = true
    · simp only [h, if_true]; rfl
    · simp only [h, Bool.false_eq_true, if_false]; exact ih
theorem imV_keys {l : IM} : ∀ p, p ∈ imV l → keyKind (some .string) p.1 = true := by
  intro p hp
  unfold imV at hp
  obtain ⟨x, _, rfl⟩ := List.mem_map.1 hp
  rfl
theorem imV_ok {P : Program} {t : TypeId} (h : P.underlying t = some .string) {l : IM} : ∀ p, p ∈ imV l → keyOkB P t p.1 = true := by
  intro p hp
  unfold imV at hp
  obtain ⟨x, _, rfl⟩ := List.mem_map.1 hp
  show keyKind (P.underlying t) (.str x.1) = true
  rw [h]; rfl
theorem aget_aput (c d : List UInt8) (n : Int) : ∀ m, aget d (aput c n m) = if d == c then n else aget d m
  | [] => by simp [aput, aget]
  | (k, v) :: r => by
    have ih := aget_aput c d n r
    unfold aput
    by_cases h1 : c = k
    · subst h1
      simp only [beq_self_eq_true, if_true, aget]
      by_cases h3 : (d == c) = true
      · simp [h3]
      · simp only [h3, Bool.false_eq_true, if_false]
    · have h2 : (c == k) = false := by simpa using h1
      simp only [h2, Bool.false_eq_true, if_false, aget, ih]
      by_cases h3 : d = k
      · subst h3
        have : (d == c) = false := by simpa using fun e => h1 e.symm
        simp only [this, beq_self_eq_true, Bool.false_eq_true, if_true, if_false]
      · have : (d == k) = false := by simpa using h3
        simp only [this, Bool.false_eq_true, if_false]
def ltO (x y : Opn) : Bool := decide (cmpO x y < 0)
theorem sort_map (l : List Opn) : isort ltP (l.map opV) = (isort ltO l).map opV := isort_map opV (fun a b => rfl) l
def covF (m : IM) (x : Opn) : Int := if aget x.k m < x.a then aget x.k m else x.a
def stepC (s : IM × List Opn × List Opn) (x : Opn) : IM × List Opn × List Opn :=
  (aput x.k (aget x.k s.1 - covF s.1 x) s.1,
   bif decide (0 < covF s.1 x) then s.2.1 ++ [{ x with a := covF s.1 x }] else s.2.1,
   bif decide (0 < x.a - covF s.1 x) then s.2.2 ++ [{ x with a := x.a - covF s.1 x }] else s.2.2)
def restI (left : List Lft) : IM := left.foldl (fun m x => aput x.k x.a m) []
def lapF (m : IM) : List Lft → List Lft
  | [] => []
  | x :: r => bif decide (0 < aget x.k m) then ⟨x.k, aget x.k m⟩ :: lapF m r else lapF m r
def runC (l : List Opn) (left : List Lft) : IM × List Opn × List Opn := (isort ltO l).foldl stepC (restI left, [], [])
def carV (a b : List Opn) (c : List Lft) : PV := .agg [.sl (a.map opV), .sl (b.map opV), .sl (c.map lfV)]
def carF (l : List Opn) (left : List Lft) : PV :=
  bif chkF l left != 0 then .tup [carV [] [] [], .int .i64 (chkF l left)] else .tup [carV (runC l left).2.1 (runC l left).2.2 (lapF (runC l left).1 left), .int .i64 0]
theorem lapF_append (m : IM) (a b : List Lft) : lapF m (a ++ b) = lapF m a ++ lapF m b := by
  induction a with
  | nil => rfl
  | cons x r ih =>
    simp only [List.cons_append, lapF, ih]
    cases decide (0 < aget x.k m) <;> rfl
def imB (m : IM) : Prop := ∀ c, 0 ≤ aget c m ∧ aget c m ≤ 1000000000000000
theorem imB_put {m : IM} (h : imB m) {c : List UInt8} {n : Int} (hn : 0 ≤ n ∧ n ≤ 1000000000000000) : imB (aput c n m) := by
  intro d
  rw [aget_aput]
  split
  · exact hn
  · exact h d
theorem cov_le {m : IM} (h : imB m) {x : Opn} (hx : 0 ≤ x.a) : 0 ≤ covF m x ∧ covF m x ≤ x.a ∧ covF m x ≤ aget x.k m := by
  have := h x.k
  unfold covF
  split <;> omega
theorem okOs_mem {y0 : Int} : ∀ {l seen : List Opn}, okOs y0 seen l = true → ∀ x, x ∈ l → opB x = true
  | [], _, _, x, hx => by cases hx
  | y :: r, seen, h, x, hx => by
    unfold okOs at h
    simp only [Bool.and_eq_true] at h
    rcases List.mem_cons.1 hx with rfl | hx
    · exact h.1.1.1
    · exact okOs_mem h.2 x hx
theorem okLs_mem : ∀ {l : List Lft} {pr : Option (List UInt8)}, okLs pr l = true → ∀ x, x ∈ l → 0 ≤ x.a ∧ x.a ≤ 1000000000000000
  | [], _, _, x, hx => by cases hx
  | y :: r, pr, h, x, hx => by
    rw [okLs_cons] at h
    simp only [Bool.and_eq_true, amg, decide_eq_true_eq] at h
    rcases List.mem_cons.1 hx with rfl | hx
    · exact h.1.1.2
    · exact okLs_mem h.2 x hx
theorem chk_ok {l : List Opn} {left : List Lft} (h : chkF l left = 0) : l.length ≤ 60 ∧ left.length ≤ 60 ∧ okOs (l.headD default).y [] l = true ∧ okLs none left = true := by
  unfold chkF at h
  cases h1 : (decide (60 < (l.length : Int)) || decide (60 < (left.length : Int))) with
  | true => rw [h1] at h; cases h
  | false =>
    rw [h1, cond_false] at h
    cases h2 : (okOs (l.headD default).y [] l && okLs none left) with
    | false => rw [h2] at h; cases h
    | true =>
      simp only [Bool.or_eq_false_iff, decide_eq_false_iff_not] at h1
      simp only [Bool.and_eq_true] at h2
      exact ⟨by omega, by omega, h2.1, h2.2⟩
theorem op_amount {x : Opn} (h : opB x = true) : 1 ≤ x.a ∧ x.a ≤ 1000000000000 := by
  unfold opB at h
  simp only [Bool.and_eq_true, vldM, decide_eq_true_eq] at h
  omega
def isOps (l : List Opn) : Prop := ∀ x, x ∈ l → x.k.length ≤ 1000000000000
def isLfs (l : List Lft) : Prop := ∀ x, x ∈ l → x.k.length ≤ 1000000000000
noncomputable def carryS : PSpec := on_ll (fun a b => (∃ l : List Opn, a = l.map opV ∧ isOps l) ∧ (∃ l : List Lft, b = l.map lfV ∧ isLfs l) ∧ a.length ≤ 12 ∧ b.length ≤ 1000000000000)
  (fun a b => carF (a.map opOf) (b.map lfOf))
theorem isOp_map {l : List Opn} (h : isOps l) : ∀ e, e ∈ l.map opV → isOp e := by
  intro e he
  obtain ⟨x, hx, rfl⟩ := List.mem_map.1 he
  exact ⟨x, rfl, h x hx⟩
theorem opV_one {l : List Opn} : ∀ e, e ∈ l.map opV → e.width = 5 ∧ e.cells.all PV.one = true := by
  intro e he
  obtain ⟨x, hx, rfl⟩ := List.mem_map.1 he
  exact ⟨rfl, rfl⟩
theorem k_carryS_14 {args : List PV} : U5 14 args = checkS args := rfl
theorem k_carryS_28 {args : List PV} : U5 28 args = compareS args := rfl
theorem w_carryS : PSound GG 12 carryS := by
  refine PSound.of_wpc (C := cxQ Tryz.prog U5 noΘ Ψs4 [] [] 112) (T := plan0) Tryz.func12 rfl rfl rfl (Fit.all (G := GG) hU5 hnoΘ hΨs4 mixed) (fun args h => ?_)
  unfold carryS at h
  obtain ⟨p, q, rfl, ⟨l, rfl, hl⟩, ⟨left, rfl, hf⟩, hn, hm⟩ := on_ll_inv h
  refine ⟨by simp [cxQ], ?_⟩
  simp only [List.length_map] at hn hm
  simp only [map_opOf, map_lfOf, carryS, on_ll_eq, List.length_map, k_carryS_14, checkS, on_ll_eq, k_carryS_28, compareS, on_pp_eq, loadC_eq, Ψs4, Ψs3, Ψs2, Ψs1, psiRow_eq, psiPut_eq, all_sl, cloneQ, on_l_eq, sortP_eq, List.take_succ_cons, List.take_nil, Tryz.underlying1, sz1, by1, ze1, Tryz.underlying2, sz2, by2, ze2, Tryz.underlying3, sz3, by3, ze3, Tryz.underlying4, sz4, by4, ze4, Tryz.underlying9, sz9, by9, ze9, Tryz.underlying23, sz23, by23, ze23, Tryz.underlying24, sz24, by24, ze24, Tryz.underlying26, sz26, by26, ze26, fa26_0, fa26_1, fa26_2, Tryz.underlying37, sz37, by37, ze37, fa37_0, fa37_1, fa37_2, fa37_3, fa37_4, Tryz.underlying40, sz40, by40, ze40, fa40_0, fa40_1, Tryz.underlying42, sz42, by42, ze42, Tryz.underlying63, sz63, by63, ze63, Tryz.underlying66, sz66, by66, ze66, plan0, Tryz.f12, argL, go_sem, ↓reduceIte, reduceCtorEq, Nat.reduceEqDiff, Nat.reduceLT, ↓all_qV, Int.reduceToNat, Int.reduceLT, Int.reduceLE, Nat.reduceAdd, Nat.reduceLeDiff, Nat.reduceMul, ev_callG, gcallK_b, gcallK_w, callGc_true, callGc_false, List.forall_mem_cons, List.not_mem_nil, PV.one, AV.one]
  have hk0 : keyKind (some TypeDesc.string) (PV.str []) = true := rfl
  refine ⟨⟨⟨l, rfl, hl⟩, ⟨left, rfl, hf⟩, by omega, hm⟩, fun h1 => ?_, fun h1 => ?_⟩
  · unfold carF
    rw [h1]
    rfl
  have hc0 : chkF l left = 0 := by simpa using h1
  obtain ⟨hn6, hm6, hos, hls⟩ := chk_ok hc0
  have hres : carF l left = .tup [carV (runC l left).2.1 (runC l left).2.2 (lapF (runC l left).1 left), .int .i64 0] := by unfold carF; rw [h1]; rfl
  rw [hres]
  clear h1 hres h
  refine AWp.loop (T := plan0) (α := Nat) (fun i => ([(0, .pv (.sl (l.map opV))), (1, .pv (.sl (left.map lfV))), (4, .ptr 4 0), (7, .mp 26), (27, .pv (.sl (left.map lfV))), (28, .pv (.int .i64 left.length)), (29, .pv (.int .i64 i))], [(4, .cells [.nils, .nils, .nils]), (26, .map (imV (restI (left.take i))))]))
    (fun i => i ≤ left.length ∧ imB (restI (left.take i))) (fun i => left.length - i)
    ⟨0, ⟨Nat.zero_le _, fun c => by simp [restI, aget]⟩, ⟨by simp [fitR, look], by simp [fitH, hget, imV, restI], rfl, rfl, rfl⟩⟩ ?_
  rintro i ⟨g1, g2⟩
  have hi1 : IntKind.i64.wrap ((i : Int) + 1) = ((i + 1 : Nat) : Int) := by rw [i64_in _ (by omega)]; omega
  by_cases hlt : i < left.length
  · have c0 : decide ((i : Int) < (left.length : Int)) = true := by simp; omega
    have e1 := getD_lf hlt
    have hrg := okLs_mem hls _ (mem_getD' hlt)
    have htk : restI (left.take (i + 1)) = aput (left.getD i default).k (left.getD i default).a (restI (left.take i)) := by
      rw [take_succ' hlt]; unfold restI; rw [List.foldl_append]; rfl
    generalize restI (left.take i) = m at g2 htk ⊢
    generalize left.getD i default = x at e1 hrg htk
    obtain ⟨k, a⟩ := x
    have hmp := mput_imV k a m
    have hks := @imV_keys m
    simp only [lfV] at e1
    simp only [c0, e1, hi1, hmp, List.length_map, List.take_succ_cons, List.take_nil, k_carryS_14, checkS, on_ll_eq, k_carryS_28, compareS, on_pp_eq, loadC_eq, Ψs4, Ψs3, Ψs2, Ψs1, psiRow_eq, psiPut_eq, all_sl, cloneQ, on_l_eq, sortP_eq, List.take_succ_cons, List.take_nil, Tryz.underlying1, sz1, by1, ze1, Tryz.underlying2, sz2, by2, ze2, Tryz.underlying3, sz3, by3, ze3, Tryz.underlying4, sz4, by4, ze4, Tryz.underlying9, sz9, by9, ze9, Tryz.underlying23, sz23, by23, ze23, Tryz.underlying24, sz24, by24, ze24, Tryz.underlying26, sz26, by26, ze26, fa26_0, fa26_1, fa26_2, Tryz.underlying37, sz37, by37, ze37, fa37_0, fa37_1, fa37_2, fa37_3, fa37_4, Tryz.underlying40, sz40, by40, ze40, fa40_0, fa40_1, Tryz.underlying42, sz42, by42, ze42, Tryz.underlying63, sz63, by63, ze63, Tryz.underlying66, sz66, by66, ze66, plan0, go_sem, ↓reduceIte, reduceCtorEq, Nat.reduceEqDiff, Nat.reduceLT, ↓all_qV, Int.reduceToNat, Int.reduceLT, Int.reduceLE, Nat.reduceAdd, Nat.reduceLeDiff, Nat.reduceMul, ev_callG, gcallK_b, gcallK_w, callGc_true, callGc_false, List.forall_mem_cons, List.not_mem_nil, PV.one, AV.one]
    and_intros
    all_goals try first | (show checkD _ _ _ = true; kernel_rfl) | omega | (intros; omega) | rfl | trivial | assumption
    · exact imV_ok Tryz.underlying9
    · exact ⟨i + 1, ⟨by omega, by rw [htk]; exact imB_put g2 hrg⟩, by omega, ⟨by simp [fitR, look], by rw [htk]; simp [fitH, hget], rfl, rfl, rfl⟩⟩
  · have c0 : decide ((i : Int) < (left.length : Int)) = false := by simp; omega
    rw [List.take_of_length_le (by omega)] at g2 ⊢
    have hsl := isort_length ltP (l.map opV)
    rw [List.length_map] at hsl
    simp only [c0, sort_map, List.length_map, k_carryS_14, checkS, on_ll_eq, k_carryS_28, compareS, on_pp_eq, loadC_eq, Ψs4, Ψs3, Ψs2, Ψs1, psiRow_eq, psiPut_eq, all_sl, cloneQ, on_l_eq, sortP_eq, List.take_succ_cons, List.take_nil, Tryz.underlying1, sz1, by1, ze1, Tryz.underlying2, sz2, by2, ze2, Tryz.underlying3, sz3, by3, ze3, Tryz.underlying4, sz4, by4, ze4, Tryz.underlying9, sz9, by9, ze9, Tryz.underlying23, sz23, by23, ze23, Tryz.underlying24, sz24, by24, ze24, Tryz.underlying26, sz26, by26, ze26, fa26_0, fa26_1, fa26_2, Tryz.underlying37, sz37, by37, ze37, fa37_0, fa37_1, fa37_2, fa37_3, fa37_4, Tryz.underlying40, sz40, by40, ze40, fa40_0, fa40_1, Tryz.underlying42, sz42, by42, ze42, Tryz.underlying63, sz63, by63, ze63, Tryz.underlying66, sz66, by66, ze66, plan0, go_sem, ↓reduceIte, reduceCtorEq, Nat.reduceEqDiff, Nat.reduceLT, ↓all_qV, Int.reduceToNat, Int.reduceLT, Int.reduceLE, Nat.reduceAdd, Nat.reduceLeDiff, Nat.reduceMul, ev_callG, gcallK_b, gcallK_w, callGc_true, callGc_false, List.forall_mem_cons, List.not_mem_nil, PV.one, AV.one]
    refine ⟨⟨opV_one, by omega⟩, ⟨by omega, isOp_map hl⟩, isort_length _ _, ?_⟩
    have hsr : (isort ltO l).length = l.length := isort_length _ _
    have hso : ∀ x, x ∈ isort ltO l → opB x = true ∧ x.k.length ≤ 1000000000000 := fun x hx => ⟨okOs_mem hos x ((mem_isort ltO).1 hx), hl x ((mem_isort ltO).1 hx)⟩
    unfold runC
    generalize isort ltO l = srt at hsr hso ⊢
    generalize restI left = m0 at g2 ⊢
    clear g1 hi1 c0 hsl
    refine AWp.adoptC (b := 11) (i := 0) (κ := 8001) (k := 5) rfl rfl rfl (by decide) ?_
    refine AWp.adoptC (b := 11) (i := 1) (κ := 8002) (k := 5) rfl rfl rfl (by decide) ?_
    refine AWp.adoptC (b := 11) (i := 2) (κ := 8003) (k := 2) rfl rfl rfl (by decide) ?_
    refine AWp.loop (T := plan0) (α := Nat × IM × List Opn × List Opn) (fun z => ([(1, .pv (.sl (left.map lfV))), (4, .ptr 4 0), (7, .mp 26), (11, .ptr 11 0), (43, .rs 40 srt.length), (44, .pv (.int .i64 srt.length)), (45, .pv (.int .i64 z.1))],
        [(4, .cells [.nils, .nils, .nils]), (26, .map (imV z.2.1)), (40, .row 5 (srt.map opV)), (11, .cells [.rs 8001 z.2.2.1.length, .rs 8002 z.2.2.2.length, .rs 8003 0]), (8001, .row 5 (z.2.2.1.map opV)), (8002, .row 5 (z.2.2.2.map opV)), (8003, .row 2 [])]))
      (fun z => z.1 ≤ srt.length ∧ z.2 = (srt.take z.1).foldl stepC (m0, [], []) ∧ imB z.2.1 ∧ z.2.2.1.length ≤ z.1 ∧ z.2.2.2.length ≤ z.1) (fun z => srt.length - z.1)
      ⟨(0, m0, [], []), ⟨Nat.zero_le _, rfl, g2, Nat.le_refl _, Nat.le_refl _⟩, ⟨by simp [fitR, look, hsr], by simp [fitH, hget, hset], rfl, rfl, rfl⟩⟩ ?_
    clear g2
    rintro ⟨i, m, ca, sh⟩ ⟨g1, g2, g3, g4, g5⟩
    simp only at g1 g2 g3 g4 g5
    have hi1 : IntKind.i64.wrap ((i : Int) + 1) = ((i + 1 : Nat) : Int) := by rw [i64_in _ (by omega)]; omega
    have tk1 : (ca.map opV).take ca.length = ca.map opV := List.take_of_length_le (by simp)
    have tk2 : (sh.map opV).take sh.length = sh.map opV := List.take_of_length_le (by simp)
    by_cases hlt : i < srt.length
    · have c0 : decide ((i : Int) < (srt.length : Int)) = true := by simp; omega
      have e1 := getD_op hlt
      obtain ⟨hob, hkl⟩ := hso _ (mem_getD' hlt)
      have hst : (srt.take (i + 1)).foldl stepC (m0, [], []) = stepC (m, ca, sh) (srt.getD i default) := by
        rw [take_succ' hlt, List.foldl_append, ← g2]; rfl
      generalize srt.getD i default = x at e1 hob hkl hst
      have ham := op_amount hob
      have hcv := cov_le g3 (x := x) (by omega)
      have hrr := g3 x.k
      obtain ⟨o, c, k, y, a⟩ := x
      simp only [stepC] at hst
      have hcf : (if aget k m < a then aget k m else a) = covF m ⟨o, c, k, y, a⟩ := rfl
      generalize covF m ⟨o, c, k, y, a⟩ = cv at hcv hcf hst
      have hmg := mget_imV k m
      have hmp := mput_imV k (aget k m - cv) m
      have w1 : IntKind.i64.wrap (aget k m - cv) = aget k m - cv := i64_in _ (by simp only at hcv hrr; omega)
      have w2 : IntKind.i64.wrap (a - cv) = a - cv := i64_in _ (by simp only at hcv ham; omega)
      have hks := imV_ok (P := Tryz.prog) (l := m) Tryz.underlying9
      simp only [opV] at e1
      simp only [c0, e1, hi1, hmg, hcf, w1, hmp, w2, tk1, tk2, List.length_map, k_carryS_14, checkS, on_ll_eq, k_carryS_28, compareS, on_pp_eq, loadC_eq, Ψs4, Ψs3, Ψs2, Ψs1, psiRow_eq, psiPut_eq, all_sl, cloneQ, on_l_eq, sortP_eq, List.take_succ_cons, List.take_nil, Tryz.underlying1, sz1, by1, ze1, Tryz.underlying2, sz2, by2, ze2, Tryz.underlying3, sz3, by3, ze3, Tryz.underlying4, sz4, by4, ze4, Tryz.underlying9, sz9, by9, ze9, Tryz.underlying23, sz23, by23, ze23, Tryz.underlying24, sz24, by24, ze24, Tryz.underlying26, sz26, by26, ze26, fa26_0, fa26_1, fa26_2, Tryz.underlying37, sz37, by37, ze37, fa37_0, fa37_1, fa37_2, fa37_3, fa37_4, Tryz.underlying40, sz40, by40, ze40, fa40_0, fa40_1, Tryz.underlying42, sz42, by42, ze42, Tryz.underlying63, sz63, by63, ze63, Tryz.underlying66, sz66, by66, ze66, plan0, go_sem, ↓reduceIte, reduceCtorEq, Nat.reduceEqDiff, Nat.reduceLT, ↓all_qV, Int.reduceToNat, Int.reduceLT, Int.reduceLE, Nat.reduceAdd, Nat.reduceLeDiff, Nat.reduceMul, ev_callG, gcallK_b, gcallK_w, callGc_true, callGc_false, List.forall_mem_cons, List.not_mem_nil, PV.one, AV.one]
      simp only at hcv hrr
      have him : imB (aput k (aget k m - cv) m) := imB_put g3 ⟨by omega, by omega⟩
      and_intros
      all_goals try first | (show checkD _ _ _ = true; kernel_rfl) | omega | (intros; omega) | rfl | trivial | assumption
      · intro c1
        rw [c1] at hst
        refine ⟨rfl, Nat.le_refl _, by omega, by simp only [maxLen]; omega, fun c2 => ⟨rfl, Nat.le_refl _, by omega, by simp only [maxLen]; omega, (i + 1, _, ca ++ [⟨o, c, k, y, cv⟩], sh ++ [⟨o, c, k, y, a - cv⟩]), ⟨by simp only; omega, by rw [hst, c2]; rfl, him, ?_, ?_⟩, by simp only; omega, ⟨by simp [fitR, look], by simp [fitH, hget, opV], rfl, rfl, rfl⟩⟩,
          fun c2 => ⟨(i + 1, _, ca ++ [⟨o, c, k, y, cv⟩], sh), ⟨by simp only; omega, by rw [hst, c2]; rfl, him, ?_, ?_⟩, by simp only; omega, ⟨by simp [fitR, look], by simp [fitH, hget, opV], rfl, rfl, rfl⟩⟩⟩ <;> simp <;> omega
      · intro c1
        rw [c1] at hst
        refine ⟨fun c2 => ⟨rfl, Nat.le_refl _, by omega, by simp only [maxLen]; omega, (i + 1, _, ca, sh ++ [⟨o, c, k, y, a - cv⟩]), ⟨by simp only; omega, by rw [hst, c2]; rfl, him, ?_, ?_⟩, by simp only; omega, ⟨by simp [fitR, look], by simp [fitH, hget, opV], rfl, rfl, rfl⟩⟩,
          fun c2 => ⟨(i + 1, _, ca, sh), ⟨by simp only; omega, by rw [hst, c2]; rfl, him, ?_, ?_⟩, by simp only; omega, ⟨by simp [fitR, look], by simp [fitH, hget, opV], rfl, rfl, rfl⟩⟩⟩ <;> simp <;> omega
    · have c0 : decide ((i : Int) < (srt.length : Int)) = false := by simp; omega
      rw [List.take_of_length_le (by omega)] at g2
      simp only [c0, tk1, tk2, List.length_map, k_carryS_14, checkS, on_ll_eq, k_carryS_28, compareS, on_pp_eq, loadC_eq, Ψs4, Ψs3, Ψs2, Ψs1, psiRow_eq, psiPut_eq, all_sl, cloneQ, on_l_eq, sortP_eq, List.take_succ_cons, List.take_nil, Tryz.underlying1, sz1, by1, ze1, Tryz.underlying2, sz2, by2, ze2, Tryz.underlying3, sz3, by3, ze3, Tryz.underlying4, sz4, by4, ze4, Tryz.underlying9, sz9, by9, ze9, Tryz.underlying23, sz23, by23, ze23, Tryz.underlying24, sz24, by24, ze24, Tryz.underlying26, sz26, by26, ze26, fa26_0, fa26_1, fa26_2, Tryz.underlying37, sz37, by37, ze37, fa37_0, fa37_1, fa37_2, fa37_3, fa37_4, Tryz.underlying40, sz40, by40, ze40, fa40_0, fa40_1, Tryz.underlying42, sz42, by42, ze42, Tryz.underlying63, sz63, by63, ze63, Tryz.underlying66, sz66, by66, ze66, plan0, go_sem, ↓reduceIte, reduceCtorEq, Nat.reduceEqDiff, Nat.reduceLT, ↓all_qV, Int.reduceToNat, Int.reduceLT, Int.reduceLE, Nat.reduceAdd, Nat.reduceLeDiff, Nat.reduceMul, ev_callG, gcallK_b, gcallK_w, callGc_true, callGc_false, List.forall_mem_cons, List.not_mem_nil, PV.one, AV.one]
      rw [← g2]
      refine AWp.loop (T := plan0) (α := Nat × List Lft) (fun z => ([(4, .ptr 4 0), (7, .mp 26), (11, .ptr 11 0), (89, .pv (.sl (left.map lfV))), (90, .pv (.int .i64 left.length)), (91, .pv (.int .i64 z.1))],
          [(4, .cells [.nils, .nils, .nils]), (26, .map (imV m)), (11, .cells [.rs 8001 ca.length, .rs 8002 sh.length, .rs 8003 z.2.length]), (8001, .row 5 (ca.map opV)), (8002, .row 5 (sh.map opV)), (8003, .row 2 (z.2.map lfV))]))
        (fun z => z.1 ≤ left.length ∧ z.2 = lapF m (left.take z.1) ∧ z.2.length ≤ z.1) (fun z => left.length - z.1)
        ⟨(0, []), ⟨Nat.zero_le _, rfl, Nat.le_refl _⟩, ⟨by simp [fitR, look], by simp [fitH, hget, hset], rfl, rfl, rfl⟩⟩ ?_
      clear g1 g2 hi1 c0
      rintro ⟨j, la⟩ ⟨g1, g2, g6⟩
      simp only at g1 g2 g6
      have hi1 : IntKind.i64.wrap ((j : Int) + 1) = ((j + 1 : Nat) : Int) := by rw [i64_in _ (by omega)]; omega
      have tk3 : (la.map lfV).take la.length = la.map lfV := List.take_of_length_le (by simp)
      by_cases hlt : j < left.length
      · have c0 : decide ((j : Int) < (left.length : Int)) = true := by simp; omega
        have e1 := getD_lf hlt
        have hst : lapF m (left.take (j + 1)) = la ++ lapF m [left.getD j default] := by
          rw [take_succ' hlt, lapF_append, ← g2]
        generalize left.getD j default = x at e1 hst
        obtain ⟨k, a⟩ := x
        simp only [lapF] at hst
        have hmg := mget_imV k m
        have hks := imV_ok (P := Tryz.prog) (l := m) Tryz.underlying9
        simp only [lfV] at e1
        simp only [c0, e1, hi1, hmg, tk3, List.length_map, k_carryS_14, checkS, on_ll_eq, k_carryS_28, compareS, on_pp_eq, loadC_eq, Ψs4, Ψs3, Ψs2, Ψs1, psiRow_eq, psiPut_eq, all_sl, cloneQ, on_l_eq, sortP_eq, List.take_succ_cons, List.take_nil, Tryz.underlying1, sz1, by1, ze1, Tryz.underlying2, sz2, by2, ze2, Tryz.underlying3, sz3, by3, ze3, Tryz.underlying4, sz4, by4, ze4, Tryz.underlying9, sz9, by9, ze9, Tryz.underlying23, sz23, by23, ze23, Tryz.underlying24, sz24, by24, ze24, Tryz.underlying26, sz26, by26, ze26, fa26_0, fa26_1, fa26_2, Tryz.underlying37, sz37, by37, ze37, fa37_0, fa37_1, fa37_2, fa37_3, fa37_4, Tryz.underlying40, sz40, by40, ze40, fa40_0, fa40_1, Tryz.underlying42, sz42, by42, ze42, Tryz.underlying63, sz63, by63, ze63, Tryz.underlying66, sz66, by66, ze66, plan0, go_sem, ↓reduceIte, reduceCtorEq, Nat.reduceEqDiff, Nat.reduceLT, ↓all_qV, Int.reduceToNat, Int.reduceLT, Int.reduceLE, Nat.reduceAdd, Nat.reduceLeDiff, Nat.reduceMul, ev_callG, gcallK_b, gcallK_w, callGc_true, callGc_false, List.forall_mem_cons, List.not_mem_nil, PV.one, AV.one]
        and_intros
        all_goals try first | (show checkD _ _ _ = true; kernel_rfl) | omega | (intros; omega) | rfl | trivial | assumption
        · intro c1
          rw [c1, cond_true] at hst
          exact ⟨rfl, Nat.le_refl _, by omega, by simp only [maxLen]; omega, (j + 1, la ++ [⟨k, aget k m⟩]), ⟨by simp only; omega, hst.symm, by simp; omega⟩, by simp only; omega, ⟨by simp [fitR, look], by simp [fitH, hget, lfV], rfl, rfl, rfl⟩⟩
        · intro c1
          rw [c1, cond_false, List.append_nil] at hst
          exact ⟨(j + 1, la), ⟨by simp only; omega, hst.symm, by simp only; omega⟩, by simp only; omega, ⟨by simp [fitR, look], by simp [fitH, hget], rfl, rfl, rfl⟩⟩
      · have c0 : decide ((j : Int) < (left.length : Int)) = false := by simp; omega
        rw [List.take_of_length_le (by omega)] at g2
        simp only [c0, tk1, tk2, tk3, List.length_map, k_carryS_14, checkS, on_ll_eq, k_carryS_28, compareS, on_pp_eq, loadC_eq, Ψs4, Ψs3, Ψs2, Ψs1, psiRow_eq, psiPut_eq, all_sl, cloneQ, on_l_eq, sortP_eq, List.take_succ_cons, List.take_nil, Tryz.underlying1, sz1, by1, ze1, Tryz.underlying2, sz2, by2, ze2, Tryz.underlying3, sz3, by3, ze3, Tryz.underlying4, sz4, by4, ze4, Tryz.underlying9, sz9, by9, ze9, Tryz.underlying23, sz23, by23, ze23, Tryz.underlying24, sz24, by24, ze24, Tryz.underlying26, sz26, by26, ze26, fa26_0, fa26_1, fa26_2, Tryz.underlying37, sz37, by37, ze37, fa37_0, fa37_1, fa37_2, fa37_3, fa37_4, Tryz.underlying40, sz40, by40, ze40, fa40_0, fa40_1, Tryz.underlying42, sz42, by42, ze42, Tryz.underlying63, sz63, by63, ze63, Tryz.underlying66, sz66, by66, ze66, plan0, go_sem, ↓reduceIte, reduceCtorEq, Nat.reduceEqDiff, Nat.reduceLT, ↓all_qV, Int.reduceToNat, Int.reduceLT, Int.reduceLE, Nat.reduceAdd, Nat.reduceLeDiff, Nat.reduceMul, ev_callG, gcallK_b, gcallK_w, callGc_true, callGc_false, List.forall_mem_cons, List.not_mem_nil, PV.one, AV.one]
        and_intros
        all_goals try first | (show checkD _ _ _ = true; kernel_rfl) | omega | (intros; omega) | rfl | trivial | assumption
        rw [g2]; rfl
noncomputable def U6 (g : FuncId) : PSpec := (putΦ U5 12 carryS) g
theorem hU6 : TabSound GG U6 := (hU5.put w_carryS)
end Go.AM
