/-
  A part of a proof: see the last text of this claim for what is proved.
-/
import Derived.Test.YtdbnifmcikljdaaGreatDoorDB
import Derived.Test.YtdbnifmcikljdaaGreatDoorSLa
import Derived.Test.YtdbnifmcikljdaaGreatDoorPP
import Derived.Test.YtdbnifmcikljdaaGreatDoorZMa
namespace Go.AM
open Go Go.Proofs Go.IntWalk
set_option maxRecDepth 100000
set_option maxHeartbeats 1000000
set_option linter.unusedSimpArgs false
set_option linter.unusedVariables false
theorem cmpC_L {a b : List UInt8} (h : 0 < (partsR a).length) : cmpC a b = cmpL (partsR a) (partsR b) := by
  unfold cmpC
  have : (((partsR a).length : Int) == 0) = false := by simp; intro e; rw [e] at h; simp at h
  rw [this]; rfl
theorem ltO_iff {x y : Opn} (h : 0 < (partsR x.k).length) : cmpO x y < 0 ↔ (cmpL (partsR x.k) (partsR y.k) < 0 ∨ (cmpL (partsR x.k) (partsR y.k) = 0 ∧ (x.o < y.o ∨ (x.o = y.o ∧ x.c < y.c)))) := by
  unfold cmpO
  rw [cmpC_L h]
  generalize cmpL (partsR x.k) (partsR y.k) = A
  unfold cmpI
  simp only [orF]
  by_cases h0 : A = 0
  · subst h0
    by_cases h4 : x.o < y.o
    · simp [h4]
    by_cases h5 : y.o < x.o
    · simp [h4, h5]; omega
    have h6 : x.o = y.o := by omega
    by_cases h7 : x.c < y.c
    · simp [h6, h7]
    by_cases h8 : y.c < x.c
    · simp [h6, h7, h8]
    · simp [h6, h7, h8]
  · have : (A != 0) = true := by simpa using h0
    rw [this]
    simp [h0]
def cfO (e d : PV) : Int := cmpO (opOf e) (opOf d)
theorem w_sortG : ESound GG 27 (psiPut 5 (sortFP 28 ltP isE)) := by
  have h := ESound.of_sortFunc (G := GG) lSort 5 (by decide) (fun w => Tryz.isAgg37 w) (fun w => Tryz.sizeOf37 w) ⟨_, Tryz.func27, by kernel_rfl, by kernel_rfl⟩
    (c := 28) (φc := compareS) w_compareS ⟨_, Tryz.func28, by kernel_rfl, by kernel_rfl⟩ (cf := cfO) (OK := isE)
    (fun x y hx hy => by
      obtain ⟨x, rfl, hx1, hx2⟩ := hx
      obtain ⟨y, rfl, hy1, hy2⟩ := hy
      exact ⟨⟨⟨x, rfl, hx1⟩, ⟨y, rfl, hy1⟩⟩, rfl⟩)
    (fun x hx => by
      obtain ⟨⟨o, c, k, y, a⟩, rfl, _, _⟩ := hx
      exact ⟨_, rfl, rfl, by simp [PV.one]⟩)
    (fun x hx => by
      obtain ⟨x, rfl, _, h2⟩ := hx
      show ¬ cmpO x x < 0
      rw [ltO_iff h2]
      have := cmpL_neg (partsR x.k) (partsR x.k)
      omega)
    (fun x y z hx hy hz h1 h2 => by
      obtain ⟨x, rfl, _, hx2⟩ := hx
      obtain ⟨y, rfl, _, hy2⟩ := hy
      obtain ⟨z, rfl, _, hz2⟩ := hz
      have h1 : cmpO x y < 0 := h1
      have h2 : cmpO y z < 0 := h2
      show cmpO x z < 0
      rw [ltO_iff hx2] at h1 ⊢
      rw [ltO_iff hy2] at h2
      have a1 := cmpL_neg (partsR x.k) (partsR y.k)
      have a2 := cmpL_neg (partsR y.k) (partsR z.k)
      have a3 := cmpL_neg (partsR x.k) (partsR z.k)
      have b1 := cmpL_le (partsR x.k) (partsR y.k) (partsR z.k)
      have b2 := cmpL_le (partsR z.k) (partsR x.k) (partsR y.k)
      have b3 := cmpL_le (partsR y.k) (partsR z.k) (partsR x.k)
      omega)
    (fun x y z hx hy hz h1 h2 => by
      obtain ⟨x, rfl, _, hx2⟩ := hx
      obtain ⟨y, rfl, _, hy2⟩ := hy
      obtain ⟨z, rfl, _, hz2⟩ := hz
      have h1 : ¬ cmpO x y < 0 := h1
      have h2 : ¬ cmpO y z < 0 := h2
      show ¬ cmpO x z < 0
      rw [ltO_iff hx2] at h1 ⊢
      rw [ltO_iff hy2] at h2
      have a1 := cmpL_neg (partsR x.k) (partsR y.k)
      have a2 := cmpL_neg (partsR y.k) (partsR z.k)
      have a3 := cmpL_neg (partsR x.k) (partsR z.k)
      have b1 := cmpL_le (partsR z.k) (partsR y.k) (partsR x.k)
      have b2 := cmpL_le (partsR y.k) (partsR x.k) (partsR z.k)
      have b3 := cmpL_le (partsR x.k) (partsR z.k) (partsR y.k)
      omega)
  exact h
noncomputable def ΨG1 (g : FuncId) : Option ESpec := putΨ ΨV 27 (psiPut 5 (sortFP 28 ltP isE)) g
theorem hΨG1 : ETab GG ΨG1 := hΨV.put w_sortG psiPut_mono
noncomputable def ΨG (g : FuncId) : Option ESpec := putΨ ΨG1 26 (psiRow 5 cloneQ) g
theorem hΨG : ETab GG ΨG := hΨG1.put w_cloneS psiRow_mono
end Go.AM
namespace Go.AM
open Go Go.Proofs Go.IntWalk
set_option maxRecDepth 100000
set_option maxHeartbeats 1000000
set_option linter.unusedSimpArgs false
set_option linter.unusedVariables false
theorem okOs_names {y0 : Int} : ∀ {l seen : List Opn}, okOs y0 seen l = true → (∀ x, x ∈ l → ∀ y, y ∈ seen → ¬ (y.o = x.o ∧ y.c = x.c)) ∧ ∀ a b, a ∈ l → b ∈ l → a.o = b.o → a.c = b.c → a = b
  | [], seen, h => ⟨(fun x hx => by cases hx), (fun a b ha => by cases ha)⟩
  | x :: r, seen, h => by
    unfold okOs at h
    simp only [Bool.and_eq_true, Bool.not_eq_true'] at h
    obtain ⟨⟨⟨h1, h2⟩, h3⟩, h4⟩ := h
    obtain ⟨i1, i2⟩ := okOs_names h4
    have hx : ∀ y, y ∈ seen → ¬ (y.o = x.o ∧ y.c = x.c) := fun y hy e => by
      have : namB x seen = true := List.any_eq_true.2 ⟨y, hy, by simp [e.1, e.2]⟩
      rw [h2] at this; cases this
    have hr : ∀ z, z ∈ r → ¬ (x.o = z.o ∧ x.c = z.c) := fun z hz => i1 z hz x (List.mem_append_right _ (List.mem_singleton.2 rfl))
    refine ⟨fun z hz y hy => ?_, fun a b ha hb e1 e2 => ?_⟩
    · rcases List.mem_cons.1 hz with rfl | hz
      · exact hx y hy
      · exact i1 z hz y (List.mem_append_left _ hy)
    · rcases List.mem_cons.1 ha with ha2 | ha2
      · rcases List.mem_cons.1 hb with hb2 | hb2
        · rw [ha2, hb2]
        · rw [ha2] at e1 e2; exact absurd ⟨e1, e2⟩ (hr b hb2)
      · rcases List.mem_cons.1 hb with hb2 | hb2
        · rw [hb2] at e1 e2; exact absurd ⟨e1.symm, e2.symm⟩ (hr a ha2)
        · exact i2 a b ha2 hb2 e1 e2
theorem op_parts {x : Opn} (h : opB x = true) : 0 < (partsR x.k).length := by
  unfold opB at h
  simp only [Bool.and_eq_true, decide_eq_true_eq] at h
  omega
theorem sort_pre {y0 : Int} {l : List Opn} (ho : okOs y0 [] l = true) (hl : isOps l) : (∀ e, e ∈ l.map opV → isE e) ∧ ∀ a b, a ∈ l.map opV → b ∈ l.map opV → ltP a b = false → ltP b a = false → a = b := by
  refine ⟨fun e he => ?_, fun a b ha hb h1 h2 => ?_⟩
  · obtain ⟨x, hx, rfl⟩ := List.mem_map.1 he
    exact ⟨x, rfl, hl x hx, op_parts (okOs_mem ho x hx)⟩
  · obtain ⟨x, hx, rfl⟩ := List.mem_map.1 ha
    obtain ⟨y, hy, rfl⟩ := List.mem_map.1 hb
    have h1 : ¬ cmpO x y < 0 := of_decide_eq_false h1
    have h2 : ¬ cmpO y x < 0 := of_decide_eq_false h2
    rw [ltO_iff (op_parts (okOs_mem ho x hx))] at h1
    rw [ltO_iff (op_parts (okOs_mem ho y hy))] at h2
    have := cmpL_neg (partsR x.k) (partsR y.k)
    rw [(okOs_names ho).2 x y hx hy (by omega) (by omega)]
noncomputable def carryG : PSpec := on_ll (fun a b => (∃ l : List Opn, a = l.map opV ∧ isOps l) ∧ (∃ l : List Lft, b = l.map lfV ∧ isLfs l) ∧ a.length ≤ 1000000 ∧ b.length ≤ 1000000000000)
  (fun a b => carF (a.map opOf) (b.map lfOf))
theorem k_carryG_14 {args : List PV} : UZ2 14 args = checkS args := rfl
theorem k_carryG_28 {args : List PV} : UZ2 28 args = compareS args := rfl
theorem w_carryG : PSound GG 12 carryG := by
  refine PSound.of_wpc (C := cxQ Tryz.prog UZ2 noΘ ΨG [] [] 112) (T := plan0) Tryz.func12 rfl rfl rfl (Fit.all (G := GG) hUZ2 hnoΘ hΨG mixed) (fun args h => ?_)
  unfold carryG at h
  obtain ⟨p, q, rfl, ⟨l, rfl, hl⟩, ⟨left, rfl, hf⟩, hn, hm⟩ := on_ll_inv h
  refine ⟨by simp [cxQ], ?_⟩
  simp only [List.length_map] at hn hm
  simp only [map_opOf, map_lfOf, carryG, on_ll_eq, List.length_map, k_carryG_14, checkS, on_ll_eq, k_carryG_28, compareS, on_pp_eq, loadC_eq, ΨG, ΨG1, psiRow_eq, psiPut_eq, all_sl, cloneQ, on_l_eq, sortFP_eq, List.take_succ_cons, List.take_nil, Tryz.underlying1, sz1, by1, ze1, Tryz.underlying2, sz2, by2, ze2, Tryz.underlying3, sz3, by3, ze3, Tryz.underlying4, sz4, by4, ze4, Tryz.underlying9, sz9, by9, ze9, Tryz.underlying23, sz23, by23, ze23, Tryz.underlying24, sz24, by24, ze24, Tryz.underlying26, sz26, by26, ze26, fa26_0, fa26_1, fa26_2, Tryz.underlying37, sz37, by37, ze37, fa37_0, fa37_1, fa37_2, fa37_3, fa37_4, Tryz.underlying40, sz40, by40, ze40, fa40_0, fa40_1, Tryz.underlying42, sz42, by42, ze42, Tryz.underlying63, sz63, by63, ze63, Tryz.underlying66, sz66, by66, ze66, plan0, Tryz.f12, argL, go_sem, ↓reduceIte, reduceCtorEq, Nat.reduceEqDiff, Nat.reduceLT, ↓all_qV, Int.reduceToNat, Int.reduceLT, Int.reduceLE, Nat.reduceAdd, Nat.reduceLeDiff, Nat.reduceMul, ev_callG, gcallK_b, gcallK_w, callGc_true, callGc_false, List.forall_mem_cons, List.not_mem_nil, PV.one, AV.one]
  have hk0 : keyKind (some TypeDesc.string) (PV.str []) = true := rfl
  refine ⟨⟨⟨l, rfl, hl⟩, ⟨left, rfl, hf⟩, by omega, hm⟩, fun h1 => ?_, fun h1 => ?_⟩
  · unfold carF
    rw [h1]
    rfl
  have hc0 : chkF l left = 0 := by simpa using h1
  obtain ⟨hn6, hm6, hos, hls⟩ := chk_ok hc0
  have hres : carF l left = .tup [carV (runC l left).2.1 (runC l left).2.2 (lapF (runC l left).1 left), .int .i64 0] := by unfold carF; rw [h1]; rfl
  rw [hres]
  clear h1 hres h
  refine AWp.loop (T := plan0) (α := Nat) (fun i => ([(0, .pv (.sl (l.map opV))), (1, .pv (.sl (left.map lfV))), (4, .ptr 4 0), (7, .mp 26), (27, .pv (.sl (left.map lfV))), (28, .pv (.int .i64 left.length)), (29, .pv (.int .i64 i))], [(4, .cells [.nils, .nils, .nils]), (26, .map (imV (restI (left.take i))))]))
    (fun i => i ≤ left.length ∧ imB (restI (left.take i))) (fun i => left.length - i)
    ⟨0, ⟨Nat.zero_le _, fun c => by simp [restI, aget]⟩, ⟨by simp [fitR, look], by simp [fitH, hget, imV, restI], rfl, rfl, rfl⟩⟩ ?_
  rintro i ⟨g1, g2⟩
  have hi1 : IntKind.i64.wrap ((i : Int) + 1) = ((i + 1 : Nat) : Int) := by rw [i64_in _ (by omega)]; omega
  by_cases hlt : i < left.length
  · have c0 : decide ((i : Int) < (left.length : Int)) = true := by simp; omega
    have e1 := getD_lf hlt
    have hrg := okLs_mem hls _ (mem_getD' hlt)
    have htk : restI (left.take (i + 1)) = aput (left.getD i default).k (left.getD i default).a (restI (left.take i)) := by
      rw [take_succ' hlt]; unfold restI; rw [List.foldl_append]; rfl
    generalize restI (left.take i) = m at g2 htk ⊢
    generalize left.getD i default = x at e1 hrg htk
    obtain ⟨k, a⟩ := x
    have hmp := mput_imV k a m
    have hks := @imV_keys m
    simp only [lfV] at e1
    simp only [c0, e1, hi1, hmp, List.length_map, List.take_succ_cons, List.take_nil, k_carryG_14, checkS, on_ll_eq, k_carryG_28, compareS, on_pp_eq, loadC_eq, ΨG, ΨG1, psiRow_eq, psiPut_eq, all_sl, cloneQ, on_l_eq, sortFP_eq, List.take_succ_cons, List.take_nil, Tryz.underlying1, sz1, by1, ze1, Tryz.underlying2, sz2, by2, ze2, Tryz.underlying3, sz3, by3, ze3, Tryz.underlying4, sz4, by4, ze4, Tryz.underlying9, sz9, by9, ze9, Tryz.underlying23, sz23, by23, ze23, Tryz.underlying24, sz24, by24, ze24, Tryz.underlying26, sz26, by26, ze26, fa26_0, fa26_1, fa26_2, Tryz.underlying37, sz37, by37, ze37, fa37_0, fa37_1, fa37_2, fa37_3, fa37_4, Tryz.underlying40, sz40, by40, ze40, fa40_0, fa40_1, Tryz.underlying42, sz42, by42, ze42, Tryz.underlying63, sz63, by63, ze63, Tryz.underlying66, sz66, by66, ze66, plan0, go_sem, ↓reduceIte, reduceCtorEq, Nat.reduceEqDiff, Nat.reduceLT, ↓all_qV, Int.reduceToNat, Int.reduceLT, Int.reduceLE, Nat.reduceAdd, Nat.reduceLeDiff, Nat.reduceMul, ev_callG, gcallK_b, gcallK_w, callGc_true, callGc_false, List.forall_mem_cons, List.not_mem_nil, PV.one, AV.one]
    and_intros
    all_goals try first | (show checkD _ _ _ = true; kernel_rfl) | omega | (intros; omega) | rfl | trivial | assumption
    · exact imV_ok Tryz.underlying9
    · exact ⟨i + 1, ⟨by omega, by rw [htk]; exact imB_put g2 hrg⟩, by omega, ⟨by simp [fitR, look], by rw [htk]; simp [fitH, hget], rfl, rfl, rfl⟩⟩
  · have c0 : decide ((i : Int) < (left.length : Int)) = false := by simp; omega
    rw [List.take_of_length_le (by omega)] at g2 ⊢
    have hsl := isort_length ltP (l.map opV)
    rw [List.length_map] at hsl
    simp only [c0, sort_map, List.length_map, k_carryG_14, checkS, on_ll_eq, k_carryG_28, compareS, on_pp_eq, loadC_eq, ΨG, ΨG1, psiRow_eq, psiPut_eq, all_sl, cloneQ, on_l_eq, sortFP_eq, List.take_succ_cons, List.take_nil, Tryz.underlying1, sz1, by1, ze1, Tryz.underlying2, sz2, by2, ze2, Tryz.underlying3, sz3, by3, ze3, Tryz.underlying4, sz4, by4, ze4, Tryz.underlying9, sz9, by9, ze9, Tryz.underlying23, sz23, by23, ze23, Tryz.underlying24, sz24, by24, ze24, Tryz.underlying26, sz26, by26, ze26, fa26_0, fa26_1, fa26_2, Tryz.underlying37, sz37, by37, ze37, fa37_0, fa37_1, fa37_2, fa37_3, fa37_4, Tryz.underlying40, sz40, by40, ze40, fa40_0, fa40_1, Tryz.underlying42, sz42, by42, ze42, Tryz.underlying63, sz63, by63, ze63, Tryz.underlying66, sz66, by66, ze66, plan0, go_sem, ↓reduceIte, reduceCtorEq, Nat.reduceEqDiff, Nat.reduceLT, ↓all_qV, Int.reduceToNat, Int.reduceLT, Int.reduceLE, Nat.reduceAdd, Nat.reduceLeDiff, Nat.reduceMul, ev_callG, gcallK_b, gcallK_w, callGc_true, callGc_false, List.forall_mem_cons, List.not_mem_nil, PV.one, AV.one]
    refine ⟨⟨opV_one, by omega⟩, ⟨by omega, sort_pre hos hl⟩, isort_length _ _, ?_⟩
    have hsr : (isort ltO l).length = l.length := isort_length _ _
    have hso : ∀ x, x ∈ isort ltO l → opB x = true ∧ x.k.length ≤ 1000000000000 := fun x hx => ⟨okOs_mem hos x ((mem_isort ltO).1 hx), hl x ((mem_isort ltO).1 hx)⟩
    unfold runC
    generalize isort ltO l = srt at hsr hso ⊢
    generalize restI left = m0 at g2 ⊢
    clear g1 hi1 c0 hsl
    refine AWp.adoptC (b := 11) (i := 0) (κ := 8001) (k := 5) rfl rfl rfl (by decide) ?_
    refine AWp.adoptC (b := 11) (i := 1) (κ := 8002) (k := 5) rfl rfl rfl (by decide) ?_
    refine AWp.adoptC (b := 11) (i := 2) (κ := 8003) (k := 2) rfl rfl rfl (by decide) ?_
    refine AWp.loop (T := plan0) (α := Nat × IM × List Opn × List Opn) (fun z => ([(1, .pv (.sl (left.map lfV))), (4, .ptr 4 0), (7, .mp 26), (11, .ptr 11 0), (43, .rs 40 srt.length), (44, .pv (.int .i64 srt.length)), (45, .pv (.int .i64 z.1))],
        [(4, .cells [.nils, .nils, .nils]), (26, .map (imV z.2.1)), (40, .row 5 (srt.map opV)), (11, .cells [.rs 8001 z.2.2.1.length, .rs 8002 z.2.2.2.length, .rs 8003 0]), (8001, .row 5 (z.2.2.1.map opV)), (8002, .row 5 (z.2.2.2.map opV)), (8003, .row 2 [])]))
      (fun z => z.1 ≤ srt.length ∧ z.2 = (srt.take z.1).foldl stepC (m0, [], []) ∧ imB z.2.1 ∧ z.2.2.1.length ≤ z.1 ∧ z.2.2.2.length ≤ z.1) (fun z => srt.length - z.1)
      ⟨(0, m0, [], []), ⟨Nat.zero_le _, rfl, g2, Nat.le_refl _, Nat.le_refl _⟩, ⟨by simp [fitR, look, hsr], by simp [fitH, hget, hset], rfl, rfl, rfl⟩⟩ ?_
    clear g2
    rintro ⟨i, m, ca, sh⟩ ⟨g1, g2, g3, g4, g5⟩
    simp only at g1 g2 g3 g4 g5
    have hi1 : IntKind.i64.wrap ((i : Int) + 1) = ((i + 1 : Nat) : Int) := by rw [i64_in _ (by omega)]; omega
    have tk1 : (ca.map opV).take ca.length = ca.map opV := List.take_of_length_le (by simp)
    have tk2 : (sh.map opV).take sh.length = sh.map opV := List.take_of_length_le (by simp)
    by_cases hlt : i < srt.length
    · have c0 : decide ((i : Int) < (srt.length : Int)) = true := by simp; omega
      have e1 := getD_op hlt
      obtain ⟨hob, hkl⟩ := hso _ (mem_getD' hlt)
      have hst : (srt.take (i + 1)).foldl stepC (m0, [], []) = stepC (m, ca, sh) (srt.getD i default) := by
        rw [take_succ' hlt, List.foldl_append, ← g2]; rfl
      generalize srt.getD i default = x at e1 hob hkl hst
      have ham := op_amount hob
      have hcv := cov_le g3 (x := x) (by omega)
      have hrr := g3 x.k
      obtain ⟨o, c, k, y, a⟩ := x
      simp only [stepC] at hst
      have hcf : (if aget k m < a then aget k m else a) = covF m ⟨o, c, k, y, a⟩ := rfl
      generalize covF m ⟨o, c, k, y, a⟩ = cv at hcv hcf hst
      have hmg := mget_imV k m
      have hmp := mput_imV k (aget k m - cv) m
      have w1 : IntKind.i64.wrap (aget k m - cv) = aget k m - cv := i64_in _ (by simp only at hcv hrr; omega)
      have w2 : IntKind.i64.wrap (a - cv) = a - cv := i64_in _ (by simp only at hcv ham; omega)
      have hks := imV_ok (P := Tryz.prog) (l := m) Tryz.underlying9
      simp only [opV] at e1
      simp only [c0, e1, hi1, hmg, hcf, w1, hmp, w2, tk1, tk2, List.length_map, k_carryG_14, checkS, on_ll_eq, k_carryG_28, compareS, on_pp_eq, loadC_eq, ΨG, ΨG1, psiRow_eq, psiPut_eq, all_sl, cloneQ, on_l_eq, sortFP_eq, List.take_succ_cons, List.take_nil, Tryz.underlying1, sz1, by1, ze1, Tryz.underlying2, sz2, by2, ze2, Tryz.underlying3, sz3, by3, ze3, Tryz.underlying4, sz4, by4, ze4, Tryz.underlying9, sz9, by9, ze9, Tryz.underlying23, sz23, by23, ze23, Tryz.underlying24, sz24, by24, ze24, Tryz.underlying26, sz26, by26, ze26, fa26_0, fa26_1, fa26_2, Tryz.underlying37, sz37, by37, ze37, fa37_0, fa37_1, fa37_2, fa37_3, fa37_4, Tryz.underlying40, sz40, by40, ze40, fa40_0, fa40_1, Tryz.underlying42, sz42, by42, ze42, Tryz.underlying63, sz63, by63, ze63, Tryz.underlying66, sz66, by66, ze66, plan0, go_sem, ↓reduceIte, reduceCtorEq, Nat.reduceEqDiff, Nat.reduceLT, ↓all_qV, Int.reduceToNat, Int.reduceLT, Int.reduceLE, Nat.reduceAdd, Nat.reduceLeDiff, Nat.reduceMul, ev_callG, gcallK_b, gcallK_w, callGc_true, callGc_false, List.forall_mem_cons, List.not_mem_nil, PV.one, AV.one]
      simp only at hcv hrr
      have him : imB (aput k (aget k m - cv) m) := imB_put g3 ⟨by omega, by omega⟩
      and_intros
      all_goals try first | (show checkD _ _ _ = true; kernel_rfl) | omega | (intros; omega) | rfl | trivial | assumption
      · intro c1
        rw [c1] at hst
        refine ⟨rfl, Nat.le_refl _, by omega, by simp only [maxLen]; omega, fun c2 => ⟨rfl, Nat.le_refl _, by omega, by simp only [maxLen]; omega, (i + 1, _, ca ++ [⟨o, c, k, y, cv⟩], sh ++ [⟨o, c, k, y, a - cv⟩]), ⟨by simp only; omega, by rw [hst, c2]; rfl, him, ?_, ?_⟩, by simp only; omega, ⟨by simp [fitR, look], by simp [fitH, hget, opV], rfl, rfl, rfl⟩⟩,
          fun c2 => ⟨(i + 1, _, ca ++ [⟨o, c, k, y, cv⟩], sh), ⟨by simp only; omega, by rw [hst, c2]; rfl, him, ?_, ?_⟩, by simp only; omega, ⟨by simp [fitR, look], by simp [fitH, hget, opV], rfl, rfl, rfl⟩⟩⟩ <;> simp <;> omega
      · intro c1
        rw [c1] at hst
        refine ⟨fun c2 => ⟨rfl, Nat.le_refl _, by omega, by simp only [maxLen]; omega, (i + 1, _, ca, sh ++ [⟨o, c, k, y, a - cv⟩]), ⟨by simp only; omega, by rw [hst, c2]; rfl, him, ?_, ?_⟩, by simp only; omega, ⟨by simp [fitR, look], by simp [fitH, hget, opV], rfl, rfl, rfl⟩⟩,
          fun c2 => ⟨(i + 1, _, ca, sh), ⟨by simp only; omega, by rw [hst, c2]; rfl, him, ?_, ?_⟩, by simp only; omega, ⟨by simp [fitR, look], by simp [fitH, hget, opV], rfl, rfl, rfl⟩⟩⟩ <;> simp <;> omega
    · have c0 : decide ((i : Int) < (srt.length : Int)) = false := by simp; omega
      rw [List.take_of_length_le (by omega)] at g2
      simp only [c0, tk1, tk2, List.length_map, k_carryG_14, checkS, on_ll_eq, k_carryG_28, compareS, on_pp_eq, loadC_eq, ΨG, ΨG1, psiRow_eq, psiPut_eq, all_sl, cloneQ, on_l_eq, sortFP_eq, List.take_succ_cons, List.take_nil, Tryz.underlying1, sz1, by1, ze1, Tryz.underlying2, sz2, by2, ze2, Tryz.underlying3, sz3, by3, ze3, Tryz.underlying4, sz4, by4, ze4, Tryz.underlying9, sz9, by9, ze9, Tryz.underlying23, sz23, by23, ze23, Tryz.underlying24, sz24, by24, ze24, Tryz.underlying26, sz26, by26, ze26, fa26_0, fa26_1, fa26_2, Tryz.underlying37, sz37, by37, ze37, fa37_0, fa37_1, fa37_2, fa37_3, fa37_4, Tryz.underlying40, sz40, by40, ze40, fa40_0, fa40_1, Tryz.underlying42, sz42, by42, ze42, Tryz.underlying63, sz63, by63, ze63, Tryz.underlying66, sz66, by66, ze66, plan0, go_sem, ↓reduceIte, reduceCtorEq, Nat.reduceEqDiff, Nat.reduceLT, ↓all_qV, Int.reduceToNat, Int.reduceLT, Int.reduceLE, Nat.reduceAdd, Nat.reduceLeDiff, Nat.reduceMul, ev_callG, gcallK_b, gcallK_w, callGc_true, callGc_false, List.forall_mem_cons, List.not_mem_nil, PV.one, AV.one]
      rw [← g2]
      refine AWp.loop (T := plan0) (α := Nat × List Lft) (fun z => ([(4, .ptr 4 0), (7, .mp 26), (11, .ptr 11 0), (89, .pv (.sl (left.map lfV))), (90, .pv (.int .i64 left.length)), (91, .pv (.int .i64 z.1))],
          [(4, .cells [.nils, .nils, .nils]), (26, .map (imV m)), (11, .cells [.rs 8001 ca.length, .rs 8002 sh.length, .rs 8003 z.2.length]), (8001, .row 5 (ca.map opV)), (8002, .row 5 (sh.map opV)), (8003, .row 2 (z.2.map lfV))]))
        (fun z => z.1 ≤ left.length ∧ z.2 = lapF m (left.take z.1) ∧ z.2.length ≤ z.1) (fun z => left.length - z.1)
        ⟨(0, []), ⟨Nat.zero_le _, rfl, Nat.le_refl _⟩, ⟨by simp [fitR, look], by simp [fitH, hget, hset], rfl, rfl, rfl⟩⟩ ?_
      clear g1 g2 hi1 c0
      rintro ⟨j, la⟩ ⟨g1, g2, g6⟩
      simp only at g1 g2 g6
      have hi1 : IntKind.i64.wrap ((j : Int) + 1) = ((j + 1 : Nat) : Int) := by rw [i64_in _ (by omega)]; omega
      have tk3 : (la.map lfV).take la.length = la.map lfV := List.take_of_length_le (by simp)
      by_cases hlt : j < left.length
      · have c0 : decide ((j : Int) < (left.length : Int)) = true := by simp; omega
        have e1 := getD_lf hlt
        have hst : lapF m (left.take (j + 1)) = la ++ lapF m [left.getD j default] := by
          rw [take_succ' hlt, lapF_append, ← g2]
        generalize left.getD j default = x at e1 hst
        obtain ⟨k, a⟩ := x
        simp only [lapF] at hst
        have hmg := mget_imV k m
        have hks := imV_ok (P := Tryz.prog) (l := m) Tryz.underlying9
        simp only [lfV] at e1
        simp only [c0, e1, hi1, hmg, tk3, List.length_map, k_carryG_14, checkS, on_ll_eq, k_carryG_28, compareS, on_pp_eq, loadC_eq, ΨG, ΨG1, psiRow_eq, psiPut_eq, all_sl, cloneQ, on_l_eq, sortFP_eq, List.take_succ_cons, List.take_nil, Tryz.underlying1, sz1, by1, ze1, Tryz.underlying2, sz2, by2, ze2, Tryz.underlying3, sz3, by3, ze3, Tryz.underlying4, sz4, by4, ze4, Tryz.underlying9, sz9, by9, ze9, Tryz.underlying23, sz23, by23, ze23, Tryz.underlying24, sz24, by24, ze24, Tryz.underlying26, sz26, by26, ze26, fa26_0, fa26_1, fa26_2, Tryz.underlying37, sz37, by37, ze37, fa37_0, fa37_1, fa37_2, fa37_3, fa37_4, Tryz.underlying40, sz40, by40, ze40, fa40_0, fa40_1, Tryz.underlying42, sz42, by42, ze42, Tryz.underlying63, sz63, by63, ze63, Tryz.underlying66, sz66, by66, ze66, plan0, go_sem, ↓reduceIte, reduceCtorEq, Nat.reduceEqDiff, Nat.reduceLT, ↓all_qV, Int.reduceToNat, Int.reduceLT, Int.reduceLE, Nat.reduceAdd, Nat.reduceLeDiff, Nat.reduceMul, ev_callG, gcallK_b, gcallK_w, callGc_true, callGc_false, List.forall_mem_cons, List.not_mem_nil, PV.one, AV.one]
        and_intros
        all_goals try first | (show checkD _ _ _ = true; kernel_rfl) | omega | (intros; omega) | rfl | trivial | assumption
        · intro c1
          rw [c1, cond_true] at hst
          exact ⟨rfl, Nat.le_refl _, by omega, by simp only [maxLen]; omega, (j + 1, la ++ [⟨k, aget k m⟩]), ⟨by simp only; omega, hst.symm, by simp; omega⟩, by simp only; omega, ⟨by simp [fitR, look], by simp [fitH, hget, lfV], rfl, rfl, rfl⟩⟩
        · intro c1
          rw [c1, cond_false, List.append_nil] at hst
          exact ⟨(j + 1, la), ⟨by simp only; omega, hst.symm, by simp only; omega⟩, by simp only; omega, ⟨by simp [fitR, look], by simp [fitH, hget], rfl, rfl, rfl⟩⟩
      · have c0 : decide ((j : Int) < (left.length : Int)) = false := by simp; omega
        rw [List.take_of_length_le (by omega)] at g2
        simp only [c0, tk1, tk2, tk3, List.length_map, k_carryG_14, checkS, on_ll_eq, k_carryG_28, compareS, on_pp_eq, loadC_eq, ΨG, ΨG1, psiRow_eq, psiPut_eq, all_sl, cloneQ, on_l_eq, sortFP_eq, List.take_succ_cons, List.take_nil, Tryz.underlying1, sz1, by1, ze1, Tryz.underlying2, sz2, by2, ze2, Tryz.underlying3, sz3, by3, ze3, Tryz.underlying4, sz4, by4, ze4, Tryz.underlying9, sz9, by9, ze9, Tryz.underlying23, sz23, by23, ze23, Tryz.underlying24, sz24, by24, ze24, Tryz.underlying26, sz26, by26, ze26, fa26_0, fa26_1, fa26_2, Tryz.underlying37, sz37, by37, ze37, fa37_0, fa37_1, fa37_2, fa37_3, fa37_4, Tryz.underlying40, sz40, by40, ze40, fa40_0, fa40_1, Tryz.underlying42, sz42, by42, ze42, Tryz.underlying63, sz63, by63, ze63, Tryz.underlying66, sz66, by66, ze66, plan0, go_sem, ↓reduceIte, reduceCtorEq, Nat.reduceEqDiff, Nat.reduceLT, ↓all_qV, Int.reduceToNat, Int.reduceLT, Int.reduceLE, Nat.reduceAdd, Nat.reduceLeDiff, Nat.reduceMul, ev_callG, gcallK_b, gcallK_w, callGc_true, callGc_false, List.forall_mem_cons, List.not_mem_nil, PV.one, AV.one]
        and_intros
        all_goals try first | (show checkD _ _ _ = true; kernel_rfl) | omega | (intros; omega) | rfl | trivial | assumption
        rw [g2]; rfl
noncomputable def V1 (g : FuncId) : PSpec := (putΦ UZ2 12 carryG) g
theorem hV1 : TabSound GG V1 := (hUZ2.put w_carryG)
end Go.AM
