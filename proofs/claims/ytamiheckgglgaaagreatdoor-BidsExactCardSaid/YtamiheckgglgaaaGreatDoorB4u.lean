/-
  A part of a proof: see the last text of this claim for what is proved.
-/
import Derived.Test.YtamiheckgglgaaaGreatDoorB4t
import Derived.Test.YtamiheckgglgaaaGreatDoorZMa
/-! the reference: decimal, line, Line, Format, number -/
namespace Go.AM
open Go Go.Proofs Go.IntWalk
set_option maxRecDepth 100000
set_option maxHeartbeats 1000000
set_option linter.unusedSimpArgs false
set_option linter.unusedVariables false
noncomputable def Cc (g : FuncId) : PSpec := (putΦ Cb 11 rchkS) g
theorem hCc : TabSound GG Cc := (hCb.put w_rchkS)
noncomputable def decS : PSpec := on_i (fun n => 0 ≤ n ∧ n ≤ 1000000000000) (fun n => .str (Lib.decDigits n.toNat))
theorem digW : ∀ d : Nat, d < 10 → toByte (PV.int IntKind.u8 (IntKind.u8.wrap (IntKind.i64.wrap (48 + (d : Int))))) = UInt8.ofNat (48 + d) := by decide
theorem w_decS : PSound GG 48 decS := by
  refine PSound.of_wpc (C := cxP Tryz.prog Cc [] 23) (T := plan0) Tryz.func48 rfl rfl rfl (Fit.pure (G := GG) hCc mixed) (fun args h => ?_)
  unfold decS at h
  obtain ⟨n, rfl, hp⟩ := on_i_inv h
  refine ⟨by simp [cxP], ?_⟩
  simp only [decS, on_i_eq, Tryz.f48, argL, plan0]
  obtain ⟨h0, h1⟩ := hp
  obtain ⟨u, rfl⟩ := Int.eq_ofNat_of_zero_le h0
  simp only [Int.toNat_natCast, Tryz.underlying1, sz1, by1, ze1, Tryz.underlying3, sz3, by3, ze3, Tryz.underlying4, sz4, by4, ze4, Tryz.underlying5, sz5, by5, ze5, Tryz.underlying9, sz9, by9, ze9, Tryz.underlying53, sz53, by53, ze53, go_sem, ↓reduceIte, reduceCtorEq, Nat.reduceEqDiff, Nat.reduceLT, ↓all_qV, Int.reduceToNat, Int.reduceLT, Int.reduceLE, Nat.reduceAdd, Nat.reduceLeDiff, Nat.reduceMul]
  refine AWp.loop (T := plan0) (α := Nat × List UInt8) (fun z => ([(0, .pv (.int .i64 z.1)), (3, .pv (.str z.2))], []))
    (fun z => z.1 ≤ u ∧ Lib.decDigits u = Lib.decDigits z.1 ++ z.2 ∧ z.2.length ≤ u - z.1) (fun z => z.1)
    ⟨(u, []), ⟨Nat.le_refl _, by simp, by simp⟩, ⟨by simp [fitR, look], trivial, rfl, rfl, rfl⟩⟩ ?_
  rintro ⟨m, s⟩ ⟨g1, g2, g3⟩
  simp only at g1 g2 g3
  by_cases hlt : 9 < m
  · have c0 : decide ((9 : Int) < (m : Int)) = true := by simp; omega
    have w1 : (m : Int).tmod 10 = ((m % 10 : Nat) : Int) := by rw [Int.tmod_eq_emod_of_nonneg (by omega)]; omega
    have w2 : IntKind.i64.wrap ((m : Int).tdiv 10) = ((m / 10 : Nat) : Int) := by rw [Int.tdiv_eq_ediv_of_nonneg (by omega), i64_in _ (by omega)]; omega
    have w3 := digW (m % 10) (by omega)
    simp only [c0, w1, w2, w3, Tryz.underlying1, sz1, by1, ze1, Tryz.underlying3, sz3, by3, ze3, Tryz.underlying4, sz4, by4, ze4, Tryz.underlying5, sz5, by5, ze5, Tryz.underlying9, sz9, by9, ze9, Tryz.underlying53, sz53, by53, ze53, plan0, go_sem, ↓reduceIte, reduceCtorEq, Nat.reduceEqDiff, Nat.reduceLT, ↓all_qV, Int.reduceToNat, Int.reduceLT, Int.reduceLE, Nat.reduceAdd, Nat.reduceLeDiff, Nat.reduceMul, ev_callG, gcallK_b, gcallK_w, callGc_true, callGc_false]
    have hst : Lib.decDigits m = Lib.decDigits (m / 10) ++ [UInt8.ofNat (48 + m % 10)] := by
      conv => lhs; rw [Lib.decDigits, dif_neg (by omega)]
    refine ⟨by omega, by omega, by omega, (m / 10, UInt8.ofNat (48 + m % 10) :: s), ⟨by simp only; omega, by simp only; rw [g2, hst]; simp, by simp only [List.length_cons]; omega⟩, by simp only; omega, ⟨by simp [fitR, look], trivial, rfl, rfl, rfl⟩⟩
  · have c0 : decide ((9 : Int) < (m : Int)) = false := by simp; omega
    have w3 := digW m (by omega)
    simp only [c0, w3, Tryz.underlying1, sz1, by1, ze1, Tryz.underlying3, sz3, by3, ze3, Tryz.underlying4, sz4, by4, ze4, Tryz.underlying5, sz5, by5, ze5, Tryz.underlying9, sz9, by9, ze9, Tryz.underlying53, sz53, by53, ze53, plan0, go_sem, ↓reduceIte, reduceCtorEq, Nat.reduceEqDiff, Nat.reduceLT, ↓all_qV, Int.reduceToNat, Int.reduceLT, Int.reduceLE, Nat.reduceAdd, Nat.reduceLeDiff, Nat.reduceMul, ev_callG, gcallK_b, gcallK_w, callGc_true, callGc_false]
    exact ⟨by omega, by rw [g2, Lib.decDigits_one (by omega)]; rfl⟩
noncomputable def Cd (g : FuncId) : PSpec := (putΦ Cc 48 decS) g
theorem hCd : TabSound GG Cd := (hCc.put w_decS)
noncomputable def rlineS : PSpec := on_p (fun e => ∃ x : Bid, e = bidV x ∧ vB x = true) (fun e => .str (lineL (bidOf e)))
theorem k_rlineS_48 {args : List PV} : Cd 48 args = decS args := rfl
theorem w_rlineS : PSound GG 32 rlineS := by
  refine PSound.of_wpc (C := cxP Tryz.prog Cd [] 27) (T := plan0) Tryz.func32 rfl rfl rfl (Fit.pure (G := GG) hCd mixed) (fun args h => ?_)
  unfold rlineS at h
  obtain ⟨e, rfl, hp⟩ := on_p_inv h
  refine ⟨by simp [cxP], ?_⟩
  simp only [rlineS, on_p_eq, Tryz.f32, argL, plan0]
  obtain ⟨⟨b, n, p, a, f⟩, rfl, hv⟩ := hp
  have hl := lineL_len hv
  have hw := vB_parts hv
  obtain ⟨⟨b1, b2⟩, ⟨n1, n2⟩, ⟨a1, a2⟩, p1, p2⟩ := hw
  simp only at b1 b2 n1 n2 a1 a2 p1 p2
  have k1 := itoa_dec (n := b) (by omega)
  have k2 := itoa_dec (n := n) (by omega)
  have k3 := itoa_dec (n := a) (by omega)
  have k4 := itoa_dec (n := p) (by cases f <;> simp at p1 p2 <;> omega)
  unfold lineL at hl
  simp only [k1, k2, k3, k4, List.length_append, List.length_cons] at hl
  have hp0 : 0 ≤ p ∧ p ≤ 200000 := by cases f <;> simp at p1 p2 <;> omega
  clear p1 p2
  cases f
  all_goals
    simp only [cond_true, cond_false, freeT, List.length_cons, List.length_nil] at hl
    simp only [bidV, bidOf_agg, List.length_append, List.length_cons, List.length_nil, k_rlineS_48, decS, on_i_eq, Tryz.underlying1, sz1, by1, ze1, Tryz.underlying2, sz2, by2, ze2, Tryz.underlying3, sz3, by3, ze3, Tryz.underlying4, sz4, by4, ze4, Tryz.underlying9, sz9, by9, ze9, Tryz.underlying29, sz29, by29, ze29, fa29_0, fa29_1, fa29_2, fa29_3, fa29_4, go_sem, ↓reduceIte, reduceCtorEq, Nat.reduceEqDiff, Nat.reduceLT, ↓all_qV, Int.reduceToNat, Int.reduceLT, Int.reduceLE, Nat.reduceAdd, Nat.reduceLeDiff, Nat.reduceMul]
    and_intros
    all_goals try first | (show checkD _ _ _ = true; kernel_rfl) | omega
    all_goals simp [lineL, k1, k2, k3, k4, freeT]
noncomputable def Ce (g : FuncId) : PSpec := (putΦ Cd 32 rlineS) g
theorem hCe : TabSound GG Ce := (hCd.put w_rlineS)
noncomputable def rLineS : PSpec := on_p isBid (fun e => .tup (bif vB (bidOf e) then [.str (lineL (bidOf e)), .int .i64 0] else [.str [], .int .i64 74]))
theorem k_rLineS_20 {args : List PV} : Ce 20 args = rvalS args := rfl
theorem k_rLineS_32 {args : List PV} : Ce 32 args = rlineS args := rfl
theorem w_rLineS : PSound GG 18 rLineS := by
  refine PSound.of_wpc (C := cxP Tryz.prog Ce [] 9) (T := plan0) Tryz.func18 rfl rfl rfl (Fit.pure (G := GG) hCe mixed) (fun args h => ?_)
  unfold rLineS at h
  obtain ⟨e, rfl, hp⟩ := on_p_inv h
  refine ⟨by simp [cxP], ?_⟩
  simp only [rLineS, on_p_eq, Tryz.f18, argL, plan0]
  obtain ⟨⟨b, n, p, a, f⟩, rfl⟩ := hp
  simp only [bidV, bidOf_agg, k_rLineS_20, rvalS, on_p_eq, k_rLineS_32, rlineS, List.take_succ_cons, List.take_nil, Tryz.underlying3, sz3, by3, ze3, Tryz.underlying4, sz4, by4, ze4, Tryz.underlying9, sz9, by9, ze9, Tryz.underlying29, sz29, by29, ze29, fa29_0, fa29_1, fa29_2, fa29_3, fa29_4, Tryz.underlying32, sz32, by32, ze32, go_sem, ↓reduceIte, reduceCtorEq, Nat.reduceEqDiff, Nat.reduceLT, ↓all_qV, Int.reduceToNat, Int.reduceLT, Int.reduceLE, Nat.reduceAdd, Nat.reduceLeDiff, Nat.reduceMul]
  and_intros
  all_goals try first | (show checkD _ _ _ = true; kernel_rfl) | omega | (intros; omega) | rfl | trivial | assumption | exact okBid | exact isBid_agg
  · intro h9
    have h9 : vB ⟨b, n, p, a, f⟩ = false := by simpa using h9
    rw [h9]; rfl
  · intro h9
    have h9 : vB ⟨b, n, p, a, f⟩ = true := by simpa using h9
    rw [h9]
    exact ⟨⟨okBid, ⟨b, n, p, a, f⟩, rfl, h9⟩, rfl⟩
noncomputable def Cf (g : FuncId) : PSpec := (putΦ (putΦ Ce 18 rLineS) 14 rsortS) g
theorem hCf : TabSound GG Cf := ((hCe.put w_rLineS).put w_rsortS)
noncomputable def rfmtS : PSpec := on_l (fun es => (∃ l : List Bid, es = l.map bidV) ∧ es.length ≤ 100000)
  (fun es => .tup (bif chkF (es.map bidOf) == 0 then [.str (fmtL (srtL (es.map bidOf))), .int .i64 0] else [.str [], .int .i64 (chkF (es.map bidOf))]))
theorem k_rfmtS_11 {args : List PV} : Cf 11 args = rchkS args := rfl
theorem k_rfmtS_14 {args : List PV} : Cf 14 args = rsortS args := rfl
theorem k_rfmtS_32 {args : List PV} : Cf 32 args = rlineS args := rfl
theorem w_rfmtS : PSound GG 9 rfmtS := by
  refine PSound.of_wpc (C := cxP Tryz.prog Cf [] 27) (T := plan0) Tryz.func9 rfl rfl rfl (Fit.pure (G := GG) hCf mixed) (fun args h => ?_)
  unfold rfmtS at h
  obtain ⟨es, rfl, hp⟩ := on_l_inv h
  refine ⟨by simp [cxP], ?_⟩
  simp only [rfmtS, on_l_eq, Tryz.f9, argL, plan0]
  obtain ⟨⟨l, rfl⟩, hl⟩ := hp
  simp only [List.length_map] at hl
  simp only [map_bidOf, List.length_map, k_rfmtS_11, rchkS, on_l_eq, k_rfmtS_14, rsortS, k_rfmtS_32, rlineS, on_p_eq, Tryz.underlying3, sz3, by3, ze3, Tryz.underlying4, sz4, by4, ze4, Tryz.underlying9, sz9, by9, ze9, Tryz.underlying23, sz23, by23, ze23, Tryz.underlying29, sz29, by29, ze29, fa29_0, fa29_1, fa29_2, fa29_3, fa29_4, Tryz.underlying32, sz32, by32, ze32, go_sem, ↓reduceIte, reduceCtorEq, Nat.reduceEqDiff, Nat.reduceLT, ↓all_qV, Int.reduceToNat, Int.reduceLT, Int.reduceLE, Nat.reduceAdd, Nat.reduceLeDiff, Nat.reduceMul]
  refine ⟨⟨⟨l, rfl⟩, by omega⟩, fun h9 => ?_, fun h9 => ⟨⟨⟨l, rfl⟩, hl⟩, ?_⟩⟩
  · have : (chkF l == 0) = false := by simpa using h9
    rw [this]; rfl
  have h0 : chkF l = 0 := by simpa using h9
  have hv : ∀ x, x ∈ srtL l → vB x = true := fun x hx => chkF_vB h0 x ((isort_perm ltB l).mem_iff.1 hx)
  have hn : (srtL l).length ≤ 60 := by
    rw [srtL_length]
    unfold chkF at h0
    by_cases h : 60 < l.length
    · rw [decide_eq_true (by omega)] at h0; cases h0
    · omega
  rw [h0]
  simp only [beq_self_eq_true, cond_true]
  generalize srtL l = m at hv hn ⊢
  refine AWp.loop (T := plan0) (α := Nat) (fun i => ([(5, .pv (.str (fmtL (m.take i)))), (14, .pv (.sl (m.map bidV))), (15, .pv (.int .i64 m.length)), (16, .pv (.int .i64 i))], []))
    (fun i => i ≤ m.length) (fun i => m.length - i)
    ⟨0, Nat.zero_le _, ⟨by simp [fitR, look, fmtL], trivial, rfl, rfl, rfl⟩⟩ ?_
  intro i g1
  have hi1 : IntKind.i64.wrap ((i : Int) + 1) = ((i + 1 : Nat) : Int) := by rw [i64_in _ (by omega)]; omega
  have hfl := fmtL_len (m.take i) (fun x hx => hv x (List.mem_of_mem_take hx))
  rw [List.length_take] at hfl
  by_cases hlt : i < m.length
  · have c0 : decide ((i : Int) < (m.length : Int)) = true := by simp; omega
    have e1 := getD_bid hlt
    have htk := take_succ' hlt
    have hvx := hv _ (mem_getD' hlt)
    generalize m.getD i default = x at e1 htk hvx
    have hll := lineL_len hvx
    have hst : fmtL (m.take (i + 1)) = fmtL (m.take i) ++ (lineL x ++ [10]) := by rw [htk, fmtL_app]; simp [fmtL]
    generalize fmtL (m.take i) = F at hfl hst ⊢
    obtain ⟨b, n, p, a, f⟩ := x
    simp only [bidV] at e1
    simp only [c0, e1, hi1, bidOf_agg, List.length_map, List.take_succ_cons, List.take_nil, k_rfmtS_11, rchkS, on_l_eq, k_rfmtS_14, rsortS, k_rfmtS_32, rlineS, on_p_eq, Tryz.underlying3, sz3, by3, ze3, Tryz.underlying4, sz4, by4, ze4, Tryz.underlying9, sz9, by9, ze9, Tryz.underlying23, sz23, by23, ze23, Tryz.underlying29, sz29, by29, ze29, fa29_0, fa29_1, fa29_2, fa29_3, fa29_4, Tryz.underlying32, sz32, by32, ze32, plan0, go_sem, ↓reduceIte, reduceCtorEq, Nat.reduceEqDiff, Nat.reduceLT, ↓all_qV, Int.reduceToNat, Int.reduceLT, Int.reduceLE, Nat.reduceAdd, Nat.reduceLeDiff, Nat.reduceMul, ev_callG, gcallK_b, gcallK_w, callGc_true, callGc_false, List.forall_mem_cons, List.not_mem_nil, PV.one, AV.one]
    and_intros
    all_goals try first | (show checkD _ _ _ = true; kernel_rfl) | omega | (intros; omega) | rfl | trivial | assumption | exact isBid_agg | exact ⟨⟨b, n, p, a, f⟩, rfl, hvx⟩ | omega
    · simp only [List.length_append, List.length_cons, List.length_nil]; omega
    · exact ⟨i + 1, by omega, by omega, ⟨by simp [fitR, look, hst], trivial, rfl, rfl, rfl⟩⟩
  · have c0 : decide ((i : Int) < (m.length : Int)) = false := by simp; omega
    rw [List.take_of_length_le (by omega)]
    simp only [c0, List.length_map, Tryz.underlying3, sz3, by3, ze3, Tryz.underlying4, sz4, by4, ze4, Tryz.underlying9, sz9, by9, ze9, Tryz.underlying23, sz23, by23, ze23, Tryz.underlying29, sz29, by29, ze29, fa29_0, fa29_1, fa29_2, fa29_3, fa29_4, Tryz.underlying32, sz32, by32, ze32, plan0, go_sem, ↓reduceIte, reduceCtorEq, Nat.reduceEqDiff, Nat.reduceLT, ↓all_qV, Int.reduceToNat, Int.reduceLT, Int.reduceLE, Nat.reduceAdd, Nat.reduceLeDiff, Nat.reduceMul]
def numG (n : Int) : List UInt8 → Int
  | [] => n
  | c :: r => bif decide (c.toNat < 48) || decide (57 < c.toNat) then -1 else numG (10 * n + ((c.toNat : Int) - 48)) r
def numF (s : List UInt8) : Int := bif s.isEmpty || decide (10 < s.length) then -1 else numG 0 s
noncomputable def numS : PSpec := on_s (fun s => s.length ≤ 1000000) (fun s => .int .i64 (numF s))
theorem w_numS : PSound GG 61 numS := by
  refine PSound.of_wpc (C := cxP Tryz.prog Cf [] 37) (T := plan0) Tryz.func61 rfl rfl rfl (Fit.pure (G := GG) hCf mixed) (fun args h => ?_)
  unfold numS at h
  obtain ⟨s, rfl, hp⟩ := on_s_inv h
  refine ⟨by simp [cxP], ?_⟩
  simp only [numS, on_s_eq, Tryz.f61, argL, plan0]
  simp only [true_and, Tryz.underlying3, sz3, by3, ze3, Tryz.underlying4, sz4, by4, ze4, Tryz.underlying5, sz5, by5, ze5, Tryz.underlying9, sz9, by9, ze9, go_sem, ↓reduceIte, reduceCtorEq, Nat.reduceEqDiff, Nat.reduceLT, ↓all_qV, Int.reduceToNat, Int.reduceLT, Int.reduceLE, Nat.reduceAdd, Nat.reduceLeDiff, Nat.reduceMul]
  refine ⟨fun h9 => ?_, fun h9 => ?_⟩
  · unfold numF
    have : (s.isEmpty || decide (10 < s.length)) = true := by
      cases s with
      | nil => rfl
      | cons c r => simp at h9 ⊢; omega
    rw [this]; rfl
  have hne : s ≠ [] ∧ s.length ≤ 10 := by
    constructor
    · rintro rfl; simp at h9
    · simp at h9; omega
  obtain ⟨hne, hl⟩ := hne
  have hnum : numF s = numG 0 s := by
    unfold numF
    have : (s.isEmpty || decide (10 < s.length)) = false := by
      cases s with
      | nil => exact absurd rfl hne
      | cons c r => simpa using hl
    rw [this]; rfl
  rw [hnum]
  have hpow : ∀ i : Nat, i ≤ 10 → (10 : Int) ^ i ≤ 10000000000 := by decide
  refine AWp.loop (T := plan0) (α := Nat × Int) (fun z => ([(0, .pv (.str s)), (3, .pv (.int .i64 z.2)), (4, .pv (.int .i64 z.1))], []))
    (fun z => z.1 ≤ s.length ∧ (0 ≤ z.2 ∧ z.2 < 10 ^ z.1) ∧ numG 0 s = numG z.2 (s.drop z.1)) (fun z => s.length - z.1)
    ⟨(0, 0), ⟨Nat.zero_le _, ⟨by decide, by decide⟩, rfl⟩, ⟨by simp [fitR, look], trivial, rfl, rfl, rfl⟩⟩ ?_
  rintro ⟨i, n⟩ ⟨g1, ⟨g2, g3⟩, g4⟩
  simp only at g1 g2 g3 g4
  have hi1 : IntKind.i64.wrap ((i : Int) + 1) = ((i + 1 : Nat) : Int) := by rw [i64_in _ (by omega)]; omega
  by_cases hlt : i < s.length
  · have c0 : decide ((i : Int) < (s.length : Int)) = true := by simp; omega
    have hp := hpow i (by omega)
    have hd : s.drop i = s.getD i 0 :: s.drop (i + 1) := by rw [List.drop_eq_getElem_cons hlt]; simp [List.getD_eq_getElem?_getD, hlt]
    rw [hd, numG] at g4
    obtain ⟨c, hc⟩ : ∃ c, s.getD i 0 = c := ⟨_, rfl⟩
    rw [hc] at g4 hd
    have hcl := c.toNat_lt
    have k1 : decide ((c.toNat : Int) < 48) = decide (c.toNat < 48) := by rw [Bool.eq_iff_iff]; simp only [decide_eq_true_eq]; omega
    have k2 : decide ((57 : Int) < (c.toNat : Int)) = decide (57 < c.toNat) := by rw [Bool.eq_iff_iff]; simp only [decide_eq_true_eq]; omega
    simp only [c0, hi1, hc, k1, k2, indexA, Int.toNat_natCast, Tryz.underlying3, sz3, by3, ze3, Tryz.underlying4, sz4, by4, ze4, Tryz.underlying5, sz5, by5, ze5, Tryz.underlying9, sz9, by9, ze9, plan0, go_sem, ↓reduceIte, reduceCtorEq, Nat.reduceEqDiff, Nat.reduceLT, ↓all_qV, Int.reduceToNat, Int.reduceLT, Int.reduceLE, Nat.reduceAdd, Nat.reduceLeDiff, Nat.reduceMul, ev_callG, gcallK_b, gcallK_w, callGc_true, callGc_false]
    refine ⟨⟨by omega, by omega⟩, fun _ => ⟨by omega, by omega⟩, fun h9 => by rw [g4, h9]; rfl, fun h9 => ⟨⟨by omega, by omega⟩, (i + 1, 10 * n + ((c.toNat : Int) - 48)), ⟨by simp only; omega, ?_, by simp only; rw [g4, h9]; rfl⟩, by simp only; omega, ⟨?_, trivial, rfl, rfl, rfl⟩⟩⟩
    all_goals
      have h8 : 48 ≤ c.toNat ∧ c.toNat ≤ 57 := by
        simp only [Bool.or_eq_false_iff, decide_eq_false_iff_not] at h9; omega
    · simp only [Int.pow_succ]
      generalize (10 : Int) ^ i = Y at g3
      omega
    · have w1 : IntKind.i64.wrap (10 * n) = 10 * n := i64_in _ (by omega)
      have w2 : IntKind.u8.wrap ((c.toNat : Int) - 48) = (c.toNat : Int) - 48 := by unfold IntKind.wrap; simp only [IntKind.signed, IntKind.bits, Bool.false_and, Bool.false_eq_true, if_false]; omega
      have w3 : IntKind.i64.wrap ((c.toNat : Int) - 48) = (c.toNat : Int) - 48 := i64_in _ (by omega)
      have w4 : IntKind.i64.wrap (10 * n + ((c.toNat : Int) - 48)) = 10 * n + ((c.toNat : Int) - 48) := i64_in _ (by omega)
      simp [fitR, look, w1, w2, w3, w4]
  · have c0 : decide ((i : Int) < (s.length : Int)) = false := by simp; omega
    rw [List.drop_eq_nil_of_le (by omega)] at g4
    simp only [c0, g4, numG, Tryz.underlying3, sz3, by3, ze3, Tryz.underlying4, sz4, by4, ze4, Tryz.underlying5, sz5, by5, ze5, Tryz.underlying9, sz9, by9, ze9, plan0, go_sem, ↓reduceIte, reduceCtorEq, Nat.reduceEqDiff, Nat.reduceLT, ↓all_qV, Int.reduceToNat, Int.reduceLT, Int.reduceLE, Nat.reduceAdd, Nat.reduceLeDiff, Nat.reduceMul, ev_callG, gcallK_b, gcallK_w, callGc_true, callGc_false]
end Go.AM
