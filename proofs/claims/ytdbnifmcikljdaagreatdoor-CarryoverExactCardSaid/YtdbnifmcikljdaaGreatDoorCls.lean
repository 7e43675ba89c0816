/-
  A part of a proof: see the last text of this claim for what is proved.
-/
import Derived.Test.YtdbnifmcikljdaaGreatDoorP6
import Derived.Test.YtdbnifmcikljdaaGreatDoorZMa
namespace Go.AM
open Go Go.Proofs Go.IntWalk
set_option maxRecDepth 100000
set_option maxHeartbeats 1000000
set_option linter.unusedSimpArgs false
set_option linter.unusedVariables false
def on_ll (p : List PV → List PV → Prop) (f : List PV → List PV → PV) : PSpec
  | [.sl a0, .sl a1] => (p a0 a1, f a0 a1)
  | _ => (False, default)
theorem on_ll_eq {p : List PV → List PV → Prop} {f : List PV → List PV → PV} {a0 : List PV} {a1 : List PV} : on_ll p f [.sl a0, .sl a1] = (p a0 a1, f a0 a1) := rfl
theorem on_ll_inv {p : List PV → List PV → Prop} {f : List PV → List PV → PV} {args : List PV} (h : (on_ll p f args).1) : ∃ a0 : List PV, ∃ a1 : List PV, args = [.sl a0, .sl a1] ∧ p a0 a1 := by
  unfold on_ll at h
  split at h
  · exact ⟨_, _, rfl, h⟩
  · exact h.elim
def on_ss (p : List UInt8 → List UInt8 → Prop) (f : List UInt8 → List UInt8 → PV) : PSpec
  | [.str a0, .str a1] => (p a0 a1, f a0 a1)
  | _ => (False, default)
theorem on_ss_eq {p : List UInt8 → List UInt8 → Prop} {f : List UInt8 → List UInt8 → PV} {a0 : List UInt8} {a1 : List UInt8} : on_ss p f [.str a0, .str a1] = (p a0 a1, f a0 a1) := rfl
theorem on_ss_inv {p : List UInt8 → List UInt8 → Prop} {f : List UInt8 → List UInt8 → PV} {args : List PV} (h : (on_ss p f args).1) : ∃ a0 : List UInt8, ∃ a1 : List UInt8, args = [.str a0, .str a1] ∧ p a0 a1 := by
  unfold on_ss at h
  split at h
  · exact ⟨_, _, rfl, h⟩
  · exact h.elim
def nOf : PV → Int
  | .int _ n => n
  | _ => 0
def allI (es : List PV) : Prop := ∃ l : List Int, es = l.map intV
noncomputable def Ta (g : FuncId) : PSpec := (putΦ Φ0 54 partsCS) g
theorem hTa : TabSound GG Ta := (hΦ0.put w_partsCS)
noncomputable def equalS : PSpec := on_ll (fun a b => allI a ∧ allI b ∧ a.length ≤ 4611686018427387904) (fun a b => .bool (a.map nOf == b.map nOf))
theorem getD_intV {l : List Int} {i : Nat} (h : i < l.length) : (l.map intV).getD i default = .int .i64 (l.getD i 0) := by
  simp [List.getD_eq_getElem?_getD, h, intV]
theorem w_equalS : PSound GG 60 equalS := by
  refine PSound.of_wpc (C := cxP Tryz.prog Φ0 [] 26) (T := plan0) Tryz.func60 rfl rfl rfl (Fit.pure (G := GG) hΦ0 mixed) (fun args h => ?_)
  unfold equalS at h
  obtain ⟨p, q, rfl, hp⟩ := on_ll_inv h
  refine ⟨by simp [cxP], ?_⟩
  simp only [equalS, on_ll_eq, Tryz.f60, argL, plan0]
  obtain ⟨⟨a, rfl⟩, ⟨b, rfl⟩, hl⟩ := hp
  have hn : ∀ l : List Int, (l.map intV).map nOf = l := fun l => by simp [List.map_map, Function.comp_def, nOf, intV]
  simp only [List.length_map] at hl
  simp only [hn, List.length_map, Tryz.underlying3, sz3, by3, ze3, Tryz.underlying4, sz4, by4, ze4, Tryz.underlying22, sz22, by22, ze22, go_sem, ↓reduceIte, reduceCtorEq, Nat.reduceEqDiff, Nat.reduceLT, ↓all_qV, Int.reduceToNat, Int.reduceLT, Int.reduceLE, Nat.reduceAdd, Nat.reduceLeDiff, Nat.reduceMul]
  refine ⟨fun h => ?_, fun h => ?_⟩
  · have : ¬ a = b := fun e => by subst e; simp at h
    simp [this]
  · have h9 : (a.length : Int) = b.length := by simpa using h
    have hab : a.length = b.length := by omega
    refine AWp.loop (T := plan0) (α := Nat) (fun i => ([(0, .pv (.sl (a.map intV))), (1, .pv (.sl (b.map intV))), (12, .pv (.int .i64 a.length)), (13, .pv (.int .i64 i))], [])) (fun i => i ≤ a.length ∧ a.take i = b.take i) (fun i => a.length - i)
      ⟨0, ⟨Nat.zero_le _, rfl⟩, ⟨by simp [fitR, look], trivial, rfl, rfl, rfl⟩⟩ ?_
    rintro i ⟨h1, h2⟩
    have hi1 : i < a.length → IntKind.i64.wrap ((i : Int) + 1) = ((i + 1 : Nat) : Int) := fun _ => by rw [i64_in _ (by omega)]; omega
    by_cases hlt : i < a.length
    · have c0 : decide ((i : Int) < (a.length : Int)) = true := by simp; omega
      have g1 := getD_intV hlt
      have g2 := getD_intV (l := b) (i := i) (by omega)
      simp only [c0, g1, g2, hi1 hlt, List.length_map, Tryz.underlying3, sz3, by3, ze3, Tryz.underlying4, sz4, by4, ze4, Tryz.underlying22, sz22, by22, ze22, plan0, go_sem, ↓reduceIte, reduceCtorEq, Nat.reduceEqDiff, Nat.reduceLT, ↓all_qV, Int.reduceToNat, Int.reduceLT, Int.reduceLE, Nat.reduceAdd, Nat.reduceLeDiff, Nat.reduceMul]
      refine ⟨by kernel_rfl, by omega, by omega, fun h3 => ?_, fun h3 => ⟨i + 1, ⟨by omega, ?_⟩, by omega, ⟨by simp [fitR, look], trivial, rfl, rfl, rfl⟩⟩⟩
      · have : ¬ a = b := fun e => by subst e; simp at h3
        simp [this]
      · have h4 : a.getD i 0 = b.getD i 0 := by simpa using h3
        rw [List.take_add_one, List.take_add_one, h2]
        simp only [List.getD_eq_getElem?_getD, List.getElem?_eq_getElem hlt, List.getElem?_eq_getElem (show i < b.length by omega), Option.getD_some, Option.toList_some] at h4 ⊢
        rw [h4]
    · have c0 : decide ((i : Int) < (a.length : Int)) = false := by simp; omega
      simp only [c0, Tryz.underlying3, sz3, by3, ze3, Tryz.underlying4, sz4, by4, ze4, Tryz.underlying22, sz22, by22, ze22, plan0, go_sem, ↓reduceIte, reduceCtorEq, Nat.reduceEqDiff, Nat.reduceLT, ↓all_qV, Int.reduceToNat, Int.reduceLT, Int.reduceLE, Nat.reduceAdd, Nat.reduceLeDiff, Nat.reduceMul]
      have e1 : i = a.length := by omega
      rw [List.take_of_length_le (by omega), List.take_of_length_le (by omega)] at h2
      simp [h2]
noncomputable def Tb (g : FuncId) : PSpec := (putΦ Ta 60 equalS) g
theorem hTb : TabSound GG Tb := (hTa.put w_equalS)
def undC (a b : List UInt8) : Bool := decide (0 < (partsR b).length) && decide ((partsR b).length ≤ (partsR a).length) && ((partsR a).take (partsR b).length == partsR b)
noncomputable def underCS : PSpec := on_ss (fun a b => a.length ≤ 1000000000000 ∧ b.length ≤ 1000000000000) (fun a b => .bool (undC a b))
theorem partsR_len (s : List UInt8) : (partsR s).length ≤ 4 := by
  unfold partsR
  split
  · simp
  · split
    · simp
    · omega
theorem k_underCS_54 {args : List PV} : Tb 54 args = partsCS args := rfl
theorem k_underCS_60 {args : List PV} : Tb 60 args = equalS args := rfl
theorem w_underCS : PSound GG 48 underCS := by
  refine PSound.of_wpc (C := cxP Tryz.prog Tb [] 29) (T := plan0) Tryz.func48 rfl rfl rfl (Fit.pure (G := GG) hTb mixed) (fun args h => ?_)
  unfold underCS at h
  obtain ⟨a, b, rfl, hp⟩ := on_ss_inv h
  refine ⟨by simp [cxP], ?_⟩
  simp only [underCS, on_ss_eq, Tryz.f48, argL, plan0]
  simp only [k_underCS_54, partsCS, on_s_eq, k_underCS_60, equalS, on_ll_eq, List.length_map, Tryz.underlying3, sz3, by3, ze3, Tryz.underlying4, sz4, by4, ze4, Tryz.underlying9, sz9, by9, ze9, Tryz.underlying22, sz22, by22, ze22, go_sem, ↓reduceIte, reduceCtorEq, Nat.reduceEqDiff, Nat.reduceLT, ↓all_qV, Int.reduceToNat, Int.reduceLT, Int.reduceLE, Nat.reduceAdd, Nat.reduceLeDiff, Nat.reduceMul]
  have hn : ∀ l : List Int, (l.map intV).map nOf = l := fun l => by simp [List.map_map, Function.comp_def, nOf, intV]
  have ht : (List.map intV (partsR a)).take (partsR b).length = ((partsR a).take (partsR b).length).map intV := by rw [List.map_take]
  have b1 := partsR_len a
  have b2 := partsR_len b
  refine ⟨hp.1, hp.2, fun h1 => ⟨by omega, ?_, ?_⟩, fun h1 => ⟨⟨_, ht⟩, ⟨_, rfl⟩, ?_⟩, ?_⟩
  · simp only [Bool.and_eq_true, decide_eq_true_eq] at h1
    omega
  · intro p hp'
    simp only [List.mem_map] at hp'
    obtain ⟨x, _, rfl⟩ := hp'
    rfl
  · rw [ht, List.length_map, List.length_take]; omega
  · rw [ht, hn, hn]
    unfold undC
    simp only [Int.natCast_pos, Int.ofNat_le]
noncomputable def Tc (g : FuncId) : PSpec := (putΦ Tb 48 underCS) g
theorem hTc : TabSound GG Tc := (hTb.put w_underCS)
def cmpL : List Int → List Int → Int
  | [], [] => 0
  | [], _ :: _ => -1
  | _ :: _, [] => 1
  | x :: p, y :: q => if x < y then -1 else if y < x then 1 else cmpL p q
theorem cmpL_end {p q : List Int} {i : Nat} (h1 : i ≤ p.length) (h2 : i ≤ q.length) (h : ¬ (i < p.length ∧ i < q.length)) : cmpL (p.drop i) (q.drop i) = if p.length < q.length then -1 else if q.length < p.length then 1 else 0 := by
  by_cases h3 : p.length < q.length
  · rw [show p.drop i = [] from List.drop_eq_nil_of_le (by omega), List.drop_eq_getElem_cons (show i < q.length by omega), if_pos h3]; rfl
  · by_cases h4 : q.length < p.length
    · rw [List.drop_eq_getElem_cons (show i < p.length by omega), show q.drop i = [] from List.drop_eq_nil_of_le (by omega), if_neg h3, if_pos h4]; rfl
    · rw [show q.drop i = [] from List.drop_eq_nil_of_le (by omega), show p.drop i = [] from List.drop_eq_nil_of_le (by omega), if_neg h3, if_neg h4]; rfl
noncomputable def nanSS : PSpec := on_s (fun _ => True) (fun _ => .bool false)
theorem w_nanSS : PSound GG 75 nanSS := by
  refine PSound.of_wpc (C := cxP Tryz.prog Φ0 [] 6) (T := plan0) Tryz.func75 rfl rfl rfl (Fit.pure (G := GG) hΦ0 mixed) (fun args h => ?_)
  unfold nanSS at h
  obtain ⟨s, rfl, hp⟩ := on_s_inv h
  refine ⟨by simp [cxP], ?_⟩
  simp only [nanSS, on_s_eq, Tryz.f75, argL, plan0]
  simp only [Tryz.underlying4, sz4, by4, ze4, Tryz.underlying9, sz9, by9, ze9, go_sem, ↓reduceIte, reduceCtorEq, Nat.reduceEqDiff, Nat.reduceLT, ↓all_qV, Int.reduceToNat, Int.reduceLT, Int.reduceLE, Nat.reduceAdd, Nat.reduceLeDiff, Nat.reduceMul]
noncomputable def nanIS : PSpec := on_i (fun _ => True) (fun _ => .bool false)
theorem w_nanIS : PSound GG 71 nanIS := by
  refine PSound.of_wpc (C := cxP Tryz.prog Φ0 [] 6) (T := plan0) Tryz.func71 rfl rfl rfl (Fit.pure (G := GG) hΦ0 mixed) (fun args h => ?_)
  unfold nanIS at h
  obtain ⟨n, rfl, hp⟩ := on_i_inv h
  refine ⟨by simp [cxP], ?_⟩
  simp only [nanIS, on_i_eq, Tryz.f71, argL, plan0]
  simp only [Tryz.underlying3, sz3, by3, ze3, Tryz.underlying4, sz4, by4, ze4, go_sem, ↓reduceIte, reduceCtorEq, Nat.reduceEqDiff, Nat.reduceLT, ↓all_qV, Int.reduceToNat, Int.reduceLT, Int.reduceLE, Nat.reduceAdd, Nat.reduceLeDiff, Nat.reduceMul]
  simp
noncomputable def Td (g : FuncId) : PSpec := (putΦ (putΦ Tc 75 nanSS) 71 nanIS) g
theorem hTd : TabSound GG Td := ((hTc.put w_nanSS).put w_nanIS)
def cmpS (a b : List UInt8) : Int := bif Op.bytesLess a b then -1 else bif !(Op.bytesLess a b || a == b) then 1 else 0
def cmpI (a b : Int) : Int := bif decide (a < b) then -1 else bif decide (b < a) then 1 else 0
noncomputable def cmpSS : PSpec := on_ss (fun _ _ => True) (fun a b => .int .i64 (cmpS a b))
theorem k_cmpSS_75 {args : List PV} : Td 75 args = nanSS args := rfl
theorem w_cmpSS : PSound GG 55 cmpSS := by
  refine PSound.of_wpc (C := cxP Tryz.prog Td [] 20) (T := plan0) Tryz.func55 rfl rfl rfl (Fit.pure (G := GG) hTd mixed) (fun args h => ?_)
  unfold cmpSS at h
  obtain ⟨a, b, rfl, hp⟩ := on_ss_inv h
  refine ⟨by simp [cxP], ?_⟩
  simp only [cmpSS, on_ss_eq, Tryz.f55, argL, plan0]
  simp only [k_cmpSS_75, nanSS, on_s_eq, Tryz.underlying3, sz3, by3, ze3, Tryz.underlying4, sz4, by4, ze4, Tryz.underlying9, sz9, by9, ze9, go_sem, ↓reduceIte, reduceCtorEq, Nat.reduceEqDiff, Nat.reduceLT, ↓all_qV, Int.reduceToNat, Int.reduceLT, Int.reduceLE, Nat.reduceAdd, Nat.reduceLeDiff, Nat.reduceMul]
  refine ⟨fun h1 => ?_, fun h1 => ⟨fun h2 => ?_, fun h2 => ?_⟩⟩ <;> unfold cmpS
  · rw [h1]; rfl
  · rw [h1] at h2 ⊢; rw [h2]; rfl
  · rw [h1] at h2 ⊢; rw [h2]; rfl
noncomputable def cmpIS : PSpec := on_ii (fun _ _ => True) (fun a b => .int .i64 (cmpI a b))
theorem k_cmpIS_71 {args : List PV} : Td 71 args = nanIS args := rfl
theorem w_cmpIS : PSound GG 53 cmpIS := by
  refine PSound.of_wpc (C := cxP Tryz.prog Td [] 20) (T := plan0) Tryz.func53 rfl rfl rfl (Fit.pure (G := GG) hTd mixed) (fun args h => ?_)
  unfold cmpIS at h
  obtain ⟨a, b, rfl, hp⟩ := on_ii_inv h
  refine ⟨by simp [cxP], ?_⟩
  simp only [cmpIS, on_ii_eq, Tryz.f53, argL, plan0]
  simp only [k_cmpIS_71, nanIS, on_i_eq, Tryz.underlying3, sz3, by3, ze3, Tryz.underlying4, sz4, by4, ze4, go_sem, ↓reduceIte, reduceCtorEq, Nat.reduceEqDiff, Nat.reduceLT, ↓all_qV, Int.reduceToNat, Int.reduceLT, Int.reduceLE, Nat.reduceAdd, Nat.reduceLeDiff, Nat.reduceMul]
  refine ⟨fun h1 => ?_, fun h1 => ⟨fun h2 => ?_, fun h2 => ?_⟩⟩ <;> unfold cmpI
  · rw [h1]; rfl
  · rw [h1, h2]; rfl
  · rw [h1, h2]; rfl
noncomputable def Te (g : FuncId) : PSpec := (putΦ (putΦ Td 55 cmpSS) 53 cmpIS) g
theorem hTe : TabSound GG Te := ((hTd.put w_cmpSS).put w_cmpIS)
theorem cmpL_step (x y : Int) (p q : List Int) : cmpL (x :: p) (y :: q) = bif cmpI x y != 0 then cmpI x y else cmpL p q := by
  rw [cmpL]; unfold cmpI
  by_cases h1 : x < y
  · simp [h1]
  · by_cases h2 : y < x
    · simp [h1, h2]
    · simp [h1, h2]
noncomputable def cmpLS : PSpec := on_ll (fun a b => allI a ∧ allI b ∧ a.length ≤ 4611686018427387904 ∧ b.length ≤ 4611686018427387904) (fun a b => .int .i64 (cmpL (a.map nOf) (b.map nOf)))
theorem k_cmpLS_53 {args : List PV} : Te 53 args = cmpIS args := rfl
theorem w_cmpLS : PSound GG 56 cmpLS := by
  refine PSound.of_wpc (C := cxP Tryz.prog Te [] 36) (T := plan0) Tryz.func56 rfl rfl rfl (Fit.pure (G := GG) hTe mixed) (fun args h => ?_)
  unfold cmpLS at h
  obtain ⟨a, b, rfl, hp⟩ := on_ll_inv h
  refine ⟨by simp [cxP], ?_⟩
  simp only [cmpLS, on_ll_eq, Tryz.f56, argL, plan0]
  obtain ⟨⟨p, rfl⟩, ⟨q, rfl⟩, hl, hl2⟩ := hp
  have hn : ∀ l : List Int, (l.map intV).map nOf = l := fun l => by simp [List.map_map, Function.comp_def, nOf, intV]
  simp only [List.length_map] at hl hl2
  simp only [hn, List.length_map, Tryz.underlying3, sz3, by3, ze3, Tryz.underlying4, sz4, by4, ze4, Tryz.underlying22, sz22, by22, ze22, go_sem, ↓reduceIte, reduceCtorEq, Nat.reduceEqDiff, Nat.reduceLT, ↓all_qV, Int.reduceToNat, Int.reduceLT, Int.reduceLE, Nat.reduceAdd, Nat.reduceLeDiff, Nat.reduceMul]
  refine AWp.loop (T := plan0) (α := Nat) (fun i => ([(0, .pv (.sl (p.map intV))), (1, .pv (.sl (q.map intV))), (9, .pv (.sl (p.map intV))), (10, .pv (.int .i64 p.length)), (11, .pv (.int .i64 i))], [])) (fun i => (i ≤ p.length ∧ i ≤ q.length) ∧ cmpL (p.drop i) (q.drop i) = cmpL p q) (fun i => p.length - i)
    ⟨0, ⟨⟨Nat.zero_le _, Nat.zero_le _⟩, rfl⟩, ⟨by simp [fitR, look], trivial, rfl, rfl, rfl⟩⟩ ?_
  rintro i ⟨⟨g1, g2⟩, g3⟩
  have hi1 : IntKind.i64.wrap ((i : Int) + 1) = ((i + 1 : Nat) : Int) := by rw [i64_in _ (by omega)]; omega
  by_cases hlt : i < p.length
  · have c0 : decide ((i : Int) < (p.length : Int)) = true := by simp; omega
    have k1 := getD_intV hlt
    have d1 : p.drop i = p.getD i 0 :: p.drop (i + 1) := by rw [List.drop_eq_getElem_cons hlt]; simp [List.getD_eq_getElem?_getD, hlt]
    by_cases hlq : i < q.length
    · have c1 : decide ((q.length : Int) ≤ (i : Int)) = false := by simp; omega
      have k2 := getD_intV hlq
      have d2 : q.drop i = q.getD i 0 :: q.drop (i + 1) := by rw [List.drop_eq_getElem_cons hlq]; simp [List.getD_eq_getElem?_getD, hlq]
      rw [d1, d2, cmpL_step] at g3
      simp only [c0, c1, k1, k2, hi1, List.length_map, k_cmpLS_53, cmpIS, on_ii_eq, Tryz.underlying3, sz3, by3, ze3, Tryz.underlying4, sz4, by4, ze4, Tryz.underlying22, sz22, by22, ze22, plan0, go_sem, ↓reduceIte, reduceCtorEq, Nat.reduceEqDiff, Nat.reduceLT, ↓all_qV, Int.reduceToNat, Int.reduceLT, Int.reduceLE, Nat.reduceAdd, Nat.reduceLeDiff, Nat.reduceMul]
      refine ⟨⟨by omega, by omega⟩, ⟨by omega, by omega⟩, fun h3 => ?_, fun h3 => ⟨i + 1, ⟨⟨by omega, by omega⟩, ?_⟩, by omega, ⟨by simp [fitR, look], trivial, rfl, rfl, rfl⟩⟩⟩
      · rw [h3, cond_true] at g3; rw [g3]
      · rw [h3, cond_false] at g3; exact g3
    · have c1 : decide ((q.length : Int) ≤ (i : Int)) = true := by simp; omega
      rw [d1, show q.drop i = [] from List.drop_eq_nil_of_le (by omega)] at g3
      simp only [c0, c1, k1, hi1, List.length_map, k_cmpLS_53, cmpIS, on_ii_eq, Tryz.underlying3, sz3, by3, ze3, Tryz.underlying4, sz4, by4, ze4, Tryz.underlying22, sz22, by22, ze22, plan0, go_sem, ↓reduceIte, reduceCtorEq, Nat.reduceEqDiff, Nat.reduceLT, ↓all_qV, Int.reduceToNat, Int.reduceLT, Int.reduceLE, Nat.reduceAdd, Nat.reduceLeDiff, Nat.reduceMul]
      rw [← g3]
      exact ⟨⟨by omega, by omega⟩, rfl⟩
  · have c0 : decide ((i : Int) < (p.length : Int)) = false := by simp; omega
    rw [cmpL_end g1 g2 (by omega)] at g3
    simp only [c0, List.length_map, Tryz.underlying3, sz3, by3, ze3, Tryz.underlying4, sz4, by4, ze4, Tryz.underlying22, sz22, by22, ze22, plan0, go_sem, ↓reduceIte, reduceCtorEq, Nat.reduceEqDiff, Nat.reduceLT, ↓all_qV, Int.reduceToNat, Int.reduceLT, Int.reduceLE, Nat.reduceAdd, Nat.reduceLeDiff, Nat.reduceMul]
    rw [← g3]
    refine ⟨fun h => ?_, fun h => ?_⟩
    · rw [if_pos (by simpa using h)]
    · have h9 : ¬ (p.length : Int) < q.length := by simpa using h
      rw [if_neg (by omega), if_neg (by omega)]
noncomputable def Tf (g : FuncId) : PSpec := (putΦ Te 56 cmpLS) g
theorem hTf : TabSound GG Tf := (hTe.put w_cmpLS)
def cmpC (a b : List UInt8) : Int := bif ((partsR a).length : Int) == 0 && ((partsR b).length : Int) == 0 then cmpS a b else cmpL (partsR a) (partsR b)
noncomputable def cmpCS : PSpec := on_ss (fun a b => a.length ≤ 1000000000000 ∧ b.length ≤ 1000000000000) (fun a b => .int .i64 (cmpC a b))
theorem k_cmpCS_54 {args : List PV} : Tf 54 args = partsCS args := rfl
theorem k_cmpCS_55 {args : List PV} : Tf 55 args = cmpSS args := rfl
theorem k_cmpCS_56 {args : List PV} : Tf 56 args = cmpLS args := rfl
theorem w_cmpCS : PSound GG 33 cmpCS := by
  refine PSound.of_wpc (C := cxP Tryz.prog Tf [] 25) (T := plan0) Tryz.func33 rfl rfl rfl (Fit.pure (G := GG) hTf mixed) (fun args h => ?_)
  unfold cmpCS at h
  obtain ⟨a, b, rfl, hp⟩ := on_ss_inv h
  refine ⟨by simp [cxP], ?_⟩
  simp only [cmpCS, on_ss_eq, Tryz.f33, argL, plan0]
  have hn : ∀ l : List Int, (l.map intV).map nOf = l := fun l => by simp [List.map_map, Function.comp_def, nOf, intV]
  have b1 := partsR_len a
  have b2 := partsR_len b
  simp only [hn, k_cmpCS_54, partsCS, on_s_eq, k_cmpCS_55, cmpSS, on_ss_eq, k_cmpCS_56, cmpLS, on_ll_eq, List.length_map, Tryz.underlying3, sz3, by3, ze3, Tryz.underlying4, sz4, by4, ze4, Tryz.underlying9, sz9, by9, ze9, Tryz.underlying22, sz22, by22, ze22, go_sem, ↓reduceIte, reduceCtorEq, Nat.reduceEqDiff, Nat.reduceLT, ↓all_qV, Int.reduceToNat, Int.reduceLT, Int.reduceLE, Nat.reduceAdd, Nat.reduceLeDiff, Nat.reduceMul]
  refine ⟨hp.1, hp.2, fun h => ?_, fun h => ⟨⟨⟨_, rfl⟩, ⟨_, rfl⟩, by omega, by omega⟩, ?_⟩⟩ <;> unfold cmpC
  · rw [h]; rfl
  · rw [h]; rfl
noncomputable def Tcls (g : FuncId) : PSpec := (putΦ Tf 33 cmpCS) g
theorem hTcls : TabSound GG Tcls := (hTf.put w_cmpCS)
end Go.AM
