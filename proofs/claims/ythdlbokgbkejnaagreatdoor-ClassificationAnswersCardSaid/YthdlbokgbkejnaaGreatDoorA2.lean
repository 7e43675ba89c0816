/-
  A part of a proof: see the last text of this claim for what is proved.
-/
import Derived.Test.YthdlbokgbkejnaaGreatDoorA1
import Derived.Test.YthdlbokgbkejnaaGreatDoorT
import Derived.Test.YthdlbokgbkejnaaGreatDoorZMa
import Derived.Test.YthdlbokgbkejnaaGreatDoorP0
import Derived.Test.YthdlbokgbkejnaaGreatDoorFMa
namespace Go.AM
open Go Go.Proofs Go.IntWalk
set_option maxRecDepth 100000
set_option maxHeartbeats 1000000
set_option linter.unusedSimpArgs false
set_option linter.unusedVariables false
theorem dec_dig (u : Nat) : ∀ c, c ∈ Lib.decDigits u → 48 ≤ c.toNat ∧ c.toNat ≤ 57 := by
  have hd : ∀ d : Nat, d < 10 → (UInt8.ofNat (48 + d)).toNat = 48 + d := fun d h => by rw [UInt8.toNat_ofNat']; omega
  induction u using Nat.strongRecOn with
  | _ u ih =>
    intro c hc
    by_cases h : u < 10
    · rw [Lib.decDigits_one h, List.mem_singleton] at hc
      rw [hc, hd u h]; omega
    · have hm : u % 10 < 10 := Nat.mod_lt _ (by decide)
      rw [Lib.decDigits, dif_neg h, List.mem_append, List.mem_singleton] at hc
      rcases hc with hc | hc
      · exact ih (u / 10) (by omega) c hc
      · rw [hc, hd _ hm]; omega
theorem dec_pos (u : Nat) : 1 ≤ (Lib.decDigits u).length := by
  have h1 := Lib.decDigits_length u
  have h2 := Lib.nDigits_pos u
  omega
theorem itoa_nat {n : Int} (h : 0 ≤ n) : Lib.itoa n = Lib.decDigits n.toNat := by unfold Lib.itoa; rw [if_neg (by omega)]
theorem itoa_minus {n : Int} (h : n < 0) : Lib.itoa n = 45 :: Lib.decDigits (-n).toNat := by
  have := Lib.itoa_neg (-n).toNat (by omega)
  rwa [show -(((-n).toNat : Nat) : Int) = n by omega] at this
theorem itoa_no46 (n : Int) : (46 : UInt8) ∉ Lib.itoa n := by
  intro h
  by_cases hn : n < 0
  · rw [itoa_minus hn] at h
    rcases List.mem_cons.1 h with h | h
    · revert h; decide
    · have := (dec_dig _ _ h).1; revert this; decide
  · rw [itoa_nat (by omega)] at h
    have := (dec_dig _ _ h).1; revert this; decide
theorem goW_none {n : Int} (h : ¬ (1 ≤ n ∧ n ≤ 99)) : goW (Lib.itoa n) = none := by
  rw [goW_ref]
  by_cases hn : n < 0
  · rw [itoa_minus hn]
    have := dec_pos (-n).toNat
    match hd : Lib.decDigits (-n).toNat, this with
    | [e], _ => exact (refW_2 (c := 45) (e := e)).trans (if_neg (by rw [show (45 : UInt8).toNat = 45 from rfl]; omega))
    | _ :: _ :: _, _ => rfl
  · by_cases h0 : n = 0
    · subst h0; decide +kernel
    · have h3 : 3 ≤ (Lib.itoa n).length := by
        rw [itoa_nat (by omega)]
        have h1 : ¬ n.toNat < 10 := by omega
        have h2 : ¬ n.toNat / 10 < 10 := by omega
        rw [Lib.decDigits, dif_neg h1, Lib.decDigits, dif_neg h2]
        have := dec_pos (n.toNat / 10 / 10)
        simp only [List.length_append, List.length_cons, List.length_nil]; omega
      match hi : Lib.itoa n, h3 with
      | _ :: _ :: _ :: _, _ => rfl
theorem word_of : ∀ {w : List UInt8}, (46 : UInt8) ∉ w → wordsOf w = [w]
  | [], _ => rfl
  | c :: w, h => by
    rw [List.mem_cons, not_or] at h
    rw [wordsOf, if_neg (fun e => h.1 e.symm), word_of h.2]; rfl
theorem words_join : ∀ {ws : List (List UInt8)}, ws ≠ [] → (∀ w, w ∈ ws → (46 : UInt8) ∉ w) → wordsOf (joinD ws) = ws
  | [], h, _ => absurd rfl h
  | [w], _, h => word_of (h w List.mem_cons_self)
  | w :: v :: ws, _, h => by
    rw [joinD_cons (by simp), words_dot, word_of (h w List.mem_cons_self), words_join (ws := v :: ws) (by simp) (fun x hx => h x (List.mem_cons_of_mem _ hx))]
    rfl
theorem join_D : ∀ ws : List (List UInt8), Lib.join ws [46] = joinD ws
  | [] => rfl
  | w :: ws => by
    have key : ∀ vs : List (List UInt8), vs ≠ [] → Lib.joinTail [46] vs = 46 :: joinD vs := by
      intro vs
      induction vs with
      | nil => intro h; exact absurd rfl h
      | cons v r ih =>
        intro _
        cases r with
        | nil => simp [Lib.joinTail, joinD]
        | cons x r' =>
          have := ih (by simp)
          rw [joinD_cons (by simp), ← this]
          simp [Lib.joinTail]
    rw [Lib.join_cons]
    cases ws with
    | nil => simp [Lib.joinTail, joinD]
    | cons v r => exact (congrArg (w ++ ·) (key (v :: r) (by simp))).trans (joinD_cons (w := w) (ws := v :: r) (by simp)).symm
theorem goP_map : ∀ (l acc : List Int), goP acc (l.map Lib.itoa) = if (∀ v, v ∈ l → 1 ≤ v ∧ v ≤ 99) then some (acc ++ l) else none
  | [], acc => by rw [if_pos (fun v hv => by cases hv), List.map_nil, goP_nil, List.append_nil]
  | n :: r, acc => by
    rw [List.map_cons, goP_cons]
    by_cases hn : 1 ≤ n ∧ n ≤ 99
    · rw [goW_itoa' hn]
      simp only
      rw [goP_map r]
      by_cases hr : ∀ v, v ∈ r → 1 ≤ v ∧ v ≤ 99
      · rw [if_pos hr, if_pos (fun v hv => by rcases List.mem_cons.1 hv with rfl | hv; exact hn; exact hr v hv)]; simp
      · rw [if_neg hr, if_neg (fun h => hr (fun v hv => h v (List.mem_cons_of_mem _ hv)))]
    · rw [goW_none hn, if_neg (fun h => hn (h n List.mem_cons_self))]
theorem codeG_good : ∀ {r : List Int} {out : List UInt8}, (∀ v, v ∈ r → 1 ≤ v ∧ v ≤ 99) → codeG false out r = out ++ Lib.joinTail [46] (r.map Lib.itoa)
  | [], out, _ => by simp [codeG, Lib.joinTail]
  | n :: r, out, h => by
    have hn := h n List.mem_cons_self
    have c0 : (decide (n < 1) || decide (99 < n)) = false := by simp; omega
    rw [codeG, c0, cond_false, cond_false, codeG_good (fun v hv => h v (List.mem_cons_of_mem _ hv))]
    simp [Lib.joinTail]
theorem codeG_bad : ∀ {r : List Int} {b : Bool} {out : List UInt8}, ¬ (∀ v, v ∈ r → 1 ≤ v ∧ v ≤ 99) → codeG b out r = []
  | [], _, _, h => absurd (fun v hv => by cases hv) h
  | n :: r, b, out, h => by
    rw [codeG]
    cases hc : (decide (n < 1) || decide (99 < n)) with
    | true => rfl
    | false =>
      rw [cond_false]
      refine codeG_bad (fun hr => h (fun v hv => ?_))
      rcases List.mem_cons.1 hv with rfl | hv
      · simp only [Bool.or_eq_false_iff, decide_eq_false_iff_not] at hc; omega
      · exact hr v hv
theorem code_eq (l : List Int) : codeF l = cdC l := by
  unfold cdC
  cases l with
  | nil => decide +kernel
  | cons n r =>
    have hj : jnF (n :: r) = joinD ((n :: r).map Lib.itoa) := join_D _
    have hw : wordsOf (jnF (n :: r)) = (n :: r).map Lib.itoa := by
      rw [hj]
      refine words_join (by simp) (fun w hw => ?_)
      obtain ⟨v, _, rfl⟩ := List.mem_map.1 hw
      exact itoa_no46 v
    have hp : partsR (jnF (n :: r)) = epP (goP [] (wordsOf (jnF (n :: r)))) := rfl
    rw [hw, goP_map, List.nil_append] at hp
    unfold codeF
    by_cases hg : ∀ v, v ∈ n :: r → 1 ≤ v ∧ v ≤ 99
    · rw [if_pos hg] at hp
      by_cases h4 : 4 < (n :: r).length
      · rw [if_pos h4]
        have : partsR (jnF (n :: r)) = [] := by rw [hp]; show (if _ then _ else _) = _; rw [if_pos h4]
        have hc : isCode (jnF (n :: r)) = false := by unfold isCode; rw [this]; rfl
        rw [hc]; rfl
      · rw [if_neg h4]
        have : partsR (jnF (n :: r)) = n :: r := by rw [hp]; show (if _ then _ else _) = _; rw [if_neg h4]
        have hc : isCode (jnF (n :: r)) = true := isCode_pos.2 (by rw [this]; simp)
        rw [hc, cond_true]
        have hn := hg n List.mem_cons_self
        have c0 : (decide (n < 1) || decide (99 < n)) = false := by simp; omega
        rw [codeG, c0, cond_false, cond_true, List.nil_append, codeG_good (fun v hv => hg v (List.mem_cons_of_mem _ hv))]
        exact (Lib.join_cons _ _ _).symm
    · rw [if_neg hg] at hp
      have hc : isCode (jnF (n :: r)) = false := by unfold isCode; rw [hp]; rfl
      rw [hc, codeG_bad hg]
      simp
theorem trL_len (b : Int) : ∀ s : List UInt8, (trL b s).length ≤ s.length
  | [] => Nat.le_refl _
  | x :: r => by
    have := trL_len b r
    unfold trL
    cases ((x.toNat : Int) == b) with
    | true => simp only [cond_true, List.length_cons]; omega
    | false => exact Nat.le_refl _
theorem trim_eq {s : List UInt8} (h : 1 ≤ s.length) : (trimF s == s) = (!(((s.getD 0 0).toNat : Int) == 32) && !(((s.getD (s.length - 1) 0).toNat : Int) == 32)) := by
  obtain ⟨k, hk⟩ : ∃ k, s.length = k + 1 := ⟨s.length - 1, by omega⟩
  have hs1 : s.length - 1 = k := by omega
  rw [hs1]
  cases s with
  | nil => simp at h
  | cons x r =>
    have hx : (x :: r).getD 0 0 = x := rfl
    rw [hx]
    have hR : trR 32 (x :: r) = (x :: r).take (trK (x :: r) 32 (k + 1)) := by unfold trR; rw [hk]
    cases hl : ((((x :: r).getD k 0).toNat : Int) == 32) with
    | true =>
      have h1 : trK (x :: r) 32 (k + 1) = trK (x :: r) 32 k := by rw [trK, hl, cond_true]
      have h2 := trK_le (x :: r) 32 k
      have : ¬ trimF (x :: r) = x :: r := fun e => by
        have h3 := trL_len 32 (trR 32 (x :: r))
        have h4 : (trR 32 (x :: r)).length ≤ k := by rw [hR, h1, List.length_take]; omega
        have h5 := congrArg List.length e
        unfold trimF at h5
        omega
      simp [this]
    | false =>
      have h1 : trK (x :: r) 32 (k + 1) = k + 1 := by rw [trK, hl, cond_false]
      have h2 : trR 32 (x :: r) = x :: r := by rw [hR, h1, List.take_of_length_le (by omega)]
      unfold trimF
      rw [h2, trL]
      cases hf : ((x.toNat : Int) == 32) with
      | true =>
        have h3 := trL_len 32 r
        have : ¬ trL 32 r = x :: r := fun e => by
          have h5 := congrArg List.length e
          simp only [List.length_cons] at h5; omega
        simp [this]
      | false => simp
theorem nmF_eq (s : List UInt8) : nmF s = bif decide ((s.length : Int) < 1) || decide (40 < (s.length : Int)) || ((s.getD 0 0).toNat : Int) == 32 || ((s.getD (s.length - 1) 0).toNat : Int) == 32 then false else s.all nmB := by
  unfold nmF
  by_cases h : 1 ≤ s.length
  · rw [trim_eq h]
    have a1 : decide ((s.length : Int) < 1) = false := by simp; omega
    have a2 : decide ((1 : Int) ≤ (s.length : Int)) = true := by simp; omega
    have a3 : decide ((s.length : Int) ≤ 40) = !decide (40 < (s.length : Int)) := by rw [Bool.eq_iff_iff]; simp
    rw [a1, a2, a3]
    generalize (((s.getD 0 0).toNat : Int) == 32) = x
    generalize (((s.getD (s.length - 1) 0).toNat : Int) == 32) = y
    cases s.all nmB <;> cases decide (40 < (s.length : Int)) <;> cases x <;> cases y <;> rfl
  · have a1 : decide ((s.length : Int) < 1) = true := by simp; omega
    have a2 : decide ((1 : Int) ≤ (s.length : Int)) = false := by simp; omega
    rw [a1, a2]
    simp
end Go.AM
namespace Go.AM
open Go Go.Proofs Go.IntWalk
set_option maxRecDepth 100000
set_option maxHeartbeats 1000000
set_option linter.unusedSimpArgs false
set_option linter.unusedVariables false
def totB (n : Int) : Bool := decide (-1000000000000000 ≤ n) && decide (n ≤ 1000000000000000)
noncomputable def totS : PSpec := on_i (fun _ => True) (fun n => .bool (totB n))
theorem w_totS : PSound GG 76 totS := by
  refine PSound.of_wpc (C := cxP Tryz.prog Φ0 [] 9) (T := plan0) Tryz.func76 rfl rfl rfl (Fit.pure (G := GG) hΦ0 mixed) (fun args h => ?_)
  unfold totS at h
  obtain ⟨n, rfl, hp⟩ := on_i_inv h
  refine ⟨by simp [cxP], ?_⟩
  simp only [totS, on_i_eq, Tryz.f76, argL, plan0]
  simp only [Tryz.underlying3, sz3, by3, ze3, Tryz.underlying4, sz4, by4, ze4, go_sem, ↓reduceIte, reduceCtorEq, Nat.reduceEqDiff, Nat.reduceLT, ↓all_qV, Int.reduceToNat, Int.reduceLT, Int.reduceLE, Nat.reduceAdd, Nat.reduceLeDiff, Nat.reduceMul]
  rfl
noncomputable def X1 (g : FuncId) : PSpec := putΦ Td 76 totS g
theorem hX1 : TabSound GG X1 := hTd.put w_totS
theorem X1_tot {args : List PV} : X1 76 args = totS args := rfl
def msF : List Int → Int → Int × Int
  | [], acc => (acc, 0)
  | x :: r, acc => bif !totB x || !totB (IntKind.i64.wrap (acc + x)) then (0, 2) else msF r (IntKind.i64.wrap (acc + x))
noncomputable def msS : PSpec := on_l (fun es => allI es ∧ es.length ≤ 4611686018427387904) (fun es => .tup [.int .i64 (msF (es.map nOf) 0).1, .int .i64 (msF (es.map nOf) 0).2])
theorem w_msS : PSound GG 58 msS := by
  refine PSound.of_wpc (C := cxP Tryz.prog X1 [] 28) (T := plan0) Tryz.func58 rfl rfl rfl (Fit.pure (G := GG) hX1 mixed) (fun args h => ?_)
  unfold msS at h
  obtain ⟨es, rfl, hp⟩ := on_l_inv h
  refine ⟨by simp [cxP], ?_⟩
  simp only [msS, on_l_eq, Tryz.f58, argL, plan0]
  obtain ⟨⟨l, rfl⟩, hn⟩ := hp
  have hno : ∀ l : List Int, (l.map intV).map nOf = l := fun l => by simp [List.map_map, Function.comp_def, nOf, intV]
  simp only [List.length_map] at hn
  simp only [hno, List.length_map, Tryz.underlying3, sz3, by3, ze3, Tryz.underlying4, sz4, by4, ze4, Tryz.underlying22, sz22, by22, ze22, Tryz.underlying44, sz44, by44, ze44, go_sem, ↓reduceIte, reduceCtorEq, Nat.reduceEqDiff, Nat.reduceLT, ↓all_qV, Int.reduceToNat, Int.reduceLT, Int.reduceLE, Nat.reduceAdd, Nat.reduceLeDiff, Nat.reduceMul]
  refine AWp.loop (T := plan0) (α := Nat × Int) (fun x => ([(4, .pv (.int .i64 x.2)), (7, .pv (.sl (l.map intV))), (8, .pv (.int .i64 l.length)), (9, .pv (.int .i64 x.1))], [])) (fun x => x.1 ≤ l.length ∧ msF (l.drop x.1) x.2 = msF l 0) (fun x => l.length - x.1)
    ⟨(0, 0), ⟨Nat.zero_le _, rfl⟩, ⟨by simp [fitR, look], trivial, rfl, rfl, rfl⟩⟩ ?_
  rintro ⟨i, acc⟩ ⟨h1, h2⟩
  simp only at h1 h2
  have hi1 : IntKind.i64.wrap ((i : Int) + 1) = ((i + 1 : Nat) : Int) := by rw [i64_in _ (by omega)]; omega
  by_cases hlt : i < l.length
  · have c0 : decide ((i : Int) < (l.length : Int)) = true := by simp; omega
    have k1 := getD_intV hlt
    have d1 : l.drop i = l.getD i 0 :: l.drop (i + 1) := by rw [List.drop_eq_getElem_cons hlt]; simp [List.getD_eq_getElem?_getD, hlt]
    rw [d1, msF] at h2
    generalize l.getD i 0 = n at h2 k1
    simp only [c0, k1, hi1, List.length_map, X1_tot, totS, on_i_eq, Tryz.underlying3, sz3, by3, ze3, Tryz.underlying4, sz4, by4, ze4, Tryz.underlying22, sz22, by22, ze22, Tryz.underlying44, sz44, by44, ze44, plan0, go_sem, ↓reduceIte, reduceCtorEq, Nat.reduceEqDiff, Nat.reduceLT, ↓all_qV, Int.reduceToNat, Int.reduceLT, Int.reduceLE, Nat.reduceAdd, Nat.reduceLeDiff, Nat.reduceMul]
    refine ⟨⟨by omega, by omega⟩, fun h9 => by simpa using h9, fun h9 => ?_, fun h9 => ⟨(i + 1, IntKind.i64.wrap (acc + n)), ⟨by simp only; omega, ?_⟩, by simp only; omega, ⟨by simp [fitR, look], trivial, rfl, rfl, rfl⟩⟩⟩
    · rw [h9, cond_true] at h2
      rw [← h2]
    · rw [h9, cond_false] at h2
      exact h2
  · have c0 : decide ((i : Int) < (l.length : Int)) = false := by simp; omega
    rw [List.drop_eq_nil_of_le (by omega), msF] at h2
    simp only [c0, Tryz.underlying3, sz3, by3, ze3, Tryz.underlying4, sz4, by4, ze4, Tryz.underlying22, sz22, by22, ze22, Tryz.underlying44, sz44, by44, ze44, plan0, go_sem, ↓reduceIte, reduceCtorEq, Nat.reduceEqDiff, Nat.reduceLT, ↓all_qV, Int.reduceToNat, Int.reduceLT, Int.reduceLE, Nat.reduceAdd, Nat.reduceLeDiff, Nat.reduceMul]
    rw [← h2]
noncomputable def X2 (g : FuncId) : PSpec := putΦ X1 58 msS g
theorem hX2 : TabSound GG X2 := hX1.put w_msS
theorem X2_ms {args : List PV} : X2 58 args = msS args := rfl
theorem X2_under {args : List PV} : X2 15 args = underCS args := rfl
def lnV (c : List UInt8) (y a : Int) : PV := .agg [.str c, .int .i64 y, .int .i64 a]
def isL (e : PV) : Prop := ∃ c y a, e = lnV c y a ∧ c.length ≤ 1000000000000
def pkF (code : List UInt8) (yr : Int) : PV → Bool
  | .agg [.str c, .int _ y, _] => (yr == -1 || y == yr) && (code == [] || undC c code)
  | _ => false
def amF : PV → Int
  | .agg [_, _, .int _ a] => a
  | _ => 0
def smF (l : List PV) (code : List UInt8) (yr : Int) : Int × Int := msF ((l.filter (pkF code yr)).map amF) 0
def on_lsi (p : List PV → List UInt8 → Int → Prop) (f : List PV → List UInt8 → Int → PV) : PSpec
  | [.sl a0, .str a1, .int .i64 a2] => (p a0 a1 a2, f a0 a1 a2)
  | _ => (False, default)
theorem on_lsi_eq {p : List PV → List UInt8 → Int → Prop} {f : List PV → List UInt8 → Int → PV} {a0 : List PV} {a1 : List UInt8} {a2 : Int} : on_lsi p f [.sl a0, .str a1, .int .i64 a2] = (p a0 a1 a2, f a0 a1 a2) := rfl
theorem on_lsi_inv {p : List PV → List UInt8 → Int → Prop} {f : List PV → List UInt8 → Int → PV} {args : List PV} (h : (on_lsi p f args).1) : ∃ a0 : List PV, ∃ a1 : List UInt8, ∃ a2 : Int, args = [.sl a0, .str a1, .int .i64 a2] ∧ p a0 a1 a2 := by
  unfold on_lsi at h
  split at h
  · exact ⟨_, _, _, rfl, h⟩
  · exact h.elim
noncomputable def sumS : PSpec := on_lsi (fun l c y => (∀ e, e ∈ l → isL e) ∧ l.length ≤ 1000000000000 ∧ c.length ≤ 1000000000000) (fun l c y => .tup [.int .i64 (smF l c y).1, .int .i64 (smF l c y).2])
theorem w_sumS : PSound GG 33 sumS := by
  refine PSound.of_wpc (C := cxP Tryz.prog X2 [] 45) (T := plan0) Tryz.func33 rfl rfl rfl (Fit.pure (G := GG) hX2 mixed) (fun args h => ?_)
  unfold sumS at h
  obtain ⟨l, code, yr, rfl, hp⟩ := on_lsi_inv h
  refine ⟨by simp [cxP], ?_⟩
  simp only [sumS, on_lsi_eq, Tryz.f33, argL, plan0]
  obtain ⟨hl, hn, ht⟩ := hp
  have hno : ∀ l : List Int, (l.map intV).map nOf = l := fun l => by simp [List.map_map, Function.comp_def, nOf, intV]
  simp only [Tryz.underlying1, sz1, by1, ze1, Tryz.underlying2, sz2, by2, ze2, Tryz.underlying3, sz3, by3, ze3, Tryz.underlying4, sz4, by4, ze4, Tryz.underlying9, sz9, by9, ze9, Tryz.underlying22, sz22, by22, ze22, Tryz.underlying24, sz24, by24, ze24, Tryz.underlying28, sz28, by28, ze28, fa28_0, fa28_1, fa28_2, Tryz.underlying44, sz44, by44, ze44, Tryz.underlying52, sz52, by52, ze52, go_sem, ↓reduceIte, reduceCtorEq, Nat.reduceEqDiff, Nat.reduceLT, ↓all_qV, Int.reduceToNat, Int.reduceLT, Int.reduceLE, Nat.reduceAdd, Nat.reduceLeDiff, Nat.reduceMul]
  refine AWp.adoptS (s := 8) (κ := 8000) (k := 1) (by simp [look, upd]) rfl (by decide) ?_
  refine AWp.loop (T := plan0) (α := Nat × List Int) (fun x => ([(1, .pv (.str code)), (2, .pv (.int .i64 yr)), (8, .rs 8000 x.2.length), (11, .pv (.sl l)), (12, .pv (.int .i64 l.length)), (13, .pv (.int .i64 x.1))], [(8000, .row 1 (x.2.map intV))]))
    (fun x => x.1 ≤ l.length ∧ x.2 = ((l.take x.1).filter (pkF code yr)).map amF) (fun x => l.length - x.1)
    ⟨(0, []), ⟨Nat.zero_le _, rfl⟩, ⟨by simp [fitR, look, upd], by simp [fitH, hget, hset], rfl, rfl, rfl⟩⟩ ?_
  rintro ⟨i, acc⟩ ⟨h1, h2⟩
  simp only at h1 h2
  have hi1 : IntKind.i64.wrap ((i : Int) + 1) = ((i + 1 : Nat) : Int) := by rw [i64_in _ (by omega)]; omega
  have hal : acc.length ≤ i := by rw [h2, List.length_map]; exact Nat.le_trans (List.length_filter_le _ _) (by rw [List.length_take]; omega)
  have tk : (acc.map intV).take acc.length = acc.map intV := List.take_of_length_le (by simp)
  by_cases hlt : i < l.length
  · have c0 : decide ((i : Int) < (l.length : Int)) = true := by simp; omega
    obtain ⟨c, y, a, he, hc⟩ := hl _ (getD_mem hlt)
    have he3 : l.getD i default = .agg [.str c, .int .i64 y, .int .i64 a] := he
    have hpk : pkF code yr (.agg [.str c, .int .i64 y, .int .i64 a]) = ((yr == -1 || y == yr) && (code == [] || undC c code)) := rfl
    have hstep : ((l.take (i + 1)).filter (pkF code yr)).map amF = acc ++ (if ((yr == -1 || y == yr) && (code == [] || undC c code)) = true then [a] else []) := by
      rw [take_succ_getD hlt, he3, List.filter_append, List.map_append, h2]
      congr 1
      by_cases h9 : ((yr == -1 || y == yr) && (code == [] || undC c code)) = true
      · simp only [List.filter_cons, hpk, h9, if_true, List.filter_nil]; rfl
      · simp only [List.filter_cons, hpk, h9, Bool.false_eq_true, if_false, List.filter_nil]; rfl
    simp only [c0, he3, hi1, tk, List.length_map, List.take_succ_cons, List.take_nil, X2_under, underCS, on_ss_eq, Tryz.underlying1, sz1, by1, ze1, Tryz.underlying2, sz2, by2, ze2, Tryz.underlying3, sz3, by3, ze3, Tryz.underlying4, sz4, by4, ze4, Tryz.underlying9, sz9, by9, ze9, Tryz.underlying22, sz22, by22, ze22, Tryz.underlying24, sz24, by24, ze24, Tryz.underlying28, sz28, by28, ze28, fa28_0, fa28_1, fa28_2, Tryz.underlying44, sz44, by44, ze44, Tryz.underlying52, sz52, by52, ze52, plan0, go_sem, ↓reduceIte, reduceCtorEq, Nat.reduceEqDiff, Nat.reduceLT, ↓all_qV, Int.reduceToNat, Int.reduceLT, Int.reduceLE, Nat.reduceAdd, Nat.reduceLeDiff, Nat.reduceMul]
    refine ⟨⟨by omega, by omega⟩, fun _ => ⟨by omega, by omega⟩, fun a b => by rw [a, b]; rfl, fun h7 => ⟨rfl, fun e he => by simp only [List.mem_singleton] at he; subst he; rfl, Nat.le_refl _, by omega, by simp only [maxLen]; omega, (i + 1, acc ++ [a]), ⟨by simp only; omega, by rw [h7] at hstep; simpa using hstep.symm⟩, by simp only; omega, ⟨by simp [fitR, look], by simp [fitH, hget, intV], rfl, rfl, rfl⟩⟩,
      fun h7 => ⟨(i + 1, acc), ⟨by simp only; omega, by rw [h7] at hstep; simpa using hstep.symm⟩, by simp only; omega, ⟨by simp [fitR, look], by simp [fitH, hget], rfl, rfl, rfl⟩⟩⟩
  · have c0 : decide ((i : Int) < (l.length : Int)) = false := by simp; omega
    have e1 : i = l.length := by omega
    subst e1
    rw [List.take_length] at h2
    simp only [c0, tk, hno, List.length_map, X2_ms, msS, on_l_eq, Tryz.underlying1, sz1, by1, ze1, Tryz.underlying2, sz2, by2, ze2, Tryz.underlying3, sz3, by3, ze3, Tryz.underlying4, sz4, by4, ze4, Tryz.underlying9, sz9, by9, ze9, Tryz.underlying22, sz22, by22, ze22, Tryz.underlying24, sz24, by24, ze24, Tryz.underlying28, sz28, by28, ze28, fa28_0, fa28_1, fa28_2, Tryz.underlying44, sz44, by44, ze44, Tryz.underlying52, sz52, by52, ze52, plan0, go_sem, ↓reduceIte, reduceCtorEq, Nat.reduceEqDiff, Nat.reduceLT, ↓all_qV, Int.reduceToNat, Int.reduceLT, Int.reduceLE, Nat.reduceAdd, Nat.reduceLeDiff, Nat.reduceMul]
    unfold smF
    rw [← h2]
    exact ⟨⟨Nat.le_refl _, ⟨acc, rfl⟩, by omega⟩, rfl⟩
noncomputable def X3 (g : FuncId) : PSpec := putΦ X2 33 sumS g
theorem hX3 : TabSound GG X3 := hX2.put w_sumS
end Go.AM
namespace Go.AM
open Go Go.Proofs Go.IntWalk
set_option maxRecDepth 100000
set_option maxHeartbeats 1000000
set_option linter.unusedSimpArgs false
set_option linter.unusedVariables false
theorem w_joinQ : PSound GG 48 joinQ  := join_sound (G := GG) (ρ := lJoin_ren) lJoin xJoin ⟨_, Tryz.func48, by kernel_rfl, by kernel_rfl⟩
noncomputable def X4 (g : FuncId) : PSpec := putΦ X3 48 joinQ g
theorem hX4 : TabSound GG X4 := hX3.put w_joinQ
theorem X4_join {args : List PV} : X4 48 args = joinQ args := rfl
theorem X4_itoa {args : List PV} : X4 43 args = itoaQ args := rfl
theorem X4_is {args : List PV} : X4 49 args = isS args := rfl
noncomputable def codeCS : PSpec := on_l (fun es => ∃ l : List Int, es = l.map intV ∧ (∀ n, n ∈ l → -9223372036854775808 ≤ n ∧ n ≤ 9223372036854775807) ∧ l.length ≤ 1000000 ∧ (jnF l).length ≤ 1000000000000) (fun es => .str (cdC (es.map nOf)))
theorem w_codeCS : PSound GG 18 codeCS := by
  refine PSound.of_wpc (C := cxP Tryz.prog X4 [] 24) (T := plan0) Tryz.func18 rfl rfl rfl (Fit.pure (G := GG) hX4 mixed) (fun args h => ?_)
  unfold codeCS at h
  obtain ⟨es, rfl, hp⟩ := on_l_inv h
  refine ⟨by simp [cxP], ?_⟩
  simp only [codeCS, on_l_eq, Tryz.f18, argL, plan0]
  obtain ⟨l, rfl, hb, hn, hj⟩ := hp
  have hno : ∀ l : List Int, (l.map intV).map nOf = l := fun l => by simp [List.map_map, Function.comp_def, nOf, intV]
  simp only [hno, List.length_map, Tryz.underlying1, sz1, by1, ze1, Tryz.underlying3, sz3, by3, ze3, Tryz.underlying4, sz4, by4, ze4, Tryz.underlying9, sz9, by9, ze9, Tryz.underlying22, sz22, by22, ze22, Tryz.underlying34, sz34, by34, ze34, go_sem, ↓reduceIte, reduceCtorEq, Nat.reduceEqDiff, Nat.reduceLT, ↓all_qV, Int.reduceToNat, Int.reduceLT, Int.reduceLE, Nat.reduceAdd, Nat.reduceLeDiff, Nat.reduceMul]
  refine AWp.adoptS (s := 3) (κ := 8000) (k := 1) (by simp [look, upd]) rfl (by decide) ?_
  refine AWp.loop (T := plan0) (α := Nat) (fun i => ([(3, .rs 8000 i), (7, .pv (.sl (l.map intV))), (8, .pv (.int .i64 l.length)), (9, .pv (.int .i64 i))], [(8000, .row 1 (((l.take i).map Lib.itoa).map PV.str))])) (fun i => i ≤ l.length) (fun i => l.length - i)
    ⟨0, Nat.zero_le _, ⟨by simp [fitR, look, upd], by simp [fitH, hget, hset], rfl, rfl, rfl⟩⟩ ?_
  intro i hi
  have hi1 : IntKind.i64.wrap ((i : Int) + 1) = ((i + 1 : Nat) : Int) := by rw [i64_in _ (by omega)]; omega
  by_cases hlt : i < l.length
  · have c0 : decide ((i : Int) < (l.length : Int)) = true := by simp; omega
    have k1 := getD_intV hlt
    have hst : (l.take (i + 1)).map Lib.itoa = (l.take i).map Lib.itoa ++ [Lib.itoa (l.getD i 0)] := by
      rw [List.take_add_one, List.map_append, List.getD_eq_getElem?_getD, List.getElem?_eq_getElem hlt]; rfl
    have hbi := hb (l.getD i 0) (by rw [List.getD_eq_getElem?_getD, List.getElem?_eq_getElem hlt]; exact List.getElem_mem _)
    have hal : ((l.take i).map Lib.itoa).length = i := by rw [List.length_map, List.length_take]; omega
    generalize (l.take i).map Lib.itoa = acc at hst hal ⊢
    generalize l.getD i 0 = n at k1 hst hbi
    have tk : (acc.map PV.str).take i = acc.map PV.str := List.take_of_length_le (by simp; omega)
    simp only [c0, k1, hi1, tk, hal, List.length_map, X4_itoa, itoaQ, on_i_eq, Tryz.underlying1, sz1, by1, ze1, Tryz.underlying3, sz3, by3, ze3, Tryz.underlying4, sz4, by4, ze4, Tryz.underlying9, sz9, by9, ze9, Tryz.underlying22, sz22, by22, ze22, Tryz.underlying34, sz34, by34, ze34, plan0, go_sem, ↓reduceIte, reduceCtorEq, Nat.reduceEqDiff, Nat.reduceLT, ↓all_qV, Int.reduceToNat, Int.reduceLT, Int.reduceLE, Nat.reduceAdd, Nat.reduceLeDiff, Nat.reduceMul]
    refine ⟨⟨by omega, by omega⟩, hbi, rfl, fun e he => by simp only [List.mem_singleton] at he; subst he; rfl, Nat.le_refl _, by omega, by simp only [maxLen]; omega, i + 1, by omega, by omega, ⟨by simp [fitR, look], by simp only [hst]; simp [fitH, hget], rfl, rfl, rfl⟩⟩
  · have c0 : decide ((i : Int) < (l.length : Int)) = false := by simp; omega
    have e1 : i = l.length := by omega
    subst e1
    have tk : (((l.take l.length).map Lib.itoa).map PV.str).take l.length = (l.map Lib.itoa).map PV.str := by
      rw [List.take_length]; exact List.take_of_length_le (by simp)
    have hjn : Lib.join (l.map Lib.itoa) [46] = jnF l := rfl
    simp only [c0, tk, hjn, map_strOf, List.length_map, X4_join, X4_is, joinQ_eq, isS, on_s_eq, Tryz.underlying1, sz1, by1, ze1, Tryz.underlying3, sz3, by3, ze3, Tryz.underlying4, sz4, by4, ze4, Tryz.underlying9, sz9, by9, ze9, Tryz.underlying22, sz22, by22, ze22, Tryz.underlying34, sz34, by34, ze34, plan0, go_sem, ↓reduceIte, reduceCtorEq, Nat.reduceEqDiff, Nat.reduceLT, ↓all_qV, Int.reduceToNat, Int.reduceLT, Int.reduceLE, Nat.reduceAdd, Nat.reduceLeDiff, Nat.reduceMul]
    rw [List.take_length]
    refine ⟨⟨Nat.le_refl _, ⟨_, rfl⟩, by omega, by omega⟩, hj, fun h9 => ?_, fun h9 => ?_⟩ <;> unfold cdC <;> rw [h9] <;> rfl
noncomputable def X5 (g : FuncId) : PSpec := putΦ X4 18 codeCS g
theorem hX5 : TabSound GG X5 := hX4.put w_codeCS
end Go.AM
