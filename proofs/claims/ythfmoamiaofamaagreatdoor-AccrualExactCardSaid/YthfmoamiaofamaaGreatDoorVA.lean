/-
  A part of a proof: see the last text of this claim for what is proved.
-/
import Derived.Test.YthfmoamiaofamaaGreatDoorP6
import Derived.Test.YthfmoamiaofamaaGreatDoorZMa
import Derived.Test.YthfmoamiaofamaaGreatDoorU6c
namespace Go.AM
open Go Go.Proofs Go.IntWalk
set_option maxRecDepth 100000
set_option maxHeartbeats 1000000
set_option linter.unusedSimpArgs false
set_option linter.unusedVariables false
theorem drop_getD {s : List UInt8} {i : Nat} (h : i < s.length) : s.drop i = s.getD i 0 :: s.drop (i + 1) := by
  rw [List.drop_eq_getElem_cons h]; simp [List.getD_eq_getElem?_getD, h]
/-- The parts of a code: rest, what is read, the number, its digits, its first letter. -/
def parG : List UInt8 → List PV → Int → Int → Int → List PV
  | [], acc, v, d, f => bif d == 0 || decide (2 < d) || f == 48 then [] else (if 4 < (acc ++ [intV v]).length then [] else acc ++ [intV v])
  | c :: r, acc, v, d, f => bif (c.toNat : Int) == 46 then (bif d == 0 || decide (2 < d) || f == 48 then [] else parG r (acc ++ [intV v]) 0 0 0) else
      bif decide ((c.toNat : Int) < 48) || decide (57 < (c.toNat : Int)) then [] else parG r acc (10 * v + ((c.toNat : Int) - 48)) (d + 1) (bif d == 0 then (c.toNat : Int) else f)
def parts (s : List UInt8) : List PV := if 12 < s.length then [] else parG s [] 0 0 0
noncomputable def rPartsS : PSpec := on_s (fun s => s.length ≤ 4611686018427387904) (fun s => .sl (parts s))
theorem w_rPartsS : PSound GG 64 rPartsS := by
  refine PSound.of_wpc (C := cxP Tryz.prog Φ0 [] 68) (T := plan0) Tryz.func64 rfl rfl rfl (Fit.pure (G := GG) hΦ0 mixed) (fun args h => ?_)
  unfold rPartsS at h
  obtain ⟨s, rfl, hp⟩ := on_s_inv h
  refine ⟨by simp [cxP], ?_⟩
  simp only [rPartsS, on_s_eq, Tryz.f64, argL, plan0]
  simp only [Tryz.underlying1, sz1, by1, ze1, Tryz.underlying3, sz3, by3, ze3, Tryz.underlying4, sz4, by4, ze4, Tryz.underlying5, sz5, by5, ze5, Tryz.underlying9, sz9, by9, ze9, Tryz.underlying22, sz22, by22, ze22, indexA, go_sem, ↓reduceIte, reduceCtorEq, Nat.reduceEqDiff, Nat.reduceLT, ↓all_qV, Int.reduceToNat, Int.reduceLT, Int.reduceLE, Nat.reduceAdd, Nat.reduceLeDiff, Nat.reduceMul]
  refine ⟨fun h1 => ?_, fun h1 => ?_⟩
  · have : 12 < s.length := by simp at h1; omega
    unfold parts; rw [if_pos this]
  · have h12 : s.length ≤ 12 := by simp at h1; omega
    refine AWp.adoptS (s := 3) (κ := 8000) (k := 1) (by simp [look]) rfl (by decide) ?_
    refine AWp.loop (T := plan0) (α := Nat × List PV × Int × Int × Int) (fun x => ([(0, .pv (.str s)), (6, .pv (.int .i64 x.1)), (3, .rs 8000 x.2.1.length), (4, .pv (.int .i64 x.2.2.1)), (5, .pv (.int .i64 x.2.2.2.1))], [(8000, .row 1 x.2.1)]))
      (fun x => x.1 ≤ s.length + 1 ∧ x.2.1.length ≤ x.1 ∧ (0 ≤ x.2.2.2.1 ∧ x.2.2.2.1 ≤ x.1) ∧ (0 ≤ x.2.2.1 ∧ x.2.2.1 < 10 ^ x.1) ∧ (0 < x.2.2.2.1 → x.2.2.2.2 = ((s.getD ((x.1 : Int) - x.2.2.2.1).toNat 0).toNat : Int)) ∧
        (if x.1 ≤ s.length then parG (s.drop x.1) x.2.1 x.2.2.1 x.2.2.2.1 x.2.2.2.2 else (if 4 < x.2.1.length then [] else x.2.1)) = parts s)
      (fun x => s.length + 2 - x.1) ⟨(0, [], 0, 0, 0), ?_, ⟨by simp [fitR, look, upd], by simp [fitH, hget, hset], rfl, rfl, rfl⟩⟩ ?_
    · refine ⟨Nat.zero_le _, Nat.le_refl _, ⟨by decide, by decide⟩, ⟨by decide, by decide⟩, fun h => absurd h (by decide), ?_⟩
      rw [if_pos (Nat.zero_le _)]; unfold parts; rw [if_neg (by omega)]; rfl
    rintro ⟨i, acc, v, d, f⟩ ⟨h2, h3, h4, h5, h6, h7⟩
    simp only at h2 h3 h4 h5 h6 h7
    have h10 : (10 : Int) ^ i ≤ 10 ^ 13 := by
      have : (10 : Nat) ^ i ≤ 10 ^ 13 := Nat.pow_le_pow_right (by decide) (by omega)
      exact_mod_cast this
    have hw : IntKind.i64.wrap ((i : Int) - d) = (i : Int) - d := i64_in _ (by omega)
    have hi1 : IntKind.i64.wrap ((i : Int) + 1) = ((i + 1 : Nat) : Int) := by rw [i64_in _ (by omega)]; omega
    have hd1 : IntKind.i64.wrap (d + 1) = d + 1 := i64_in _ (by omega)
    have hE : (d == 0 || decide (2 < d) || ((s.getD ((i : Int) - d).toNat 0).toNat : Int) == 48) = (d == 0 || decide (2 < d) || f == 48) := by
      by_cases h : 0 < d
      · rw [← h6 h]
      · have : d = 0 := by omega
        subst this; rfl
    by_cases hle : i ≤ s.length
    · have c0 : decide ((i : Int) ≤ (s.length : Int)) = true := by simp; omega
      rw [if_pos hle] at h7
      simp only [c0, hw, hE, hi1, hd1, Tryz.underlying1, sz1, by1, ze1, Tryz.underlying3, sz3, by3, ze3, Tryz.underlying4, sz4, by4, ze4, Tryz.underlying5, sz5, by5, ze5, Tryz.underlying9, sz9, by9, ze9, Tryz.underlying22, sz22, by22, ze22, plan0, indexA, go_sem, ↓reduceIte, reduceCtorEq, Nat.reduceEqDiff, Nat.reduceLT, ↓all_qV, Int.reduceToNat, Int.reduceLT, Int.reduceLE, Nat.reduceAdd, Nat.reduceLeDiff, Nat.reduceMul]
      refine ⟨fun h => ?_, fun h => ?_, fun h => ?_⟩
      · have : ¬ (i : Int) = s.length := by simpa using h
        omega
      · have hg : parG (s.drop i) acc v d f = bif (d == 0 || decide (2 < d) || f == 48) then [] else (if i + 1 ≤ s.length then parG (s.drop (i + 1)) (acc ++ [intV v]) 0 0 0 else (if 4 < (acc ++ [intV v]).length then [] else acc ++ [intV v])) := by
          by_cases hlt : i < s.length
          · have e1 : ((i : Int) == (s.length : Int)) = false := by simp; omega
            rw [e1, Bool.false_or] at h
            rw [drop_getD hlt, parG, h, if_pos (by omega)]; rfl
          · rw [List.drop_eq_nil_of_le (by omega), parG, if_neg (show ¬ (i + 1 ≤ s.length) by omega)]
        rw [hg] at h7
        refine ⟨fun h8 => ?_, fun h8 => ?_, fun h8 => ?_⟩
        · simp only [Bool.not_eq_true', Bool.or_eq_false_iff, beq_eq_false_iff_ne, decide_eq_false_iff_not] at h8
          omega
        · rw [h8] at h7; exact congrArg PV.sl h7
        · rw [h8] at h7
          refine ⟨rfl, fun e he => by simp only [List.mem_singleton] at he; subst he; rfl, Nat.le_refl _, by omega, by simp only [maxLen]; omega, (i + 1, acc ++ [intV v], 0, 0, 0), ⟨by simp only; omega, by simp only [List.length_append, List.length_cons, List.length_nil]; omega, ⟨by simp only; omega, by simp only; omega⟩, ⟨by simp only; omega, ?_⟩, fun h9 => absurd h9 (by simp only; omega), h7⟩, by simp only; omega, ⟨by simp [fitR, look], by simp [fitH, hget, intV], rfl, rfl, rfl⟩⟩
          simp only
          exact Int.pow_pos (by decide)
      · have hlt : i < s.length := by
          simp only [Bool.or_eq_false_iff, beq_eq_false_iff_ne] at h
          have := h.1
          omega
        have e1 : ((i : Int) == (s.length : Int)) = false := by simp; omega
        rw [e1, Bool.false_or] at h
        rw [drop_getD hlt, parG, h, cond_false] at h7
        refine ⟨by omega, fun _ => by omega, fun h8 => ?_, fun h8 => ⟨by omega, ?_⟩⟩
        · rw [h8] at h7; exact congrArg PV.sl h7
        · rw [h8, cond_false] at h7
          simp only [Bool.or_eq_false_iff, decide_eq_false_iff_not] at h8
          have e2 : IntKind.i64.wrap (IntKind.i64.wrap (10 * v) + IntKind.i64.wrap (IntKind.u8.wrap (((s.getD i 0).toNat : Int) - 48))) = 10 * v + (((s.getD i 0).toNat : Int) - 48) := by
            rw [u8_in _ (by omega), i64_in (10 * v) (by omega), i64_in (((s.getD i 0).toNat : Int) - 48) (by omega), i64_in _ (by omega)]
          have e3 : (10 : Int) ^ (i + 1) = 10 ^ i * 10 := Int.pow_succ 10 i
          refine ⟨(i + 1, acc, 10 * v + (((s.getD i 0).toNat : Int) - 48), d + 1, bif d == 0 then ((s.getD i 0).toNat : Int) else f), ⟨by simp only; omega, by simp only; omega, ⟨by simp only; omega, by simp only; omega⟩, ⟨by simp only; omega, by simp only; omega⟩, fun _ => ?_, ?_⟩, by simp only; omega, ⟨by simp only [fitR, look_cons, Nat.reduceEqDiff, if_true, if_false, ↓reduceIte, e2, and_self], by simp [fitH, hget], rfl, rfl, rfl⟩⟩
          · simp only
            have e4 : ((i + 1 : Nat) : Int) - (d + 1) = (i : Int) - d := by omega
            rw [e4]
            by_cases h9 : 0 < d
            · have : (d == 0) = false := by simp; omega
              rw [this]; exact h6 h9
            · have : d = 0 := by omega
              subst this
              simp
          · simp only
            rw [if_pos (by omega)]; exact h7
    · have c0 : decide ((i : Int) ≤ (s.length : Int)) = false := by simp; omega
      rw [if_neg hle] at h7
      simp only [c0, hw, hE, hi1, hd1, Tryz.underlying1, sz1, by1, ze1, Tryz.underlying3, sz3, by3, ze3, Tryz.underlying4, sz4, by4, ze4, Tryz.underlying5, sz5, by5, ze5, Tryz.underlying9, sz9, by9, ze9, Tryz.underlying22, sz22, by22, ze22, plan0, indexA, go_sem, ↓reduceIte, reduceCtorEq, Nat.reduceEqDiff, Nat.reduceLT, ↓all_qV, Int.reduceToNat, Int.reduceLT, Int.reduceLE, Nat.reduceAdd, Nat.reduceLeDiff, Nat.reduceMul]
      refine ⟨fun h => ?_, fun h => ⟨Nat.le_refl _, ?_⟩⟩
      · have : 4 < acc.length := by simp at h; omega
        rw [if_pos this] at h7; exact congrArg PV.sl h7
      · have : ¬ 4 < acc.length := by simp at h; omega
        rw [if_neg this] at h7; rw [List.take_length]; exact congrArg PV.sl h7
/-! ### the two are one -/
theorem goW_itoa : ∀ k : _root_.Fin 99, goW (Lib.itoa ((k.val : Int) + 1)) = some ((k.val : Int) + 1) := by decide +kernel
def refW : List UInt8 → Option Int
  | [c] => if 49 ≤ c.toNat ∧ c.toNat ≤ 57 then some ((c.toNat : Int) - 48) else none
  | [c, e] => if (49 ≤ c.toNat ∧ c.toNat ≤ 57) ∧ (48 ≤ e.toNat ∧ e.toNat ≤ 57) then some (10 * ((c.toNat : Int) - 48) + ((e.toNat : Int) - 48)) else none
  | _ => none
theorem refW_1 {c : UInt8} : refW [c] = if 49 ≤ c.toNat ∧ c.toNat ≤ 57 then some ((c.toNat : Int) - 48) else none := rfl
theorem refW_2 {c e : UInt8} : refW [c, e] = if (49 ≤ c.toNat ∧ c.toNat ≤ 57) ∧ (48 ≤ e.toNat ∧ e.toNat ≤ 57) then some (10 * ((c.toNat : Int) - 48) + ((e.toNat : Int) - 48)) else none := rfl
theorem refW_itoa : ∀ k : _root_.Fin 99, refW (Lib.itoa ((k.val : Int) + 1)) = some ((k.val : Int) + 1) := by decide +kernel
theorem goW_one : ∀ k : _root_.Fin 9, goW [UInt8.ofNat (k.val + 49)] = some ((k.val : Int) + 1) := by decide +kernel
theorem goW_two : ∀ k : _root_.Fin 9, ∀ j : _root_.Fin 10, goW [UInt8.ofNat (k.val + 49), UInt8.ofNat (j.val + 48)] = some (10 * ((k.val : Int) + 1) + j.val) := by decide +kernel
theorem goW_back {w : List UInt8} {v : Int} (h : goW w = some v) : 1 ≤ v ∧ v ≤ 99 ∧ Lib.itoa v = w := by
  unfold goW at h
  split at h
  · rename_i x hx
    split at h
    · rename_i h3
      cases h
      exact h3
    · cases h
  · cases h
theorem byte_eq (c : UInt8) {n : Nat} (h : c.toNat = n) : c = UInt8.ofNat n := by subst h; simp
theorem goW_ref (w : List UInt8) : goW w = refW w := by
  have h1 : ∀ v, goW w = some v → refW w = some v := by
    intro v h
    obtain ⟨a, b, e⟩ := goW_back h
    have := refW_itoa ⟨(v - 1).toNat, by omega⟩
    simp only [show (((v - 1).toNat : Nat) : Int) + 1 = v by omega] at this
    rw [e] at this; exact this
  have h2 : ∀ v, refW w = some v → goW w = some v := by
    intro v h
    match w, h with
    | [c], h =>
      rw [refW_1] at h
      split at h
      · rename_i h3
        obtain rfl := Option.some.inj h
        have := goW_one ⟨c.toNat - 49, by omega⟩
        simp only [show c.toNat - 49 + 49 = c.toNat by omega, show ((c.toNat - 49 : Nat) : Int) + 1 = (c.toNat : Int) - 48 by omega] at this
        rw [← byte_eq c rfl] at this; exact this
      · cases h
    | [c, e], h =>
      rw [refW_2] at h
      split at h
      · rename_i h3
        obtain rfl := Option.some.inj h
        have := goW_two ⟨c.toNat - 49, by omega⟩ ⟨e.toNat - 48, by omega⟩
        simp only [show c.toNat - 49 + 49 = c.toNat by omega, show e.toNat - 48 + 48 = e.toNat by omega, show ((c.toNat - 49 : Nat) : Int) + 1 = (c.toNat : Int) - 48 by omega, show ((e.toNat - 48 : Nat) : Int) = (e.toNat : Int) - 48 by omega] at this
        rw [← byte_eq c rfl, ← byte_eq e rfl] at this; exact this
      · cases h
  cases hg : goW w with
  | some v => exact (h1 v hg).symm
  | none =>
    cases hr : refW w with
    | none => rfl
    | some v => rw [h2 v hr] at hg; cases hg
def digB (c : UInt8) : Prop := 48 ≤ c.toNat ∧ c.toNat ≤ 57
def valW (u : List UInt8) : Int := u.foldl (fun v c => 10 * v + ((c.toNat : Int) - 48)) 0
def fstW : List UInt8 → Int
  | [] => 0
  | c :: _ => (c.toNat : Int)
theorem wordsOf_ne (l : List UInt8) : ∃ w ws, wordsOf l = w :: ws := ⟨_, _, wordsOf_cut l⟩
theorem wordsOf_dot : ∀ (u r : List UInt8), (∀ c, c ∈ u → digB c) → wordsOf (u ++ 46 :: r) = u :: wordsOf r
  | [], r, _ => by rw [List.nil_append, wordsOf, if_pos rfl]
  | c :: u, r, h => by
    have hc : ¬ c = 46 := fun e => by subst e; have := (h 46 List.mem_cons_self).1; revert this; decide
    rw [List.cons_append, wordsOf, if_neg hc, wordsOf_dot u r (fun x hx => h x (List.mem_cons_of_mem _ hx))]; rfl
theorem wordsOf_end : ∀ (u : List UInt8), (∀ c, c ∈ u → digB c) → wordsOf u = [u]
  | [], _ => rfl
  | c :: u, h => by
    have hc : ¬ c = 46 := fun e => by subst e; have := (h 46 List.mem_cons_self).1; revert this; decide
    rw [wordsOf, if_neg hc, wordsOf_end u (fun x hx => h x (List.mem_cons_of_mem _ hx))]; rfl
theorem wordsOf_bad : ∀ (u : List UInt8) (c : UInt8) (r : List UInt8), (∀ c, c ∈ u → digB c) → ¬ c = 46 → ∃ w ws, wordsOf (u ++ c :: r) = (u ++ c :: w) :: ws
  | [], c, r, _, hc => by
    obtain ⟨w, ws, e⟩ := wordsOf_ne r
    exact ⟨w, ws, by rw [List.nil_append, wordsOf, if_neg hc, e]; rfl⟩
  | x :: u, c, r, h, hc => by
    have hx : ¬ x = 46 := fun e => by subst e; have := (h 46 List.mem_cons_self).1; revert this; decide
    obtain ⟨w, ws, e⟩ := wordsOf_bad u c r (fun y hy => h y (List.mem_cons_of_mem _ hy)) hc
    exact ⟨w, ws, by rw [List.cons_append, wordsOf, if_neg hx, e]; rfl⟩
theorem refW_bad {u w : List UInt8} {c : UInt8} (hc : ¬ digB c) : refW (u ++ c :: w) = none := by
  unfold digB at hc
  match u, w with
  | [], [] => exact (refW_1 (c := c)).trans (if_neg (by omega))
  | [], [x] => exact (refW_2 (c := c) (e := x)).trans (if_neg (by omega))
  | [], x :: y :: r => rfl
  | [x], [] => exact (refW_2 (c := x) (e := c)).trans (if_neg (by omega))
  | [x], y :: r => rfl
  | x :: y :: u', w => cases u' <;> rfl
theorem refW_good {u : List UInt8} (h : ∀ c, c ∈ u → digB c) : refW u = bif ((u.length : Int) == 0 || decide (2 < (u.length : Int)) || fstW u == 48) then none else some (valW u) := by
  match u, h with
  | [], _ => rfl
  | [c], h =>
    have h1 := h c List.mem_cons_self
    unfold digB at h1
    rw [refW_1]
    by_cases h9 : c.toNat = 48
    · rw [if_neg (by omega), show (fstW [c] == 48) = true by show ((c.toNat : Int) == 48) = true; rw [h9]; rfl]; simp
    · rw [if_pos (by omega), show (fstW [c] == 48) = false by show ((c.toNat : Int) == 48) = false; simp; omega]
      show some _ = some _
      congr 1
      show _ = 10 * 0 + ((c.toNat : Int) - 48)
      omega
  | [c, e], h =>
    have h1 := h c List.mem_cons_self
    have h2 := h e (List.mem_cons_of_mem _ List.mem_cons_self)
    unfold digB at h1 h2
    rw [refW_2]
    by_cases h9 : c.toNat = 48
    · rw [if_neg (by omega), show (fstW [c, e] == 48) = true by show ((c.toNat : Int) == 48) = true; rw [h9]; rfl]; simp
    · rw [if_pos (by omega), show (fstW [c, e] == 48) = false by show ((c.toNat : Int) == 48) = false; simp; omega]
      show some _ = some _
      congr 1
      show _ = 10 * (10 * 0 + ((c.toNat : Int) - 48)) + ((e.toNat : Int) - 48)
      omega
  | a :: b :: c :: r, _ =>
    have : decide (2 < (((a :: b :: c :: r).length : Nat) : Int)) = true := by simp only [List.length_cons, decide_eq_true_eq]; omega
    rw [this]; simp [refW]
def endP (o : Option (List Int)) : List PV := match o with | none => [] | some l => if 4 < l.length then [] else l.map intV
theorem parG_goP : ∀ (s u : List UInt8) (acc : List Int), (∀ c, c ∈ u → digB c) → parG s (acc.map intV) (valW u) u.length (fstW u) = endP (goP acc (wordsOf (u ++ s)))
  | [], u, acc, h => by
    rw [List.append_nil, wordsOf_end u h, goP_cons, goW_ref, refW_good h, parG]
    cases ((u.length : Int) == 0 || decide (2 < (u.length : Int)) || fstW u == 48) with
    | true => rfl
    | false =>
      show (if _ then _ else _) = endP (goP (acc ++ [valW u]) [])
      rw [goP_nil]
      show _ = if _ then _ else _
      simp
  | c :: r, u, acc, h => by
    rw [parG]
    by_cases h1 : c.toNat = 46
    · have hc : c = 46 := byte_eq c h1
      subst hc
      rw [wordsOf_dot u r h, goP_cons, goW_ref, refW_good h, show (((46 : UInt8).toNat : Int) == 46) = true from rfl, cond_true]
      cases ((u.length : Int) == 0 || decide (2 < (u.length : Int)) || fstW u == 48) with
      | true => rfl
      | false =>
        have ih := parG_goP r [] (acc ++ [valW u]) (fun x hx => by cases hx)
        rw [List.nil_append] at ih
        rw [cond_false, cond_false, ← ih]
        simp [valW, fstW]
    · have hc : ¬ c = 46 := fun e => h1 (by rw [e]; rfl)
      rw [show ((c.toNat : Int) == 46) = false by simp; omega, cond_false]
      by_cases h2 : digB c
      · unfold digB at h2
        rw [show (decide ((c.toNat : Int) < 48) || decide (57 < (c.toNat : Int))) = false by simp; omega, cond_false]
        have ih := parG_goP r (u ++ [c]) acc (fun x hx => by
          rcases List.mem_append.1 hx with hx | hx
          · exact h x hx
          · rw [List.mem_singleton] at hx; subst hx; exact h2)
        rw [show u ++ c :: r = (u ++ [c]) ++ r by simp, ← ih]
        have e1 : valW (u ++ [c]) = 10 * valW u + ((c.toNat : Int) - 48) := by unfold valW; rw [List.foldl_append]; rfl
        have e2 : fstW (u ++ [c]) = bif (u.length : Int) == 0 then (c.toNat : Int) else fstW u := by
          cases u with
          | nil => rfl
          | cons x u' => rw [show (((x :: u').length : Int) == 0) = false by simp only [List.length_cons, beq_eq_false_iff_ne]; omega]; rfl
        rw [e1, e2, show (((u ++ [c]).length : Nat) : Int) = (u.length : Int) + 1 by simp]
      · obtain ⟨w, ws, e⟩ := wordsOf_bad u c r h hc
        rw [e, goP_cons, goW_ref, refW_bad h2]
        unfold digB at h2
        rw [show (decide ((c.toNat : Int) < 48) || decide (57 < (c.toNat : Int))) = true by simp; omega]
        rfl
theorem words_len : ∀ s : List UInt8, s.length + 1 = ((wordsOf s).map fun w => w.length + 1).sum
  | [] => rfl
  | c :: r => by
    have ih := words_len r
    obtain ⟨w, ws, e⟩ := wordsOf_ne r
    rw [wordsOf]
    rw [e] at ih ⊢
    simp only [List.map_cons, List.sum_cons, List.length_cons] at ih ⊢
    split
    · simp only [List.map_cons, List.sum_cons, List.length_nil]; omega
    · simp only [List.headD_cons, List.tail_cons, List.map_cons, List.sum_cons, List.length_cons]; omega
theorem goP_len : ∀ (ws : List (List UInt8)) (acc l : List Int), goP acc ws = some l → l.length = acc.length + ws.length ∧ (ws.map fun w => w.length + 1).sum ≤ 3 * ws.length
  | [], acc, l, h => by rw [goP_nil] at h; cases h; simp
  | w :: ws, acc, l, h => by
    rw [goP_cons, goW_ref] at h
    cases hw : refW w with
    | none => rw [hw] at h; cases h
    | some v =>
      rw [hw] at h
      obtain ⟨h1, h2⟩ := goP_len ws _ l h
      have h3 : w.length ≤ 2 := by
        match w, hw with
        | [], hw => cases hw
        | [_], _ => simp
        | [_, _], _ => simp
        | _ :: _ :: _ :: _, hw => cases hw
      simp only [List.length_append, List.length_cons, List.length_nil, List.map_cons, List.sum_cons] at h1 h2 ⊢
      omega
/-- The reference's parts are the program's. -/
theorem parts_partsR (s : List UInt8) : parts s = (partsR s).map intV := by
  have h := parG_goP s [] [] (fun x hx => by cases hx)
  have h2 : (partsR s).map intV = endP (goP [] (wordsOf s)) := by
    unfold partsR endP
    cases goP [] (wordsOf s) with
    | none => rfl
    | some l =>
      show (if _ then _ else _ : List Int).map intV = if _ then _ else _
      split <;> rfl
  rw [h2]
  unfold parts
  split
  · rename_i h3
    cases hg : goP [] (wordsOf s) with
    | none => rfl
    | some l =>
      obtain ⟨h4, h5⟩ := goP_len _ _ _ hg
      have h6 := words_len s
      show [] = if _ then _ else _
      rw [if_pos (by simp only [List.length_nil] at h4; omega)]
  · exact h
end Go.AM
namespace Go.AM
open Go Go.Proofs Go.IntWalk
set_option maxRecDepth 100000
set_option maxHeartbeats 4000000
set_option linter.unusedSimpArgs false
set_option linter.unusedVariables false
noncomputable def rvldS : PSpec := on_i (fun _ => True) (fun n => .bool (vldM n))
theorem w_rvldS : PSound GG 33 rvldS := by
  refine PSound.of_wpc (C := cxP Tryz.prog AO [] 9) (T := plan0) Tryz.func33 rfl rfl rfl (Fit.pure (G := GG) hAO mixed) (fun args h => ?_)
  unfold rvldS at h
  obtain ⟨n, rfl, hp⟩ := on_i_inv h
  refine ⟨by simp [cxP], ?_⟩
  simp only [rvldS, on_i_eq, Tryz.f33, argL, plan0]
  simp only [go_sem, ↓reduceIte, reduceCtorEq, Nat.reduceEqDiff, Nat.reduceLT, ↓all_qV, Int.reduceToNat, Int.reduceLT, Int.reduceLE, Nat.reduceAdd, Nat.reduceLeDiff, Nat.reduceMul]
  rfl
noncomputable def rtotS : PSpec := on_i (fun _ => True) (fun n => .bool (totB n))
theorem w_rtotS : PSound GG 40 rtotS := by
  refine PSound.of_wpc (C := cxP Tryz.prog AO [] 9) (T := plan0) Tryz.func40 rfl rfl rfl (Fit.pure (G := GG) hAO mixed) (fun args h => ?_)
  unfold rtotS at h
  obtain ⟨n, rfl, hp⟩ := on_i_inv h
  refine ⟨by simp [cxP], ?_⟩
  simp only [rtotS, on_i_eq, Tryz.f40, argL, plan0]
  simp only [go_sem, ↓reduceIte, reduceCtorEq, Nat.reduceEqDiff, Nat.reduceLT, ↓all_qV, Int.reduceToNat, Int.reduceLT, Int.reduceLE, Nat.reduceAdd, Nat.reduceLeDiff, Nat.reduceMul]
  rfl
noncomputable def BA (g : FuncId) : PSpec := (putΦ (putΦ (putΦ AO 33 rvldS) 40 rtotS) 64 rPartsS) g
theorem hBA : TabSound GG BA := (((hAO.put w_rvldS).put w_rtotS).put w_rPartsS)
noncomputable def rprcS : PSpec := on_ii (fun _ _ => True) (fun a p => .tup [.int .i64 (prcF a p).1, .int .i64 (prcF a p).2])
theorem k_rprcS_33 {args : List PV} : BA 33 args = rvldS args := rfl
theorem w_rprcS : PSound GG 39 rprcS := by
  refine PSound.of_wpc (C := cxP Tryz.prog BA [] 21) (T := plan0) Tryz.func39 rfl rfl rfl (Fit.pure (G := GG) hBA mixed) (fun args h => ?_)
  unfold rprcS at h
  obtain ⟨a, p, rfl, hp⟩ := on_ii_inv h
  refine ⟨by simp [cxP], ?_⟩
  simp only [rprcS, on_ii_eq, Tryz.f39, argL, plan0]
  simp only [k_rprcS_33, rvldS, on_i_eq, Tryz.underlying3, sz3, by3, ze3, Tryz.underlying4, sz4, by4, ze4, Tryz.underlying41, sz41, by41, ze41, go_sem, ↓reduceIte, reduceCtorEq, Nat.reduceEqDiff, Nat.reduceLT, ↓all_qV, Int.reduceToNat, Int.reduceLT, Int.reduceLE, Nat.reduceAdd, Nat.reduceLeDiff, Nat.reduceMul]
  refine ⟨by simp, fun h1 => ?_, fun h1 => ⟨by decide, ?_⟩⟩ <;> unfold prcF
  · rw [h1]; rfl
  · have h2 : (0 ≤ a ∧ a ≤ 1000000000000) ∧ 0 ≤ p ∧ p ≤ 100 := by
      simp only [vldM, Bool.or_eq_false_iff, Bool.not_eq_false', Bool.and_eq_true, decide_eq_true_eq, decide_eq_false_iff_not] at h1
      exact ⟨h1.1.1, by omega, by omega⟩
    have h3 : 0 ≤ a * p := Int.mul_nonneg h2.1.1 h2.2.1
    have h4 : a * p ≤ 1000000000000 * 100 := Int.mul_le_mul h2.1.2 h2.2.2 h2.2.1 (by omega)
    rw [h1, cond_false, i64_in (a * p) (by omega), Int.tdiv_eq_ediv_of_nonneg h3, i64_in _ (by omega)]
noncomputable def rclaimS : PSpec := on_p isCl (fun e => .bool (clB e))
theorem clB_alt {id pa am op d : Int} {n : Nat} : (decide (1 ≤ id) && decide (id ≤ 1000000) && decide (1 ≤ pa) && decide (pa ≤ 1000000) && decide (1 ≤ am) && decide (am ≤ 1000000000000) && decide (0 ≤ op) && decide (op ≤ am) && decide (0 ≤ d) && decide (d ≤ 36000) && decide ((0 : Int) < (n : Int))) = (amg id 1 1000000 && amg pa 1 1000000 && posB am && amg op 0 am && amg d 0 36000 && decide ((0 : Int) < (n : Int))) := by
  unfold amg posB vldM
  rw [Bool.eq_iff_iff]
  simp only [Bool.and_eq_true, decide_eq_true_eq]
  constructor <;> (intro h9; and_intros <;> omega)
theorem k_rclaimS_64 {args : List PV} : BA 64 args = rPartsS args := rfl
theorem w_rclaimS : PSound GG 34 rclaimS := by
  refine PSound.of_wpc (C := cxP Tryz.prog BA [] 60) (T := plan0) Tryz.func34 rfl rfl rfl (Fit.pure (G := GG) hBA mixed) (fun args h => ?_)
  unfold rclaimS at h
  obtain ⟨e, rfl, hp⟩ := on_p_inv h
  refine ⟨by simp [cxP], ?_⟩
  simp only [rclaimS, on_p_eq, Tryz.f34, argL, plan0]
  obtain ⟨id, pa, am, op, d, c, rfl, hc⟩ := hp
  simp (config := {maxSteps := 1000000}) only [claimV, clB_eq, parts_partsR, List.length_map, k_rclaimS_64, rPartsS, on_s_eq, Tryz.underlying1, sz1, by1, ze1, Tryz.underlying2, sz2, by2, ze2, Tryz.underlying3, sz3, by3, ze3, Tryz.underlying4, sz4, by4, ze4, Tryz.underlying5, sz5, by5, ze5, Tryz.underlying9, sz9, by9, ze9, Tryz.underlying22, sz22, by22, ze22, Tryz.underlying40, sz40, by40, ze40, fa40_0, fa40_1, fa40_2, fa40_3, fa40_4, fa40_5, go_sem, ↓reduceIte, reduceCtorEq, Nat.reduceEqDiff, Nat.reduceLT, ↓all_qV, Int.reduceToNat, Int.reduceLT, Int.reduceLE, Nat.reduceAdd, Nat.reduceLeDiff, Nat.reduceMul]
  exact ⟨fun _ => by omega, congrArg PV.bool clB_alt⟩
noncomputable def BB (g : FuncId) : PSpec := (putΦ (putΦ BA 39 rprcS) 34 rclaimS) g
theorem hBB : TabSound GG BB := ((hBA.put w_rprcS).put w_rclaimS)
/-! ### Check -/
theorem idx_true : ∀ {es : List PV} {i : Int}, 0 ≤ i → (∀ e, e ∈ es → clB e = true) → idxF es i = -1
  | [], _, _, _ => rfl
  | x :: r, i, hi, h => by
    rw [idxF, h x List.mem_cons_self]
    exact idx_true (by omega) (fun e he => h e (List.mem_cons_of_mem _ he))
theorem idx_false : ∀ {es : List PV} {i : Int}, 0 ≤ i → ∀ e, e ∈ es → clB e = false → 0 ≤ idxF es i
  | [], _, _, _, he, _ => by cases he
  | x :: r, i, hi, e, he, hb => by
    rw [idxF]
    cases hx : clB x with
    | false => exact hi
    | true =>
      rcases List.mem_cons.1 he with rfl | he
      · rw [hb] at hx; cases hx
      · exact idx_false (es := r) (i := i + 1) (by omega) e he hb
theorem cls_bad {es : List PV} (h1 : decide (60 < (es.length : Int)) = false) {e : PV} (he : e ∈ es) (hb : clB e = false) : clsF es = 87 := by
  unfold clsF
  rw [h1, decide_eq_true (idx_false (Int.le_refl 0) e he hb)]; rfl
theorem cls_good {es : List PV} (h1 : decide (60 < (es.length : Int)) = false) (h : ∀ e, e ∈ es → clB e = true) : clsF es = 0 := by
  unfold clsF
  rw [h1, idx_true (Int.le_refl 0) h]; rfl
theorem okCl {H : AHeap} {id pa am op d : Int} {c : List UInt8} : ∀ x, x ∈ [AV.pv (.int .i64 id), .pv (.int .i64 pa), .pv (.int .i64 am), .pv (.int .i64 op), .pv (.int .i64 d), .pv (.str c)] → x.one = true ∧ frzOk H 3 x := by
  intro x hx
  simp only [List.mem_cons, List.not_mem_nil, or_false] at hx
  rcases hx with rfl | rfl | rfl | rfl | rfl | rfl <;> exact ⟨rfl, trivial⟩
noncomputable def rackS : PSpec := on_p isClo (fun e => .int .i64 (ackF (cloOf e)))
theorem k_rackS_33 {args : List PV} : BB 33 args = rvldS args := rfl
theorem k_rackS_34 {args : List PV} : BB 34 args = rclaimS args := rfl
theorem w_rackS : PSound GG 16 rackS := by
  refine PSound.of_wpc (C := cxP Tryz.prog BB [] 36) (T := plan0) Tryz.func16 rfl rfl rfl (Fit.pure (G := GG) hBB mixed) (fun args h => ?_)
  unfold rackS at h
  obtain ⟨e, rfl, hp⟩ := on_p_inv h
  refine ⟨by simp [cxP], ?_⟩
  simp only [rackS, on_p_eq, Tryz.f16, argL, plan0]
  obtain ⟨⟨i, u, p, cl⟩, rfl, hc, hl⟩ := hp
  simp only at hc hl
  simp only [cloV, cloOf_agg, k_rackS_33, rvldS, on_i_eq, k_rackS_34, rclaimS, on_p_eq, List.take_succ_cons, List.take_nil, Tryz.underlying1, sz1, by1, ze1, Tryz.underlying2, sz2, by2, ze2, Tryz.underlying3, sz3, by3, ze3, Tryz.underlying4, sz4, by4, ze4, Tryz.underlying9, sz9, by9, ze9, Tryz.underlying26, sz26, by26, ze26, Tryz.underlying28, sz28, by28, ze28, fa28_0, fa28_1, fa28_2, fa28_3, Tryz.underlying40, sz40, by40, ze40, fa40_0, fa40_1, fa40_2, fa40_3, fa40_4, fa40_5, Tryz.underlying41, sz41, by41, ze41, go_sem, ↓reduceIte, reduceCtorEq, Nat.reduceEqDiff, Nat.reduceLT, ↓all_qV, Int.reduceToNat, Int.reduceLT, Int.reduceLE, Nat.reduceAdd, Nat.reduceLeDiff, Nat.reduceMul]
  refine ⟨fun h1 => ?_, fun h1 => ⟨?_, fun h2 => ?_, fun h2 => ?_⟩⟩
  · have h3 : clsF cl = 3 := by unfold clsF; rw [h1]; rfl
    unfold ackF; simp only [h3]; rfl
  · simp
  · have h3 : clsF cl = 0 ∨ clsF cl = 87 := by
      unfold clsF; rw [h1]
      cases decide (0 ≤ idxF cl 0) <;> simp
    have h4 : (vldM i && vldM u && vldM p) = false := by revert h2; cases vldM i <;> cases vldM u <;> cases vldM p <;> simp
    unfold ackF; simp only [h4]
    rcases h3 with h3 | h3 <;> rw [h3] <;> rfl
  · have h4 : (vldM i && vldM u && vldM p) = true := by revert h2; cases vldM i <;> cases vldM u <;> cases vldM p <;> simp
    have hr : ackF ⟨i, u, p, cl⟩ = clsF cl := by unfold ackF; simp only [h4, Bool.not_true, Bool.and_false, cond_false]
    rw [hr]
    refine AWp.loop (T := plan0) (α := Nat) (fun k => ([(26, .pv (.sl cl)), (27, .pv (.int .i64 cl.length)), (28, .pv (.int .i64 k))], [])) (fun k => k ≤ cl.length ∧ ∀ e, e ∈ cl.take k → clB e = true) (fun k => cl.length - k)
      ⟨0, ⟨Nat.zero_le _, fun e he => by cases he⟩, ⟨by simp [fitR, look], trivial, rfl, rfl, rfl⟩⟩ ?_
    rintro k ⟨hk, hg⟩
    have hi1 : IntKind.i64.wrap ((k : Int) + 1) = ((k + 1 : Nat) : Int) := by rw [i64_in _ (by omega)]; omega
    by_cases hlt : k < cl.length
    · have c0 : decide ((k : Int) < (cl.length : Int)) = true := by simp; omega
      have hm : cl.getD k default ∈ cl := by rw [List.getD_eq_getElem?_getD, List.getElem?_eq_getElem hlt]; exact List.getElem_mem _
      have hcl := hc _ hm
      have ht : cl.take (k + 1) = cl.take k ++ [cl.getD k default] := by rw [List.take_add_one]; simp [List.getElem?_eq_getElem hlt, List.getD_eq_getElem?_getD]
      obtain ⟨e, hg2⟩ : ∃ e, cl.getD k default = e := ⟨_, rfl⟩
      rw [hg2] at hcl hm ht
      have hC := hcl
      obtain ⟨id, pa, am, op, d, c, rfl, hcc⟩ := hcl
      unfold claimV at hg2 hC hm ht
      simp only [c0, hg2, hi1, k_rackS_33, rvldS, on_i_eq, k_rackS_34, rclaimS, on_p_eq, List.take_succ_cons, List.take_nil, Tryz.underlying1, sz1, by1, ze1, Tryz.underlying2, sz2, by2, ze2, Tryz.underlying3, sz3, by3, ze3, Tryz.underlying4, sz4, by4, ze4, Tryz.underlying9, sz9, by9, ze9, Tryz.underlying26, sz26, by26, ze26, Tryz.underlying28, sz28, by28, ze28, fa28_0, fa28_1, fa28_2, fa28_3, Tryz.underlying40, sz40, by40, ze40, fa40_0, fa40_1, fa40_2, fa40_3, fa40_4, fa40_5, Tryz.underlying41, sz41, by41, ze41, plan0, go_sem, ↓reduceIte, reduceCtorEq, Nat.reduceEqDiff, Nat.reduceLT, ↓all_qV, Int.reduceToNat, Int.reduceLT, Int.reduceLE, Nat.reduceAdd, Nat.reduceLeDiff, Nat.reduceMul]
      refine ⟨by omega, ⟨okCl, hC⟩, fun h9 => ?_, fun h9 => ⟨k + 1, ⟨by omega, fun x hx => ?_⟩, by omega, ⟨by simp [fitR, look], trivial, rfl, rfl, rfl⟩⟩⟩
      · rw [cls_bad h1 hm (by simpa using h9)]
      · rw [ht] at hx
        rcases List.mem_append.1 hx with hx | hx
        · exact hg x hx
        · rw [List.mem_singleton] at hx; subst hx; simpa using h9
    · have c0 : decide ((k : Int) < (cl.length : Int)) = false := by simp; omega
      rw [List.take_of_length_le (by omega)] at hg
      simp only [c0, Tryz.underlying1, sz1, by1, ze1, Tryz.underlying2, sz2, by2, ze2, Tryz.underlying3, sz3, by3, ze3, Tryz.underlying4, sz4, by4, ze4, Tryz.underlying9, sz9, by9, ze9, Tryz.underlying26, sz26, by26, ze26, Tryz.underlying28, sz28, by28, ze28, fa28_0, fa28_1, fa28_2, fa28_3, Tryz.underlying40, sz40, by40, ze40, fa40_0, fa40_1, fa40_2, fa40_3, fa40_4, fa40_5, Tryz.underlying41, sz41, by41, ze41, plan0, go_sem, ↓reduceIte, reduceCtorEq, Nat.reduceEqDiff, Nat.reduceLT, ↓all_qV, Int.reduceToNat, Int.reduceLT, Int.reduceLE, Nat.reduceAdd, Nat.reduceLeDiff, Nat.reduceMul]
      rw [cls_good h1 hg]
noncomputable def BC (g : FuncId) : PSpec := (putΦ BB 16 rackS) g
theorem hBC : TabSound GG BC := (hBB.put w_rackS)
/-! ### Provision -/
theorem pctF_a {d : Int} (h : decide (d ≤ 90) = true) : pctF d = 0 := by have := of_decide_eq_true h; unfold pctF; rw [if_pos this]
theorem pctF_b {d : Int} (h0 : decide (d ≤ 90) = false) (h : decide (d ≤ 180) = true) : pctF d = 25 := by have := of_decide_eq_true h; have := of_decide_eq_false h0; unfold pctF; rw [if_neg (by omega), if_pos (by omega)]
theorem pctF_c {d : Int} (h0 : decide (d ≤ 180) = false) (h : decide (d ≤ 360) = true) : pctF d = 50 := by have := of_decide_eq_true h; have := of_decide_eq_false h0; unfold pctF; rw [if_neg (by omega), if_neg (by omega), if_pos (by omega)]
theorem pctF_d {d : Int} (h : decide (d ≤ 360) = false) : pctF d = 100 := by have := of_decide_eq_false h; unfold pctF; rw [if_neg (by omega), if_neg (by omega), if_neg (by omega)]
noncomputable def rprovS : PSpec := on_li (fun es _ => (∀ e, e ∈ es → isCl e) ∧ es.length ≤ 1000000) (fun es day => .tup [.int .i64 (provF es day).1, .int .i64 (provF es day).2])
theorem okZ4 {H : AHeap} {cl : List PV} : ∀ x, x ∈ [AV.pv (.int .i64 0), .pv (.int .i64 0), .pv (.int .i64 0), .pv (.sl cl)] → x.one = true ∧ frzOk H 3 x := okC4
theorem k_rprovS_16 {args : List PV} : BC 16 args = rackS args := rfl
theorem k_rprovS_39 {args : List PV} : BC 39 args = rprcS args := rfl
theorem k_rprovS_40 {args : List PV} : BC 40 args = rtotS args := rfl
theorem w_rprovS : PSound GG 19 rprovS := by
  refine PSound.of_wpc (C := cxP Tryz.prog BC [] 60) (T := plan0) Tryz.func19 rfl rfl rfl (Fit.pure (G := GG) hBC mixed) (fun args h => ?_)
  unfold rprovS at h
  obtain ⟨es, day, rfl, hp⟩ := on_li_inv h
  refine ⟨by simp [cxP], ?_⟩
  simp only [rprovS, on_li_eq, Tryz.f19, argL, plan0]
  obtain ⟨he, hl⟩ := hp
  have hck : ackF ⟨0, 0, 0, es⟩ = clsF es := by unfold ackF; simp only [show (vldM 0 && vldM 0 && vldM 0) = true from rfl, Bool.not_true, Bool.and_false, cond_false]
  simp only [cloOf_agg, hck, k_rprovS_16, rackS, on_p_eq, k_rprovS_39, rprcS, on_ii_eq, k_rprovS_40, rtotS, on_i_eq, List.take_succ_cons, List.take_nil, Tryz.underlying1, sz1, by1, ze1, Tryz.underlying3, sz3, by3, ze3, Tryz.underlying4, sz4, by4, ze4, Tryz.underlying9, sz9, by9, ze9, Tryz.underlying26, sz26, by26, ze26, Tryz.underlying28, sz28, by28, ze28, fa28_0, fa28_1, fa28_2, fa28_3, Tryz.underlying40, sz40, by40, ze40, fa40_0, fa40_1, fa40_2, fa40_3, fa40_4, fa40_5, Tryz.underlying41, sz41, by41, ze41, Tryz.underlying51, sz51, by51, ze51, go_sem, ↓reduceIte, reduceCtorEq, Nat.reduceEqDiff, Nat.reduceLT, ↓all_qV, Int.reduceToNat, Int.reduceLT, Int.reduceLE, Nat.reduceAdd, Nat.reduceLeDiff, Nat.reduceMul]
  refine ⟨⟨⟨0, 0, 0, es⟩, rfl, he, hl⟩, fun h1 => ?_, fun h1 => ⟨fun h2 => ?_, fun h2 => ?_⟩⟩
  · unfold provF; rw [h1]; rfl
  · have h3 : (!amg day 0 36000) = true := by
      unfold amg
      simp only [Bool.or_eq_true, decide_eq_true_eq] at h2
      simp; omega
    unfold provF; rw [h1, h3]; rfl
  have hc0 : clsF es = 0 := by simpa using h1
  obtain ⟨hl6, hok⟩ := cls_ok hc0
  have hday : 0 ≤ day ∧ day ≤ 36000 := by have h2' := h2; simp only [Bool.or_eq_false_iff, decide_eq_false_iff_not] at h2'; omega
  have h3 : (!amg day 0 36000) = false := by
    unfold amg; simp; exact hday
  have hres : provF es day = (sumI (es.map (setF day)), 0) := by unfold provF; rw [h1, h3]; rfl
  refine AWp.loop (T := plan0) (α := Nat) (fun i => ([(1, .pv (.int .i64 day)), (7, .pv (.int .i64 (sumI ((es.take i).map (setF day))))), (26, .pv (.sl es)), (27, .pv (.int .i64 es.length)), (28, .pv (.int .i64 i))], [])) (fun i => i ≤ es.length) (fun i => es.length - i)
    ⟨0, Nat.zero_le _, ⟨by simp [fitR, look, sumI], trivial, rfl, rfl, rfl⟩⟩ ?_
  intro i hi
  have hi1 : IntKind.i64.wrap ((i : Int) + 1) = ((i + 1 : Nat) : Int) := by rw [i64_in _ (by omega)]; omega
  have hsum := sumI_le (es := es.take i) (day := day) (fun e he' => ⟨he e (List.mem_of_mem_take he'), hok e (List.mem_of_mem_take he')⟩)
  have htl : (es.take i).length ≤ 60 := by rw [List.length_take]; omega
  by_cases hlt : i < es.length
  · have c0 : decide ((i : Int) < (es.length : Int)) = true := by simp; omega
    have hm : es.getD i default ∈ es := by rw [List.getD_eq_getElem?_getD, List.getElem?_eq_getElem hlt]; exact List.getElem_mem _
    have hnext : sumI ((es.take (i + 1)).map (setF day)) = sumI ((es.take i).map (setF day)) + setF day (es.getD i default) := by
      rw [List.take_add_one, List.map_append, sumI_append]
      simp [List.getElem?_eq_getElem hlt, List.getD_eq_getElem?_getD, sumI]
    have hcl := he _ hm
    have hcb := hok _ hm
    obtain ⟨e, hg⟩ : ∃ e, es.getD i default = e := ⟨_, rfl⟩
    rw [hg] at hcl hcb hnext
    obtain ⟨id, pa, am, op, d, c, rfl, hc⟩ := hcl
    unfold claimV at hg hcb hnext
    obtain ⟨k1, k2, k3, k4, k5⟩ := set_le day hcb
    have hst : setF day (.agg [.int .i64 id, .int .i64 pa, .int .i64 am, .int .i64 op, .int .i64 d, .str c]) = op * pctF (day - d) / 100 := k3
    rw [hst] at hnext
    have w1 : IntKind.i64.wrap (day - d) = day - d := i64_in _ (by omega)
    generalize sumI ((es.take i).map (setF day)) = acc at hsum hnext ⊢
    have w2 : IntKind.i64.wrap (acc + op * pctF (day - d) / 100) = acc + op * pctF (day - d) / 100 := i64_in _ (by omega)
    generalize hS : sumI ((es.take (i + 1)).map (setF day)) = S at hnext
    simp (config := {maxSteps := 1000000}) only [c0, hg, hi1, w1, List.take_succ_cons, List.take_nil, k_rprovS_16, rackS, on_p_eq, k_rprovS_39, rprcS, on_ii_eq, k_rprovS_40, rtotS, on_i_eq, Tryz.underlying1, sz1, by1, ze1, Tryz.underlying3, sz3, by3, ze3, Tryz.underlying4, sz4, by4, ze4, Tryz.underlying9, sz9, by9, ze9, Tryz.underlying26, sz26, by26, ze26, Tryz.underlying28, sz28, by28, ze28, fa28_0, fa28_1, fa28_2, fa28_3, Tryz.underlying40, sz40, by40, ze40, fa40_0, fa40_1, fa40_2, fa40_3, fa40_4, fa40_5, Tryz.underlying41, sz41, by41, ze41, Tryz.underlying51, sz51, by51, ze51, plan0, go_sem, ↓reduceIte, reduceCtorEq, Nat.reduceEqDiff, Nat.reduceLT, ↓all_qV, Int.reduceToNat, Int.reduceLT, Int.reduceLE, Nat.reduceAdd, Nat.reduceLeDiff, Nat.reduceMul]
    refine ⟨by omega, fun h6 => ?_, fun h6 => ⟨fun h7 => ?_, fun h7 => ⟨fun h8 => ?_, fun h8 => ?_⟩⟩⟩
    · rw [pctF_a h6] at k3 w2 hnext
      simp only [k3, w2]
      exact ⟨i + 1, by omega, by omega, ⟨by rw [hS, hnext]; simp [fitR, look], trivial, rfl, rfl, rfl⟩⟩
    · rw [pctF_b h6 h7] at k3 w2 hnext
      simp only [k3, w2]
      exact ⟨i + 1, by omega, by omega, ⟨by rw [hS, hnext]; simp [fitR, look], trivial, rfl, rfl, rfl⟩⟩
    · rw [pctF_c h7 h8] at k3 w2 hnext
      simp only [k3, w2]
      exact ⟨i + 1, by omega, by omega, ⟨by rw [hS, hnext]; simp [fitR, look], trivial, rfl, rfl, rfl⟩⟩
    · rw [pctF_d h8] at k3 w2 hnext
      simp only [k3, w2]
      exact ⟨i + 1, by omega, by omega, ⟨by rw [hS, hnext]; simp [fitR, look], trivial, rfl, rfl, rfl⟩⟩
  · have c0 : decide ((i : Int) < (es.length : Int)) = false := by simp; omega
    have e1 : i = es.length := by omega
    subst e1
    rw [List.take_length] at hsum htl ⊢
    rw [hres]
    generalize sumI (es.map (setF day)) = acc at hsum ⊢
    have ht : totB acc = true := by unfold totB; simp; omega
    simp only [c0, ht, k_rprovS_16, rackS, on_p_eq, k_rprovS_39, rprcS, on_ii_eq, k_rprovS_40, rtotS, on_i_eq, Tryz.underlying1, sz1, by1, ze1, Tryz.underlying3, sz3, by3, ze3, Tryz.underlying4, sz4, by4, ze4, Tryz.underlying9, sz9, by9, ze9, Tryz.underlying26, sz26, by26, ze26, Tryz.underlying28, sz28, by28, ze28, fa28_0, fa28_1, fa28_2, fa28_3, Tryz.underlying40, sz40, by40, ze40, fa40_0, fa40_1, fa40_2, fa40_3, fa40_4, fa40_5, Tryz.underlying41, sz41, by41, ze41, Tryz.underlying51, sz51, by51, ze51, plan0, go_sem, ↓reduceIte, reduceCtorEq, Nat.reduceEqDiff, Nat.reduceLT, ↓all_qV, Int.reduceToNat, Int.reduceLT, Int.reduceLE, Nat.reduceAdd, Nat.reduceLeDiff, Nat.reduceMul]
noncomputable def rentS : PSpec := on_i (fun _ => True) (fun n => .bool (amg n 1 10))
theorem w_rentS : PSound GG 48 rentS := by
  refine PSound.of_wpc (C := cxP Tryz.prog BC [] 9) (T := plan0) Tryz.func48 rfl rfl rfl (Fit.pure (G := GG) hBC mixed) (fun args h => ?_)
  unfold rentS at h
  obtain ⟨n, rfl, hp⟩ := on_i_inv h
  refine ⟨by simp [cxP], ?_⟩
  simp only [rentS, on_i_eq, Tryz.f48, argL, plan0]
  simp only [go_sem, ↓reduceIte, reduceCtorEq, Nat.reduceEqDiff, Nat.reduceLT, ↓all_qV, Int.reduceToNat, Int.reduceLT, Int.reduceLE, Nat.reduceAdd, Nat.reduceLeDiff, Nat.reduceMul]
  rfl
noncomputable def rtrnS : PSpec := on_pii (fun e _ _ => isPs e) (fun e n d => psV (trnF (psOf e) n d))
theorem w_rtrnS : PSound GG 53 rtrnS := by
  refine PSound.of_wpc (C := cxP Tryz.prog BC [] 18) (T := plan0) Tryz.func53 rfl rfl rfl (Fit.pure (G := GG) hBC mixed) (fun args h => ?_)
  unfold rtrnS at h
  obtain ⟨e, n, d, rfl, hp⟩ := on_pii_inv h
  refine ⟨by simp [cxP], ?_⟩
  simp only [rtrnS, on_pii_eq, Tryz.f53, argL, plan0]
  obtain ⟨⟨nu, day, en, db, cr, am, pa, re⟩, rfl⟩ := hp
  simp only [psV, psOf_agg, trnF, loadC_eq, List.take_succ_cons, List.take_nil, Tryz.underlying1, sz1, by1, ze1, Tryz.underlying3, sz3, by3, ze3, Tryz.underlying4, sz4, by4, ze4, Tryz.underlying63, sz63, by63, ze63, fa63_0, fa63_1, fa63_2, fa63_3, fa63_4, fa63_5, fa63_6, fa63_7, go_sem, ↓reduceIte, reduceCtorEq, Nat.reduceEqDiff, Nat.reduceLT, ↓all_qV, Int.reduceToNat, Int.reduceLT, Int.reduceLE, Nat.reduceAdd, Nat.reduceLeDiff, Nat.reduceMul]
  and_intros
  all_goals try first | exact okPs | rfl
noncomputable def BD (g : FuncId) : PSpec := (putΦ (putΦ (putΦ BC 19 rprovS) 48 rentS) 53 rtrnS) g
theorem hBD : TabSound GG BD := (((hBC.put w_rprovS).put w_rentS).put w_rtrnS)
end Go.AM
