/-
  A part of a proof: see the last text of this claim for what is proved.
-/
import Derived.Test.YtcmkdpdinjkokaaGreatDoorX7j
namespace Go.AM
open Go Go.Proofs Go.IntWalk
set_option maxRecDepth 100000
set_option maxHeartbeats 1000000
set_option linter.unusedSimpArgs false
set_option linter.unusedVariables false
def planA : Plan := { keep := fun _ => none, cut := fun _ => false, stop := fun i => i == 2 }
theorem facts_recs {f : Facts} (h : f.ok) : okRecs f.law f.re := by
  obtain ⟨hl, hn, hre, day, hI⟩ := h
  have hk := hl.k
  refine ⟨by omega, fun x hx => ?_, hI.1⟩
  obtain ⟨n, d, c, a, e, hc, hm, hd, ha⟩ := hre x hx
  have hr := hI.2 x hx
  have hm' : PV.str c ∈ leavesF f.law.tree [57] := hm
  have hd' : 360 * f.law.first ≤ d ∧ d ≤ 360 * f.law.first + 1200 := hd
  have hf := hl.1
  rw [e] at hr
  have hr' : 1 ≤ n ∧ n ≤ (f.re.length : Int) := hr.2
  exact ⟨n, d, c, a, e, by omega, by omega, hk.mem (leavesF_sub hm'), by omega, ha.2.2, by omega⟩
theorem getD_con {L : Law} (h : LawK L) {i : Nat} (hi : i < L.e.length) : ∃ c y am k d s l, L.e.getD i default = .agg [.str c, .int .i64 y, .int .i64 am, .int .i64 k, .int .i64 d, .str s, .int .i64 l] ∧ (0 ≤ am ∧ am ≤ 200) := by
  obtain ⟨c, y, am, k, d, s, l, e, _, _, h3, _⟩ := h.co.2 _ (getD_mem hi)
  exact ⟨c, y, am, k, d, s, l, e, h3⟩
theorem openL_has {rs : List PV} {d : Int} : ∀ {e : List PV} {i : Int} {k : Nat}, k < e.length → (openL rs d e i).contains (i + (k : Int)) = !holdB (e.getD k default) rs d
  | [], i, k, h => by simp at h
  | c :: r, i, 0, h => by
    unfold openL
    cases hb : holdB c rs d with
    | true =>
      rw [cond_true]
      have : (openL rs d r (i + 1)).contains (i + ((0 : Nat) : Int)) = false := by
        rw [Bool.eq_false_iff]
        intro h9
        have := openL_mem (List.contains_iff_mem.1 h9)
        simp at this
        omega
      rw [this]
      simp [hb]
    | false =>
      rw [cond_false, List.contains_cons]
      simp [hb]
  | c :: r, i, k + 1, h => by
    have ih := openL_has (rs := rs) (d := d) (e := r) (i := i + 1) (k := k) (by simpa using h)
    have e1 : i + ((k + 1 : Nat) : Int) = i + 1 + (k : Int) := by omega
    have hL : openL rs d (c :: r) i = bif holdB c rs d then openL rs d r (i + 1) else i :: openL rs d r (i + 1) := rfl
    rw [e1, List.getD_cons_succ, ← ih, hL]
    cases hb : holdB c rs d with
    | true => rfl
    | false =>
      rw [cond_false, List.contains_cons]
      have : (i + 1 + (k : Int) == i) = false := by simp; omega
      rw [this, Bool.false_or]
/-- Blocked, condition by condition. -/
def blB (rs : List PV) (d : Int) (code : List UInt8) (y : Int) (c : PV) : Int := bif holdB c rs d then 0 else blV code y c
theorem blk_sum {rs : List PV} {d y : Int} {code : List UInt8} : ∀ (e pre : List PV), sumL ((openL rs d e (pre.length : Int)).map fun k => blV code y ((pre ++ e).getD k.toNat default)) = sumL (e.map (blB rs d code y))
  | [], _ => rfl
  | c :: r, pre => by
    have ih := blk_sum (rs := rs) (d := d) (y := y) (code := code) r (pre ++ [c])
    rw [List.length_append, List.length_singleton, List.append_assoc, List.singleton_append] at ih
    have e1 : ((pre.length + 1 : Nat) : Int) = (pre.length : Int) + 1 := by omega
    rw [e1] at ih
    have hg : (pre ++ c :: r).getD pre.length default = c := by simp [List.getD_eq_getElem?_getD]
    unfold openL
    rw [List.map_cons, sumL]
    have hc : blB rs d code y c = bif holdB c rs d then 0 else blV code y c := rfl
    cases hb : holdB c rs d with
    | true => rw [cond_true, ih, hc, hb, cond_true]; omega
    | false =>
      rw [cond_false, List.map_cons, sumL, ih, hc, hb, cond_false]
      have : ((pre.length : Int)).toNat = pre.length := by omega
      rw [this, hg]
theorem blk_eq (rs : List PV) (code : List UInt8) (y d : Int) (e : List PV) : blkF rs code y d e = sumL (e.map (blB rs d code y)) := by
  exact blk_sum (rs := rs) (d := d) (y := y) (code := code) e []
theorem holdB_at (c : PV) (rs : List PV) : (relF c rs).2 = true → holdB c rs (relF c rs).1 = true ∧ holdB c rs ((relF c rs).1 - 1) = false := fun h => by
  unfold holdB
  rw [h]
  have h1 : (relF c rs).1 ≤ (relF c rs).1 := Int.le_refl _
  have h2 : ¬ (relF c rs).1 ≤ (relF c rs).1 - 1 := by omega
  simp [h2]
theorem blB_le {L : Law} (h : LawK L) {rs : List PV} {d y : Int} {code : List UInt8} {x : PV} (hx : x ∈ L.e) : 0 ≤ blB rs d code y x ∧ blB rs d code y x ≤ 200 := by
  unfold blB
  have := (h.co.2 x hx).bl code y
  cases holdB x rs d with
  | true => simp
  | false => exact this
/-! ### The day of a release -/
theorem stepR_mem {y l : Int} {s : List UInt8} {rs : List PV} : ∀ (D : List Int) (b : Int × Bool), (D.foldl (stepR y s l rs) b).1 = b.1 ∨ (D.foldl (stepR y s l rs) b).1 ∈ D
  | [], b => .inl rfl
  | d :: r, b => by
    rw [List.foldl_cons]
    rcases stepR_mem (y := y) (l := l) (s := s) (rs := rs) r (stepR y s l rs b d) with h | h
    · rw [h]
      unfold stepR
      cases (yrOf d == y && (!b.2 || decide (d < b.1)) && decide (l ≤ recF rs s y d)) with
      | true => exact .inr List.mem_cons_self
      | false => exact .inl rfl
    · exact .inr (List.mem_cons_of_mem _ h)
theorem dayF_bd (y : Int) : 0 ≤ (dayF y 1 1).1 ∧ (dayF y 1 1).1 ≤ 36000 := by
  unfold dayF
  cases (!amg 1 1 12 || !amg 1 1 30 || !amg y 0 36000) with
  | true => simp
  | false =>
    rw [cond_false]
    unfold chk
    cases h : vld (360 * y + 30 * (1 - 1) + 1 - 1) with
    | false => simp
    | true =>
      rw [cond_true]
      unfold vld at h
      simp only [Bool.and_eq_true, decide_eq_true_eq] at h
      exact h
theorem rel_bd {L : Law} {rs : List PV} (h : LawK L) (hr : okRecs L rs) {x : PV} (hx : x ∈ L.e) : 0 ≤ (relF x rs).1 ∧ (relF x rs).1 ≤ 36000 := by
  obtain ⟨c, y, am, k, d, s, l, rfl, _, _, _, hk⟩ := h.co.2 x hx
  have e : relF (.agg [.str c, .int .i64 y, .int .i64 am, .int .i64 k, .int .i64 d, .str s, .int .i64 l]) rs = (bif k == 2 then reachF y s l rs else bif k == 1 && decide (d ≤ 36000) then (if d < 0 then 0 else d, true) else (0, false)) := rfl
  rw [e]
  rcases hk with ⟨rfl, hd, _, _⟩ | ⟨rfl, hd, _, _⟩
  · have e1 : ((1 : Int) == 2) = false := by decide
    have e2 : ((1 : Int) == 1 && decide (d ≤ 36000)) = true := by simp; omega
    have e3 : ¬ d < 0 := by omega
    rw [e1, cond_false, e2, cond_true, if_neg e3]
    simp only; omega
  · have e1 : ((2 : Int) == 2) = true := by decide
    rw [e1, cond_true]
    unfold reachF
    cases ((dayF y 1 1).2 != 0) with
    | true => simp
    | false =>
      rw [cond_false]
      rcases stepR_mem (y := y) (l := l) (s := s) (rs := rs) ((dayF y 1 1).1 :: (rs.take 1000).map dayOf) (0, false) with h1 | h1
      · rw [h1]; simp
      · rcases List.mem_cons.1 h1 with h2 | h2
        · rw [h2]; exact dayF_bd y
        · obtain ⟨x, hx, h3⟩ := List.mem_map.1 h2
          obtain ⟨n, dd, c', a, rfl, _, hdd, _⟩ := hr.2.1 x (List.mem_of_mem_take hx)
          rw [← h3]
          show 0 ≤ dd ∧ dd ≤ 36000
          omega
end Go.AM
namespace Go.AM
open Go Go.Proofs Go.IntWalk
set_option maxRecDepth 100000
set_option maxHeartbeats 1000000
set_option linter.unusedSimpArgs false
set_option linter.unusedVariables false
theorem holdB_mono {c : PV} {rs : List PV} {a b : Int} (h : a ≤ b) (ha : holdB c rs a = true) : holdB c rs b = true := by
  unfold holdB at *
  simp only [Bool.and_eq_true, decide_eq_true_eq] at *
  exact ⟨ha.1, by omega⟩
theorem blk_mono {L : Law} (h : LawK L) {rs : List PV} {a b y : Int} {code : List UInt8} (hab : a ≤ b) : blkF rs code y b L.e ≤ blkF rs code y a L.e := by
  rw [blk_eq, blk_eq]
  have main : ∀ e : List PV, (∀ x, x ∈ e → x ∈ L.e) → sumL (e.map (blB rs b code y)) ≤ sumL (e.map (blB rs a code y)) := by
    intro e
    induction e with
    | nil => intro _; exact Int.le_refl _
    | cons x r ih =>
      intro hx
      have h1 := ih (fun y hy => hx y (List.mem_cons_of_mem _ hy))
      have h2 := (h.co.2 x (hx x List.mem_cons_self)).bl code y
      have h3 : blB rs b code y x ≤ blB rs a code y x := by
        unfold blB
        cases ha : holdB x rs a with
        | true => rw [holdB_mono hab ha]; exact Int.le_refl _
        | false =>
          cases holdB x rs b with
          | true => exact h2.1
          | false => exact Int.le_refl _
      simp only [List.map_cons, sumL]
      omega
  exact main L.e (fun _ hx => hx)
/-! ### The first day -/
def qual (y l : Int) (s : List UInt8) (rs : List PV) (d : Int) : Bool := yrOf d == y && decide (l ≤ recF rs s y d)
theorem fold_char {y l : Int} {s : List UInt8} {rs : List PV} : ∀ (D : List Int) (st : Int × Bool),
    ((D.foldl (stepR y s l rs) st).2 = true ↔ st.2 = true ∨ ∃ d, d ∈ D ∧ qual y l s rs d = true) ∧
    ((D.foldl (stepR y s l rs) st).2 = true → (st.2 = true ∧ (D.foldl (stepR y s l rs) st).1 = st.1) ∨ ((D.foldl (stepR y s l rs) st).1 ∈ D ∧ qual y l s rs (D.foldl (stepR y s l rs) st).1 = true)) ∧
    (st.2 = true → (D.foldl (stepR y s l rs) st).1 ≤ st.1) ∧ (∀ d, d ∈ D → qual y l s rs d = true → (D.foldl (stepR y s l rs) st).1 ≤ d)
  | [], st => ⟨⟨fun h => .inl h, fun h => by
      rcases h with h | ⟨d, h, _⟩
      · exact h
      · cases h⟩, fun h => .inl ⟨h, rfl⟩, fun _ => Int.le_refl _, fun d h => by cases h⟩
  | d :: r, st => by
    obtain ⟨h1, h2, h3, h4⟩ := fold_char (y := y) (l := l) (s := s) (rs := rs) r (stepR y s l rs st d)
    rw [List.foldl_cons]
    obtain ⟨b, ok⟩ := st
    have hst : stepR y s l rs (b, ok) d = bif (yrOf d == y && (!ok || decide (d < b)) && decide (l ≤ recF rs s y d)) then (d, true) else (b, ok) := rfl
    cases hc : (yrOf d == y && (!ok || decide (d < b)) && decide (l ≤ recF rs s y d)) with
    | true =>
      rw [hc, cond_true] at hst
      rw [hst] at h1 h2 h3 h4 ⊢
      simp only [Bool.and_eq_true, Bool.or_eq_true, Bool.not_eq_true', decide_eq_true_eq] at hc
      have hq : qual y l s rs d = true := by unfold qual; simp [hc.1.1, hc.2]
      have hle : (r.foldl (stepR y s l rs) (d, true)).1 ≤ d := h3 rfl
      refine ⟨⟨fun _ => .inr ⟨d, List.mem_cons_self, hq⟩, fun _ => h1.2 (.inl rfl)⟩, fun h => ?_, fun hok => ?_, fun d' hd' hq' => ?_⟩
      · rcases h2 h with ⟨_, h5⟩ | ⟨h5, h6⟩
        · right
          rw [h5]; exact ⟨List.mem_cons_self, hq⟩
        · exact .inr ⟨List.mem_cons_of_mem _ h5, h6⟩
      · simp only at hok
        rcases hc.1.2 with h | h
        · rw [hok] at h; cases h
        · simp only; omega
      · rcases List.mem_cons.1 hd' with rfl | hd'
        · exact hle
        · exact h4 d' hd' hq'
    | false =>
      rw [hc, cond_false] at hst
      rw [hst] at h1 h2 h3 h4 ⊢
      have hno : qual y l s rs d = true → ok = true ∧ b ≤ d := fun hq => by
        unfold qual at hq
        simp only [Bool.and_eq_true, beq_iff_eq, decide_eq_true_eq] at hq
        cases ok with
        | false => simp [hq.1, hq.2] at hc
        | true =>
          refine ⟨rfl, ?_⟩
          simp [hq.1, hq.2] at hc
          omega
      refine ⟨⟨fun h => ?_, fun h => ?_⟩, fun h => ?_, fun hok => h3 hok, fun d' hd' hq' => ?_⟩
      · rcases h1.1 h with h5 | ⟨d', h5, h6⟩
        · exact .inl h5
        · exact .inr ⟨d', List.mem_cons_of_mem _ h5, h6⟩
      · rcases h with h5 | ⟨d', h5, h6⟩
        · exact h1.2 (.inl h5)
        · rcases List.mem_cons.1 h5 with rfl | h5
          · exact h1.2 (.inl (hno h6).1)
          · exact h1.2 (.inr ⟨d', h5, h6⟩)
      · rcases h2 h with h5 | ⟨h5, h6⟩
        · exact .inl h5
        · exact .inr ⟨List.mem_cons_of_mem _ h5, h6⟩
      · rcases List.mem_cons.1 hd' with rfl | hd'
        · obtain ⟨h5, h6⟩ := hno hq'
          have := h3 h5
          simp only at this
          omega
        · exact h4 d' hd' hq'
theorem recF_more {rs : List PV} (h : rs.length ≤ 100) {n D a : Int} {c : List UInt8} (src : List UInt8) (y : Int) {d : Int} (hd : d < D) : recF (rs ++ [.agg [.int .i64 n, .int .i64 D, .str c, .int .i64 a]]) src y d = recF rs src y d := by
  rw [recF_all (by simp; omega), recF_all (by omega), List.map_append, sumL_append]
  have : cntR src y d (.agg [.int .i64 n, .int .i64 D, .str c, .int .i64 a]) = 0 := by
    unfold cntR
    simp only
    rw [if_neg]
    simp only [Bool.and_eq_true, decide_eq_true_eq]
    rintro ⟨⟨⟨⟨_, h2⟩, _⟩, _⟩, _⟩
    omega
  simp [sumL, this]
/-- A release that stands before a further receipt's day stays. -/
theorem rel_more {L : Law} (h : LawK L) {rs : List PV} (hr : rs.length ≤ 100) {x : PV} (hx : x ∈ L.e) {n D a : Int} {c : List UInt8} (h2 : (relF x rs).2 = true) (hd : (relF x rs).1 < D) :
    (relF x (rs ++ [.agg [.int .i64 n, .int .i64 D, .str c, .int .i64 a]])).2 = true ∧ (relF x (rs ++ [.agg [.int .i64 n, .int .i64 D, .str c, .int .i64 a]])).1 = (relF x rs).1 := by
  obtain ⟨cc, y, am, k, d, s, l, rfl, _, _, _, hk⟩ := h.co.2 x hx
  have e : ∀ rs, relF (.agg [.str cc, .int .i64 y, .int .i64 am, .int .i64 k, .int .i64 d, .str s, .int .i64 l]) rs = (bif k == 2 then reachF y s l rs else bif k == 1 && decide (d ≤ 36000) then (if d < 0 then 0 else d, true) else (0, false)) := fun _ => rfl
  rw [e] at h2 hd
  rw [e, e]
  cases hkk : (k == 2) with
  | false =>
    rw [hkk, cond_false] at h2
    simp only [cond_false]
    exact ⟨h2, trivial⟩
  | true =>
    rw [hkk, cond_true] at h2 hd
    simp only [cond_true]
    unfold reachF at h2 hd ⊢
    cases hdf : ((dayF y 1 1).2 != 0) with
    | true => rw [hdf, cond_true] at h2; cases h2
    | false =>
      rw [hdf, cond_false] at h2 hd
      simp only [cond_false]
      have t1 : rs.take 1000 = rs := List.take_of_length_le (by omega)
      have t2 : (rs ++ [PV.agg [.int .i64 n, .int .i64 D, .str c, .int .i64 a]]).take 1000 = rs ++ [PV.agg [.int .i64 n, .int .i64 D, .str c, .int .i64 a]] := List.take_of_length_le (by rw [List.length_append, List.length_singleton]; omega)
      rw [t1] at h2 hd
      rw [t1, t2, List.map_append]
      have hdx : dayOf (.agg [.int .i64 n, .int .i64 D, .str c, .int .i64 a]) = D := rfl
      simp only [List.map_cons, List.map_nil, hdx]
      obtain ⟨DL, hDL⟩ : ∃ DL, (dayF y 1 1).1 :: rs.map dayOf = DL := ⟨_, rfl⟩
      have hDL2 : (dayF y 1 1).1 :: (rs.map dayOf ++ [D]) = DL ++ [D] := by rw [← hDL]; rfl
      rw [hDL] at h2 hd ⊢
      rw [hDL2]
      obtain ⟨a1, a2, _, a4⟩ := fold_char (y := y) (l := l) (s := s) (rs := rs) DL (0, false)
      obtain ⟨b1, b2, _, b4⟩ := fold_char (y := y) (l := l) (s := s) (rs := rs ++ [.agg [.int .i64 n, .int .i64 D, .str c, .int .i64 a]]) (DL ++ [D]) (0, false)
      have hqq : ∀ d', d' < D → qual y l s (rs ++ [.agg [.int .i64 n, .int .i64 D, .str c, .int .i64 a]]) d' = qual y l s rs d' := fun d' h9 => by
        unfold qual
        rw [recF_more hr s y h9]
      rcases a2 h2 with ⟨h5, _⟩ | ⟨hm, hq⟩
      · cases h5
      · have hq' : qual y l s (rs ++ [.agg [.int .i64 n, .int .i64 D, .str c, .int .i64 a]]) (DL.foldl (stepR y s l rs) (0, false)).1 = true := by rw [hqq _ hd]; exact hq
        have hm' := List.mem_append.2 (.inl hm : _ ∨ (DL.foldl (stepR y s l rs) (0, false)).1 ∈ [D])
        have hb := b1.2 (.inr ⟨_, hm', hq'⟩)
        refine ⟨hb, ?_⟩
        have hle := b4 _ hm' hq'
        rcases b2 hb with ⟨h5, _⟩ | ⟨hm2, hq2⟩
        · cases h5
        · have hlt : ((DL ++ [D]).foldl (stepR y s l (rs ++ [.agg [.int .i64 n, .int .i64 D, .str c, .int .i64 a]])) (0, false)).1 < D := by omega
          rw [hqq _ hlt] at hq2
          rcases List.mem_append.1 hm2 with hm2 | hm2
          · have := a4 _ hm2 hq2
            omega
          · rw [List.mem_singleton] at hm2
            omega
theorem lastD_bd {L : Law} {rs : List PV} (h : okRecs L rs) : 0 ≤ lastD rs ∧ lastD rs ≤ 35990 := by
  unfold lastD
  by_cases h0 : rs.length = 0
  · rw [if_pos h0]; omega
  · rw [if_neg h0]
    obtain ⟨n, d, c, a, e, _, hd, _⟩ := h.2.1 _ (getD_mem (show rs.length - 1 < rs.length by omega))
    rw [e]
    exact hd
end Go.AM
