/-
  A part of a proof: see the last text of this claim for what is proved.
-/
import Derived.Test.YtcmkdpdinjkokaaGreatDoorX7j
namespace Go.AM
open Go Go.Proofs Go.IntWalk
set_option maxRecDepth 100000
set_option maxHeartbeats 1000000
set_option linter.unusedSimpArgs false
set_option linter.unusedVariables false
def planA : Plan := { keep := fun _ => none, cut := fun _ => false, stop := fun i => i == 2 }
theorem facts_recs {f : Facts} (h : f.ok) : okRecs f.law f.re := by
  obtain ⟨hl, hn, hre, day, hI⟩ := h
  have hk := hl.k
  refine ⟨by omega, fun x hx => ?_, hI.1⟩
  obtain ⟨n, d, c, a, e, hc, hm, hd, ha⟩ := hre x hx
  have hr := hI.2 x hx
  have hm' : PV.str c ∈ leavesF f.law.tree [57] := hm
  have hd' : 360 * f.law.first ≤ d ∧ d ≤ 360 * f.law.first + 1200 := hd
  have hf := hl.1
  rw [e] at hr
  have hr' : 1 ≤ n ∧ n ≤ (f.re.length : Int) := hr.2
  exact ⟨n, d, c, a, e, by omega, by omega, hk.mem (leavesF_sub hm'), by omega, ha.2.2, by omega⟩
theorem getD_con {L : Law} (h : LawK L) {i : Nat} (hi : i < L.e.length) : ∃ c y am k d s l, L.e.getD i default = .agg [.str c, .int .i64 y, .int .i64 am, .int .i64 k, .int .i64 d, .str s, .int .i64 l] ∧ (0 ≤ am ∧ am ≤ 200) := by
  obtain ⟨c, y, am, k, d, s, l, e, _, _, h3, _⟩ := h.co.2 _ (getD_mem hi)
  exact ⟨c, y, am, k, d, s, l, e, h3⟩
theorem openL_has {rs : List PV} {d : Int} : ∀ {e : List PV} {i : Int} {k : Nat}, k < e.length → (openL rs d e i).contains (i + (k : Int)) = !holdB (e.getD k default) rs d
  | [], i, k, h => by simp at h
  | c :: r, i, 0, h => by
    unfold openL
    cases hb : holdB c rs d with
    | true =>
      rw [cond_true]
      have : (openL rs d r (i + 1)).contains (i + ((0 : Nat) : Int)) = false := by
        rw [Bool.eq_false_iff]
        intro h9
        have := openL_mem (List.contains_iff_mem.1 h9)
        simp at this
        omega
      rw [this]
      simp [hb]
    | false =>
      rw [cond_false, List.contains_cons]
      simp [hb]
  | c :: r, i, k + 1, h => by
    have ih := openL_has (rs := rs) (d := d) (e := r) (i := i + 1) (k := k) (by simpa using h)
    have e1 : i + ((k + 1 : Nat) : Int) = i + 1 + (k : Int) := by omega
    have hL : openL rs d (c :: r) i = bif holdB c rs d then openL rs d r (i + 1) else i :: openL rs d r (i + 1) := rfl
    rw [e1, List.getD_cons_succ, ← ih, hL]
    cases hb : holdB c rs d with
    | true => rfl
    | false =>
      rw [cond_false, List.contains_cons]
      have : (i + 1 + (k : Int) == i) = false := by simp; omega
      rw [this, Bool.false_or]
/-- Blocked, condition by condition. -/
def blB (rs : List PV) (d : Int) (code : List UInt8) (y : Int) (c : PV) : Int := bif holdB c rs d then 0 else blV code y c
theorem blk_sum {rs : List PV} {d y : Int} {code : List UInt8} : ∀ (e pre : List PV), sumL ((openL rs d e (pre.length : Int)).map fun k => blV code y ((pre ++ e).getD k.toNat default)) = sumL (e.map (blB rs d code y))
  | [], _ => rfl
  | c :: r, pre => by
    have ih := blk_sum (rs := rs) (d := d) (y := y) (code := code) r (pre ++ [c])
    rw [List.length_append, List.length_singleton, List.append_assoc, List.singleton_append] at ih
    have e1 : ((pre.length + 1 : Nat) : Int) = (pre.length : Int) + 1 := by omega
    rw [e1] at ih
    have hg : (pre ++ c :: r).getD pre.length default = c := by simp [List.getD_eq_getElem?_getD]
    unfold openL
    rw [List.map_cons, sumL]
    have hc : blB rs d code y c = bif holdB c rs d then 0 else blV code y c := rfl
    cases hb : holdB c rs d with
    | true => rw [cond_true, ih, hc, hb, cond_true]; omega
    | false =>
      rw [cond_false, List.map_cons, sumL, ih, hc, hb, cond_false]
      have : ((pre.length : Int)).toNat = pre.length := by omega
      rw [this, hg]
theorem blk_eq (rs : List PV) (code : List UInt8) (y d : Int) (e : List PV) : blkF rs code y d e = sumL (e.map (blB rs d code y)) := by
  exact blk_sum (rs := rs) (d := d) (y := y) (code := code) e []
theorem holdB_at (c : PV) (rs : List PV) : (relF c rs).2 = true → holdB c rs (relF c rs).1 = true ∧ holdB c rs ((relF c rs).1 - 1) = false := fun h => by
  unfold holdB
  rw [h]
  have h1 : (relF c rs).1 ≤ (relF c rs).1 := Int.le_refl _
  have h2 : ¬ (relF c rs).1 ≤ (relF c rs).1 - 1 := by omega
  simp [h2]
theorem blB_le {L : Law} (h : LawK L) {rs : List PV} {d y : Int} {code : List UInt8} {x : PV} (hx : x ∈ L.e) : 0 ≤ blB rs d code y x ∧ blB rs d code y x ≤ 200 := by
  unfold blB
  have := (h.co.2 x hx).bl code y
  cases holdB x rs d with
  | true => simp
  | false => exact this
/-! ### The day of a release -/
theorem stepR_mem {y l : Int} {s : List UInt8} {rs : List PV} : ∀ (D : List Int) (b : Int × Bool), (D.foldl (stepR y s l rs) b).1 = b.1 ∨ (D.foldl (stepR y s l rs) b).1 ∈ D
  | [], b => .inl rfl
  | d :: r, b => by
    rw [List.foldl_cons]
    rcases stepR_mem (y := y) (l := l) (s := s) (rs := rs) r (stepR y s l rs b d) with h | h
    · rw [h]
      unfold stepR
      cases (yrOf d == y && (!b.2 || decide (d < b.1)) && decide (l ≤ recF rs s y d)) with
      | true => exact .inr List.mem_cons_self
      | false => exact .inl rfl
    · exact .inr (List.mem_cons_of_mem _ h)
theorem dayF_bd (y : Int) : 0 ≤ (dayF y 1 1).1 ∧ (dayF y 1 1).1 ≤ 36000 := by
  unfold dayF
  cases (!amg 1 1 12 || !amg 1 1 30 || !amg y 0 36000) with
  | true => simp
  | false =>
    rw [cond_false]
    unfold chk
    cases h : vld (360 * y + 30 * (1 - 1) + 1 - 1) with
    | false => simp
    | true =>
      rw [cond_true]
      unfold vld at h
      simp only [Bool.and_eq_true, decide_eq_true_eq] at h
      exact h
theorem rel_bd {L : Law} {rs : List PV} (h : LawK L) (hr : okRecs L rs) {x : PV} (hx : x ∈ L.e) : 0 ≤ (relF x rs).1 ∧ (relF x rs).1 ≤ 36000 := by
  obtain ⟨c, y, am, k, d, s, l, rfl, _, _, _, hk⟩ := h.co.2 x hx
  have e : relF (.agg [.str c, .int .i64 y, .int .i64 am, .int .i64 k, .int .i64 d, .str s, .int .i64 l]) rs = (bif k == 2 then reachF y s l rs else bif k == 1 && decide (d ≤ 36000) then (if d < 0 then 0 else d, true) else (0, false)) := rfl
  rw [e]
  rcases hk with ⟨rfl, hd, _, _⟩ | ⟨rfl, hd, _, _⟩
  · have e1 : ((1 : Int) == 2) = false := by decide
    have e2 : ((1 : Int) == 1 && decide (d ≤ 36000)) = true := by simp; omega
    have e3 : ¬ d < 0 := by omega
    rw [e1, cond_false, e2, cond_true, if_neg e3]
    simp only; omega
  · have e1 : ((2 : Int) == 2) = true := by decide
    rw [e1, cond_true]
    unfold reachF
    cases ((dayF y 1 1).2 != 0) with
    | true => simp
    | false =>
      rw [cond_false]
      rcases stepR_mem (y := y) (l := l) (s := s) (rs := rs) ((dayF y 1 1).1 :: (rs.take 1000).map dayOf) (0, false) with h1 | h1
      · rw [h1]; simp
      · rcases List.mem_cons.1 h1 with h2 | h2
        · rw [h2]; exact dayF_bd y
        · obtain ⟨x, hx, h3⟩ := List.mem_map.1 h2
          obtain ⟨n, dd, c', a, rfl, _, hdd, _⟩ := hr.2.1 x (List.mem_of_mem_take hx)
          rw [← h3]
          show 0 ≤ dd ∧ dd ≤ 36000
          omega
end Go.AM
namespace Go.AM
open Go Go.Proofs Go.IntWalk
set_option maxRecDepth 100000
set_option maxHeartbeats 1000000
set_option linter.unusedSimpArgs false
set_option linter.unusedVariables false
/-- What the first i receipts were cut into. -/
def CutI (L : Law) (rs cut : List PV) (i : Nat) : Prop :=
  cut.length ≤ 2 * i ∧ (∀ x, x ∈ cut → okRec L x) ∧ cut.Pairwise recLt ∧ (∀ e, e ∈ cut → ∃ j, j < i ∧ rDay e = rDay (rs.getD j default) ∧ rNum e ≤ 10 * rNum (rs.getD j default) + 1) ∧ ∀ src y d, sumL (cut.map (cntR src y d)) = sumL ((rs.take i).map (cntR src y d))
theorem CutI.nil {L : Law} {rs : List PV} : CutI L rs [] 0 := ⟨Nat.zero_le _, (fun x h => by cases h), List.Pairwise.nil, (fun x h => by cases h), fun _ _ _ => rfl⟩
theorem cnt_split {src : List UInt8} {y d n n' n'' dd a b : Int} {c : List UInt8} (ha : -2000 ≤ a ∧ a ≤ 2000) (hb : 1 ≤ b ∧ b ≤ a - 1) :
    cntR src y d (.agg [.int .i64 n, .int .i64 dd, .str c, .int .i64 b]) + cntR src y d (.agg [.int .i64 n', .int .i64 dd, .str c, .int .i64 (a - b)]) = cntR src y d (.agg [.int .i64 n'', .int .i64 dd, .str c, .int .i64 a]) := by
  have h1 : amt a = true := by unfold amt; simp; omega
  have h2 : amt b = true := by unfold amt; simp; omega
  have h3 : amt (a - b) = true := by unfold amt; simp; omega
  unfold cntR
  simp only [h1, h2, h3]
  split <;> omega
theorem cnt_num {src : List UInt8} {y d n n' dd a : Int} {c : List UInt8} : cntR src y d (.agg [.int .i64 n, .int .i64 dd, .str c, .int .i64 a]) = cntR src y d (.agg [.int .i64 n', .int .i64 dd, .str c, .int .i64 a]) := rfl
section
variable {L : Law} {rs cut : List PV} {i : Nat} {n d a : Int} {c : List UInt8}
theorem CutI.lt (h : CutI L rs cut i) (hp : rs.Pairwise recLt) (hi : i < rs.length) (hx : rs.getD i default = .agg [.int .i64 n, .int .i64 d, .str c, .int .i64 a]) {e : PV} (he : e ∈ cut) : rDay e ≤ d ∧ rNum e < 10 * n := by
  obtain ⟨j, hj, h1, h2⟩ := h.2.2.2.1 e he
  have h3 := pw_getD hp hj hi
  rw [hx] at h3
  obtain ⟨h4, h5⟩ := h3
  have h4 : rDay (rs.getD j default) ≤ d := h4
  have h5 : rNum (rs.getD j default) < n := h5
  omega
theorem CutI.one (h : CutI L rs cut i) (hp : rs.Pairwise recLt) (hi : i < rs.length) (hx : rs.getD i default = .agg [.int .i64 n, .int .i64 d, .str c, .int .i64 a]) (hok : okRec L (.agg [.int .i64 n, .int .i64 d, .str c, .int .i64 a])) (hn : n ≤ 100) :
    CutI L rs (cut ++ [.agg [.int .i64 (n * 10), .int .i64 d, .str c, .int .i64 a]]) (i + 1) := by
  have hlt := fun e he => h.lt hp hi hx (e := e) he
  obtain ⟨h1, h2, h3, h4, h5⟩ := h
  refine ⟨by rw [List.length_append, List.length_singleton]; omega, con_add h2 ?_, pw_snoc h3 fun e he => ?_, con_add (fun e he => ?_) ⟨i, by omega, by rw [hx]; rfl, ?_⟩, fun src y d' => ?_⟩
  · obtain ⟨n', d', c', a', e, g1, g2, g3, g4, g5, g6⟩ := hok
    injection e with e
    simp only [List.cons.injEq, PV.int.injEq, PV.str.injEq, true_and, and_true] at e
    obtain ⟨rfl, rfl, rfl, rfl⟩ := e
    exact ⟨_, _, _, _, rfl, by omega, g2, g3, g4, g5, g6⟩
  · have := hlt e he
    exact ⟨this.1, show rNum e < n * 10 by omega⟩
  · obtain ⟨j, hj, g⟩ := h4 e he
    exact ⟨j, by omega, g⟩
  · rw [hx]
    show n * 10 ≤ 10 * n + 1
    omega
  · rw [List.map_append, sumL_append, h5, take_one hi, hx]
    simp only [List.map_cons, List.map_nil, sumL]
    rw [cnt_num (n := n * 10) (n' := n)]
    omega
theorem CutI.two (h : CutI L rs cut i) (hp : rs.Pairwise recLt) (hi : i < rs.length) (hx : rs.getD i default = .agg [.int .i64 n, .int .i64 d, .str c, .int .i64 a]) (hok : okRec L (.agg [.int .i64 n, .int .i64 d, .str c, .int .i64 a])) (hn : n ≤ 100) {b : Int} (hb : 1 ≤ b ∧ b ≤ a - 1) :
    CutI L rs (cut ++ [.agg [.int .i64 (n * 10), .int .i64 d, .str c, .int .i64 b]] ++ [.agg [.int .i64 (n * 10 + 1), .int .i64 d, .str c, .int .i64 (a - b)]]) (i + 1) := by
  have hlt := fun e he => h.lt hp hi hx (e := e) he
  obtain ⟨h1, h2, h3, h4, h5⟩ := h
  obtain ⟨n', d', c', a', e, g1, g2, g3, g4, g5, g6⟩ := hok
  injection e with e
  simp only [List.cons.injEq, PV.int.injEq, PV.str.injEq, true_and, and_true] at e
  obtain ⟨rfl, rfl, rfl, rfl⟩ := e
  refine ⟨by simp only [List.length_append, List.length_singleton]; omega, con_add (con_add h2 ⟨_, _, _, _, rfl, by omega, g2, g3, g4, by omega, by omega⟩) ⟨_, _, _, _, rfl, by omega, g2, g3, g4, by omega, by omega⟩, pw_snoc (pw_snoc h3 fun e he => ?_) (con_add (fun e he => ?_) ?_),
    con_add (con_add (fun e he => ?_) ⟨i, by omega, by rw [hx]; rfl, ?_⟩) ⟨i, by omega, by rw [hx]; rfl, ?_⟩, fun src y d' => ?_⟩
  · have := hlt e he
    exact ⟨this.1, show rNum e < n * 10 by omega⟩
  · have := hlt e he
    exact ⟨this.1, show rNum e < n * 10 + 1 by omega⟩
  · exact ⟨Int.le_refl _, show n * 10 < n * 10 + 1 by omega⟩
  · obtain ⟨j, hj, g⟩ := h4 e he
    exact ⟨j, by omega, g⟩
  · rw [hx]
    show n * 10 ≤ 10 * n + 1
    omega
  · rw [hx]
    show n * 10 + 1 ≤ 10 * n + 1
    omega
  · rw [List.map_append, List.map_append, sumL_append, sumL_append, h5, take_one hi, hx]
    simp only [List.map_cons, List.map_nil, sumL]
    have := cnt_split (src := src) (y := y) (d := d') (n := n * 10) (n' := n * 10 + 1) (n'' := n) (dd := d) (a := a) (b := b) (c := c) g6 hb
    omega
end
theorem CutI.recs {L : Law} {rs cut : List PV} (h : CutI L rs cut rs.length) (hl : rs.length ≤ 20) : okRecs L cut ∧ ∀ src y d, recF cut src y d = recF rs src y d := by
  obtain ⟨h1, h2, h3, _, h5⟩ := h
  refine ⟨⟨by omega, h2, h3⟩, fun src y d => ?_⟩
  rw [recF_all (by omega), recF_all (by omega), h5, List.take_length]
theorem ern_eq {rs cut : List PV} (h : ∀ src y d, recF cut src y d = recF rs src y d) (y d : Int) (code : List UInt8) (l : List PV) : ernF cut y d code l = ernF rs y d code l := by
  unfold ernF
  have : shA cut y d = shA rs y d := by
    funext x
    unfold shA
    rw [h]
  rw [this]
theorem ern_pos {L : Law} (hk : LawK L) {rs : List PV} (h : okRecs L rs) (y d : Int) (code : List UInt8) : 0 ≤ ernF rs y d code L.d ∧ ernF rs y d code L.d ≤ 200000 * (L.d.length : Int) := by
  unfold ernF
  have main : ∀ l : List PV, (∀ x, x ∈ l → x ∈ L.d) → 0 ≤ sumL ((l.filter (fun x => earC x == code)).map (shA rs y d)) ∧ sumL ((l.filter (fun x => earC x == code)).map (shA rs y d)) ≤ 200000 * (l.length : Int) := by
    intro l
    induction l with
    | nil => intro _; simp [sumL]
    | cons x r ih =>
      intro hl
      have h1 := ih (fun y hy => hl y (List.mem_cons_of_mem _ hy))
      have h2 := shA_bd h (hk.shI x (hl x List.mem_cons_self)) y d
      rw [List.filter_cons, List.length_cons]
      by_cases hc : (earC x == code) = true
      · rw [if_pos hc, List.map_cons, sumL]; omega
      · rw [if_neg hc]; omega
  exact main L.d (fun _ hx => hx)
end Go.AM
