/-
  A part of a proof: see the last text of this claim for what is proved.
-/
import Derived.Test.YtcmkdpdinjkokaaGreatDoorX7j
import Derived.Test.YtcmkdpdinjkokaaGreatDoorZMa
namespace Go.AM
open Go Go.Proofs Go.IntWalk
set_option maxRecDepth 100000
set_option maxHeartbeats 1000000
set_option linter.unusedSimpArgs false
set_option linter.unusedVariables false
def planA : Plan := { keep := fun _ => none, cut := fun _ => false, stop := fun i => i == 2 }
theorem facts_recs {f : Facts} (h : f.ok) : okRecs f.law f.re := by
  obtain ⟨hl, hn, hre, day, hI⟩ := h
  have hk := hl.k
  refine ⟨by omega, fun x hx => ?_, hI.1⟩
  obtain ⟨n, d, c, a, e, hc, hm, hd, ha⟩ := hre x hx
  have hr := hI.2 x hx
  have hm' : PV.str c ∈ leavesF f.law.tree [57] := hm
  have hd' : 360 * f.law.first ≤ d ∧ d ≤ 360 * f.law.first + 1200 := hd
  have hf := hl.1
  rw [e] at hr
  have hr' : 1 ≤ n ∧ n ≤ (f.re.length : Int) := hr.2
  exact ⟨n, d, c, a, e, by omega, by omega, hk.mem (leavesF_sub hm'), by omega, ha.2.2, by omega⟩
theorem getD_con {L : Law} (h : LawK L) {i : Nat} (hi : i < L.e.length) : ∃ c y am k d s l, L.e.getD i default = .agg [.str c, .int .i64 y, .int .i64 am, .int .i64 k, .int .i64 d, .str s, .int .i64 l] ∧ (0 ≤ am ∧ am ≤ 200) := by
  obtain ⟨c, y, am, k, d, s, l, e, _, _, h3, _⟩ := h.co.2 _ (getD_mem hi)
  exact ⟨c, y, am, k, d, s, l, e, h3⟩
theorem openL_has {rs : List PV} {d : Int} : ∀ {e : List PV} {i : Int} {k : Nat}, k < e.length → (openL rs d e i).contains (i + (k : Int)) = !holdB (e.getD k default) rs d
  | [], i, k, h => by simp at h
  | c :: r, i, 0, h => by
    unfold openL
    cases hb : holdB c rs d with
    | true =>
      rw [cond_true]
      have : (openL rs d r (i + 1)).contains (i + ((0 : Nat) : Int)) = false := by
        rw [Bool.eq_false_iff]
        intro h9
        have := openL_mem (List.contains_iff_mem.1 h9)
        simp at this
        omega
      rw [this]
      simp [hb]
    | false =>
      rw [cond_false, List.contains_cons]
      simp [hb]
  | c :: r, i, k + 1, h => by
    have ih := openL_has (rs := rs) (d := d) (e := r) (i := i + 1) (k := k) (by simpa using h)
    have e1 : i + ((k + 1 : Nat) : Int) = i + 1 + (k : Int) := by omega
    have hL : openL rs d (c :: r) i = bif holdB c rs d then openL rs d r (i + 1) else i :: openL rs d r (i + 1) := rfl
    rw [e1, List.getD_cons_succ, ← ih, hL]
    cases hb : holdB c rs d with
    | true => rfl
    | false =>
      rw [cond_false, List.contains_cons]
      have : (i + 1 + (k : Int) == i) = false := by simp; omega
      rw [this, Bool.false_or]
/-- Blocked, condition by condition. -/
def blB (rs : List PV) (d : Int) (code : List UInt8) (y : Int) (c : PV) : Int := bif holdB c rs d then 0 else blV code y c
theorem blk_sum {rs : List PV} {d y : Int} {code : List UInt8} : ∀ (e pre : List PV), sumL ((openL rs d e (pre.length : Int)).map fun k => blV code y ((pre ++ e).getD k.toNat default)) = sumL (e.map (blB rs d code y))
  | [], _ => rfl
  | c :: r, pre => by
    have ih := blk_sum (rs := rs) (d := d) (y := y) (code := code) r (pre ++ [c])
    rw [List.length_append, List.length_singleton, List.append_assoc, List.singleton_append] at ih
    have e1 : ((pre.length + 1 : Nat) : Int) = (pre.length : Int) + 1 := by omega
    rw [e1] at ih
    have hg : (pre ++ c :: r).getD pre.length default = c := by simp [List.getD_eq_getElem?_getD]
    unfold openL
    rw [List.map_cons, sumL]
    have hc : blB rs d code y c = bif holdB c rs d then 0 else blV code y c := rfl
    cases hb : holdB c rs d with
    | true => rw [cond_true, ih, hc, hb, cond_true]; omega
    | false =>
      rw [cond_false, List.map_cons, sumL, ih, hc, hb, cond_false]
      have : ((pre.length : Int)).toNat = pre.length := by omega
      rw [this, hg]
theorem blk_eq (rs : List PV) (code : List UInt8) (y d : Int) (e : List PV) : blkF rs code y d e = sumL (e.map (blB rs d code y)) := by
  exact blk_sum (rs := rs) (d := d) (y := y) (code := code) e []
theorem holdB_at (c : PV) (rs : List PV) : (relF c rs).2 = true → holdB c rs (relF c rs).1 = true ∧ holdB c rs ((relF c rs).1 - 1) = false := fun h => by
  unfold holdB
  rw [h]
  have h1 : (relF c rs).1 ≤ (relF c rs).1 := Int.le_refl _
  have h2 : ¬ (relF c rs).1 ≤ (relF c rs).1 - 1 := by omega
  simp [h2]
theorem blB_le {L : Law} (h : LawK L) {rs : List PV} {d y : Int} {code : List UInt8} {x : PV} (hx : x ∈ L.e) : 0 ≤ blB rs d code y x ∧ blB rs d code y x ≤ 200 := by
  unfold blB
  have := (h.co.2 x hx).bl code y
  cases holdB x rs d with
  | true => simp
  | false => exact this
/-! ### The day of a release -/
theorem stepR_mem {y l : Int} {s : List UInt8} {rs : List PV} : ∀ (D : List Int) (b : Int × Bool), (D.foldl (stepR y s l rs) b).1 = b.1 ∨ (D.foldl (stepR y s l rs) b).1 ∈ D
  | [], b => .inl rfl
  | d :: r, b => by
    rw [List.foldl_cons]
    rcases stepR_mem (y := y) (l := l) (s := s) (rs := rs) r (stepR y s l rs b d) with h | h
    · rw [h]
      unfold stepR
      cases (yrOf d == y && (!b.2 || decide (d < b.1)) && decide (l ≤ recF rs s y d)) with
      | true => exact .inr List.mem_cons_self
      | false => exact .inl rfl
    · exact .inr (List.mem_cons_of_mem _ h)
theorem dayF_bd (y : Int) : 0 ≤ (dayF y 1 1).1 ∧ (dayF y 1 1).1 ≤ 36000 := by
  unfold dayF
  cases (!amg 1 1 12 || !amg 1 1 30 || !amg y 0 36000) with
  | true => simp
  | false =>
    rw [cond_false]
    unfold chk
    cases h : vld (360 * y + 30 * (1 - 1) + 1 - 1) with
    | false => simp
    | true =>
      rw [cond_true]
      unfold vld at h
      simp only [Bool.and_eq_true, decide_eq_true_eq] at h
      exact h
theorem rel_bd {L : Law} {rs : List PV} (h : LawK L) (hr : okRecs L rs) {x : PV} (hx : x ∈ L.e) : 0 ≤ (relF x rs).1 ∧ (relF x rs).1 ≤ 36000 := by
  obtain ⟨c, y, am, k, d, s, l, rfl, _, _, _, hk⟩ := h.co.2 x hx
  have e : relF (.agg [.str c, .int .i64 y, .int .i64 am, .int .i64 k, .int .i64 d, .str s, .int .i64 l]) rs = (bif k == 2 then reachF y s l rs else bif k == 1 && decide (d ≤ 36000) then (if d < 0 then 0 else d, true) else (0, false)) := rfl
  rw [e]
  rcases hk with ⟨rfl, hd, _, _⟩ | ⟨rfl, hd, _, _⟩
  · have e1 : ((1 : Int) == 2) = false := by decide
    have e2 : ((1 : Int) == 1 && decide (d ≤ 36000)) = true := by simp; omega
    have e3 : ¬ d < 0 := by omega
    rw [e1, cond_false, e2, cond_true, if_neg e3]
    simp only; omega
  · have e1 : ((2 : Int) == 2) = true := by decide
    rw [e1, cond_true]
    unfold reachF
    cases ((dayF y 1 1).2 != 0) with
    | true => simp
    | false =>
      rw [cond_false]
      rcases stepR_mem (y := y) (l := l) (s := s) (rs := rs) ((dayF y 1 1).1 :: (rs.take 1000).map dayOf) (0, false) with h1 | h1
      · rw [h1]; simp
      · rcases List.mem_cons.1 h1 with h2 | h2
        · rw [h2]; exact dayF_bd y
        · obtain ⟨x, hx, h3⟩ := List.mem_map.1 h2
          obtain ⟨n, dd, c', a, rfl, _, hdd, _⟩ := hr.2.1 x (List.mem_of_mem_take hx)
          rw [← h3]
          show 0 ≤ dd ∧ dd ≤ 36000
          omega
end Go.AM
namespace Go.AM
open Go Go.Proofs Go.IntWalk
set_option maxRecDepth 100000
set_option maxHeartbeats 1000000
set_option linter.unusedSimpArgs false
set_option linter.unusedVariables false
/-- What the first i receipts were cut into. -/
def CutI (L : Law) (rs cut : List PV) (i : Nat) : Prop :=
  cut.length ≤ 2 * i ∧ (∀ x, x ∈ cut → okRec L x) ∧ cut.Pairwise recLt ∧ (∀ e, e ∈ cut → ∃ j, j < i ∧ rDay e = rDay (rs.getD j default) ∧ rNum e ≤ 10 * rNum (rs.getD j default) + 1) ∧ ∀ src y d, sumL (cut.map (cntR src y d)) = sumL ((rs.take i).map (cntR src y d))
theorem CutI.nil {L : Law} {rs : List PV} : CutI L rs [] 0 := ⟨Nat.zero_le _, (fun x h => by cases h), List.Pairwise.nil, (fun x h => by cases h), fun _ _ _ => rfl⟩
theorem cnt_split {src : List UInt8} {y d n n' n'' dd a b : Int} {c : List UInt8} (ha : -2000 ≤ a ∧ a ≤ 2000) (hb : 1 ≤ b ∧ b ≤ a - 1) :
    cntR src y d (.agg [.int .i64 n, .int .i64 dd, .str c, .int .i64 b]) + cntR src y d (.agg [.int .i64 n', .int .i64 dd, .str c, .int .i64 (a - b)]) = cntR src y d (.agg [.int .i64 n'', .int .i64 dd, .str c, .int .i64 a]) := by
  have h1 : amt a = true := by unfold amt; simp; omega
  have h2 : amt b = true := by unfold amt; simp; omega
  have h3 : amt (a - b) = true := by unfold amt; simp; omega
  unfold cntR
  simp only [h1, h2, h3]
  split <;> omega
theorem cnt_num {src : List UInt8} {y d n n' dd a : Int} {c : List UInt8} : cntR src y d (.agg [.int .i64 n, .int .i64 dd, .str c, .int .i64 a]) = cntR src y d (.agg [.int .i64 n', .int .i64 dd, .str c, .int .i64 a]) := rfl
section
variable {L : Law} {rs cut : List PV} {i : Nat} {n d a : Int} {c : List UInt8}
theorem CutI.lt (h : CutI L rs cut i) (hp : rs.Pairwise recLt) (hi : i < rs.length) (hx : rs.getD i default = .agg [.int .i64 n, .int .i64 d, .str c, .int .i64 a]) {e : PV} (he : e ∈ cut) : rDay e ≤ d ∧ rNum e < 10 * n := by
  obtain ⟨j, hj, h1, h2⟩ := h.2.2.2.1 e he
  have h3 := pw_getD hp hj hi
  rw [hx] at h3
  obtain ⟨h4, h5⟩ := h3
  have h4 : rDay (rs.getD j default) ≤ d := h4
  have h5 : rNum (rs.getD j default) < n := h5
  omega
theorem CutI.one (h : CutI L rs cut i) (hp : rs.Pairwise recLt) (hi : i < rs.length) (hx : rs.getD i default = .agg [.int .i64 n, .int .i64 d, .str c, .int .i64 a]) (hok : okRec L (.agg [.int .i64 n, .int .i64 d, .str c, .int .i64 a])) (hn : n ≤ 100) :
    CutI L rs (cut ++ [.agg [.int .i64 (n * 10), .int .i64 d, .str c, .int .i64 a]]) (i + 1) := by
  have hlt := fun e he => h.lt hp hi hx (e := e) he
  obtain ⟨h1, h2, h3, h4, h5⟩ := h
  refine ⟨by rw [List.length_append, List.length_singleton]; omega, con_add h2 ?_, pw_snoc h3 fun e he => ?_, con_add (fun e he => ?_) ⟨i, by omega, by rw [hx]; rfl, ?_⟩, fun src y d' => ?_⟩
  · obtain ⟨n', d', c', a', e, g1, g2, g3, g4, g5, g6⟩ := hok
    injection e with e
    simp only [List.cons.injEq, PV.int.injEq, PV.str.injEq, true_and, and_true] at e
    obtain ⟨rfl, rfl, rfl, rfl⟩ := e
    exact ⟨_, _, _, _, rfl, by omega, g2, g3, g4, g5, g6⟩
  · have := hlt e he
    exact ⟨this.1, show rNum e < n * 10 by omega⟩
  · obtain ⟨j, hj, g⟩ := h4 e he
    exact ⟨j, by omega, g⟩
  · rw [hx]
    show n * 10 ≤ 10 * n + 1
    omega
  · rw [List.map_append, sumL_append, h5, take_one hi, hx]
    simp only [List.map_cons, List.map_nil, sumL]
    rw [cnt_num (n := n * 10) (n' := n)]
    omega
theorem CutI.two (h : CutI L rs cut i) (hp : rs.Pairwise recLt) (hi : i < rs.length) (hx : rs.getD i default = .agg [.int .i64 n, .int .i64 d, .str c, .int .i64 a]) (hok : okRec L (.agg [.int .i64 n, .int .i64 d, .str c, .int .i64 a])) (hn : n ≤ 100) {b : Int} (hb : 1 ≤ b ∧ b ≤ a - 1) :
    CutI L rs (cut ++ [.agg [.int .i64 (n * 10), .int .i64 d, .str c, .int .i64 b]] ++ [.agg [.int .i64 (n * 10 + 1), .int .i64 d, .str c, .int .i64 (a - b)]]) (i + 1) := by
  have hlt := fun e he => h.lt hp hi hx (e := e) he
  obtain ⟨h1, h2, h3, h4, h5⟩ := h
  obtain ⟨n', d', c', a', e, g1, g2, g3, g4, g5, g6⟩ := hok
  injection e with e
  simp only [List.cons.injEq, PV.int.injEq, PV.str.injEq, true_and, and_true] at e
  obtain ⟨rfl, rfl, rfl, rfl⟩ := e
  refine ⟨by simp only [List.length_append, List.length_singleton]; omega, con_add (con_add h2 ⟨_, _, _, _, rfl, by omega, g2, g3, g4, by omega, by omega⟩) ⟨_, _, _, _, rfl, by omega, g2, g3, g4, by omega, by omega⟩, pw_snoc (pw_snoc h3 fun e he => ?_) (con_add (fun e he => ?_) ?_),
    con_add (con_add (fun e he => ?_) ⟨i, by omega, by rw [hx]; rfl, ?_⟩) ⟨i, by omega, by rw [hx]; rfl, ?_⟩, fun src y d' => ?_⟩
  · have := hlt e he
    exact ⟨this.1, show rNum e < n * 10 by omega⟩
  · have := hlt e he
    exact ⟨this.1, show rNum e < n * 10 + 1 by omega⟩
  · exact ⟨Int.le_refl _, show n * 10 < n * 10 + 1 by omega⟩
  · obtain ⟨j, hj, g⟩ := h4 e he
    exact ⟨j, by omega, g⟩
  · rw [hx]
    show n * 10 ≤ 10 * n + 1
    omega
  · rw [hx]
    show n * 10 + 1 ≤ 10 * n + 1
    omega
  · rw [List.map_append, List.map_append, sumL_append, sumL_append, h5, take_one hi, hx]
    simp only [List.map_cons, List.map_nil, sumL]
    have := cnt_split (src := src) (y := y) (d := d') (n := n * 10) (n' := n * 10 + 1) (n'' := n) (dd := d) (a := a) (b := b) (c := c) g6 hb
    omega
end
theorem CutI.recs {L : Law} {rs cut : List PV} (h : CutI L rs cut rs.length) (hl : rs.length ≤ 20) : okRecs L cut ∧ ∀ src y d, recF cut src y d = recF rs src y d := by
  obtain ⟨h1, h2, h3, _, h5⟩ := h
  refine ⟨⟨by omega, h2, h3⟩, fun src y d => ?_⟩
  rw [recF_all (by omega), recF_all (by omega), h5, List.take_length]
theorem ern_eq {rs cut : List PV} (h : ∀ src y d, recF cut src y d = recF rs src y d) (y d : Int) (code : List UInt8) (l : List PV) : ernF cut y d code l = ernF rs y d code l := by
  unfold ernF
  have : shA cut y d = shA rs y d := by
    funext x
    unfold shA
    rw [h]
  rw [this]
theorem ern_pos {L : Law} (hk : LawK L) {rs : List PV} (h : okRecs L rs) (y d : Int) (code : List UInt8) : 0 ≤ ernF rs y d code L.d ∧ ernF rs y d code L.d ≤ 200000 * (L.d.length : Int) := by
  unfold ernF
  have main : ∀ l : List PV, (∀ x, x ∈ l → x ∈ L.d) → 0 ≤ sumL ((l.filter (fun x => earC x == code)).map (shA rs y d)) ∧ sumL ((l.filter (fun x => earC x == code)).map (shA rs y d)) ≤ 200000 * (l.length : Int) := by
    intro l
    induction l with
    | nil => intro _; simp [sumL]
    | cons x r ih =>
      intro hl
      have h1 := ih (fun y hy => hl y (List.mem_cons_of_mem _ hy))
      have h2 := shA_bd h (hk.shI x (hl x List.mem_cons_self)) y d
      rw [List.filter_cons, List.length_cons]
      by_cases hc : (earC x == code) = true
      · rw [if_pos hc, List.map_cons, sumL]; omega
      · rw [if_neg hc]; omega
  exact main L.d (fun _ hx => hx)
end Go.AM
namespace Go.AM
open Go Go.Proofs Go.IntWalk
set_option maxRecDepth 100000
set_option maxHeartbeats 2000000
set_option linter.unusedSimpArgs false
set_option linter.unusedVariables false
theorem SX_count : ∀ c, c ∈ SX → SX.count c = 1 := by decide +kernel
theorem SX_undS : ∀ c, c ∈ SX → undC c c = true := by decide +kernel
/-- The root over a code. -/
def rootX (c : List UInt8) : List UInt8 := c.take 1
theorem SX_root : ∀ c, c ∈ SX → rootX c ∈ SX ∧ parF (rootX c) = [] ∧ undC c (rootX c) = true ∧ ∀ r, r ∈ SX → parF r = [] → undC c r = (r == rootX c) := by decide +kernel
/-! ### Sums over lists -/
theorem sum_add {α : Type} (f g : α → Int) : ∀ l : List α, sumL (l.map fun x => f x + g x) = sumL (l.map f) + sumL (l.map g)
  | [] => by simp [sumL]
  | x :: r => by
    have h := sum_add f g r
    simp only [List.map_cons, sumL, h]; omega
theorem sum_cong {α : Type} {f g : α → Int} : ∀ {l : List α}, (∀ x, x ∈ l → f x = g x) → sumL (l.map f) = sumL (l.map g)
  | [], _ => rfl
  | x :: r, h => by
    simp only [List.map_cons, sumL, h x List.mem_cons_self, sum_cong (l := r) (fun y hy => h y (List.mem_cons_of_mem _ hy))]
theorem sum_le {α : Type} {f g : α → Int} : ∀ {l : List α}, (∀ x, x ∈ l → f x ≤ g x) → sumL (l.map f) ≤ sumL (l.map g)
  | [], _ => Int.le_refl _
  | x :: r, h => by
    have h1 := h x List.mem_cons_self
    have h2 := sum_le (l := r) (fun y hy => h y (List.mem_cons_of_mem _ hy))
    simp only [List.map_cons, sumL]
    omega
theorem sum_zero {α : Type} : ∀ l : List α, sumL (l.map fun _ => (0 : Int)) = 0
  | [] => rfl
  | _ :: r => by simp only [List.map_cons, sumL, sum_zero r]; omega
theorem sum_swap {α β : Type} (f : α → β → Int) (l2 : List β) : ∀ l1 : List α, sumL (l1.map fun x => sumL (l2.map (f x))) = sumL (l2.map fun y => sumL (l1.map fun x => f x y))
  | [] => by simp only [List.map_nil, sumL, sum_zero]
  | x :: r => by
    have h := sum_swap f l2 r
    simp only [List.map_cons, sumL, h]
    rw [sum_add]
/-! ### Each receipt lies under one root and under one leaf -/
theorem lv_count {L : List (List UInt8)} (h : treeC L) {c : List UInt8} (hc : c ∈ lvC L []) : (lvC L []).count c = 1 := by
  have hs := h.sx (lvC_mem hc)
  rw [lv_eq0 h] at hc ⊢
  rw [List.count_filter (List.mem_filter.1 hc).2]
  exact SX_count c hs
theorem ch_count {L : List (List UInt8)} (h : treeC L) {c : List UInt8} (hc : c ∈ L) : (chC L []).count (rootX c) = 1 := by
  have hs := h.sx hc
  obtain ⟨h1, h2, h3, _⟩ := SX_root c hs
  have hm : rootX c ∈ L := up_mem h _ c (rootX c) (Nat.le_refl _) hc h1 h3
  rw [ch_eq h]
  rw [List.count_filter (List.contains_iff_mem.2 hm), List.count_filter (by rw [h2]; rfl)]
  exact SX_count _ h1
/-- What a receipt counts, wherever it lies. -/
def anyR (y d : Int) : PV → Int
  | .agg [_, .int _ dd, .str _, .int _ a] => if (vld dd && decide (dd ≤ d) && yrOf dd == y && amt a) = true then a else 0
  | _ => 0
theorem cnt_any {src c : List UInt8} {y d n dd a : Int} : cntR src y d (.agg [.int .i64 n, .int .i64 dd, .str c, .int .i64 a]) = bif undC c src then anyR y d (.agg [.int .i64 n, .int .i64 dd, .str c, .int .i64 a]) else 0 := by
  unfold cntR anyR
  simp only
  cases undC c src <;> simp
theorem sum_under {l : List (List UInt8)} {c r : List UInt8} {v : Int} (hu : ∀ s, s ∈ l → undC c s = (s == r)) (hn : l.count r = 1) : sumL (l.map fun s => bif undC c s then v else 0) = v := by
  have : sumL (l.map fun s => bif undC c s then v else 0) = sumL (l.map fun s => bif s == r then v else 0) := sum_cong fun s hs => by rw [hu s hs]
  rw [this, sumL_count, hn]; omega
section
variable {L : Law} {rs : List PV}
theorem roots_sum (hk : LawK L) (h : okRecs L rs) (y d : Int) : sumL ((chC (L.tree.map hCode) []).map fun c => recF rs c y d) = sumL (rs.map (anyR y d)) := by
  have hl := h.1
  have : sumL ((chC (L.tree.map hCode) []).map fun c => recF rs c y d) = sumL ((chC (L.tree.map hCode) []).map fun c => sumL (rs.map (cntR c y d))) := sum_cong fun c _ => recF_all (by omega) c y d
  rw [this, sum_swap]
  refine sum_cong fun x hx => ?_
  obtain ⟨n, dd, c, a, rfl, _, _, hc, _⟩ := h.2.1 x hx
  have hcm := hk.code hc
  obtain ⟨_, _, _, h4⟩ := SX_root c (hk.tc.sx hcm)
  rw [← sum_under (v := anyR y d (.agg [.int .i64 n, .int .i64 dd, .str c, .int .i64 a])) (fun s hs => ?_) (ch_count hk.tc hcm)]
  · exact sum_cong fun s _ => cnt_any
  · rw [ch_eq hk.tc] at hs
    have h5 := (List.mem_filter.1 (List.mem_filter.1 hs).1)
    exact h4 s h5.1 (by simpa using h5.2)
theorem leaves_sum (hk : LawK L) (h : okRecs L rs) (y d : Int) : sumL (L.lv.map fun c => recF rs c y d) = sumL (rs.map (anyR y d)) := by
  have hl := h.1
  have : sumL (L.lv.map fun c => recF rs c y d) = sumL (L.lv.map fun c => sumL (rs.map (cntR c y d))) := sum_cong fun c _ => recF_all (by omega) c y d
  rw [this, sum_swap]
  refine sum_cong fun x hx => ?_
  obtain ⟨n, dd, c, a, rfl, _, _, hc, _⟩ := h.2.1 x hx
  have hcs := hk.tc.sx (hk.code hc)
  rw [← sum_under (v := anyR y d (.agg [.int .i64 n, .int .i64 dd, .str c, .int .i64 a])) (fun s hs => ?_) (lv_count hk.tc hc)]
  · exact sum_cong fun s _ => cnt_any
  · by_cases e : s = c
    · subst e; rw [SX_undS s hcs]; simp
    · have e2 : (s == c) = false := by simpa using e
      rw [e2, Bool.eq_false_iff]
      intro hu
      exact e (leaf_under hk.tc hc hs hu).symm
theorem earned_sum (hk : LawK L) (y d : Int) : sumL (L.lv.map fun c => ernF rs y d c L.d) = sumL (L.d.map (shA rs y d)) := by
  have h1 : ∀ (c : List UInt8) (l : List PV), sumL ((l.filter (fun x => earC x == c)).map (shA rs y d)) = sumL (l.map fun x => bif earC x == c then shA rs y d x else 0) := by
    intro c l
    induction l with
    | nil => rfl
    | cons x r ih =>
      rw [List.filter_cons]
      cases hc : (earC x == c) with
      | true => simp only [if_true, List.map_cons, sumL, ih, hc, cond_true]
      | false => simp only [Bool.false_eq_true, if_false, List.map_cons, sumL, ih, hc, cond_false]; omega
  have : sumL (L.lv.map fun c => ernF rs y d c L.d) = sumL (L.lv.map fun c => sumL (L.d.map fun x => bif earC x == c then shA rs y d x else 0)) := sum_cong fun c _ => h1 c L.d
  rw [this, sum_swap]
  refine sum_cong fun x hx => ?_
  obtain ⟨s, c, p, rfl, _, hc, _⟩ := hk.ear hx
  have e : ∀ k, (earC (.agg [.str s, .str c, .int .i64 p]) == k) = (k == c) := fun k => by
    show (c == k) = (k == c)
    rw [Bool.eq_iff_iff, beq_iff_eq, beq_iff_eq]; exact eq_comm
  have h2 : sumL (L.lv.map fun k => bif earC (.agg [.str s, .str c, .int .i64 p]) == k then shA rs y d (.agg [.str s, .str c, .int .i64 p]) else 0) = sumL (L.lv.map fun k => bif k == c then shA rs y d (.agg [.str s, .str c, .int .i64 p]) else 0) := sum_cong fun k _ => by rw [e]
  rw [h2, sumL_count, show L.lv.count c = 1 from lv_count hk.tc hc]; omega
theorem shares_le (hk : LawK L) (h : okRecs L rs) (y d : Int) (h0 : ∀ c, c ∈ L.lv → 0 ≤ recF rs c y d) : sumL (L.d.map (shA rs y d)) ≤ sumL (L.lv.map fun c => recF rs c y d) := by
  have h1 : sumL (L.d.map (shA rs y d)) ≤ sumL (L.d.map fun x => sumL (L.lv.map fun c => bif c == srcOf x then recF rs c y d else 0)) := sum_le fun x hx => by
    obtain ⟨s, c, p, rfl, hp, _, hs, _⟩ := hk.ear hx
    have h2 : sumL (L.lv.map fun c' => bif c' == srcOf (.agg [.str s, .str c, .int .i64 p]) then recF rs c' y d else 0) = sumL (L.lv.map fun c' => bif c' == s then recF rs s y d else 0) := sum_cong fun c' _ => by
      show (bif c' == s then recF rs c' y d else 0) = _
      by_cases e : c' = s
      · subst e; rfl
      · have : (c' == s) = false := by simpa using e
        rw [this]; rfl
    rw [h2, sumL_count, show L.lv.count s = 1 from lv_count hk.tc hs]
    show (if recF rs s y d < 0 then 0 else recF rs s y d) * p / 100 ≤ _
    have h3 := h0 s hs
    rw [if_neg (by omega)]
    have h4 : recF rs s y d * p ≤ recF rs s y d * 100 := Int.mul_le_mul_of_nonneg_left (by omega) h3
    omega
  refine Int.le_trans h1 ?_
  rw [sum_swap]
  refine sum_le fun c hc => ?_
  have hcs := hk.tc.sx (hk.code hc)
  have hv := h0 c hc
  generalize recF rs c y d = v at hv
  have main : ∀ l : List PV, l.Pairwise earLt → sumL (l.map fun x => bif c == srcOf x then v else 0) ≤ v := by
    intro l
    induction l with
    | nil => intro _; simpa [sumL] using hv
    | cons x r ih =>
      intro hp
      rw [List.pairwise_cons] at hp
      rw [List.map_cons, sumL]
      cases he : (c == srcOf x) with
      | false =>
        have := ih hp.2
        rw [cond_false]; omega
      | true =>
        have ec : c = srcOf x := by simpa using he
        have : sumL (r.map fun x => bif c == srcOf x then v else 0) = sumL (r.map fun _ => (0 : Int)) := sum_cong fun z hz => by
          have h5 : cmpC (srcOf x) (srcOf z) < 0 := hp.1 z hz
          have : (c == srcOf z) = false := by
            simp only [beq_eq_false_iff_ne, ne_eq]
            intro e
            rw [← ec, ← e, SX_self c hcs] at h5
            omega
          rw [this]; rfl
        rw [this, sum_zero, cond_true]; omega
  exact main L.d hk.ea.1
theorem rest_bd (hk : LawK L) (h : okRecs L rs) (y d : Int) : -10000000 ≤ restF rs y d (L.tree.map hCode) L.d ∧ restF rs y d (L.tree.map hCode) L.d ≤ 10000000 := by
  have h1 : (chC (L.tree.map hCode) []).length ≤ 45 := by
    have : (chC (L.tree.map hCode) []).length ≤ (L.tree.map hCode).length := List.length_filter_le _ _
    have := hk.tc.len
    omega
  have h2 := sumL_bd (f := fun c => recF rs c y d) (B := 200000) (chC (L.tree.map hCode) []) (fun c _ => h.bd c y d)
  have h3 := sumL_bd (f := shA rs y d) (B := 200000) L.d (fun x hx => by have := shA_bd h (hk.shI x hx) y d; omega)
  have h4 := hk.nd
  have h5 := hk.nine
  unfold restF
  omega
end
/-! ### The document's Received -/
theorem D3_under {args : List PV} : D3 31 args = underS args := rfl
noncomputable def valid2S : PSpec := on_i (fun _ => True) (fun n => .bool (vld n))
theorem w_valid2S : PSound GG 41 valid2S := by
  refine PSound.of_wpc (C := cxP Tryz.prog D3 [] 9) (T := plan0) Tryz.func41 rfl rfl rfl (Fit.pure (G := GG) hD3 mixed) (fun args h => ?_)
  unfold valid2S at h
  obtain ⟨n, rfl, hp⟩ := on_i_inv h
  refine ⟨by simp [cxP], ?_⟩
  simp only [valid2S, on_i_eq, Tryz.f41, argL, plan0]
  simp only [go_sem, ↓reduceIte, reduceCtorEq, Nat.reduceEqDiff, Nat.reduceLT, ↓all_qV, Int.reduceToNat, Int.reduceLT, Int.reduceLE, Nat.reduceAdd, Nat.reduceLeDiff, Nat.reduceMul]
  rfl
noncomputable def counts10S : PSpec := on_p (fun e => ∃ n d c a, e = .agg [.int .i64 n, .int .i64 d, .str c, .int .i64 a]) (fun e => .bool (amt (amOf e)))
theorem w_counts10S : PSound GG 40 counts10S := by
  refine PSound.of_wpc (C := cxP Tryz.prog D3 [] 11) (T := plan0) Tryz.func40 rfl rfl rfl (Fit.pure (G := GG) hD3 mixed) (fun args h => ?_)
  unfold counts10S at h
  obtain ⟨e, rfl, hp⟩ := on_p_inv h
  refine ⟨by simp [cxP], ?_⟩
  simp only [counts10S, on_p_eq, Tryz.f40, argL, plan0]
  obtain ⟨n, d, c, a, rfl⟩ := hp
  simp only [amOf, Tryz.underlying3, sz3, by3, ze3, Tryz.underlying4, sz4, by4, ze4, Tryz.underlying9, sz9, by9, ze9, Tryz.underlying41, sz41, by41, ze41, fa41_0, fa41_1, fa41_2, fa41_3, go_sem, ↓reduceIte, reduceCtorEq, Nat.reduceEqDiff, Nat.reduceLT, ↓all_qV, Int.reduceToNat, Int.reduceLT, Int.reduceLE, Nat.reduceAdd, Nat.reduceLeDiff, Nat.reduceMul, ev_callG, gcallK_b, gcallK_w, callGc_true, callGc_false, List.forall_mem_cons, List.not_mem_nil, PV.one, AV.one]
  rfl
noncomputable def D4 (g : FuncId) : PSpec := (putΦ (putΦ D3 41 valid2S) 40 counts10S) g
theorem hD4 : TabSound GG D4 := ((hD3.put w_valid2S).put w_counts10S)
noncomputable def year2S : PSpec := on_i (fun _ => True) (fun n => .int .i64 (yrOf n))
theorem k_year2S_41 {args : List PV} : D4 41 args = valid2S args := rfl
theorem w_year2S : PSound GG 42 year2S := by
  refine PSound.of_wpc (C := cxP Tryz.prog D4 [] 8) (T := plan0) Tryz.func42 rfl rfl rfl (Fit.pure (G := GG) hD4 mixed) (fun args h => ?_)
  unfold year2S at h
  obtain ⟨n, rfl, hp⟩ := on_i_inv h
  refine ⟨by simp [cxP], ?_⟩
  simp only [year2S, on_i_eq, Tryz.f42, argL, plan0]
  simp only [k_year2S_41, valid2S, on_i_eq, go_sem, ↓reduceIte, reduceCtorEq, Nat.reduceEqDiff, Nat.reduceLT, ↓all_qV, Int.reduceToNat, Int.reduceLT, Int.reduceLE, Nat.reduceAdd, Nat.reduceLeDiff, Nat.reduceMul]
  unfold yrOf
  refine ⟨fun h => ?_, fun h => ?_⟩
  · have : vld n = false := by simpa using h
    rw [this]; rfl
  · have h2 : vld n = true := by simpa using h
    rw [h2, cond_true]
    unfold vld at h2
    simp only [Bool.and_eq_true, decide_eq_true_eq] at h2
    refine ⟨by decide, ?_⟩
    rw [Int.tdiv_eq_ediv_of_nonneg h2.1, i64_in _ (by omega)]
noncomputable def D5 (g : FuncId) : PSpec := (putΦ D4 42 year2S) g
theorem hD5 : TabSound GG D5 := (hD4.put w_year2S)
theorem D5_under {args : List PV} : D5 31 args = underS args := rfl
noncomputable def refRecS : PSpec := on_lsii (fun rs src _ _ => src ∈ SX ∧ rs.length ≤ 100 ∧ ∀ x, x ∈ rs → ∃ n d c a, x = .agg [.int .i64 n, .int .i64 d, .str c, .int .i64 a] ∧ c ∈ SX ∧ (0 ≤ d ∧ d ≤ 35990) ∧ (-2000 ≤ a ∧ a ≤ 2000)) (fun rs src y d => .int .i64 (recF rs src y d))
theorem k_refRecS_40 {args : List PV} : D5 40 args = counts10S args := rfl
theorem k_refRecS_41 {args : List PV} : D5 41 args = valid2S args := rfl
theorem k_refRecS_42 {args : List PV} : D5 42 args = year2S args := rfl
theorem w_refRecS : PSound GG 25 refRecS := by
  refine PSound.of_wpc (C := cxP Tryz.prog D5 [] 55) (T := plan0) Tryz.func25 rfl rfl rfl (Fit.pure (G := GG) hD5 mixed) (fun args h => ?_)
  unfold refRecS at h
  obtain ⟨rs, src, y, dd, rfl, hp⟩ := on_lsii_inv h
  refine ⟨by simp [cxP], ?_⟩
  simp only [refRecS, on_lsii_eq, Tryz.f25, argL, plan0]
  obtain ⟨hsrc, hl, hx⟩ := hp
  have hss := SX_gd src hsrc
  rw [recF_all (by omega)]
  simp only [Tryz.underlying1, sz1, by1, ze1, Tryz.underlying2, sz2, by2, ze2, Tryz.underlying3, sz3, by3, ze3, Tryz.underlying4, sz4, by4, ze4, Tryz.underlying9, sz9, by9, ze9, Tryz.underlying35, sz35, by35, ze35, Tryz.underlying41, sz41, by41, ze41, fa41_0, fa41_1, fa41_2, fa41_3, go_sem, ↓reduceIte, reduceCtorEq, Nat.reduceEqDiff, Nat.reduceLT, ↓all_qV, Int.reduceToNat, Int.reduceLT, Int.reduceLE, Nat.reduceAdd, Nat.reduceLeDiff, Nat.reduceMul]
  refine AWp.loop (T := plan0) (α := Nat) (fun i => ([(1, .pv (.str src)), (2, .pv (.int .i64 y)), (3, .pv (.int .i64 dd)), (9, .pv (.int .i64 (sumL ((rs.take i).map (cntR src y dd))))), (12, .pv (.sl rs)), (13, .pv (.int .i64 rs.length)), (14, .pv (.int .i64 i))], [])) (fun i => i ≤ rs.length) (fun i => rs.length - i)
    ⟨0, Nat.zero_le _, ⟨by simp [fitR, look, sumL], trivial, rfl, rfl, rfl⟩⟩ ?_
  intro i h1
  have hi1 : IntKind.i64.wrap ((i : Int) + 1) = ((i + 1 : Nat) : Int) := by rw [i64_in _ (by omega)]; omega
  by_cases hlt : i < rs.length
  · have c0 : decide ((i : Int) < (rs.length : Int)) = true := by simp; omega
    have c1 : decide ((i : Int) < 1000) = true := by simp; omega
    obtain ⟨n, d, c, a, hg, hc, hd, ha⟩ := hx _ (getD_mem hlt)
    have hone := take_one hlt (cntR src y dd)
    have hb := sumL_bd (f := cntR src y dd) (B := 2000) (rs.take i) (fun x hxm => by
      obtain ⟨n, d, c, a, rfl, _, _, ha⟩ := hx x (List.mem_of_mem_take hxm)
      rcases cntR_sign src y dd n d c a with e | e <;> rw [e]
      · exact ha
      · omega)
    have hbl : (rs.take i).length ≤ 100 := by rw [List.length_take]; omega
    rw [hg] at hone
    have hv : vld d = true := by unfold vld; simp; omega
    have hm : amt a = true := by unfold amt; simp; omega
    have hcn : cntR src y dd (.agg [.int .i64 n, .int .i64 d, .str c, .int .i64 a]) = if (decide (d ≤ dd) && yrOf d == y && undC c src) = true then a else 0 := by
      show (if (vld d && decide (d ≤ dd) && yrOf d == y && amt a && undC c src) = true then a else 0) = _
      rw [hv, hm]
      simp only [Bool.true_and, Bool.and_true]
    rw [hcn] at hone
    have hcs := SX_gd c hc
    have hund := SX_undF c hc src hsrc
    generalize sumL ((rs.take i).map (cntR src y dd)) = acc at hone hb ⊢
    have hw : IntKind.i64.wrap (acc + a) = acc + a := i64_in _ (by omega)
    simp only [c0, c1, hg, hi1, hw, hv, hm, hund, amOf, D5_under, underS, on_ss_eq, List.take_succ_cons, List.take_nil, k_refRecS_40, counts10S, on_p_eq, k_refRecS_41, valid2S, on_i_eq, k_refRecS_42, year2S, Tryz.underlying1, sz1, by1, ze1, Tryz.underlying2, sz2, by2, ze2, Tryz.underlying3, sz3, by3, ze3, Tryz.underlying4, sz4, by4, ze4, Tryz.underlying9, sz9, by9, ze9, Tryz.underlying35, sz35, by35, ze35, Tryz.underlying41, sz41, by41, ze41, fa41_0, fa41_1, fa41_2, fa41_3, plan0, go_sem, ↓reduceIte, reduceCtorEq, Nat.reduceEqDiff, Nat.reduceLT, ↓all_qV, Int.reduceToNat, Int.reduceLT, Int.reduceLE, Nat.reduceAdd, Nat.reduceLeDiff, Nat.reduceMul, ev_callG, gcallK_b, gcallK_w, callGc_true, callGc_false, List.forall_mem_cons, List.not_mem_nil, PV.one, AV.one]
    and_intros
    all_goals try first | omega | trivial | exact fun _ => ⟨by omega, by omega⟩ | exact ⟨_, _, _, _, rfl⟩ | exact fun _ => ⟨_, _, _, _, rfl⟩
    · intro h9
      refine ⟨i + 1, by omega, by omega, ⟨?_, trivial, rfl, rfl, rfl⟩⟩
      have hv2 : (decide (d ≤ dd) && yrOf d == y && undC c src) = true := by
        revert h9
        cases decide (d ≤ dd) <;> cases (yrOf d == y) <;> cases undC c src <;> simp
      rw [if_pos hv2] at hone
      rw [hone]; simp [fitR, look]
    · intro h9
      refine ⟨i + 1, by omega, by omega, ⟨?_, trivial, rfl, rfl, rfl⟩⟩
      have hv2 : ¬ (decide (d ≤ dd) && yrOf d == y && undC c src) = true := by
        revert h9
        cases decide (d ≤ dd) <;> cases (yrOf d == y) <;> cases undC c src <;> simp
      rw [if_neg hv2, Int.add_zero] at hone
      rw [hone]; simp [fitR, look]
  · have c0 : decide ((i : Int) < (rs.length : Int)) = false := by simp; omega
    rw [List.take_of_length_le (by omega)]
    simp only [c0, Tryz.underlying1, sz1, by1, ze1, Tryz.underlying2, sz2, by2, ze2, Tryz.underlying3, sz3, by3, ze3, Tryz.underlying4, sz4, by4, ze4, Tryz.underlying9, sz9, by9, ze9, Tryz.underlying35, sz35, by35, ze35, Tryz.underlying41, sz41, by41, ze41, fa41_0, fa41_1, fa41_2, fa41_3, plan0, go_sem, ↓reduceIte, reduceCtorEq, Nat.reduceEqDiff, Nat.reduceLT, ↓all_qV, Int.reduceToNat, Int.reduceLT, Int.reduceLE, Nat.reduceAdd, Nat.reduceLeDiff, Nat.reduceMul]
noncomputable def D6 (g : FuncId) : PSpec := (putΦ D5 25 refRecS) g
theorem hD6 : TabSound GG D6 := (hD5.put w_refRecS)
end Go.AM
