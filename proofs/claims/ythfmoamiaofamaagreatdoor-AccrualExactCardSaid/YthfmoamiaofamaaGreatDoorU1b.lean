/-
  A part of a proof: see the last text of this claim for what is proved.
-/
import Derived.Test.YthfmoamiaofamaaGreatDoorU1a
import Derived.Test.YthfmoamiaofamaaGreatDoorPM
import Derived.Test.YthfmoamiaofamaaGreatDoorGH
import Derived.Test.YthfmoamiaofamaaGreatDoorZMa
/-! ledger: Books, Of -/
namespace Go.AM
open Go Go.Proofs Go.IntWalk
set_option maxRecDepth 100000
set_option maxHeartbeats 1000000
set_option linter.unusedSimpArgs false
set_option linter.unusedVariables false
def on_pppp (p : PV → PV → PV → PV → Prop) (f : PV → PV → PV → PV → PV) : PSpec
  | [a0, a1, a2, a3] => (p a0 a1 a2 a3, f a0 a1 a2 a3)
  | _ => (False, default)
theorem on_pppp_eq {p : PV → PV → PV → PV → Prop} {f : PV → PV → PV → PV → PV} {a0 : PV} {a1 : PV} {a2 : PV} {a3 : PV} : on_pppp p f [a0, a1, a2, a3] = (p a0 a1 a2 a3, f a0 a1 a2 a3) := rfl
theorem on_pppp_inv {p : PV → PV → PV → PV → Prop} {f : PV → PV → PV → PV → PV} {args : List PV} (h : (on_pppp p f args).1) : ∃ a0 : PV, ∃ a1 : PV, ∃ a2 : PV, ∃ a3 : PV, args = [a0, a1, a2, a3] ∧ p a0 a1 a2 a3 := by
  unfold on_pppp at h
  split at h
  · exact ⟨_, _, _, _, rfl, h⟩
  · exact h.elim
def cntB (en fr to : Int) (x : Pst) : Bool := (en == 0 || x.en == en) && amg x.d fr to
def clV (en fr to : Int) : PV := .fn 90 [.pp (.int .i64 en) 0, .pp (.int .i64 fr) 0, .pp (.int .i64 to) 0]
def iOf : PV → Int
  | .pp (.int _ n) _ => n
  | _ => 0
noncomputable def of1S : PSpec := on_pppp (fun e a b c => isPs e ∧ (∃ n, a = .pp (.int .i64 n) 0) ∧ (∃ n, b = .pp (.int .i64 n) 0) ∧ ∃ n, c = .pp (.int .i64 n) 0) (fun e a b c => .bool (cntB (iOf a) (iOf b) (iOf c) (psOf e)))
theorem k_of1S_72 {args : List PV} : A6 72 args = lamS args := rfl
theorem w_of1S : PSound GG 90 of1S := by
  refine PSound.of_wpc (C := cxP Tryz.prog A6 [] 21) (T := plan0) Tryz.func90 rfl rfl rfl (Fit.pure (G := GG) hA6 mixed) (fun args h => ?_)
  unfold of1S at h
  obtain ⟨e, a, b, c, rfl, hp⟩ := on_pppp_inv h
  refine ⟨by simp [cxP], ?_⟩
  simp only [of1S, on_pppp_eq, Tryz.f90, argL, plan0]
  obtain ⟨⟨⟨nu, d, en, db, cr, am, pa, re⟩, rfl⟩, ⟨x, rfl⟩, ⟨y, rfl⟩, ⟨z, rfl⟩⟩ := hp
  simp only [psV, psOf_agg, cntB, iOf, k_of1S_72, lamS, on_iii_eq, Tryz.underlying1, sz1, by1, ze1, Tryz.underlying2, sz2, by2, ze2, Tryz.underlying3, sz3, by3, ze3, Tryz.underlying4, sz4, by4, ze4, Tryz.underlying63, sz63, by63, ze63, fa63_0, fa63_1, fa63_2, fa63_3, fa63_4, fa63_5, fa63_6, fa63_7, go_sem, ↓reduceIte, reduceCtorEq, Nat.reduceEqDiff, Nat.reduceLT, ↓all_qV, Int.reduceToNat, Int.reduceLT, Int.reduceLE, Nat.reduceAdd, Nat.reduceLeDiff, Nat.reduceMul]
noncomputable def A7 (g : FuncId) : PSpec := (putΦ A6 90 of1S) g
theorem hA7 : TabSound GG A7 := (hA6.put w_of1S)
noncomputable def ofS : PSpec := on_iii (fun _ _ _ => True) (fun a b c => clV a b c)
theorem k_ofS_90 {args : List PV} : A7 90 args = of1S args := rfl
theorem w_ofS : PSound GG 84 ofS := by
  refine PSound.of_wpc (C := cxP Tryz.prog A7 [] 8) (T := plan0) Tryz.func84 rfl rfl rfl (Fit.pure (G := GG) hA7 mixed) (fun args h => ?_)
  unfold ofS at h
  obtain ⟨a, b, c, rfl, hp⟩ := on_iii_inv h
  refine ⟨by simp [cxP], ?_⟩
  simp only [ofS, on_iii_eq, Tryz.f84, argL, plan0]
  simp only [clV, makeFuncA, pvL, Tryz.underlying3, sz3, by3, ze3, Tryz.underlying82, sz82, by82, ze82, go_sem, ↓reduceIte, reduceCtorEq, Nat.reduceEqDiff, Nat.reduceLT, ↓all_qV, Int.reduceToNat, Int.reduceLT, Int.reduceLE, Nat.reduceAdd, Nat.reduceLeDiff, Nat.reduceMul]
  simp [frzOk, frz, hget, boxP]
  exact ⟨rfl, rfl, rfl⟩
noncomputable def A8 (g : FuncId) : PSpec := (putΦ A7 84 ofS) g
theorem hA8 : TabSound GG A8 := (hA7.put w_ofS)
/-! ### Maps from int to int -/
abbrev IMp := List (Int × Int)
def imV (m : IMp) : List (PV × PV) := m.map fun p => (.int .i64 p.1, .int .i64 p.2)
def iput (k v : Int) : IMp → IMp
  | [] => [(k, v)]
  | p :: r => if k == p.1 then (p.1, v) :: r else p :: iput k v r
def iget (k : Int) : IMp → Int
  | [] => 0
  | p :: r => if k == p.1 then p.2 else iget k r
theorem imV_put (k v : Int) : ∀ m, mput (.int .i64 k) (.int .i64 v) (imV m) = imV (iput k v m)
  | [] => rfl
  | p :: r => by
    have ih := imV_put k v r
    unfold imV at ih ⊢
    simp only [List.map_cons, mput, iput]
    rw [ih]
    simp only [keyEqB]
    split <;> simp_all
theorem imV_get (k : Int) : ∀ m, mval (.int .i64 0) (.int .i64 k) (imV m) = .int .i64 (iget k m)
  | [] => rfl
  | p :: r => by
    have ih := imV_get k r
    unfold mval imV at ih ⊢
    simp only [List.map_cons, mget, iget]
    have e : keyEqB (PV.int IntKind.i64 k) (PV.int IntKind.i64 p.1) = (k == p.1) := rfl
    rw [e]
    by_cases h : (k == p.1) = true
    · rw [if_pos h, if_pos h]; rfl
    · rw [if_neg h, if_neg h]; exact ih
theorem iget_put (k v a : Int) : ∀ m, iget a (iput k v m) = if a == k then v else iget a m
  | [] => by simp only [iput, iget]
  | p :: r => by
    have ih := iget_put k v a r
    simp only [iput]
    split
    · rename_i h
      have h : k = p.1 := by simpa using h
      subst h
      simp only [iget]
      split <;> simp_all
    · rename_i h
      have h : k ≠ p.1 := by simpa using h
      simp only [iget, ih]
      by_cases e : a = p.1
      · have : a ≠ k := fun e2 => h (by rw [← e2, e])
        simp [e]
        intro e3; exact absurd e3.symm h
      · simp [e]
theorem imV_flat (m : IMp) : ∀ p, p ∈ imV m → flatC p.1 = true ∧ flatC p.2 = true := by
  intro p hp
  obtain ⟨x, _, rfl⟩ := List.mem_map.1 hp
  exact ⟨rfl, rfl⟩
/-- The balances that postings make. -/
def bookF (en fr to : Int) : IMp → List Pst → IMp
  | m, [] => m
  | m, x :: r => bookF en fr to (bif cntB en fr to x then iput x.cr (iget x.cr (iput x.db (iget x.db m + x.am) m) - x.am) (iput x.db (iget x.db m + x.am) m) else m) r
/-- The balance of an account. -/
def balF (en fr to a : Int) : List Pst → Int
  | [] => 0
  | x :: r => (bif cntB en fr to x then (if a == x.db then x.am else 0) - (if a == x.cr then x.am else 0) else 0) + balF en fr to a r
theorem book_bal (en fr to a : Int) : ∀ (l : List Pst) (m : IMp), (∀ x, x ∈ l → x.db ≠ x.cr) → iget a (bookF en fr to m l) = iget a m + balF en fr to a l
  | [], m, _ => by simp [bookF, balF]
  | x :: r, m, h => by
    have hx := h x List.mem_cons_self
    rw [bookF, balF, book_bal en fr to a r _ (fun y hy => h y (List.mem_cons_of_mem _ hy))]
    cases cntB en fr to x with
    | false => simp
    | true =>
      simp only [cond_true, iget_put]
      by_cases e1 : a = x.cr
      · subst e1
        have e2 : (x.cr == x.db) = false := by simpa using fun e => hx e.symm
        simp [e2]; omega
      · have e1' : (a == x.cr) = false := by simpa using e1
        rw [e1']
        by_cases e2 : a = x.db
        · subst e2; simp; omega
        · have e2' : (a == x.db) = false := by simpa using e2
          rw [e2']; simp
theorem bal_le (en fr to a : Int) : ∀ l : List Pst, (∀ x, x ∈ l → 0 ≤ x.am ∧ x.am ≤ 1000000000000) → -(l.length * 1000000000000 : Int) ≤ balF en fr to a l ∧ balF en fr to a l ≤ l.length * 1000000000000
  | [], _ => by simp [balF]
  | x :: r, h => by
    have ih := bal_le en fr to a r (fun y hy => h y (List.mem_cons_of_mem _ hy))
    have hx := h x List.mem_cons_self
    simp only [balF, List.length_cons, Int.natCast_add, Int.add_mul]
    cases cntB en fr to x with
    | false => simp only [cond_false]; omega
    | true =>
      simp only [cond_true]
      split <;> split <;> omega
theorem bookF_snoc (en fr to : Int) (x : Pst) : ∀ (l : List Pst) (m : IMp), bookF en fr to m (l ++ [x]) = bookF en fr to (bookF en fr to m l) [x]
  | [], m => rfl
  | y :: r, m => by rw [List.cons_append, bookF, bookF_snoc en fr to x r]; rfl
theorem imV_keys {P : Program} {t : TypeId} (h : ∀ a : Int, keyOkB P t (.int .i64 a) = true) (m : IMp) : ∀ p, p ∈ imV m → keyOkB P t p.1 = true := by
  intro p hp
  obtain ⟨x, _, rfl⟩ := List.mem_map.1 hp
  exact h _
def bkOk (l : List Pst) : Prop := (∀ x, x ∈ l → (0 ≤ x.am ∧ x.am ≤ 1000000000000) ∧ x.db ≠ x.cr) ∧ l.length ≤ 1000
def bkF : List PV → List (PV × PV)
  | [.sl es, .fn _ [a, b, c]] => imV (bookF (iOf a) (iOf b) (iOf c) [] (es.map psOf))
  | _ => []
def booksP (args : List PV) : Prop × List (PV × PV) := (∃ l en fr to, args = [.sl (l.map psV), clV en fr to] ∧ bkOk l, bkF args)
theorem bkF_eq {l : List Pst} {en fr to : Int} : bkF [.sl (l.map psV), clV en fr to] = imV (bookF en fr to [] l) := by
  show imV (bookF en fr to [] ((l.map psV).map psOf)) = _
  rw [map_psOf]
theorem keyI {a : Int} : keyOkB Tryz.prog 3 (.int .i64 a) = true := by
  kernel_rfl
theorem k_of1 {args : List PV} : A8 90 args = of1S args := rfl
theorem w_booksS : ESound GG 83 (psiMap booksP) := by
  refine ESound.of_map (C := cxQ Tryz.prog A8 noΘ noΨ [] [] 34) (T := plan0) (t := 4) Tryz.func83 rfl rfl rfl rfl (Fit.all (G := GG) hA8 hnoΘ hnoΨ mixed) (fun args h => ?_)
  obtain ⟨l, en, fr, to, rfl, hb, hl⟩ := h
  refine ⟨by simp [cxQ], ?_⟩
  have hr : (booksP [.sl (l.map psV), clV en fr to]).2 = imV (bookF en fr to [] l) := bkF_eq
  rw [hr]
  simp only [List.length_map, Tryz.f83, argL, Tryz.underlying3, sz3, by3, ze3, Tryz.underlying4, sz4, by4, ze4, Tryz.underlying5, sz5, by5, ze5, Tryz.underlying23, sz23, by23, ze23, Tryz.underlying63, sz63, by63, ze63, fa63_0, fa63_1, fa63_2, fa63_3, fa63_4, fa63_5, fa63_6, fa63_7, Tryz.underlying82, sz82, by82, ze82, Tryz.underlying105, sz105, by105, ze105, plan0, go_sem, ↓reduceIte, reduceCtorEq, Nat.reduceEqDiff, Nat.reduceLT, ↓all_qV, Int.reduceToNat, Int.reduceLT, Int.reduceLE, Nat.reduceAdd, Nat.reduceLeDiff, Nat.reduceMul, ev_callG, gcallK_b, gcallK_w, callGc_true, callGc_false]
  refine AWp.loop (T := plan0) (α := Nat) (fun i => ([(1, .pv (clV en fr to)), (5, .mp 8), (9, .pv (.sl (l.map psV))), (10, .pv (.int .i64 l.length)), (11, .pv (.int .i64 i))], [(8, .map (imV (bookF en fr to [] (l.take i))))]))
    (fun i => i ≤ l.length) (fun i => l.length - i)
    ⟨0, Nat.zero_le _, ⟨by simp [fitR, look], by simp [fitH, hget, imV, bookF], rfl, rfl, rfl⟩⟩ ?_
  intro i hi
  have hi1 : IntKind.i64.wrap ((i : Int) + 1) = ((i + 1 : Nat) : Int) := by rw [i64_in _ (by omega)]; omega
  by_cases hlt : i < l.length
  · have c0 : decide ((i : Int) < (l.length : Int)) = true := by simp; omega
    have e1 := getD_ps hlt
    have hx := hb _ (mem_getD' hlt)
    have hbt : ∀ a, -(1000 * 1000000000000 : Int) ≤ iget a (bookF en fr to [] (l.take i)) ∧ iget a (bookF en fr to [] (l.take i)) ≤ 1000 * 1000000000000 := fun a => by
      rw [book_bal en fr to a _ _ (fun x hx => (hb x (List.mem_of_mem_take hx)).2)]
      have h1 := bal_le en fr to a (l.take i) (fun x hx => (hb x (List.mem_of_mem_take hx)).1)
      rw [List.length_take, Nat.min_eq_left (by omega)] at h1
      have h2 : iget a [] = 0 := rfl
      have h3 : (i : Int) * 1000000000000 ≤ 1000 * 1000000000000 := by omega
      omega
    have hst : bookF en fr to [] (l.take (i + 1)) = bookF en fr to (bookF en fr to [] (l.take i)) [l.getD i default] := by rw [take_succ' hlt, bookF_snoc]
    generalize bookF en fr to [] (l.take i) = M at hbt hst ⊢
    generalize l.getD i default = x at e1 hx hst
    obtain ⟨nu, d, e, db, cr, am, pa, re⟩ := x
    simp only [psV] at e1
    simp only at hx
    have w1 : IntKind.i64.wrap (iget db M + am) = iget db M + am := by have := hbt db; exact i64_in _ (by omega)
    have hcb : iget cr (iput db (iget db M + am) M) = iget cr M := by
      rw [iget_put]
      have : (cr == db) = false := by simpa using fun h => hx.2 h.symm
      rw [this]; rfl
    have w2 : IntKind.i64.wrap (iget cr M - am) = iget cr M - am := by have := hbt cr; exact i64_in _ (by omega)
    simp only [clV, c0, e1, hi1, w1, w2, hcb, imV_get, imV_put, k_of1, of1S, on_pppp_eq, iOf, psOf_agg, ev_callT, callTK, callP_fnc, List.length_map, List.take_succ_cons, List.take_nil, Tryz.underlying3, sz3, by3, ze3, Tryz.underlying4, sz4, by4, ze4, Tryz.underlying5, sz5, by5, ze5, Tryz.underlying23, sz23, by23, ze23, Tryz.underlying63, sz63, by63, ze63, fa63_0, fa63_1, fa63_2, fa63_3, fa63_4, fa63_5, fa63_6, fa63_7, Tryz.underlying82, sz82, by82, ze82, Tryz.underlying105, sz105, by105, ze105, plan0, go_sem, ↓reduceIte, reduceCtorEq, Nat.reduceEqDiff, Nat.reduceLT, ↓all_qV, Int.reduceToNat, Int.reduceLT, Int.reduceLE, Nat.reduceAdd, Nat.reduceLeDiff, Nat.reduceMul, ev_callG, gcallK_b, gcallK_w, callGc_true, callGc_false]
    have hst1 : cntB en fr to ⟨nu, d, e, db, cr, am, pa, re⟩ = true → bookF en fr to [] (l.take (i + 1)) = iput cr (iget cr M - am) (iput db (iget db M + am) M) := fun h9 => by
      rw [hst, bookF, bookF, h9, cond_true, hcb]
    have hst0 : cntB en fr to ⟨nu, d, e, db, cr, am, pa, re⟩ = false → bookF en fr to [] (l.take (i + 1)) = M := fun h9 => by
      rw [hst, bookF, bookF, h9, cond_false]
    have sk := fun m => imV_keys (P := Tryz.prog) (t := 3) (fun a => keyI) m
    refine ⟨⟨by omega, by omega⟩, ⟨okPs, isPs_agg, ⟨_, rfl⟩, ⟨_, rfl⟩, _, rfl⟩, fun h9 => ⟨sk _, sk _, sk _, sk _, i + 1, by omega, by omega, ⟨by simp [fitR, look], ?_, rfl, rfl, rfl⟩⟩, fun h9 => ⟨i + 1, by omega, by omega, ⟨by simp [fitR, look], ?_, rfl, rfl, rfl⟩⟩⟩
    · rw [hst1 h9]; simp [fitH, hget]
    · rw [hst0 h9]; simp [fitH, hget]
  · have c0 : decide ((i : Int) < (l.length : Int)) = false := by simp; omega
    rw [List.take_of_length_le (by omega)]
    simp only [c0, List.length_map, Tryz.underlying3, sz3, by3, ze3, Tryz.underlying4, sz4, by4, ze4, Tryz.underlying5, sz5, by5, ze5, Tryz.underlying23, sz23, by23, ze23, Tryz.underlying63, sz63, by63, ze63, fa63_0, fa63_1, fa63_2, fa63_3, fa63_4, fa63_5, fa63_6, fa63_7, Tryz.underlying82, sz82, by82, ze82, Tryz.underlying105, sz105, by105, ze105, plan0, go_sem, ↓reduceIte, reduceCtorEq, Nat.reduceEqDiff, Nat.reduceLT, ↓all_qV, Int.reduceToNat, Int.reduceLT, Int.reduceLE, Nat.reduceAdd, Nat.reduceLeDiff, Nat.reduceMul, ev_callG, gcallK_b, gcallK_w, callGc_true, callGc_false]
    simp [FinMap, mapIs, look, hget]
end Go.AM
