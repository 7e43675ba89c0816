/-
  A part of a proof: see the last text of this claim for what is proved.
-/
import Derived.Test.YtjeolgjiakpenaaDoorAMn
namespace Go.AM
open Go
set_option linter.unusedSimpArgs false
set_option linter.unusedVariables false

/-! ### Operations that make or write memory -/
def putD (N : Nat) (st : ASt) (d : Option Tmp) (v : AV) (K : ASt → Prop) : Prop :=
  match d with
  | none => K st
  | some d => d < N ∧ K { st with ρ := upd st.ρ d v }
def newB (N : Nat) (st : ASt) (d : Option Tmp) (B : ABlk) (v : Nat → AV) (K : ASt → Prop) : Prop :=
  match d with
  | none => False
  | some d => hget st.H d = none ∧ d < N ∧ K { ρ := upd st.ρ d (v d), H := hset st.H d B }
def zeroP (z : Value) : PV := frz [] 2 (ofV z)
def putP : Nat → List PV → List PV → List PV
  | _, [], cs => cs
  | off, v :: vs, cs => putP (off + 1) vs (cs.set off v)
def isSliceOrStr (d : Option TypeDesc) : Bool := isSliceD d || isStrD d
def storeA (C : Ctx) (st : ASt) (t : TypeId) (x v : AV) (K : ASt → Prop) : Prop :=
  match x, szOf C.P t with
  | .ptr key off, some n => match hget st.H key with
    | some (.cells cs) => (cellsA v).length = n ∧ off + n ≤ cs.length ∧ (cellsA v).all AV.one = true ∧ K { st with H := hset st.H key (.cells (putL off (cellsA v) cs)) }
    | _ => False
  | .rp key i off, some n => match hget st.H key with
    | some (.row k es) => v.free = true ∧ frzOk st.H 4 v ∧ (frz st.H 4 v).cells.length = n ∧ off + n ≤ k ∧ i < es.length ∧ (frz st.H 4 v).cells.all PV.one = true ∧
        K { st with H := hset st.H key (.row k (es.set i (boxP (putP off (frz st.H 4 v).cells (PV.nth es i).cells)))) }
    | _ => False
  | _, _ => False
def appendA (C : Ctx) (st : ASt) (d : Option Tmp) (t tx : TypeId) (s x : AV) (K : ASt → Prop) : Prop :=
  match C.P.underlying t, srcA st.H x with
  | some (.slice e), some es2 => match szOf C.P e, bytesT C.P e, zeroT C.P e with
    | some k, some by', some z => 0 < k ∧ z.cells.size = k ∧ isSliceOrStr (C.P.underlying tx) = true ∧ allW k es2 ∧ (match s with
      | .nils => es2.length * by' ≤ 140737488355328 ∧ es2.length ≤ maxLen ∧ newB C.N st d (.row k es2) (fun d => .rs d es2.length) K
      | .rs key hi => match hget st.H key, d with
        | some (.row k' es), some d => k' = k ∧ hi ≤ es.length ∧ (hi + es2.length) * by' ≤ 140737488355328 ∧ hi + es2.length ≤ maxLen ∧ d < C.N ∧
            K { ρ := upd (killR key st.ρ) d (.rs key (hi + es2.length)), H := hset (killH key st.H) key (.row k (es.take hi ++ es2)) }
        | _, _ => False
      | _ => False)
    | _, _, _ => False
  | _, _ => False
def makeA (C : Ctx) (st : ASt) (d : Option Tmp) (t : TypeId) (l c : AV) (K : ASt → Prop) : Prop :=
  match C.P.underlying t, l, c with
  | some (.slice e), .pv (.int _ n), .pv (.int _ m) => match szOf C.P e, bytesT C.P e, zeroT C.P e with
    | some k, some by', some z => 0 < k ∧ z.cells.size = k ∧ 0 ≤ n ∧ n ≤ m ∧ m * by' ≤ 281474976710656 ∧ m ≤ 9223372036854775807 ∧ frzOk [] 2 (ofV z) ∧ (cellsA (ofV z)).all AV.one = true ∧ (zeroP z).width = k ∧ (zeroP z).cells.all PV.one = true ∧
        newB C.N st d (.row k (List.replicate n.toNat (zeroP z))) (fun d => .rs d n.toNat) K
    | _, _, _ => False
  | _, _, _ => False
/-- WHAT AN OPERATION ASKS, AND WHAT STANDS BEHIND IT. -/
def aopE (C : Ctx) (o : Oper) (st : ASt) (K : ASt → Prop) : Prop :=
  match o.op with
  | .alloc t => match zeroT C.P t with
    | some z => (cellsA (ofV z)).all AV.one = true ∧ newB C.N st o.dst (.cells (cellsA (ofV z))) (fun d => .ptr d 0) K
    | none => False
  | .box _ x => oc st.ρ x ∧ (cellsA (ox st.ρ x)).all AV.one = true ∧ newB C.N st o.dst (.cells (cellsA (ox st.ρ x))) (fun d => .ptr d 0) K
  | .makeSlice t l c => oc st.ρ l ∧ oc st.ρ c ∧ makeA C st o.dst t (ox st.ρ l) (ox st.ρ c) K
  | .store t x v => oc st.ρ x ∧ oc st.ρ v ∧ o.dst = none ∧ storeA C st t (ox st.ρ x) (ox st.ρ v) K
  | .call { callee := .builtin .append, args, argTypes } => match args.toList, argTypes.toList with
    | [s, x], [t, tx] => oc st.ρ s ∧ oc st.ρ x ∧ appendA C st o.dst t tx (ox st.ρ s) (ox st.ρ x) K
    | _, _ => False
  | .call { callee := .value f, args, .. } => match calleeA (ox st.ρ f) with
    | some (g, caps) => match C.Ψ g with
      | some ψ => oc st.ρ f ∧ allC st.ρ args.toList ∧ ψ (o.dst.getD 0) (args.toList.map (ox st.ρ) ++ caps) st (fun r st' => putD C.N st' o.dst r K)
      | none => (aopP C st.ρ st.H o.op).1 ∧ putD C.N st o.dst (aopP C st.ρ st.H o.op).2 K
    | none => (aopP C st.ρ st.H o.op).1 ∧ putD C.N st o.dst (aopP C st.ρ st.H o.op).2 K
  | _ => (aopP C st.ρ st.H o.op).1 ∧ putD C.N st o.dst (aopP C st.ρ st.H o.op).2 K

/-- A FUNCTION THAT MAY WRITE what it is given. -/
def ESound (G : Glob) (f : FuncId) (ψ : ESpec) : Prop :=
  ∀ (d : Nat) (args : List AV) (st : ASt) (K : AV → ASt → Prop), ψ d args st K → Enterable G.P f ∧
    ∀ (E : Base) (N : Nat) (a : Array Value) (w : World) (L : Locs) (xs : List Value), Rel G E (OpqS G E) N st a w L → LRel w (Mut E L st.H) L st.H (OpqS G E) args xs →
      Calls G.P f xs.toArray w (fun e w' => ∃ v r st' L', e = .returned v ∧ K r st' ∧ Rel G E (OpqS G E) N st' a w' L' ∧ AVRel w' (Mut E L' st'.H) L' st'.H (OpqS G E) r v)
structure TabsSound (G : Glob) (C : Ctx) : Prop where
  prog : C.P = G.P
  pure : TabSound G C.Φ
  eff : ∀ f ψ, C.Ψ f = some ψ → ESound G f ψ

section
variable {w : World} {M : Nat → Prop} {L : Locs} {H : AHeap} {S : (List PV → Prop × PV) → Value → Prop} {P : Program}

theorem oneA_of_rel {c : AV} {v : Value} (h1 : c.one = true) (h : AVRel w M L H S c v) : v.oneCell' = true := by
  cases c <;> simp only [AV.one] at h1 <;> try (cases h1; done)
  case pv p => exact one_of_rel h1 (pv_inv h)
  all_goals (cases h <;> rfl)
theorem LRel.ones {vs : List AV} {xs : List Value} (h : LRel w M L H S vs xs) (ho : vs.all AV.one = true) : ∀ x, x ∈ xs → x.oneCell' = true := by
  induction h with
  | nil => intro x hx; simp at hx
  | cons v x vs xs h1 _ ih =>
    simp only [List.all_cons, Bool.and_eq_true] at ho
    intro y hy
    rcases List.mem_cons.1 hy with rfl | hy
    · exact oneA_of_rel ho.1 h1
    · exact ih ho.2 y hy

theorem putA_get : ∀ (xs : List Value) (off : Nat) (arr : Array Value) (j : Nat), off + xs.length ≤ arr.size → (putA off xs arr)[j]? = if off ≤ j ∧ j < off + xs.length then xs[j - off]? else arr[j]?
  | [], off, arr, j, _ => by simp [putA]; omega
  | x :: xs, off, arr, j, h => by
    simp only [List.length_cons] at h
    rw [putA, putA_get xs (off + 1) _ j (by simp; omega)]
    by_cases h1 : off + 1 ≤ j ∧ j < off + 1 + xs.length
    · rw [if_pos h1, if_pos (by simp; omega)]
      obtain ⟨m, rfl⟩ : ∃ m, j = off + 1 + m := ⟨j - (off + 1), by omega⟩
      rw [show off + 1 + m - (off + 1) = m by omega, show off + 1 + m - off = m + 1 by omega, List.getElem?_cons_succ]
    · rw [if_neg h1]
      by_cases h2 : j = off
      · subst h2
        rw [if_pos (by simp), Array.getElem?_setIfInBounds]
        simp; omega
      · rw [if_neg (by simp; omega), Array.getElem?_setIfInBounds_ne (Ne.symm h2)]
theorem splice_get (xs : List Value) (off : Nat) (arr : Array Value) (j : Nat) (h : off + xs.length ≤ arr.size) :
    (arr.toList.take off ++ xs ++ arr.toList.drop (off + xs.length)).toArray[j]? = if off ≤ j ∧ j < off + xs.length then xs[j - off]? else arr[j]? := by
  simp only [List.getElem?_toArray]
  by_cases h1 : j < off
  · rw [List.append_assoc, List.getElem?_append_left (by simp; omega), List.getElem?_take, if_pos h1, if_neg (by omega)]; simp
  · by_cases h2 : j < off + xs.length
    · rw [List.getElem?_append_left (by simp; omega), List.getElem?_append_right (by simp; omega), if_pos ⟨by omega, h2⟩]
      congr 1; simp; omega
    · rw [List.getElem?_append_right (by simp; omega), List.getElem?_drop, if_neg (by omega)]
      rw [show off + xs.length + (j - (arr.toList.take off ++ xs).length) = j by simp; omega]
      simp
theorem splice_eq (xs : List Value) (off : Nat) (arr : Array Value) (h : off + xs.length ≤ arr.size) : (arr.toList.take off ++ xs ++ arr.toList.drop (off + xs.length)).toArray = putA off xs arr := by
  apply Array.ext_getElem?
  intro j
  rw [splice_get xs off arr j h, putA_get xs off arr j h]

theorem run_storeVar {t : TypeId} {n b off : Nat} {v : Value} {arr : Array Value} {et : TypeId} (hn : szOf P t = some n) (hc : v.cells.size = n) (hb : w.heap[b]? = some (.cells arr et (0, 0))) (hl : off + n ≤ arr.size)
    (h1 : ∀ x, x ∈ v.cells.toList → x.oneCell' = true) : (storeVar t ⟨b, off, none⟩ v).run P w = .ok () (w.setRow b (putA off v.cells.toList arr)) := by
  unfold storeVar
  have hlen : v.cells.toList.length = n := by simp [hc]
  simp only [Sem.run_bind, run_szOf hn, Result.andThen_ok, hc, ne_eq, not_true_eq_false, if_false]
  have := run_storeCells_at P b off et v.cells.toList 0 arr w hb (by omega) h1
  simp only [Nat.add_zero] at this
  rw [splice_eq v.cells.toList off arr (by omega)] at this
  simp [this]
theorem setRow_facts {w : World} {b : Nat} {arr : Array Value} : (∀ k, k ≠ b → (w.setRow b arr).heap[k]? = w.heap[k]?) ∧ (w.setRow b arr).heap.size = w.heap.size ∧ (w.setRow b arr).os = w.os ∧ (w.setRow b arr).tape = w.tape ∧ (w.setRow b arr).output = w.output :=
  ⟨fun k hk => setRow_other w b k arr hk, size_setRow w b arr, rfl, rfl, rfl⟩
theorem setRow_frozen {w : World} {b : Nat} {arr : Array Value} (a : Addr) : (w.setRow b arr).frozen? a = w.frozen? a := by
  unfold World.frozen? World.setRow
  simp only [Array.getElem?_modify]
  by_cases h : b = a.block
  · rw [if_pos h]
    subst h
    cases w.heap[a.block]? with
    | none => rfl
    | some o => cases o <;> rfl
  · rw [if_neg h]
theorem CRel.keepAll {w' : World} {M' : Nat → Prop} {L' : Locs} {H' : AHeap} (hk : Keeps w M w' M') (hc : ∀ key B, hget H key = some B → ∃ B', hget H' key = some B' ∧ B.le B' ∧ L' key = L key ∧ (L key = none → B = B'))
    {cs : List AV} {arr : Array Value} (h : CRel w M L H S cs arr) : CRel w' M' L' H' S cs arr := ⟨h.1, fun j c hj => (h.2 j c hj).keep hk (fun _ _ h => h) hc⟩
theorem size_putA : ∀ (xs : List Value) (off : Nat) (arr : Array Value), (putA off xs arr).size = arr.size
  | [], _, _ => rfl
  | x :: xs, off, arr => by rw [putA, size_putA xs]; simp
theorem length_putL : ∀ (vs : List AV) (off : Nat) (cs : List AV), (putL off vs cs).length = cs.length
  | [], _, _ => rfl
  | v :: vs, off, cs => by rw [putL, length_putL vs]; simp
theorem CRel.of_cellsA {v : AV} {x : Value} (h : (cellsA v).all AV.one = true) (hx : AVRel w M L H S v x) : CRel w M L H S (cellsA v) x.cells := by
  have hr := cellsA_rel h hx
  refine ⟨by rw [hr.length]; simp, fun j c hc => ?_⟩
  obtain ⟨y, hy, hr'⟩ := hr.get j c hc
  have e : x.cells.getD j undef = y := by
    rw [Array.getElem?_toList] at hy
    simp [Array.getD_eq_getD_getElem?, hy]
  rw [e]; exact hr'
end
end Go.AM
