/-
  A part of a proof: see the last text of this claim for what is proved.
-/
import Derived.Test.YtamiheckgglgaaaDoorMB
namespace Go.AM
open Go
set_option linter.unusedSimpArgs false
set_option linter.unusedVariables false

def NoB : Nat → Prop := fun _ => False

/-- Arguments that read as plain data. -/
def ARel (w : World) (X : Nat → Prop) (args : List PV) (vs : Array Value) : Prop :=
  vs.size = args.length ∧ ∀ (i : Nat) (p : PV), args[i]? = some p → PVRel w X p (vs.getD i undef)

def Enterable (P : Program) (f : FuncId) : Prop := ∃ fn, P.funcs[f]? = some fn ∧ (fn.name == "runtime.NumGoroutine") = false ∧ fn.body.isNone = false

/-- A FUNCTION THAT ONLY COMPUTES: whatever world it is called in, on data that read as 'args' it hands back data that read as the specification says; nothing that was there has turned. -/
def PSound (G : Glob) (f : FuncId) (φ : PSpec) : Prop :=
  ∀ args, (φ args).1 → Enterable G.P f ∧ ∀ (X : Nat → Prop) (w : World) (vs : Array Value), G.I w → G.nG ≤ w.heap.size → (∀ b, X b → b < w.heap.size) → ARel w X args vs →
    Calls G.P f vs w (fun e w' => ∃ v, e = .returned v ∧ PVRel w' X (φ args).2 v ∧ Ext NoB w w')

/-- A function value that came in, and what is known of it. -/
def OpqS (G : Glob) (E : Base) (φ : PSpec) (x : Value) : Prop :=
  ∃ f caps, x = .func (.func f) #[] caps ∧ Enterable G.P f ∧ ∀ (args : List PV) (w : World) (vs : Array Value) (X : Nat → Prop), (φ args).1 → Ext E.M0 E.w0 w → G.I w →
    (∀ b, X b → (E.X b ∨ E.M0 b ∨ E.w0.heap.size ≤ b) ∧ b < w.heap.size) → ARel w X args vs →
    Calls G.P f (vs ++ caps) w (fun e w' => ∃ v, e = .returned v ∧ PVRel w' X (φ args).2 v ∧ Ext NoB w w')

section
variable {w : World} {M : Nat → Prop} {L : Locs} {H : AHeap} {S : (List PV → Prop × PV) → Value → Prop} {P : Program}

theorem PVRel.any {p : PV} {v : Value} (h : PVRel w M p v) : PVRel w NoB p v := h.keep (fun b _ _ => ⟨rfl, id⟩)

theorem PVRel.of_flat1 {w' : World} {M' : Nat → Prop} {p : PV} {v : Value} (hf : p.flat1 = true) (h : PVRel w M p v) : PVRel w' M' p v := by
  cases h <;> first | (simp [PV.flat1] at hf; done) | constructor
theorem PVRel.of_flat {w' : World} {M' : Nat → Prop} {p : PV} {v : Value} (hf : p.flat = true) (h : PVRel w M p v) : PVRel w' M' p v := by
  unfold PV.flat at hf
  split at hf
  · cases h with
    | tup _ vs hs hr => exact .tup _ _ hs (fun i c hc => (hr i c hc).of_flat1 (List.all_eq_true.1 hf c (List.mem_of_getElem? hc)))
  · cases h with
    | agg _ vs hs ho hr => exact .agg _ _ hs ho (fun i c hc => (hr i c hc).of_flat1 (List.all_eq_true.1 hf c (List.mem_of_getElem? hc)))
  · exact h.of_flat1 hf

theorem boxP_cells {cs : List PV} (h : ∀ c, c ∈ cs → c.one = true) : (boxP cs).cells = cs := by
  unfold boxP
  split
  · rename_i c
    have := h c (by simp)
    cases c <;> first | rfl | simp [PV.one] at this
  · rfl

theorem frz_one (H : AHeap) (n : Nat) (v : AV) (h : v.one = true) (hk : frzOk H n v) : (frz H n v).one = true := by
  cases v <;> cases n <;> simp only [AV.one] at h <;> simp only [frzOk] at hk <;> simp only [frz] <;> first | exact h | rfl | exact hk.elim | skip
  all_goals (split at hk <;> first | exact hk.elim | simp_all [PV.one])

/-- What stands in a slot, handed on as plain data. -/
theorem frz_to {M' : Nat → Prop} (hB : ∀ key B, hget H key = some B → BRel w M L H S key B) (hM : ∀ b, M' b → M b) (hown : ∀ key B b cap, hget H key = some B → L key = some (b, cap) → ¬ M' b) :
    ∀ (n : Nat) (v : AV) (x : Value), frzOk H n v → AVRel w M L H S v x → PVRel w M' (frz H n v) x := by
  have any : ∀ {p : PV} {v : Value}, PVRel w M p v → PVRel w M' p v := fun h => h.keep (fun b _ hn => ⟨rfl, fun hb => hn (hM b hb)⟩)
  have rowRel : ∀ key k es b cap, hget H key = some (.row k es) → L key = some (b, cap) → ∀ lo hi a c, lo ≤ hi → hi ≤ es.length → hi - lo ≤ c → c ≤ maxLen → (lo < hi → a = some ⟨b, lo * k, none⟩) →
      PVRel w M' (.sl ((es.take hi).drop lo)) (.slice a (hi - lo) c) := by
    intro key k es b cap h1 h2 lo hi a c h3 h4 h5 h6 h7
    have hb := hB key _ h1
    simp only [BRel, h2] at hb
    obtain ⟨hk, hw, arr, et, e1, e2, e3, e4, e5⟩ := hb
    have hlen : ((es.take hi).drop lo).length = hi - lo := by simp; omega
    rw [← hlen]
    refine .sl _ a c k b (lo * k) (fun i j => arr.getD (lo * k + i * k + j) undef) (by omega) h6 (fun e he => hw e (List.mem_of_mem_take (List.mem_of_mem_drop he))) (fun hne => ?_) (fun i e j cc he hc => ?_) (fun i e j cc he hc => ?_)
    · exact h7 (by have := List.length_pos_iff.2 hne; omega)
    · rw [List.getElem?_drop, List.getElem?_take] at he
      split at he
      · refine ⟨hown key _ b cap h1 h2, (e5 _ e j cc he hc).1, ?_⟩
        rw [cell_of_row w b _ arr et _ e1]
        have hj : j < k := by
          have := (List.getElem?_eq_some_iff.1 hc).1
          have hw' : e.cells.length = k := hw e (List.mem_of_getElem? he)
          omega
        have hi' := (List.getElem?_eq_some_iff.1 he).1
        have hlt : lo * k + i * k + j < arr.size := by
          rw [e2]
          have h1 : (lo + i + 1) * k ≤ cap * k := Nat.mul_le_mul_right _ (by omega)
          have h2 : (lo + i + 1) * k = lo * k + i * k + k := by rw [Nat.add_mul, Nat.add_mul, Nat.one_mul]
          omega
        simp [Array.getD_eq_getD_getElem?, Array.getElem?_eq_getElem hlt]
      · cases he
    · rw [List.getElem?_drop, List.getElem?_take] at he
      split at he
      · have := (e5 _ e j cc he hc).2
        rw [Nat.add_mul] at this
        exact any this
      · cases he
  intro n
  induction n with
  | zero =>
    intro v x hk hx
    cases v <;> simp only [frzOk] at hk <;> simp only [frz]
    case pv => exact any (pv_inv hx)
    case nils => cases hx; exact .sl [] none 0 0 0 0 (fun _ _ => undef) (by simp) (by simp [maxLen]) (by simp) (by simp) (by simp) (by simp)
    case rs key hi =>
      split at hk
      · rcases rs_inv hx with ⟨k2, g1, g2, g3, rfl⟩ | ⟨k2, es2, b, cap, g1, g2, g3, rfl⟩
        · simp_all
          exact .sl [] none 0 0 0 0 (fun _ _ => undef) (by simp) (by simp [maxLen]) (by simp) (by simp) (by simp) (by simp)
        · rename_i hH
          rw [hH] at g1
          simp only [Option.some.injEq, ABlk.row.injEq] at g1
          obtain ⟨rfl, rfl⟩ := g1
          have hb := hB key _ hH
          simp only [BRel, g2] at hb
          obtain ⟨_, _, arr, et, _, _, e3, e4, _⟩ := hb
          have := rowRel key _ _ b cap hH g2 0 hi (some ⟨b, 0, none⟩) cap (by omega) g3 (by omega) e4 (by simp)
          simpa using this
      · exact hk.elim
    case rv key lo hi =>
      split at hk
      · rename_i hH
        obtain ⟨k2, es2, b, cap, cap', a, g1, g2, g3, g4, g5, g6, g7, rfl⟩ := rv_inv hx
        rw [hH] at g1
        simp only [Option.some.injEq, ABlk.row.injEq] at g1
        obtain ⟨rfl, rfl⟩ := g1
        exact rowRel key _ _ b cap hH g2 lo hi a cap' g3 g4 g5 g6 g7
      · exact hk.elim
  | succ n ih =>
    intro v x hk hx
    cases v <;> simp only [frzOk] at hk <;> simp only [frz]
    case pv => exact any (pv_inv hx)
    case nils => cases hx; exact .sl [] none 0 0 0 0 (fun _ _ => undef) (by simp) (by simp [maxLen]) (by simp) (by simp) (by simp) (by simp)
    case rs key hi =>
      split at hk
      · rcases rs_inv hx with ⟨k2, g1, g2, g3, rfl⟩ | ⟨k2, es2, b, cap, g1, g2, g3, rfl⟩
        · simp_all
          exact .sl [] none 0 0 0 0 (fun _ _ => undef) (by simp) (by simp [maxLen]) (by simp) (by simp) (by simp) (by simp)
        · rename_i hH
          rw [hH] at g1
          simp only [Option.some.injEq, ABlk.row.injEq] at g1
          obtain ⟨rfl, rfl⟩ := g1
          have hb := hB key _ hH
          simp only [BRel, g2] at hb
          obtain ⟨_, _, arr, et, _, _, e3, e4, _⟩ := hb
          have := rowRel key _ _ b cap hH g2 0 hi (some ⟨b, 0, none⟩) cap (by omega) g3 (by omega) e4 (by simp)
          simpa using this
      · exact hk.elim
    case rv key lo hi =>
      split at hk
      · rename_i hH
        obtain ⟨k2, es2, b, cap, cap', a, g1, g2, g3, g4, g5, g6, g7, rfl⟩ := rv_inv hx
        rw [hH] at g1
        simp only [Option.some.injEq, ABlk.row.injEq] at g1
        obtain ⟨rfl, rfl⟩ := g1
        exact rowRel key _ _ b cap hH g2 lo hi a cap' g3 g4 g5 g6 g7
      · exact hk.elim
    case agg cs =>
      cases hx with
      | agg _ vs hs hr =>
        refine .agg _ _ (by simpa using hs) (fun c hc => ?_) (fun i c hc => ?_)
        · obtain ⟨d, hd, rfl⟩ := List.mem_map.1 hc
          exact frz_one H n d (hk d hd).1 (hk d hd).2
        · rw [List.getElem?_map] at hc
          obtain ⟨d, hd, rfl⟩ := Option.map_eq_some_iff.1 hc
          exact ih d _ (hk d (List.mem_of_getElem? hd)).2 (hr i d hd)
    case ptr key off =>
      split at hk
      · rename_i cs hH
        obtain ⟨B2, b, cap, g1, gv, g2, rfl⟩ := ptr_inv hx
        obtain ⟨b2, cap2, arr, et, e1, e2, e3, e4⟩ := hB key _ hH
        rw [g2] at e1
        simp only [Option.some.injEq, Prod.mk.injEq] at e1
        obtain ⟨rfl, rfl⟩ := e1
        have hone : ∀ c, c ∈ cs.map (frz H n) → c.one = true := by
          intro c hc
          obtain ⟨d, hd, rfl⟩ := List.mem_map.1 hc
          exact frz_one H n d (hk d hd).1 (hk d hd).2
        have key' : ∀ j c, (boxP (cs.map (frz H n))).cells[j]? = some c → ∃ d, cs[j]? = some d ∧ c = frz H n d ∧ j < arr.size := by
          intro j c hc
          rw [boxP_cells hone, List.getElem?_map] at hc
          obtain ⟨d, hd, rfl⟩ := Option.map_eq_some_iff.1 hc
          exact ⟨d, hd, rfl, by rw [e3]; exact (List.getElem?_eq_some_iff.1 hd).1⟩
        have := PVRel.pp (w := w) (M := M') (boxP (cs.map (frz H n))) off b 0 (fun j => arr.getD j undef)
          (fun j c hc => by
            obtain ⟨d, hd, rfl, hj⟩ := key' j c hc
            refine ⟨hown key _ b cap hH g2, hone _ (List.mem_map.2 ⟨d, List.mem_of_getElem? hd, rfl⟩), ?_⟩
            rw [Nat.zero_add, cell_of_row w b _ arr et _ e2]
            simp [Array.getD_eq_getD_getElem?, Array.getElem?_eq_getElem hj])
          (fun j c hc => by
            obtain ⟨d, hd, rfl, hj⟩ := key' j c hc
            exact ih d _ (hk d (List.mem_of_getElem? hd)).2 (e4 j d hd))
        simpa using this
      · exact hk.elim
    case clo f caps =>
      cases hx with
      | clo _ _ vs hs hr =>
        refine .fn _ _ _ (by simpa using hs) (fun i c hc => ?_)
        rw [List.getElem?_map] at hc
        obtain ⟨d, hd, rfl⟩ := Option.map_eq_some_iff.1 hc
        exact ih d _ (hk d (List.mem_of_getElem? hd)) (hr i d hd)
theorem frz_rel (hB : ∀ key B, hget H key = some B → BRel w M L H S key B) (n : Nat) (v : AV) (x : Value) (hk : frzOk H n v) (hx : AVRel w M L H S v x) : PVRel w NoB (frz H n v) x :=
  frz_to hB (fun _ h => h.elim) (fun _ _ _ _ _ _ h => h.elim) n v x hk hx
theorem freeL_mem {l : List AV} (h : AV.freeL l = true) : ∀ v, v ∈ l → v.free = true := by
  induction l with
  | nil => intro v hv; simp at hv
  | cons c r ih =>
    simp only [AV.freeL, Bool.and_eq_true] at h
    intro v hv
    rcases List.mem_cons.1 hv with rfl | hv
    · exact h.1
    · exact ih h.2 v hv
/-- Without a handle: nothing of the call's own. -/
theorem frz_free : ∀ (n : Nat) (v : AV) (x : Value), v.free = true → frzOk H n v → AVRel w M L H S v x → PVRel w M (frz H n v) x := by
  intro n
  induction n with
  | zero =>
    intro v x hf hk hx
    cases v <;> simp only [frzOk] at hk <;> simp only [AV.free] at hf <;> simp only [frz]
    case pv => exact pv_inv hx
    case nils => cases hx; exact .sl [] none 0 0 0 0 (fun _ _ => undef) (by simp) (by simp [maxLen]) (by simp) (by simp) (by simp) (by simp)
    all_goals first | exact hk.elim | (cases hf; done)
  | succ n ih =>
    intro v x hf hk hx
    cases v <;> simp only [frzOk] at hk <;> simp only [AV.free] at hf <;> simp only [frz]
    case pv => exact pv_inv hx
    case nils => cases hx; exact .sl [] none 0 0 0 0 (fun _ _ => undef) (by simp) (by simp [maxLen]) (by simp) (by simp) (by simp) (by simp)
    case agg cs =>
      cases hx with
      | agg _ vs hs hr =>
        refine .agg _ _ (by simpa using hs) (fun c hc => ?_) (fun i c hc => ?_)
        · obtain ⟨d, hd, rfl⟩ := List.mem_map.1 hc
          exact frz_one H n d (hk d hd).1 (hk d hd).2
        · rw [List.getElem?_map] at hc
          obtain ⟨d, hd, rfl⟩ := Option.map_eq_some_iff.1 hc
          exact ih d _ (freeL_mem hf d (List.mem_of_getElem? hd)) (hk d (List.mem_of_getElem? hd)).2 (hr i d hd)
    case clo f caps =>
      cases hx with
      | clo _ _ vs hs hr =>
        refine .fn _ _ _ (by simpa using hs) (fun i c hc => ?_)
        rw [List.getElem?_map] at hc
        obtain ⟨d, hd, rfl⟩ := Option.map_eq_some_iff.1 hc
        exact ih d _ (freeL_mem hf d (List.mem_of_getElem? hd)) (hk d (List.mem_of_getElem? hd)) (hr i d hd)
    all_goals first | exact hk.elim | (cases hf; done)
end
end Go.AM
