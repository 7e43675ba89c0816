/-
  A part of a proof: see the last text of this claim for what is proved.
-/
import Derived.RangeFuncNested
import Derived.Test.YtamiheckgglgaaaGreatDoorBM
import Derived.Shelf.Strconv.AtoiAll
import Derived.Shelf.Strconv.Itoa3
import Derived.Shelf.Strings.Split
namespace Go.AM
open Go Go.RowKit
set_option linter.unusedVariables false
set_option linter.unusedSimpArgs false
/-- How a round's body may be left: `I'` where it goes on, `Ix c` where it leaves by the jump c. -/
def roundEnds {σ : Type} (I' : σ → World → Prop) (Ix : Code → σ → World → Prop) (s : σ) (W : World) : Exit → Act → World → Prop
  | .normal, _, W' => KeepsOthers W W' ∧ I' s W'
  | .ret, _, W' => KeepsOthers W W' ∧ Ix .ret s W'
  | .exit id, _, W' => KeepsOthers W W' ∧ Ix (.exit id) s W'
  | .goto t, _, W' => KeepsOthers W W' ∧ Ix (.goto t) s W'
  | _, _, _ => False
/-- A fact that abides a turn of what is no cells, from block B on. -/
def Calm (B : Nat) (R : World → Prop) : Prop := ∀ (W : World) (j : Nat) (o o' : Obj), R W → B ≤ j → W.heap[j]? = some o → o.isCells = false → R (W.putObj j o')
/-- A fact that hangs on two blocks. -/
def Two (B : Nat) (R : World → Prop) : Prop := ∀ W W' : World, R W → W'.heap[B]? = W.heap[B]? → W'.heap[B + 1]? = W.heap[B + 1]? → R W'
variable {F : Fence} {n : Nat} {P : Program}
/-- A RANGE OVER A FUNCTION THAT KEEPS STATE. -/
theorem range_keeps {σ : Type} {g : Operand} {ps : Array Tmp} {assign body : Code} {Q : Exit → Act → World → Prop} {a : Act} {w : World}
    (hro : F.round = none) (h1 : 1 ≤ n) {gf : Nat} {lb : Array Value} (hg : a.eval g = .func (.func gf) #[] lb) (hFg : F.fn gf) (eg : ∀ args w, (callFunc gf args).run P w = .ok (.enter gf args) w)
    (elem : σ → Array Value) (hps : ∀ s, (elem s).size = ps.size) (I0 : World → Prop) (I I' : σ → World → Prop) (Ix : Code → σ → World → Prop) (Fin : World → Prop)
    (c1 : ∀ s, Calm w.heap.size (I s)) (c2 : ∀ s, Calm w.heap.size (I' s)) (c3 : ∀ c s, Calm w.heap.size (Ix c s)) (c4 : Calm w.heap.size Fin)
    (h0 : ∀ o o', I0 ((w.alloc o).alloc o')) (a₁ : σ → Act)
    (hassign : ∀ (l : Nat) (s : σ) (W : World) (K : Act → World → Prop), K (a₁ s) W →
      assign.wpIn (F.inRound l) (n - 1 - 1) P (Exit.then K (fun _ _ _ => False)) { tmps := (ps.zip (elem s)).foldl (fun t (p, v) => t.setIfInBounds p v) a.tmps, defers := [] } W)
    (hbody : ∀ (l : Nat) (s : σ) (W : World), I s W → body.wpIn (F.inRound l) (n - 1 - 1) P (roundEnds I' Ix s W) (a₁ s) W)
    (hiter : ∀ (l : Nat) (K : World → Prop) (Kx : Code → World → Prop), Two w.heap.size K → (∀ c, Two w.heap.size (Kx c)) →
      (∀ s W, I s W → K W → YieldAt F (n - 1 - 1) P l (elem s) W fun e W' => (e = .returned (.bool true) ∧ I' s W' ∧ K W') ∨ (e = .returned (.bool false) ∧ ∃ c, Ix c s W' ∧ Kx c W')) →
      ∀ W, I0 W → K W → w.heap.size + 2 ≤ W.heap.size → CallsIn F (n - 1) P gf (#[.func (.yield l) #[] #[]] ++ lb) W fun e W' => (∃ v, e = .returned v) ∧ ((Fin W' ∧ K W') ∨ ∃ c s, Ix c s W' ∧ Kx c W'))
    (hdone : ∀ (D : Nat) (W : World), D = w.heap.size → Fin W → W.heap[D]? = some (.deferred (some [])) → Q .normal { a with defers := { target := .collected D, args := #[] } :: a.defers } W)
    (hstop : ∀ (D : Nat) (c : Code) (s : σ) (W : World), D = w.heap.size → Ix c s W → W.heap[D]? = some (.deferred (some [])) → c.wpIn F n P Q { a with defers := { target := .collected D, args := #[] } :: a.defers } W) :
    (Code.rangeFunc g ps assign body).wpIn F n P Q a w := by
  refine wpIn_rangeFunc fun fn hfn => ?_
  rw [hro]
  let rec_ : LoopState → Option Code → Loop := fun st pe => { state := st, pending := pe, fn := fn, tmps := a.tmps, params := ps, assign := assign, body := body, defers := w.heap.size }
  let l := w.heap.size + 1
  let K : World → Prop := fun W => W.heap[l]? = some (.loop (rec_ .ready none)) ∧ W.heap[w.heap.size]? = some (.deferred (some []))
  let Kx : Code → World → Prop := fun c W => W.heap[l]? = some (.loop (rec_ .done (some c))) ∧ W.heap[w.heap.size]? = some (.deferred (some []))
  have tK : Two w.heap.size K := fun W W' h e1 e2 => ⟨e2.trans h.1, e1.trans h.2⟩
  have tKx : ∀ c, Two w.heap.size (Kx c) := fun c W W' h e1 e2 => ⟨e2.trans h.1, e1.trans h.2⟩
  refine ⟨l, [{ target := .collected w.heap.size, args := #[] }], (w.alloc (.deferred (some []))).alloc (.loop (rec_ .ready none)), { target := .fn (.func gf) lb, args := #[.func (.yield l) #[] #[]] },
    (w.alloc (.deferred (some []))).alloc (.loop (rec_ .ready none)), gf, #[.func (.yield l) #[] #[]] ++ lb, (w.alloc (.deferred (some []))).alloc (.loop (rec_ .ready none)), run_enterLoop_outer _ _ _ _ _, ?_, ?_, ?_, fun _ => h1, ?_⟩
  · simp only [resolve, hg]; simp [go_sem]
  · intro f' hf'; simp [Target.leads] at hf'; subst hf'; exact hFg
  · simp [invoke, go_sem, eg]
  · have hK1 : K ((w.alloc (.deferred (some []))).alloc (.loop (rec_ .ready none))) := by
      refine ⟨?_, (Below.heap_alloc _ _ _ (by simp)).trans (World.alloc_heap_new w _)⟩
      have := World.alloc_heap_new (w.alloc (.deferred (some []))) (.loop (rec_ .ready none)); rwa [World.size_alloc] at this
    refine (hiter l K Kx tK tKx ?_ _ (h0 _ _) hK1 (by simp)).mono ?_
    · rintro s W hi ⟨hl, hk⟩
      have hlt : l < W.heap.size := (Array.getElem?_eq_some_iff.1 hl).1
      have hne : w.heap.size ≠ l := by show w.heap.size ≠ w.heap.size + 1; omega
      have hle : w.heap.size ≤ l := by show w.heap.size ≤ w.heap.size + 1; omega
      refine ⟨fn, _, assign, body, run_yield hl (hps s), roundIn_of_wpIn hfn (hassign _ s W _ ⟨_, run_beginRound hl rfl, ?_⟩)⟩
      have hl2 := World.putObj_heap_same (o := .loop { rec_ .ready none with state := .busy }) hlt
      have hk2 := (World.putObj_heap_other (o := .loop { rec_ .ready none with state := .busy }) hne).trans hk
      refine wpIn_mono (hbody l s _ (c1 s _ _ _ _ hi hle hl rfl)) ?_
      intro e a3 W3 hp
      have fin : ∀ (jump : Option Code), KeepsOthers (W.putObj l (.loop { rec_ .ready none with state := .busy })) W3 →
          (Instr.endRound l jump).run P W3 = .ok (.bool jump.isNone) (W3.putObj l (.loop (rec_ (if jump.isNone then .ready else .done) jump))) ∧ W3.heap[l]? = some (.loop { rec_ .ready none with state := .busy }) ∧
          (W3.putObj l (.loop (rec_ (if jump.isNone then .ready else .done) jump))).heap[l]? = some (.loop (rec_ (if jump.isNone then .ready else .done) jump)) ∧
          (W3.putObj l (.loop (rec_ (if jump.isNone then .ready else .done) jump))).heap[w.heap.size]? = some (.deferred (some [])) := fun jump hk3 => by
        have hl3 := hk3.same _ _ hl2 rfl
        exact ⟨run_endRound (P := P) jump hl3, hl3, World.putObj_heap_same (Array.getElem?_eq_some_iff.1 hl3).1, (World.putObj_heap_other hne).trans (hk3.same _ _ hk2 rfl)⟩
      cases e with
      | normal =>
        obtain ⟨hr, hl3, hl4, hk4⟩ := fin none hp.1
        exact ⟨_, _, hr, .inl ⟨rfl, c2 s _ _ _ _ hp.2 hle hl3 rfl, hl4, hk4⟩⟩
      | ret =>
        obtain ⟨hr, hl3, hl4, hk4⟩ := fin (some .ret) hp.1
        exact ⟨_, _, hr, .inr ⟨rfl, .ret, c3 _ s _ _ _ _ hp.2 hle hl3 rfl, hl4, hk4⟩⟩
      | exit id =>
        obtain ⟨hr, hl3, hl4, hk4⟩ := fin (some (.exit id)) hp.1
        exact ⟨_, _, hr, .inr ⟨rfl, .exit id, c3 _ s _ _ _ _ hp.2 hle hl3 rfl, hl4, hk4⟩⟩
      | goto t =>
        obtain ⟨hr, hl3, hl4, hk4⟩ := fin (some (.goto t)) hp.1
        exact ⟨_, _, hr, .inr ⟨rfl, .goto t, c3 _ s _ _ _ _ hp.2 hle hl3 rfl, hl4, hk4⟩⟩
      | panic ch => exact hp.elim
      | outgrown => exact hp.elim
    · have hne : w.heap.size ≠ l := by show w.heap.size ≠ w.heap.size + 1; omega
      have hle : w.heap.size ≤ l := by show w.heap.size ≤ w.heap.size + 1; omega
      rintro e W2 ⟨⟨v, rfl⟩, (⟨hf, hl, hk⟩ | ⟨c, s, hi, hl, hk⟩)⟩
      · exact ⟨none, _, run_endLoop (P := P) hl (by simp [rec_]), hdone _ _ rfl (c4 _ _ _ _ hf hle hl rfl) ((World.putObj_heap_other hne).trans hk)⟩
      · exact ⟨some c, _, run_endLoop (P := P) hl (by simp [rec_]), hstop _ c s _ rfl (c3 c s _ _ _ _ hi hle hl rfl) ((World.putObj_heap_other hne).trans hk)⟩
end Go.AM
namespace Go.AM
open Go Go.Proofs Go.Shelf
set_option linter.unusedVariables false
set_option linter.unusedSimpArgs false
theorem Ext.of_below {w w' : World} (h : RowKit.Below w.heap.size w w') : Ext NoB w w' := by
  refine ⟨h.os, h.tape, h.output, h.size, fun b hb _ => h.block b hb, fun a ha _ => ?_⟩
  unfold World.frozen?
  rw [h.block _ ha]
theorem below_growN (w : World) (k : Nat) (os : Array Obj) : RowKit.Below w.heap.size w (Sort.grow (w.drewN k) os) :=
  ⟨rfl, rfl, rfl, by simp [Sort.grow, World.drewN], fun i hi => by simp [Sort.grow, World.drewN, Array.getElem?_append_left hi]⟩
theorem PSound.of_shelf {G : Glob} {f : FuncId} {φ : PSpec} (he : Enterable G.P f)
    (h : ∀ args, (φ args).1 → ∀ (X : Nat → Prop) (w : World) (vs : Array Value), G.I w → G.nG ≤ w.heap.size → (∀ b, X b → b < w.heap.size) → ARel w X args vs →
      Calls G.P f vs w fun e w' => ∃ v, e = .returned v ∧ PVRel w' X (φ args).2 v ∧ RowKit.Below w.heap.size w w') : PSound G f φ := fun args ha =>
  ⟨he, fun X w vs hi hg hx har => (h args ha X w vs hi hg hx har).mono fun e w' ⟨v, h1, h2, h3⟩ => ⟨v, h1, h2, .of_below h3⟩⟩
theorem arel1 {w : World} {X : Nat → Prop} {p : PV} {vs : Array Value} (h : ARel w X [p] vs) : ∃ v, vs = #[v] ∧ PVRel w X p v := by
  obtain ⟨hs, hr⟩ := h
  match vs, hs with
  | ⟨[v]⟩, _ => exact ⟨v, rfl, hr 0 p rfl⟩
theorem arel2 {w : World} {X : Nat → Prop} {p q : PV} {vs : Array Value} (h : ARel w X [p, q] vs) : ∃ v u, vs = #[v, u] ∧ PVRel w X p v ∧ PVRel w X q u := by
  obtain ⟨hs, hr⟩ := h
  match vs, hs with
  | ⟨[v, u]⟩, _ => exact ⟨v, u, rfl, hr 0 p rfl, hr 1 q rfl⟩
theorem arel3 {w : World} {X : Nat → Prop} {p q r : PV} {vs : Array Value} (h : ARel w X [p, q, r] vs) : ∃ v u t, vs = #[v, u, t] ∧ PVRel w X p v ∧ PVRel w X q u ∧ PVRel w X r t := by
  obtain ⟨hs, hr⟩ := h
  match vs, hs with
  | ⟨[v, u, t]⟩, _ => exact ⟨v, u, t, rfl, hr 0 p rfl, hr 1 q rfl, hr 2 r rfl⟩
theorem rel_int {w : World} {X : Nat → Prop} {k : IntKind} {n : Int} {v : Value} (h : PVRel w X (.int k n) v) : v = .int k n := by cases h; rfl
theorem rel_str {w : World} {X : Nat → Prop} {s : List UInt8} {v : Value} (h : PVRel w X (.str s) v) : v = .string ⟨s.toArray⟩ := by cases h; rfl
/-! ### Specifications by kinds of arguments -/
def on_i (p : Int → Prop) (f : Int → PV) : PSpec
  | [.int .i64 a0] => (p a0, f a0)
  | _ => (False, default)
theorem on_i_eq {p : Int → Prop} {f : Int → PV} {a0 : Int} : on_i p f [.int .i64 a0] = (p a0, f a0) := rfl
theorem on_i_inv {p : Int → Prop} {f : Int → PV} {args : List PV} (h : (on_i p f args).1) : ∃ a0 : Int, args = [.int .i64 a0] ∧ p a0 := by
  unfold on_i at h
  split at h
  · exact ⟨_, rfl, h⟩
  · exact h.elim
def on_s (p : List UInt8 → Prop) (f : List UInt8 → PV) : PSpec
  | [.str a0] => (p a0, f a0)
  | _ => (False, default)
theorem on_s_eq {p : List UInt8 → Prop} {f : List UInt8 → PV} {a0 : List UInt8} : on_s p f [.str a0] = (p a0, f a0) := rfl
theorem on_s_inv {p : List UInt8 → Prop} {f : List UInt8 → PV} {args : List PV} (h : (on_s p f args).1) : ∃ a0 : List UInt8, args = [.str a0] ∧ p a0 := by
  unfold on_s at h
  split at h
  · exact ⟨_, rfl, h⟩
  · exact h.elim
def on_ssi (p : List UInt8 → List UInt8 → Int → Prop) (f : List UInt8 → List UInt8 → Int → PV) : PSpec
  | [.str a0, .str a1, .int .i64 a2] => (p a0 a1 a2, f a0 a1 a2)
  | _ => (False, default)
theorem on_ssi_eq {p : List UInt8 → List UInt8 → Int → Prop} {f : List UInt8 → List UInt8 → Int → PV} {a0 a1 : List UInt8} {a2 : Int} : on_ssi p f [.str a0, .str a1, .int .i64 a2] = (p a0 a1 a2, f a0 a1 a2) := rfl
theorem on_ssi_inv {p : List UInt8 → List UInt8 → Int → Prop} {f : List UInt8 → List UInt8 → Int → PV} {args : List PV} (h : (on_ssi p f args).1) : ∃ (a0 a1 : List UInt8) (a2 : Int), args = [.str a0, .str a1, .int .i64 a2] ∧ p a0 a1 a2 := by
  unfold on_ssi at h
  split at h
  · exact ⟨_, _, _, rfl, h⟩
  · exact h.elim
/-! ### Of the shelf -/
def itoaQ : PSpec := on_i (fun n => -9223372036854775808 ≤ n ∧ n ≤ 9223372036854775807) (fun n => .str (Lib.itoa n))
theorem itoa_sound {G : Glob} {ρ : Ren} (L : LaysM.n171 G.P ρ) (hE : Enterable G.P (ρ.f 171)) (hI : ∀ w, G.I w → Lib.TabIs G.P w "internal/strconv.uint64pow10" .u64 Lib.pow10Tab) : PSound G (ρ.f 171) itoaQ := by
  refine PSound.of_shelf hE fun args ha X w vs hi hg hx har => ?_
  obtain ⟨n, rfl, h0, h1⟩ := on_i_inv ha
  obtain ⟨v, rfl, hv⟩ := arel1 har
  obtain rfl := rel_int hv
  refine (Any.strconv_Itoa L n h0 h1 w (hI w hi)).mono ?_
  rintro e w' ⟨rfl, k, os, rfl⟩
  exact ⟨_, rfl, .str _, below_growN _ _ _⟩
/-- A pointer of which nothing is known. -/
def ptrQ : PV := .pp (.agg []) 0
theorem rel_ptrQ {w : World} {X : Nat → Prop} (b o : Nat) : PVRel w X ptrQ (.pointer (some ⟨b, o, none⟩)) := by
  have := PVRel.pp (w := w) (M := X) (.agg []) 0 b o (fun _ => undef) (fun j c h => by simp [PV.cells] at h) (fun j c h => by simp [PV.cells] at h)
  exact this
def atoiV (T : TypeId) (s : List UInt8) : PV :=
  match Lib.atoiAll s with
  | .ok v => .tup [.int .i64 v, .nilI]
  | .range => .tup [.int .i64 (Lib.atoiSat s), .iface T ptrQ]
  | _ => .tup [.int .i64 0, .iface T ptrQ]
def atoiQ (T : TypeId) : PSpec := on_s (fun s => s.length ≤ 281474976710656) (atoiV T)
theorem tup2 {w : World} {X : Nat → Prop} {p q : PV} {v u : Value} (h1 : PVRel w X p v) (h2 : PVRel w X q u) : PVRel w X (.tup [p, q]) (.tuple #[v, u]) :=
  .tup _ _ rfl fun i c h => by
    match i, h with
    | 0, h => cases h; exact h1
    | 1, h => cases h; exact h2
    | i + 2, h => simp at h
theorem atoi_sound {G : Glob} {ρ : Ren} (L : LaysC.n172 G.P ρ) (hE : Enterable G.P (ρ.f 172))
    (hI : ∀ w, G.I w → (∃ ev, w.cell? ⟨ρ.g 15, 0, none⟩ = some ev ∧ (ev = .nilIface ∨ ∃ te pe, ev = .iface te pe)) ∧ (∃ ev, w.cell? ⟨ρ.g 16, 0, none⟩ = some ev ∧ (ev = .nilIface ∨ ∃ te pe, ev = .iface te pe))) :
    PSound G (ρ.f 172) (atoiQ (ρ.t 168)) := by
  refine PSound.of_shelf hE fun args ha X w vs hi hg hx har => ?_
  obtain ⟨s, rfl, h0⟩ := on_s_inv ha
  obtain ⟨v, rfl, hv⟩ := arel1 har
  obtain rfl := rel_str hv
  obtain ⟨⟨e1, v1, k1⟩, e2, v2, k2⟩ := hI w hi
  have hsz : (ByteArray.mk s.toArray).size = s.length := by simp [ByteArray.size]
  show Calls G.P (ρ.f 172) _ w fun e w' => ∃ v, e = .returned v ∧ PVRel w' X (atoiV (ρ.t 168) s) v ∧ _
  unfold atoiV
  rcases h : Lib.atoiAll s with n | _ | _
  · refine (Any.strconv_Atoi_ok L ⟨s.toArray⟩ (by omega) n h w).mono ?_
    rintro e w' ⟨rfl, hw⟩
    refine ⟨_, rfl, tup2 (.int _ _) .nilI, ?_⟩
    rcases hw with rfl | ⟨t, rfl⟩
    · exact .refl _ _
    · exact Lib.bytesWorld_below _ _ _
  · refine (Any.strconv_Atoi_syntax L ⟨s.toArray⟩ (by omega) h e1 w v1 k1).mono ?_
    rintro e w' ⟨N, rfl, _, _, hb⟩
    exact ⟨_, rfl, tup2 (.int _ _) (.iface _ _ _ (rel_ptrQ _ _)), hb⟩
  · refine (Any.strconv_Atoi_range L ⟨s.toArray⟩ (by omega) h e2 w v2 k2).mono ?_
    rintro e w' ⟨N, rfl, _, _, hb⟩
    exact ⟨_, rfl, tup2 (.int _ _) (.iface _ _ _ (rel_ptrQ _ _)), hb⟩
/-- A row of texts just laid. -/
theorem strs_rel {w : World} {X : Nat → Prop} (hX : ∀ b, X b → b < w.heap.size) (l : List (List UInt8)) (ps : List ByteArray) (hp : ps.map (·.data.toList) = l) (N : Nat) (hN : l.length ≤ N) (hm : N ≤ maxLen) (t : TypeId) :
    PVRel (w.alloc (.cells (Lib.cellsOf ps N) t)) X (.sl (l.map .str)) (.slice (some ⟨w.heap.size, 0, none⟩) ps.length N) := by
  subst hp
  have hl : ps.length = ((ps.map (·.data.toList)).map PV.str).length := by simp
  rw [hl]
  refine .sl _ _ _ 1 w.heap.size 0 (fun i j => Value.string (ps.getD i ByteArray.empty)) (by simpa using hN) hm ?_ (fun _ => rfl) ?_ ?_
  · intro e he
    simp only [List.map_map, List.mem_map, Function.comp] at he
    obtain ⟨a, _, rfl⟩ := he
    rfl
  · intro i e j c he hc
    simp only [List.getElem?_map, Option.map_eq_some_iff] at he
    obtain ⟨_, ⟨a, ha, rfl⟩, rfl⟩ := he
    have hj : j = 0 := by
      simp only [PV.cells] at hc
      cases j with
      | zero => rfl
      | succ j => simp at hc
    subst hj
    simp only [PV.cells, List.getElem?_cons_zero, Option.some.injEq] at hc
    subst hc
    have hi := (List.getElem?_eq_some_iff.1 ha)
    refine ⟨fun hb => absurd (hX _ hb) (Nat.lt_irrefl _), rfl, ?_⟩
    have := World.cell?_alloc_new w (Lib.cellsOf ps N) t (0 + i * 1 + 0)
    rw [this]
    obtain ⟨hi1, hi2⟩ := hi
    simp only [Nat.zero_add, Nat.mul_one, Nat.add_zero, Lib.cellsOf, List.getElem?_toArray, List.getD_eq_getElem?_getD, ha, Option.getD_some]
    rw [List.getElem?_append_left (by simpa using hi1)]
    simp [ha]
  · intro i e j c he hc
    simp only [List.getElem?_map, Option.map_eq_some_iff] at he
    obtain ⟨_, ⟨a, ha, rfl⟩, rfl⟩ := he
    have hj : j = 0 := by
      simp only [PV.cells] at hc
      cases j with
      | zero => rfl
      | succ j => simp at hc
    subst hj
    simp only [PV.cells, List.getElem?_cons_zero, Option.some.injEq] at hc
    subst hc
    simp only [List.getD_eq_getElem?_getD, ha, Option.getD_some]
    have := PVRel.str (w := w.alloc (.cells (Lib.cellsOf ps N) t)) (M := X) a.data.toList
    simpa using this
def splitNQ : PSpec := on_ssi (fun s sep n => s.length < 4294967281 ∧ 1 ≤ sep.length ∧ 1 ≤ n ∧ n ≤ 9223372036854775807) (fun s sep n => .sl ((Lib.splitK sep 0 (min n.toNat (s.length + 1) - 1) s).map .str))
theorem splitN_sound {G : Glob} {ρ : Ren} (L : Lays.n147 G.P ρ) (hE : Enterable G.P (ρ.f 147)) (hi9 : (G.P.info? (ρ.t 9)).map (fun i => (i.zero, i.size, i.bytes)) = some (some (.string ByteArray.empty), 1, 16))
    (hI : ∀ w, G.I w → ∃ m, w.cell? ⟨ρ.g 1, 0, none⟩ = some (.int .i64 m)) : PSound G (ρ.f 147) splitNQ := by
  refine PSound.of_shelf hE fun args ha X w vs hi hg hx har => ?_
  obtain ⟨s, sep, n, rfl, h0, h1, h2, h3⟩ := on_ssi_inv ha
  obtain ⟨a, b, c, rfl, ra, rb, rc⟩ := arel3 har
  obtain rfl := rel_str ra
  obtain rfl := rel_str rb
  obtain rfl := rel_int rc
  obtain ⟨m, hm⟩ := hI w hi
  obtain ⟨k, rfl⟩ := Int.eq_ofNat_of_zero_le (show 0 ≤ n by omega)
  have hs1 : (ByteArray.mk s.toArray).size = s.length := by simp [ByteArray.size]
  have hs2 : (ByteArray.mk sep.toArray).size = sep.length := by simp [ByteArray.size]
  refine (Any.strings_SplitN L hi9 ⟨s.toArray⟩ ⟨sep.toArray⟩ k m w (by omega) hm (by omega) (by omega) (by omega)).mono ?_
  rintro e w' ⟨rfl, rfl⟩
  have hd := Lib.splitB_data ⟨sep.toArray⟩ 0 (min k (s.length + 1) - 1) ⟨s.toArray⟩
  have hle := Lib.splitB_length_le ⟨sep.toArray⟩ 0 (min k (s.length + 1) - 1) ⟨s.toArray⟩
  rw [hs1]
  refine ⟨_, rfl, ?_, (RowKit.Below.refl _ w).alloc (Nat.le_refl _) _⟩
  refine strs_rel hx _ _ hd _ ?_ ?_ _
  · rw [← hd, List.length_map]; omega
  · have : min k (s.length + 1) ≤ s.length + 1 := Nat.min_le_right _ _
    simp only [maxLen]; omega
end Go.AM
