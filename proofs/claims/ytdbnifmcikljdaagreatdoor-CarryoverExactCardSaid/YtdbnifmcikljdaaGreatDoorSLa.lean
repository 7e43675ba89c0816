/-
  A part of a proof: see the last text of this claim for what is proved.
-/
import Derived.Test.YtdbnifmcikljdaaGreatDoorGH
import Derived.Test.YtdbnifmcikljdaaGreatDoorDRa
import Derived.Shelf.SlSortCmp.NoneTotal
namespace Go.AM
open Go Go.Proofs Go.Shelf Go.RowKit Go.Lib Go.Sort
set_option linter.unusedSimpArgs false
set_option linter.unusedVariables false
theorem grow_of_ext {W w' : World} (h : Ext NoB W w') (hd : W.drawn ≤ w'.drawn) : ∃ q os, w' = grow (W.drewN q) os := by
  refine ⟨w'.drawn - W.drawn, w'.heap.extract W.heap.size w'.heap.size, ?_⟩
  have e1 := h.os; have e2 := h.tape; have e3 := h.output; have e4 := h.size; have e5 := h.block
  obtain ⟨hp, tp, dr, os, out⟩ := w'
  obtain ⟨hp0, tp0, dr0, os0, out0⟩ := W
  simp only at e1 e2 e3 e4 e5 hd
  subst e1 e2 e3
  simp only [grow, World.drewN, World.mk.injEq, true_and, and_true]
  refine ⟨?_, by omega⟩
  apply Array.ext_getElem?
  intro i
  by_cases hi : i < hp0.size
  · rw [e5 i hi (fun h => h), Array.getElem?_append_left hi]
  · rw [Array.getElem?_append_right (by omega), Array.getElem?_extract]
    by_cases h2 : i < hp.size
    · rw [if_pos (by omega)]; congr 1; omega
    · rw [if_neg (by omega), Array.getElem?_eq_none (by omega)]
theorem putRow_heap {α : Type} [Inhabited α] (enc : α → Value) (w : World) (b o : Nat) (d : Array α) (i : Nat) : (putRow enc w b o d).heap[i]? = if b = i then (w.heap[i]?).map (onCells (putCells enc o d)) else w.heap[i]? := by
  unfold putRow mapBlock
  simp only [Array.getElem?_modify]
theorem sortWorld_ext {α : Type} [Inhabited α] (enc : α → List Value) (k : Nat) (w : World) (b m : Nat) (d : Array α) (os : Array Obj) : Ext (fun x => x = b) w (sortWorldK enc k w b 0 m d os) := by
  refine .of rfl rfl rfl ?_ (fun i hi hn => ?_)
  · unfold sortWorldK; rw [size_grow, size_putRowK]; show w.heap.size ≤ w.heap.size + _; omega
  · unfold sortWorldK
    rw [heap_grow_old _ _ (by rw [size_putRowK]; exact hi)]
    unfold putRowK
    rw [putRow_heap, if_neg (fun h => hn h.symm)]
    rfl
def sortFP (c : FuncId) (lt : PV → PV → Bool) (OK : PV → Prop) : List PV → List PV → Prop × List PV
  | es, [.fn f []] => (f = c ∧ es.length ≤ 1000000 ∧ (∀ e, e ∈ es → OK e) ∧ (∀ a b, a ∈ es → b ∈ es → lt a b = false → lt b a = false → a = b), isort lt es)
  | es, _ => (False, es)
theorem sortFP_eq {c : FuncId} {lt : PV → PV → Bool} {OK : PV → Prop} {es : List PV} {f : FuncId} : sortFP c lt OK es [.fn f []] = (f = c ∧ es.length ≤ 1000000 ∧ (∀ e, e ∈ es → OK e) ∧ (∀ a b, a ∈ es → b ∈ es → lt a b = false → lt b a = false → a = b), isort lt es) := rfl
theorem sortFP_inv {c : FuncId} {lt : PV → PV → Bool} {OK : PV → Prop} {es args : List PV} (h : (sortFP c lt OK es args).1) :
    args = [.fn c []] ∧ es.length ≤ 1000000 ∧ (∀ e, e ∈ es → OK e) ∧ (∀ a b, a ∈ es → b ∈ es → lt a b = false → lt b a = false → a = b) := by
  unfold sortFP at h
  split at h
  · obtain ⟨rfl, h1, h2, h3⟩ := h; exact ⟨rfl, h1, h2, h3⟩
  · exact h.elim
section
variable {G : Glob} {E : Base} {S : (List PV → Prop × PV) → Value → Prop} {N : Nat} {st : ASt} {a : Array Value} {w : World} {L : Locs}
theorem Rel.same (h : Rel G E S N st a w L) {κ : Nat} {B : ABlk} (hκ : hget st.H κ = some B) : Rel G E S N { st with H := hset st.H κ B } a w L := by
  have hb : ∀ key, hget (hset st.H κ B) key = hget st.H key := fun key => by
    by_cases e : key = κ
    · subst e; rw [hget_hset_same, hκ]
    · rw [hget_hset_ne _ _ (Ne.symm e)]
  have hc : ∀ key B0, hget st.H key = some B0 → ∃ B1, hget (hset st.H κ B) key = some B1 ∧ B0.le B1 ∧ L key = L key ∧ (L key = none → B0 = B1) := fun key B0 h0 => ⟨B0, by rw [hb]; exact h0, ABlk.le_refl _, rfl, fun _ => rfl⟩
  have hMut : ∀ x, Mut E L (hset st.H κ B) x → Mut E L st.H x := by
    rintro x (hx | ⟨key, B0, c0, h1, h2⟩)
    · exact .inl hx
    · rw [hb] at h1; exact .inr ⟨key, B0, c0, h1, h2⟩
  have hk : Keeps w (Mut E L st.H) w (Mut E L (hset st.H κ B)) := fun x _ hn => ⟨rfl, fun hm => hn (hMut x hm)⟩
  refine { size := h.size, ext := h.ext, inv := h.inv, glob := h.glob, old := h.old, m0 := h.m0, own := ?_, inj := ?_, blk := ?_, env := ?_, fix := ?_ }
  · intro key B0 x c0 h1 h2
    simp only [hb] at h1; exact h.own key B0 x c0 h1 h2
  · intro k1 k2 B1 B2 x c1 c2 h1 h2 h3 h4
    simp only [hb] at h1 h2; exact h.inj k1 k2 B1 B2 x c1 c2 h1 h2 h3 h4
  · intro key B0 h0
    simp only [hb] at h0
    exact (h.blk key B0 h0).keepAll hk hc (fun _ _ _ => rfl) rfl
  · intro s; exact (h.env s).keep hk (fun _ _ h => h) hc
  · intro k b0 c0 hl0
    obtain ⟨h1, B0, h2⟩ := h.fix k b0 c0 hl0
    exact ⟨h1, B0, by simp only [hb]; exact h2⟩
end
theorem one_oneCell {w : World} {M : Nat → Prop} {p : PV} {v : Value} (h : PVRel w M p v) (hp : p.one = true) : v.oneCell' = true := by
  cases h <;> first | rfl | (simp [PV.one] at hp)
theorem sortPV {lt : PV → PV → Bool} {OK : PV → Prop} (tr : ∀ a b c, OK a → OK b → OK c → lt b a = false → lt c b = false → lt c a = false) (asy : ∀ a b, OK a → OK b → lt a b = true → lt b a = false)
    {es : List PV} (hOK : ∀ e, e ∈ es → OK e) (hT : ∀ a b, a ∈ es → b ∈ es → lt a b = false → lt b a = false → a = b) {n : Nat} [Inhabited (_root_.Fin n)] (hn : n = es.length) (d' : Array (_root_.Fin n))
    (hp : PermIn 0 n (Array.ofFn (n := n) fun i => i) d') (hs : ∀ i j, i < j → j < n → lt (es.getD d'[j]!.val default) (es.getD d'[i]!.val default) = false) :
    d'.toList.map (fun i => es.getD i.val default) = isort lt es := by
  subst hn
  obtain ⟨hsz, _, hperm⟩ := hp
  have hsz' : d'.size = es.length := by rw [hsz]; simp
  have e1 : d'.extract 0 es.length = d' := by have := Array.extract_size (xs := d'); rwa [hsz'] at this
  have e2 : (Array.ofFn (n := es.length) fun i => i).extract 0 es.length = Array.ofFn (n := es.length) fun i => i := by
    have := Array.extract_size (xs := Array.ofFn (n := es.length) fun i => i)
    rwa [Array.size_ofFn] at this
  rw [e1, e2] at hperm
  have hm : (d'.toList.map (fun i => es.getD i.val default)).Perm es := by
    refine (hperm.map _).trans ?_
    have : (Array.ofFn (n := es.length) fun i => i).toList.map (fun i => es.getD i.val default) = es := by
      apply List.ext_getElem
      · simp
      · intro i h1 h2
        simp [List.getD_eq_getElem?_getD, h2]
    rw [this]
  have hpw : (d'.toList.map (fun i => es.getD i.val default)).Pairwise (fun a b => lt b a = false) := by
    rw [List.pairwise_iff_getElem]
    intro i j hi hj hij
    simp only [List.length_map, Array.length_toList] at hi hj
    have := hs i j hij (by omega)
    simp only [List.getElem_map, Array.getElem_toList]
    rwa [getElem!_pos d' i hi, getElem!_pos d' j hj] at this
  exact List.Perm.eq_of_pairwise (le := fun a b => lt b a = false) (fun a b h1 h2 h3 h4 => hT a b (hm.mem_iff.1 h1) ((mem_isort lt).1 h2) h4 h3) hpw (isort_sorted tr asy hOK) (hm.trans (isort_perm lt es).symm)
theorem ESound.of_sortFunc {G : Glob} {ρ : Ren} (L : SlLaysF0.n6 G.P ρ) (k : Nat) (hk : 0 < k) (aE : ∀ w, (isAgg (ρ.t 24)).run G.P w = .ok true w) (zE : ∀ w, (Go.sizeOf (ρ.t 24)).run G.P w = .ok k w)
    (hE : Enterable G.P (ρ.f 6)) {c : FuncId} {φc : PSpec} (hc : PSound G c φc) (hEc : Enterable G.P c) {cf : PV → PV → Int} {OK : PV → Prop}
    (hφ : ∀ x y, OK x → OK y → (φc [x, y]).1 ∧ (φc [x, y]).2 = .int .i64 (cf x y))
    (hag : ∀ x, OK x → ∃ cs, x = .agg cs ∧ cs.length = k ∧ ∀ c, c ∈ cs → c.one = true)
    (irr : ∀ x, OK x → ¬ cf x x < 0) (tr : ∀ x y z, OK x → OK y → OK z → cf x y < 0 → cf y z < 0 → cf x z < 0) (nt : ∀ x y z, OK x → OK y → OK z → ¬ cf x y < 0 → ¬ cf y z < 0 → ¬ cf x z < 0) :
    ESound G (ρ.f 6) (psiPut k (sortFP c (fun x y => decide (cf x y < 0)) OK)) := by
  intro d args st K hψ
  refine ⟨hE, fun E N a w L' xs hR hargs _ => ?_⟩
  unfold psiPut at hψ
  split at hψ
  case h_2 => exact hψ.elim
  rename_i κ n rest
  split at hψ
  case h_2 => exact hψ.elim
  rename_i k' es hH
  obtain ⟨rfl, rfl, p1, p2, p3, p4, p5⟩ := hψ
  obtain ⟨q1, q2, q3, q4⟩ := sortFP_inv p3
  rw [q1, sortFP_eq] at p4 p5
  simp only at p4 p5
  cases hargs with
  | cons _ x0 _ xs' hx0 hrest =>
  obtain ⟨hxl, hpv⟩ := hrest.pvs p1 p2
  rw [q1] at hpv
  have hr1 : rest.length = 1 := by have := congrArg List.length q1; simpa using this
  have hx1 : xs' = [.func (.func c) #[] #[]] := by
    have h1 : xs'.length = 1 := by omega
    match xs', h1 with
    | [v], _ =>
      have := hpv 0 _ rfl
      simp only [List.getD_cons_zero, Array.getD_eq_getD_getElem?, List.getElem?_toArray, List.getElem?_cons_zero, Option.getD_some] at this
      cases this with
      | fn f caps vs hs hr =>
        have : vs = #[] := Array.eq_empty_of_size_eq_zero (by simpa using hs)
        rw [this]
  subst hx1
  rcases rs_inv hx0 with ⟨k2, g1, g2, g3, rfl⟩ | ⟨k2, es2, b, cap, g1, g2, g3, rfl⟩
  · rw [hH] at g1
    simp only [Option.some.injEq, ABlk.row.injEq] at g1
    obtain ⟨_, rfl⟩ := g1
    refine (AnyF.slices_SortFunc_none L none 0 _ w).mono ?_
    rintro e w' ⟨rfl, rfl⟩
    exact ⟨_, _, _, L', rfl, p5, hR.same (by rw [hH]; rfl), .pv _ _ (.tup [] #[] rfl (fun i c hc => by simp at hc))⟩
  rw [hH] at g1
  simp only [Option.some.injEq, ABlk.row.injEq] at g1
  obtain ⟨_, rfl⟩ := g1
  rcases Nat.eq_zero_or_pos es.length with h0 | hpos
  · have he0 : es = [] := List.eq_nil_of_length_eq_zero h0
    subst he0
    refine (AnyF.slices_SortFunc_none L _ cap _ w).mono ?_
    rintro e w' ⟨rfl, rfl⟩
    exact ⟨_, _, _, L', rfl, p5, hR.same (by rw [hH]; rfl), .pv _ _ (.tup [] #[] rfl (fun i c hc => by simp at hc))⟩
  have hB := hR.blk κ _ hH
  simp only [BRel, g2] at hB
  obtain ⟨_, hwid, arr, et, e1, e2, e3, e4, e5⟩ := hB
  have hb : b < w.heap.size := (Array.getElem?_eq_some_iff.1 e1).1
  have hown := hR.own κ _ b cap hH g2
  haveI : Inhabited (_root_.Fin es.length) := ⟨⟨0, hpos⟩⟩
  let enc : _root_.Fin es.length → List Value := fun i => (List.range k').map fun j => arr.getD (i.val * k' + j) undef
  have henc : ∀ x, (enc x).length = k' := fun x => by simp [enc]
  have hget0 : ∀ x : _root_.Fin es.length, es.getD x.val default ∈ es := fun x => by
    rw [List.getD_eq_getElem?_getD, List.getElem?_eq_getElem x.isLt]; exact List.getElem_mem _
  have hcell : ∀ (x : _root_.Fin es.length) (j : Nat), j < k' → ∃ p, (es.getD x.val default).cells[j]? = some p ∧ p.one = true ∧ PVRel w (Mut E L' st.H) p (arr.getD (x.val * k' + j) undef) := fun x j hj => by
    have hw := hwid _ (hget0 x)
    have hl : j < (es.getD x.val default).cells.length := by rw [show (es.getD x.val default).cells.length = k' from hw]; exact hj
    have hes : es[x.val]? = some (es.getD x.val default) := by rw [List.getD_eq_getElem?_getD, List.getElem?_eq_getElem x.isLt]; rfl
    have := e5 x.val _ j _ hes (List.getElem?_eq_getElem hl)
    exact ⟨_, List.getElem?_eq_getElem hl, this.1, this.2⟩
  have h1 : ∀ x, ∀ v ∈ enc x, v.oneCell' = true := fun x v hv => by
    obtain ⟨j, hj, rfl⟩ := List.mem_map.1 hv
    obtain ⟨p, _, r1, r2⟩ := hcell x j (List.mem_range.1 hj)
    exact one_oneCell r2 r1
  let cf' : _root_.Fin es.length → _root_.Fin es.length → Int := fun i j => cf (es.getD i.val default) (es.getD j.val default)
  have hO : SWO (ltOf cf') := ⟨fun x => decide_eq_false (irr _ (q3 _ (hget0 x))),
    fun x y z h1 h2 => decide_eq_true (tr _ _ _ (q3 _ (hget0 x)) (q3 _ (hget0 y)) (q3 _ (hget0 z)) (of_decide_eq_true h1) (of_decide_eq_true h2)),
    fun x y z h1 h2 => decide_eq_false (nt _ _ _ (q3 _ (hget0 x)) (q3 _ (hget0 y)) (q3 _ (hget0 z)) (of_decide_eq_false h1) (of_decide_eq_false h2))⟩
  let dd : Array (_root_.Fin es.length) := Array.ofFn fun i => i
  have hds : dd.size = es.length := Array.size_ofFn
  have eg : ∀ args w, (callFunc c args).run G.P w = .ok (.enter c args) w := fun args w => run_callFunc hEc
  have hcmp : CmpLays G.P c #[] enc k' cf' b 0 dd.size w := by
    intro m os dk hdk x y
    have hX := sortWorld_ext enc k' w b m dk os
    obtain ⟨hφ1, hφ2⟩ := hφ _ _ (q3 _ (hget0 x)) (q3 _ (hget0 y))
    have hkeep : Keeps w (Mut E L' st.H) (sortWorldK enc k' w b 0 m dk os) NoB := fun i hi hn => ⟨hX.block i hi (fun e => hn (.inr ⟨κ, _, cap, hH, by rw [e]; exact g2⟩)), fun h => h⟩
    have hrel : ∀ z : _root_.Fin es.length, PVRel (sortWorldK enc k' w b 0 m dk os) NoB (es.getD z.val default) (.agg (enc z).toArray) := fun z => by
      obtain ⟨cs, ecs, hcl, hone⟩ := hag _ (q3 _ (hget0 z))
      have hc2 := hcell z
      rw [ecs] at hc2 ⊢
      refine .agg _ _ (by simp [henc, hcl]) hone (fun i p hp => ?_)
      have hi : i < k' := by rw [← hcl]; exact (List.getElem?_eq_some_iff.1 hp).1
      obtain ⟨p', r0, _, r2⟩ := hc2 i hi
      have : p' = p := by simp only [PV.cells] at r0; rw [hp] at r0; exact (Option.some.inj r0).symm
      subst this
      have e : (enc z).toArray.getD i undef = arr.getD (z.val * k' + i) undef := by
        simp [enc, Array.getD_eq_getD_getElem?, hi]
      rw [e]; exact r2.keep hkeep
    have hsz : w.heap.size ≤ (sortWorldK enc k' w b 0 m dk os).heap.size := hX.size
    have hcall := (hc _ hφ1).2 NoB (sortWorldK enc k' w b 0 m dk os) (#[.agg (enc x).toArray, .agg (enc y).toArray] ++ #[])
      (G.stable w _ hR.inv (fun i hi => hX.block i (by have := hR.ext.size; have := hR.glob; omega) (fun e => by have := hown.2.1; omega)) hsz)
      (Nat.le_trans hR.glob (Nat.le_trans hR.ext.size hsz)) (fun _ h => h.elim) ⟨by simp, fun i p hp => by
        match i, hp with
        | 0, hp => cases hp; exact hrel x
        | 1, hp => cases hp; exact hrel y⟩
    rw [hφ2] at hcall
    refine (Calls.drawn hcall (fun e w' ⟨v, he, _⟩ => ⟨v, he⟩)).mono ?_
    rintro e w' ⟨⟨v, rfl, hv, hext⟩, hdr⟩
    obtain rfl := rel_int hv
    exact ⟨rfl, grow_of_ext hext hdr⟩
  have hH0 : HoldsK enc k' w b 0 dd := by
    intro j hj
    rw [size_flatK, hds] at hj
    have hk0 : j / k' < es.length := Nat.div_lt_of_lt_mul (by rw [Nat.mul_comm]; exact hj)
    have hdd : dd[j / k']! = ⟨j / k', hk0⟩ := by
      rw [getElem!_pos dd _ (by rw [hds]; exact hk0)]; simp [dd]
    have hm : j % k' < k' := Nat.mod_lt _ hk
    have hval : (flatK enc k' dd)[j]! = arr.getD j undef := by
      rw [get_flatK _ _ _ _ (by rw [hds]; exact hj), hdd]
      simp only [enc]
      rw [getElem!_pos _ _ (by simpa using hm)]
      simp only [List.getElem_map, List.getElem_range]
      rw [Nat.div_add_mod']
    have hlt : j < arr.size := by rw [e2]; exact Nat.lt_of_lt_of_le hj (Nat.mul_le_mul_right _ e3)
    constructor
    · unfold World.cell?
      simp only [Nat.zero_add, e1]
      rw [hval]; simp [Array.getD_eq_getD_getElem?, hlt]
    · unfold World.frozen?
      simp only [e1]
      rfl
  have hsort := AnyQ.slices_SortFunc L k' aE zE enc henc h1 cf' hO c #[] b 0 cap dd w eg hcmp hH0 hb (by rw [hds]; omega)
  rw [hds] at hsort
  refine hsort.mono ?_
  rintro e w' ⟨rfl, d', m, os, hp, hs, rfl⟩
  have hfin := sortPV (lt := fun x y => decide (cf x y < 0)) (OK := OK)
    (fun a b c ha hb hc h1 h2 => decide_eq_false (nt _ _ _ hc hb ha (of_decide_eq_false h2) (of_decide_eq_false h1)))
    (fun a b ha hb h1 => decide_eq_false (fun h2 => irr _ ha (tr _ _ _ ha hb ha (of_decide_eq_true h1) h2))) q3 q4 rfl d' hp (fun i j hij hj => hs i j (Nat.zero_le _) hij hj)
  have hd's : d'.size = es.length := by rw [hp.1]; exact hds
  rw [← hfin] at p4 p5
  have hb1 : (putRowK enc k' (Sort.ahead w m) b 0 d').heap[b]? = some (.cells (putCells id 0 (flatK enc k' d') arr) et (0, 0)) := by
    unfold putRowK
    rw [putRow_heap, if_pos rfl]
    show (w.heap[b]?).map _ = _
    rw [e1]; rfl
  have hR1 := hR.writeBlock' (w' := putRowK enc k' (Sort.ahead w m) b 0 d') (B' := .row k' (d'.toList.map (fun i => es.getD i.val default))) hH g2 ⟨rfl, by omega⟩
    (fun i hi => by unfold putRowK; rw [putRow_heap, if_neg (fun h => hi h.symm)]; rfl) (by rw [size_putRowK]; rfl) rfl rfl rfl (fun M' H' hkp _ => by
      simp only [BRel, g2]
      refine ⟨hk, fun e he => ?_, _, et, hb1, ?_, by omega, e4, fun i e j c he hc' => ?_⟩
      · obtain ⟨x, _, rfl⟩ := List.mem_map.1 he
        exact hwid _ (hget0 x)
      · simp only [putCells, Array.size_mapIdx]; exact e2
      · have hi : i < d'.size := by have := (List.getElem?_eq_some_iff.1 he).1; simpa using this
        have he' : e = es.getD d'[i].val default := by
          have := List.getElem?_eq_some_iff.1 he
          obtain ⟨h1, h2⟩ := this
          rw [← h2]; simp
        subst he'
        have hw := hwid _ (hget0 d'[i])
        have hj : j < k' := by rw [← hw]; exact (List.getElem?_eq_some_iff.1 hc').1
        obtain ⟨p, r0, r1, r2⟩ := hcell d'[i] j hj
        rw [hc'] at r0
        obtain rfl := Option.some.inj r0
        refine ⟨r1, ?_⟩
        have hlt : i * k' + j < d'.size * k' := by
          have := Nat.mul_le_mul_right k' (show i + 1 ≤ d'.size from hi); rw [Nat.add_mul, Nat.one_mul] at this; omega
        have hlt2 : i * k' + j < arr.size := by
          rw [e2]; exact Nat.lt_of_lt_of_le hlt (Nat.mul_le_mul_right _ (by omega))
        have hv : (putCells id 0 (flatK enc k' d') arr).getD (i * k' + j) undef = arr.getD (d'[i].val * k' + j) undef := by
          simp only [putCells, Array.getD_eq_getD_getElem?, Array.getElem?_mapIdx, Array.getElem?_eq_getElem hlt2, Option.map_some, Option.getD_some]
          rw [if_pos ⟨Nat.zero_le _, by rw [size_flatK]; omega⟩]
          simp only [id, Nat.sub_zero]
          rw [get_flatK _ _ _ _ hlt, (blk_iff k' i _ hk).1 ⟨by omega, by omega⟩]
          have hmod : (i * k' + j) % k' = j := by rw [Nat.mul_comm, Nat.mul_add_mod, Nat.mod_eq_of_lt hj]
          rw [hmod, getElem!_pos d' i hi]
          simp only [enc]
          rw [getElem!_pos _ _ (by simpa using hj)]
          simp only [List.getElem_map, List.getElem_range, Array.getD_eq_getD_getElem?]
        rw [hv]; exact r2.keep hkp)
  have hext : Ext NoB (putRowK enc k' (Sort.ahead w m) b 0 d') (sortWorldK enc k' w b 0 m d' os) :=
    .of rfl rfl rfl (by unfold sortWorldK; rw [size_grow]; omega) (fun i hi _ => by unfold sortWorldK; rw [heap_grow_old _ _ hi])
  exact ⟨_, _, _, L', rfl, p5, hR1.grow hext, .pv _ _ (.tup [] #[] rfl (fun i c hc => by simp at hc))⟩
end Go.AM
