/-
  A part of a proof: see the last text of this claim for what is proved.
-/
import Derived.Test.YtamiheckgglgaaaGreatDoorB4d
import Derived.Lib.SplitLaws
import Derived.Test.YtamiheckgglgaaaGreatDoorZMa
/-! bids: read -/
namespace Go.AM
open Go Go.Proofs Go.IntWalk
set_option maxRecDepth 100000
set_option maxHeartbeats 1000000
set_option linter.unusedSimpArgs false
set_option linter.unusedVariables false
def splitQ : PSpec := on_ss (fun s sep => s.length < 4294967281 ∧ 1 ≤ sep.length) (fun s sep => .sl ((Lib.splitK sep 0 (Lib.count s sep) s).map .str))
theorem w_splitQ : PSound GG 58 splitQ := by
  refine PSound.of_shelf ⟨_, Tryz.func58, by kernel_rfl, by kernel_rfl⟩ fun args ha X w vs hi hg hx har => ?_
  obtain ⟨s, sep, rfl, h0, h1⟩ := on_ss_inv ha
  obtain ⟨a, b, rfl, ra, rb⟩ := arel2 har
  obtain rfl := rel_str ra
  obtain rfl := rel_str rb
  obtain ⟨m, hm⟩ := (GG_I hi).2.1
  have hs1 : (ByteArray.mk s.toArray).size = s.length := by simp [ByteArray.size]
  have hs2 : (ByteArray.mk sep.toArray).size = sep.length := by simp [ByteArray.size]
  refine (Any.strings_Split lSplit0 (by kernel_rfl) ⟨s.toArray⟩ ⟨sep.toArray⟩ m w (by omega) hm (by omega)).mono ?_
  rintro e w' ⟨rfl, rfl⟩
  have hd := Lib.splitB_data ⟨sep.toArray⟩ 0 (Lib.countB ⟨s.toArray⟩ ⟨sep.toArray⟩) ⟨s.toArray⟩
  have hall := Lib.splitB_all ⟨sep.toArray⟩ (by omega) 0 _ ⟨s.toArray⟩ rfl
  have hcb : Lib.countB ⟨s.toArray⟩ ⟨sep.toArray⟩ = Lib.count s sep := rfl
  have hle := Lib.countB_le ⟨sep.toArray⟩ (by omega) s.length ⟨s.toArray⟩ (by omega)
  rw [hs1] at hle
  refine ⟨_, rfl, ?_, (RowKit.Below.refl _ w).alloc (Nat.le_refl _) _⟩
  show PVRel _ _ (.sl ((Lib.splitK sep 0 (Lib.count s sep) s).map .str)) _
  have hk : (Lib.splitB ⟨sep.toArray⟩ 0 (Lib.countB ⟨s.toArray⟩ ⟨sep.toArray⟩) ⟨s.toArray⟩).map (·.data.toList) = Lib.splitK sep 0 (Lib.count s sep) s := hd
  generalize hB : Lib.splitB ⟨sep.toArray⟩ 0 (Lib.countB ⟨s.toArray⟩ ⟨sep.toArray⟩) ⟨s.toArray⟩ = ps at hall hk ⊢
  rw [← hall, ← Lib.cellsOf_full]
  refine strs_rel hx _ _ hk _ ?_ ?_ _
  · rw [← hk, List.length_map]; exact Nat.le_refl _
  · simp only [maxLen]; omega
/-- What strconv.Atoi hands out beside its error. -/
def atF (s : List UInt8) : Int :=
  match Lib.atoiAll s with
  | .ok v => v
  | .range => Lib.atoiSat s
  | _ => 0
def erV (T : TypeId) (s : List UInt8) : PV :=
  match Lib.atoiAll s with
  | .ok _ => .nilI
  | _ => .iface T ptrQ
theorem atoiV_eq (T : TypeId) (s : List UInt8) : atoiV T s = .tup [.int .i64 (atF s), erV T s] := by
  unfold atoiV atF erV
  cases Lib.atoiAll s <;> rfl
noncomputable def atoQ : PSpec := atoiQ (lAtoi_ren.t 168)
theorem w_atoQ : PSound GG 59 atoQ := w_atoiS
noncomputable def Bd (g : FuncId) : PSpec := (putΦ (putΦ Bc 58 splitQ) 59 atoQ) g
theorem hBd : TabSound GG Bd := ((hBc.put w_splitQ).put w_atoQ)
theorem k_split {s sep : List UInt8} : Bd 58 [.str s, .str sep] = (s.length < 4294967281 ∧ 1 ≤ sep.length, .sl ((Lib.splitK sep 0 (Lib.count s sep) s).map .str)) := rfl
theorem k_atoi {s : List UInt8} : Bd 59 [.str s] = (s.length ≤ 281474976710656, .tup [.int .i64 (atF s), erV (lAtoi_ren.t 168) s]) := by
  show (s.length ≤ 281474976710656, atoiV (lAtoi_ren.t 168) s) = _
  rw [atoiV_eq]
def rdW : List (List UInt8) → Bid
  | [a, b, c, d] => ⟨atF a, atF b, atF d, atF c, d == freeT⟩
  | _ => ⟨0, 0, 0, 0, false⟩
def readL (s : List UInt8) : Bid := rdW (Lib.splitK [32] 0 (Lib.count s [32]) s)
theorem rdW_not {ws : List (List UInt8)} (h : ws.length ≠ 4) : rdW ws = ⟨0, 0, 0, 0, false⟩ := by
  unfold rdW
  split
  · exact absurd rfl h
  · rfl
theorem splitK_le (sep : List UInt8) : ∀ (k : Nat) (s : List UInt8) (x : List UInt8), x ∈ Lib.splitK sep 0 k s → x.length ≤ s.length
  | 0, s, x, h => by simp only [Lib.splitK, List.mem_singleton] at h; rw [h]; exact Nat.le_refl _
  | k + 1, s, x, h => by
    unfold Lib.splitK at h
    split at h
    · simp only [List.mem_singleton] at h; rw [h]; exact Nat.le_refl _
    · rcases List.mem_cons.1 h with h | h
      · rw [h, List.length_take]; omega
      · have := splitK_le sep k _ x h
        rw [List.length_drop] at this; omega
noncomputable def readS : PSpec := on_s (fun s => s.length ≤ 1000000) (fun s => bidV (readL s))
theorem k_readS_58 {args : List PV} : Bd 58 args = splitQ args := rfl
theorem k_readS_59 {args : List PV} : Bd 59 args = atoQ args := rfl
theorem w_readS : PSound GG 42 readS := by
  refine PSound.of_wpc (C := cxP Tryz.prog Bd [] 43) (T := plan0) Tryz.func42 rfl rfl rfl (Fit.pure (G := GG) hBd mixed) (fun args h => ?_)
  unfold readS at h
  obtain ⟨s, rfl, hp⟩ := on_s_inv h
  refine ⟨by simp [cxP], ?_⟩
  simp only [readS, on_s_eq, Tryz.f42, argL, plan0]
  simp only [k_split, List.length_map, Tryz.underlying1, sz1, by1, ze1, Tryz.underlying3, sz3, by3, ze3, Tryz.underlying4, sz4, by4, ze4, Tryz.underlying9, sz9, by9, ze9, Tryz.underlying29, sz29, by29, ze29, fa29_0, fa29_1, fa29_2, fa29_3, fa29_4, Tryz.underlying57, sz57, by57, ze57, Tryz.underlying58, sz58, by58, ze58, Tryz.underlying69, sz69, by69, ze69, Tryz.underlying85, sz85, by85, ze85, go_sem, ↓reduceIte, reduceCtorEq, Nat.reduceEqDiff, Nat.reduceLT, ↓all_qV, Int.reduceToNat, Int.reduceLT, Int.reduceLE, Nat.reduceAdd, Nat.reduceLeDiff, Nat.reduceMul]
  obtain ⟨ws, hws⟩ : ∃ ws, Lib.splitK [32] 0 (Lib.count s [32]) s = ws := ⟨_, rfl⟩
  have hle : ∀ x, x ∈ ws → x.length ≤ 1000000 := fun x hx => by
    have := splitK_le [32] (Lib.count s [32]) s x (by rw [hws]; exact hx)
    omega
  have hr : readL s = rdW ws := by unfold readL; rw [hws]
  rw [hws, hr]
  refine ⟨by omega, fun h4 => ?_, fun h4 => ?_⟩
  · have h4 : ws.length ≠ 4 := by
      intro e; rw [e] at h4; simp at h4
    rw [rdW_not h4]
    simp only [loadC_eq, bidV, List.take_succ_cons, List.take_nil, Tryz.underlying1, sz1, by1, ze1, Tryz.underlying3, sz3, by3, ze3, Tryz.underlying4, sz4, by4, ze4, Tryz.underlying9, sz9, by9, ze9, Tryz.underlying29, sz29, by29, ze29, fa29_0, fa29_1, fa29_2, fa29_3, fa29_4, Tryz.underlying57, sz57, by57, ze57, Tryz.underlying58, sz58, by58, ze58, Tryz.underlying69, sz69, by69, ze69, Tryz.underlying85, sz85, by85, ze85, go_sem, ↓reduceIte, reduceCtorEq, Nat.reduceEqDiff, Nat.reduceLT, ↓all_qV, Int.reduceToNat, Int.reduceLT, Int.reduceLE, Nat.reduceAdd, Nat.reduceLeDiff, Nat.reduceMul]
    exact okBid
  · have h4 : ws.length = 4 := by
      have := h4
      simp at this
      omega
    match ws, h4 with
    | [w0, w1, w2, w3], _ =>
    have b0 := hle w0 (by simp)
    have b1 := hle w1 (by simp)
    have b2 := hle w2 (by simp)
    have b3 := hle w3 (by simp)
    refine AWp.loop (T := plan0) (α := Nat) (fun i => ([(2, .ptr 2 0), (3, .pv (.sl [.str w0, .str w1, .str w2, .str w3])), (4, .ptr 4 0), (14, .pv (.sl [.str w0, .str w1, .str w2, .str w3])), (15, .pv (.int .i64 4)), (16, .pv (.int .i64 i))],
      [(2, .cells [.pv (.int .i64 0), .pv (.int .i64 0), .pv (.int .i64 0), .pv (.int .i64 0), .pv (.bool false)]), (4, .cells [.pv (.int .i64 (if 0 < i then atF w0 else 0)), .pv (.int .i64 (if 1 < i then atF w1 else 0)), .pv (.int .i64 (if 2 < i then atF w2 else 0)), .pv (.int .i64 (if 3 < i then atF w3 else 0))])])) (fun i => i ≤ 4) (fun i => 4 - i)
      ⟨0, Nat.zero_le _, ⟨by simp [fitR, look], by simp [fitH, hget], rfl, rfl, rfl⟩⟩ ?_
    intro i hi
    have q1 : IntKind.i64.wrap (0 + 1) = 1 := by decide
    have q2 : IntKind.i64.wrap (1 + 1) = 2 := by decide
    have q3 : IntKind.i64.wrap (2 + 1) = 3 := by decide
    have q4 : IntKind.i64.wrap (3 + 1) = 4 := by decide
    match i, hi with
    | 0, _ =>
      simp only [k_atoi, q1, q2, q3, q4, decide_true, decide_false, Tryz.underlying1, sz1, by1, ze1, Tryz.underlying3, sz3, by3, ze3, Tryz.underlying4, sz4, by4, ze4, Tryz.underlying9, sz9, by9, ze9, Tryz.underlying29, sz29, by29, ze29, fa29_0, fa29_1, fa29_2, fa29_3, fa29_4, Tryz.underlying57, sz57, by57, ze57, Tryz.underlying58, sz58, by58, ze58, Tryz.underlying69, sz69, by69, ze69, Tryz.underlying85, sz85, by85, ze85, plan0, go_sem, ↓reduceIte, reduceCtorEq, Nat.reduceEqDiff, Nat.reduceLT, ↓all_qV, Int.reduceToNat, Int.reduceLT, Int.reduceLE, Nat.reduceAdd, Nat.reduceLeDiff, Nat.reduceMul]
      exact ⟨by omega, 1, by omega, by omega, ⟨by simp [fitR, look], by simp [fitH, hget], rfl, rfl, rfl⟩⟩
    | 1, _ =>
      simp only [k_atoi, q1, q2, q3, q4, decide_true, decide_false, Tryz.underlying1, sz1, by1, ze1, Tryz.underlying3, sz3, by3, ze3, Tryz.underlying4, sz4, by4, ze4, Tryz.underlying9, sz9, by9, ze9, Tryz.underlying29, sz29, by29, ze29, fa29_0, fa29_1, fa29_2, fa29_3, fa29_4, Tryz.underlying57, sz57, by57, ze57, Tryz.underlying58, sz58, by58, ze58, Tryz.underlying69, sz69, by69, ze69, Tryz.underlying85, sz85, by85, ze85, plan0, go_sem, ↓reduceIte, reduceCtorEq, Nat.reduceEqDiff, Nat.reduceLT, ↓all_qV, Int.reduceToNat, Int.reduceLT, Int.reduceLE, Nat.reduceAdd, Nat.reduceLeDiff, Nat.reduceMul]
      exact ⟨by omega, 2, by omega, by omega, ⟨by simp [fitR, look], by simp [fitH, hget], rfl, rfl, rfl⟩⟩
    | 2, _ =>
      simp only [k_atoi, q1, q2, q3, q4, decide_true, decide_false, Tryz.underlying1, sz1, by1, ze1, Tryz.underlying3, sz3, by3, ze3, Tryz.underlying4, sz4, by4, ze4, Tryz.underlying9, sz9, by9, ze9, Tryz.underlying29, sz29, by29, ze29, fa29_0, fa29_1, fa29_2, fa29_3, fa29_4, Tryz.underlying57, sz57, by57, ze57, Tryz.underlying58, sz58, by58, ze58, Tryz.underlying69, sz69, by69, ze69, Tryz.underlying85, sz85, by85, ze85, plan0, go_sem, ↓reduceIte, reduceCtorEq, Nat.reduceEqDiff, Nat.reduceLT, ↓all_qV, Int.reduceToNat, Int.reduceLT, Int.reduceLE, Nat.reduceAdd, Nat.reduceLeDiff, Nat.reduceMul]
      exact ⟨by omega, 3, by omega, by omega, ⟨by simp [fitR, look], by simp [fitH, hget], rfl, rfl, rfl⟩⟩
    | 3, _ =>
      simp only [k_atoi, q1, q2, q3, q4, decide_true, decide_false, Tryz.underlying1, sz1, by1, ze1, Tryz.underlying3, sz3, by3, ze3, Tryz.underlying4, sz4, by4, ze4, Tryz.underlying9, sz9, by9, ze9, Tryz.underlying29, sz29, by29, ze29, fa29_0, fa29_1, fa29_2, fa29_3, fa29_4, Tryz.underlying57, sz57, by57, ze57, Tryz.underlying58, sz58, by58, ze58, Tryz.underlying69, sz69, by69, ze69, Tryz.underlying85, sz85, by85, ze85, plan0, go_sem, ↓reduceIte, reduceCtorEq, Nat.reduceEqDiff, Nat.reduceLT, ↓all_qV, Int.reduceToNat, Int.reduceLT, Int.reduceLE, Nat.reduceAdd, Nat.reduceLeDiff, Nat.reduceMul]
      exact ⟨by omega, 4, by omega, by omega, ⟨by simp [fitR, look], by simp [fitH, hget], rfl, rfl, rfl⟩⟩
    | 4, _ =>
      simp only [loadC_eq, bidV, rdW, freeT, decide_true, decide_false, List.take_succ_cons, List.take_nil, Tryz.underlying1, sz1, by1, ze1, Tryz.underlying3, sz3, by3, ze3, Tryz.underlying4, sz4, by4, ze4, Tryz.underlying9, sz9, by9, ze9, Tryz.underlying29, sz29, by29, ze29, fa29_0, fa29_1, fa29_2, fa29_3, fa29_4, Tryz.underlying57, sz57, by57, ze57, Tryz.underlying58, sz58, by58, ze58, Tryz.underlying69, sz69, by69, ze69, Tryz.underlying85, sz85, by85, ze85, plan0, go_sem, ↓reduceIte, reduceCtorEq, Nat.reduceEqDiff, Nat.reduceLT, ↓all_qV, Int.reduceToNat, Int.reduceLT, Int.reduceLE, Nat.reduceAdd, Nat.reduceLeDiff, Nat.reduceMul]
      first | exact ⟨by kernel_rfl, okBid⟩ | exact ⟨by kernel_rfl, okBid, rfl⟩ | (refine ⟨by kernel_rfl, ?_⟩; trace_state; fail)
noncomputable def Bf (g : FuncId) : PSpec := (putΦ Bd 42 readS) g
theorem hBf : TabSound GG Bf := (hBd.put w_readS)
end Go.AM
