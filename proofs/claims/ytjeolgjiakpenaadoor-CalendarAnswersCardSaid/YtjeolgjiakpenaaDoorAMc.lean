/-
  A part of a proof: see the last text of this claim for what is proved.
-/
import Derived.Test.YtjeolgjiakpenaaDoorAMb
namespace Go.AM
open Go
set_option linter.unusedVariables false
set_option linter.unusedSimpArgs false

/-- The frame's slots, and the blocks of the call's own. -/
structure ASt where
  ρ : Nat → AV
  H : AHeap

def upd (ρ : Nat → AV) (d : Nat) (v : AV) : Nat → AV := fun t => if t = d then v else ρ t
/-- A frame by the slots that are known. -/
def look : List (Nat × AV) → Nat → AV
  | [], _ => .top
  | (i, v) :: r, t => if t = i then v else look r t

abbrev PSpec := List PV → Prop × PV
abbrev ESpec := Nat → List AV → ASt → (AV → ASt → Prop) → Prop
abbrev QSpec := List AV → AHeap → Prop × (AV → Prop)
/-- What the walk knows of the program: the frame's size, the callees. -/
structure Ctx where
  P : Program
  N : Nat
  Φ : FuncId → PSpec
  Θ : FuncId → Option QSpec
  Ψ : FuncId → Option ESpec
  rows : List Nat
  pins : List Nat := []

def noSpec : PSpec := fun _ => (False, default)

/-! ### Facts on types -/
def szOf (P : Program) (t : TypeId) : Option Nat := (P.info? t).map (·.size)
def bytesT (P : Program) (t : TypeId) : Option Nat := (P.info? t).map (·.bytes)
def zeroT (P : Program) (t : TypeId) : Option Value := (P.info? t).bind (·.zero)
def isAggD : TypeDesc → Bool
  | .struct _ | .array _ _ => true
  | _ => false
def fieldAt (P : Program) (s : TypeId) (f : Nat) : Option (Nat × TypeId) :=
  match P.underlying s with
  | some (.struct fs) => (fs[f]?).map fun x => (x.offset, x.type)
  | _ => none

/-! ### Operands -/
def ofV1 : Value → AV
  | .int k n => .pv (.int k n)
  | .bool b => .pv (.bool b)
  | .string s => .pv (.str s.data.toList)
  | .nilIface => .pv .nilI
  | .pointer none => .pv .nilP
  | .slice none 0 0 => .nils
  | _ => .top
def ofV : Value → AV
  | .agg cs => .agg (cs.toList.map ofV1)
  | v => ofV1 v
def opndV (ρ : Nat → AV) : Operand → AV
  | .tmp t => ρ t
  | .const v => ofV v
  | .func f => .pv (.fn f [])
  | .global _ => .top
/-- What stands there under a condition. -/
def stripC : AV → Prop
  | .whn b _ => b = true
  | _ => True
def stripV : AV → AV
  | .whn _ v => v
  | v => v
def oc (ρ : Nat → AV) (x : Operand) : Prop := stripC (opndV ρ x)
def ox (ρ : Nat → AV) (x : Operand) : AV := stripV (opndV ρ x)

/-! ### Reading plain data -/
/-- 'n' cells of 'cs' from 'off' on, as the value of a variable of type 't'. -/
def partL (agg : Bool) (n : Nat) (cs : List PV) (off : Nat) : PV :=
  if agg then .agg ((cs.drop off).take n) else cs.getD off default
def partA (agg : Bool) (n : Nat) (cs : List AV) (off : Nat) : AV :=
  if agg then .agg ((cs.drop off).take n) else cs.getD off .top
/-- The value of type 't' that lies at place 'off' of an element. -/
def partP (P : Program) (t : TypeId) (e : PV) (off : Nat) : Prop × AV :=
  match (P.underlying t).map isAggD, szOf P t with
  | some g, some n => (off + n ≤ e.cells.length ∧ (g = false → n = 1), .pv (partL g n e.cells off))
  | _, _ => (False, .top)
def partC (P : Program) (t : TypeId) (cs : List AV) (off : Nat) : Prop × AV :=
  match (P.underlying t).map isAggD, szOf P t with
  | some g, some n => (off + n ≤ cs.length ∧ (g = false → n = 1), partA g n cs off)
  | _, _ => (False, .top)

/-! ### Data handed on -/
def boxP : List PV → PV
  | [c] => c
  | cs => .agg cs
def frz (H : AHeap) : Nat → AV → PV
  | _, .pv p => p
  | _, .nils => .sl []
  | _, .rs key hi => match hget H key with
    | some (.row _ es) => .sl (es.take hi)
    | _ => default
  | _, .rv key lo hi => match hget H key with
    | some (.row _ es) => .sl ((es.take hi).drop lo)
    | _ => default
  | n + 1, .agg cs => .agg (cs.map (frz H n))
  | n + 1, .ptr key off => match hget H key with
    | some (.cells cs) => .pp (boxP (cs.map (frz H n))) off
    | _ => default
  | n + 1, .clo f caps => .fn f (caps.map (frz H n))
  | _, _ => default
def frzOk (H : AHeap) : Nat → AV → Prop
  | _, .pv _ => True
  | _, .nils => True
  | _, .rs key hi => match hget H key with
    | some (.row _ es) => hi ≤ es.length
    | _ => False
  | _, .rv key lo hi => match hget H key with
    | some (.row _ es) => lo ≤ hi ∧ hi ≤ es.length
    | _ => False
  | n + 1, .agg cs => ∀ c, c ∈ cs → c.one = true ∧ frzOk H n c
  | n + 1, .ptr key _ => match hget H key with
    | some (.cells cs) => ∀ c, c ∈ cs → c.one = true ∧ frzOk H n c
    | _ => False
  | n + 1, .clo _ caps => ∀ c, c ∈ caps → frzOk H n c
  | _, _ => False
mutual
/-- No handle stands in it. -/
def AV.free : AV → Bool
  | .pv _ | .nils | .opq _ | .top => true
  | .agg cs => AV.freeL cs
  | .clo _ caps => AV.freeL caps
  | .whn _ v => AV.free v
  | _ => false
def AV.freeL : List AV → Bool
  | [] => true
  | c :: r => AV.free c && AV.freeL r
end
/-- No memory hangs on it. -/
def PV.flat1 : PV → Bool
  | .bool _ | .int _ _ | .str _ | .nilI | .nilP => true
  | _ => false
def PV.flat : PV → Bool
  | .tup vs => vs.all PV.flat1
  | .agg vs => vs.all PV.flat1
  | p => p.flat1

/-- What append takes over. -/
def srcA (H : AHeap) : AV → Option (List PV)
  | .pv (.sl es) => some es
  | .pv (.str s) => some (s.map fun b => .int .u8 b.toNat)
  | .nils => some []
  | .rs key hi => match hget H key with
    | some (.row _ es) => some (es.take hi)
    | _ => none
  | .rv key lo hi => match hget H key with
    | some (.row _ es) => some ((es.take hi).drop lo)
    | _ => none
  | _ => none
def allW (k : Nat) (es : List PV) : Prop := ∀ e, e ∈ es → e.width = k
/-! ### Operations that only compute -/
def binI (op : BinOp) (k : IntKind) (a b : Int) : Prop × PV :=
  match op with
  | .add => (True, .int k (k.wrap (a + b)))
  | .sub => (True, .int k (k.wrap (a - b)))
  | .mul => (True, .int k (k.wrap (a * b)))
  | .quo => (b ≠ 0, .int k (k.wrap (a.tdiv b)))
  | .rem => (b ≠ 0, .int k (a.tmod b))
  | .eql => (True, .bool (a == b))
  | .neq => (True, .bool (a != b))
  | .lss => (True, .bool (decide (a < b)))
  | .leq => (True, .bool (decide (a ≤ b)))
  | .gtr => (True, .bool (decide (b < a)))
  | .geq => (True, .bool (decide (b ≤ a)))
  | _ => (False, default)
def binS (op : BinOp) (a b : List UInt8) : Prop × PV :=
  match op with
  | .add => (a.length + b.length ≤ 9223372036854775807, .str (a ++ b))
  | .eql => (True, .bool (a == b))
  | .neq => (True, .bool (!(a == b)))
  | .lss => (True, .bool (Op.bytesLess a b))
  | .leq => (True, .bool (Op.bytesLess a b || a == b))
  | .gtr => (True, .bool (!(Op.bytesLess a b || a == b)))
  | .geq => (True, .bool (!Op.bytesLess a b))
  | _ => (False, default)
def isBoolD : Option TypeDesc → Bool
  | some .bool => true
  | _ => false
def isIfaceD : Option TypeDesc → Bool
  | some (.interface _) => true
  | _ => false
def isPtrD : Option TypeDesc → Bool
  | some (.pointer _) => true
  | _ => false
/-- '==' on values that are no numbers and no strings ('c': one of the operands is a constant). -/
def eqP (d : Option TypeDesc) (c : Bool) : PV → PV → Prop × Bool
  | .bool a, .bool b => (isBoolD d = true, a == b)
  | .nilI, .nilI => (isIfaceD d = true ∧ c = true, true)
  | .nilI, .iface _ _ => (isIfaceD d = true, false)
  | .iface _ _, .nilI => (isIfaceD d = true, false)
  | .nilP, .nilP => (isPtrD d = true, true)
  | .nilP, .pp _ _ => (isPtrD d = true, false)
  | .pp _ _, .nilP => (isPtrD d = true, false)
  | _, _ => (False, false)
def binP (op : BinOp) (d : Option TypeDesc) (c : Bool) : PV → PV → Prop × PV
  | .int k a, .int k' b => (k = k' ∧ (binI op k a b).1, (binI op k a b).2)
  | .str a, .str b => binS op a b
  | p, q => match op with
    | .eql => ((eqP d c p q).1, .bool (eqP d c p q).2)
    | .neq => ((eqP d c p q).1, .bool (!(eqP d c p q).2))
    | _ => (False, default)
def binA (op : BinOp) (d : Option TypeDesc) (c : Bool) : AV → AV → Prop × AV
  | .pv p, .pv q => ((binP op d c p q).1, .pv (binP op d c p q).2)
  | _, _ => (False, .top)
def isC : Operand → Bool
  | .const _ => true
  | _ => false
def unP (op : UnOp) : PV → Prop × PV
  | .bool b => (op = .not, .bool (!b))
  | .int k n => (op = .neg, .int k (k.wrap (0 - n)))
  | _ => (False, default)
def unA (op : UnOp) : AV → Prop × AV
  | .pv p => ((unP op p).1, .pv (unP op p).2)
  | _ => (False, .top)
def pickA (ρ : Nat → AV) (c a b : Operand) : Prop × AV :=
  match ox ρ c, ox ρ a, ox ρ b with
  | .pv (.bool t), .pv (.bool x), .pv (.bool y) => (oc ρ c ∧ (t = true → oc ρ a) ∧ (t = false → oc ρ b), .pv (.bool (bif t then x else y)))
  | _, _, _ => (False, .top)
def convP (src dst : Option TypeDesc) : PV → Prop × PV
  | .int _ n => match src, dst with
    | some _, some (.int k) => (True, .int k (k.wrap n))
    | _, _ => (False, default)
  | .str s => match src, dst with
    | some .string, some .string => (True, .str s)
    | _, _ => (False, default)
  | _ => (False, default)
def isStrV : AV → Bool
  | .pv (.str _) => true
  | _ => false
def isU8 : PV → Bool
  | .int .u8 _ => true
  | _ => false
def toByte : PV → UInt8
  | .int _ n => UInt8.ofNat n.toNat
  | _ => 0
def isByteD : Option TypeDesc → Bool
  | some (.int .u8) => true
  | _ => false
def convA (P : Program) (H : AHeap) (src dst : TypeId) (v : AV) : Prop × AV :=
  match P.underlying src, P.underlying dst with
  | some (.slice e), some .string => match srcA H v with
    | some es => (isByteD (P.underlying e) = true ∧ isStrV v = false ∧ es.all isU8 = true, .pv (.str (es.map toByte)))
    | none => (False, .top)
  | ds, dd => match v with
    | .pv p => ((convP ds dd p).1, .pv (convP ds dd p).2)
    | _ => (False, .top)
def extractA (i : Nat) : AV → Prop × AV
  | .pv (.tup vs) => (i < vs.length, .pv (vs.getD i default))
  | _ => (False, .top)
def fieldV (P : Program) (t : TypeId) (f : Nat) (x : AV) : Prop × AV :=
  match fieldAt P t f, x with
  | some (off, ft), .pv (.agg cs) => partP P ft (.agg cs) off
  | some (off, ft), .agg cs => partC P ft cs off
  | _, _ => (False, .top)
def addOff (n : Nat) : AV → Prop × AV
  | .ptr key off => (True, .ptr key (off + n))
  | .rp key i off => (True, .rp key i (off + n))
  | .pv (.pp e off) => (True, .pv (.pp e (off + n)))
  | _ => (False, .top)
def fieldAddrA (P : Program) (t : TypeId) (f : Nat) (x : AV) : Prop × AV :=
  match fieldAt P t f with
  | some (off, ft) => ((addOff off x).1 ∧ (szOf P ft).isSome ∧ szOf P ft ≠ some 0, (addOff off x).2)
  | none => (False, .top)
def indexAddrA (P : Program) (H : AHeap) (t : TypeId) (x i : AV) : Prop × AV :=
  match P.underlying t, x, i with
  | some (.slice e), .pv (.sl es), .pv (.int _ n) => (0 ≤ n ∧ n < es.length ∧ szOf P e = some (PV.nth es n.toNat).width, .pv (.pp (PV.nth es n.toNat) 0))
  | some (.slice e), .rs key hi, .pv (.int _ n) => match hget H key with
    | some (.row k _) => (0 ≤ n ∧ n < hi ∧ szOf P e = some k, .rp key n.toNat 0)
    | _ => (False, .top)
  | some (.slice e), .rv key lo hi, .pv (.int _ n) => match hget H key with
    | some (.row k _) => (0 ≤ n ∧ n < (hi : Int) - lo ∧ szOf P e = some k, .rp key (lo + n.toNat) 0)
    | _ => (False, .top)
  | some (.array len e), y, .pv (.int _ n) => match szOf P e with
    | some sz => (0 ≤ n ∧ n < len ∧ (addOff (n.toNat * sz) y).1, (addOff (n.toNat * sz) y).2)
    | none => (False, .top)
  | _, _, _ => (False, .top)
def indexA (P : Program) (t : TypeId) (x i : AV) : Prop × AV :=
  match P.underlying t, x, i with
  | some .string, .pv (.str s), .pv (.int _ n) => (0 ≤ n ∧ n < s.length, .pv (.int .u8 (s.getD n.toNat 0).toNat))
  | some (.array len e), .pv (.agg cs), .pv (.int _ n) => match szOf P e with
    | some sz => (0 ≤ n ∧ n < len ∧ (partP P e (.agg cs) (n.toNat * sz)).1, (partP P e (.agg cs) (n.toNat * sz)).2)
    | none => (False, .top)
  | some (.array len e), .agg cs, .pv (.int _ n) => match szOf P e with
    | some sz => (0 ≤ n ∧ n < len ∧ (partC P e cs (n.toNat * sz)).1, (partC P e cs (n.toNat * sz)).2)
    | none => (False, .top)
  | _, _, _ => (False, .top)
def loadA (P : Program) (H : AHeap) (t : TypeId) : AV → Prop × AV
  | .ptr key off => match hget H key with
    | some (.cells cs) => partC P t cs off
    | _ => (False, .top)
  | .rp key i off => match hget H key with
    | some (.row _ es) => (i < es.length ∧ (partP P t (PV.nth es i) off).1, (partP P t (PV.nth es i) off).2)
    | _ => (False, .top)
  | .pv (.pp e off) => partP P t e off
  | _ => (False, .top)
def nilCheckA : AV → Prop × AV
  | .ptr key off => (True, .ptr key off)
  | .rp key i off => (True, .rp key i off)
  | .pv (.pp e off) => (True, .pv (.pp e off))
  | .pv (.fn f cs) => (True, .pv (.fn f cs))
  | .clo f cs => (True, .clo f cs)
  | _ => (False, .top)
def natOf : Option AV → Nat → Option Int
  | none, d => some d
  | some (.pv (.int _ n)), _ => some n
  | _, _ => none
def sliceA (P : Program) (t : TypeId) (x : AV) (lo hi mx : Option AV) : Prop × AV :=
  match P.underlying t, x, mx with
  | some .string, .pv (.str s), none => match natOf lo 0, natOf hi s.length with
    | some l, some h => (0 ≤ l ∧ l ≤ h ∧ h ≤ s.length, .pv (.str ((s.take h.toNat).drop l.toNat)))
    | _, _ => (False, .top)
  | some (.slice e), .pv (.sl es), none => match natOf lo 0, natOf hi es.length with
    | some l, some h => (0 ≤ l ∧ l ≤ h ∧ h ≤ es.length ∧ (szOf P e).isSome ∧ (∀ p, p ∈ es → szOf P e = some p.width), .pv (.sl ((es.take h.toNat).drop l.toNat)))
    | _, _ => (False, .top)
  | some (.slice e), .nils, none => match natOf lo 0, natOf hi 0 with
    | some l, some h => (l = 0 ∧ h = 0 ∧ (szOf P e).isSome, .pv (.sl []))
    | _, _ => (False, .top)
  | _, _, _ => (False, .top)
def isStrD : Option TypeDesc → Bool
  | some .string => true
  | _ => false
def isSliceD : Option TypeDesc → Bool
  | some (.slice _) => true
  | _ => false
def lenA (d : Option TypeDesc) (H : AHeap) : AV → Prop × AV
  | .pv (.str s) => (isStrD d = true, .pv (.int .i64 s.length))
  | .pv (.sl es) => (isSliceD d = true, .pv (.int .i64 es.length))
  | .nils => (isSliceD d = true, .pv (.int .i64 0))
  | .rs key hi => match hget H key with
    | some (.row _ _) => (isSliceD d = true, .pv (.int .i64 hi))
    | _ => (False, .top)
  | .rv key lo hi => match hget H key with
    | some (.row _ _) => (isSliceD d = true, .pv (.int .i64 ((hi - lo : Nat) : Int)))
    | _ => (False, .top)
  | _ => (False, .top)
def foldI (pick : Int → Int → Int) (k : IntKind) : Int → List AV → Option (IntKind × Int)
  | a, [] => some (k, a)
  | a, .pv (.int _ b) :: r => foldI pick k (pick a b) r
  | _, _ => none
def minmaxA (pick : Int → Int → Int) : List AV → Prop × AV
  | .pv (.int k a) :: r => match foldI pick k a r with
    | some (k, a) => (True, .pv (.int k a))
    | none => (False, .top)
  | _ => (False, .top)
def ifaceA (P : Program) (t : TypeId) : AV → Prop × AV
  | .pv p => (match P.underlying t with | some (.interface _) => False | some _ => True | none => False, .pv (.iface t p))
  | _ => (False, .top)
def pvL : List AV → Option (List PV)
  | [] => some []
  | .pv p :: r => (pvL r).map (p :: ·)
  | _ :: _ => none
def makeFuncA (fn : Fn) (first caps : List AV) : Prop × AV :=
  match fn, first with
  | .func f, [] => match pvL caps with
    | some ps => (True, .pv (.fn f ps))
    | none => (True, .clo f caps)
  | _, _ => (False, .top)
/-- 'vs' laid over 'cs' from 'off' on. -/
def putL : Nat → List AV → List AV → List AV
  | _, [], cs => cs
  | off, v :: vs, cs => putL (off + 1) vs (cs.set off v)
def cellsA : AV → List AV
  | .pv (.agg cs) => cs.map AV.pv
  | .agg cs => cs
  | v => [v]
/-- 'parts' laid over 'cells' (each at its place, of its size). -/
def fillA (place : Nat → Option (Nat × Nat)) (cells : List AV) : List (Nat × AV) → Option (List AV)
  | [] => some cells
  | (i, v) :: rest => match place i with
    | none => none
    | some (off, size) =>
      if (cellsA v).length = size ∧ off + size ≤ cells.length then fillA place (putL off (cellsA v) cells) rest else none
def packA (cs : List AV) : AV :=
  match pvL cs with
  | some ps => .pv (.agg ps)
  | none => .agg cs
def fieldPlaces (P : Program) (fs : List Field) : Nat → Option (Nat × Nat) := fun i =>
  match fs[i]? with
  | some f => (szOf P f.type).map fun n => (f.offset, n)
  | none => none
def buildA (P : Program) (t : TypeId) (parts : List (Nat × AV)) : Prop × AV :=
  match zeroT P t with
  | some z => match P.underlying t with
    | some (.struct fs) => match fillA (fieldPlaces P fs.toList) (cellsA (ofV z)) parts with
      | some cs => (fs.toList.all (fun f => (szOf P f.type).isSome) = true ∧ parts.all (fun x => (cellsA x.2).all AV.one) = true ∧ (cellsA (ofV z)).all AV.one = true, packA cs)
      | none => (False, .top)
    | some (.array _ e) => match szOf P e with
      | some n => match fillA (fun i => some (i * n, n)) (cellsA (ofV z)) parts with
        | some cs => (parts.all (fun x => (cellsA x.2).all AV.one) = true ∧ (cellsA (ofV z)).all AV.one = true, packA cs)
        | none => (False, .top)
      | none => (False, .top)
    | _ => (False, .top)
  | none => (False, .top)
def idxOk : Nat → List Nat → Bool
  | _, [] => true
  | i, x :: r => (x == i) && idxOk (i + 1) r
def elemOk (H : AHeap) (k : Nat) : List AV → Prop
  | [] => True
  | v :: r => (v.free = true ∧ frzOk H 4 v ∧ (frz H 4 v).width = k ∧ (frz H 4 v).cells.all PV.one = true) ∧ elemOk H k r
def buildSliceA (P : Program) (H : AHeap) (t : TypeId) (len : Nat) (parts : List (Nat × AV)) : Prop × AV :=
  match P.underlying t with
  | some (.slice e) => match szOf P e, zeroT P e with
    | some k, some z => (idxOk 0 (parts.map (·.1)) = true ∧ parts.length = len ∧ len * k ≤ 16777216 ∧ 0 < k ∧ elemOk H k (parts.map (·.2)), .pv (.sl ((parts.map (·.2)).map (frz H 4))))
    | _, _ => (False, .top)
  | _ => (False, .top)
/-- A callee: its number, and what it has captured. -/
def calleeA : AV → Option (FuncId × List AV)
  | .pv (.fn f caps) => some (f, caps.map AV.pv)
  | .clo f caps => some (f, caps)
  | _ => none
def callP (C : Ctx) (H : AHeap) (c : AV) (args : List AV) : Prop × AV :=
  match c with
  | .opq φ => ((∀ a, a ∈ args → frzOk H 4 a) ∧ (φ (args.map (frz H 4))).1 ∧ ((φ (args.map (frz H 4))).2.flat = true ∨ AV.freeL args = true), .pv (φ (args.map (frz H 4))).2)
  | c => match calleeA c with
    | some (f, caps) => ((∀ a, a ∈ args ++ caps → frzOk H 4 a) ∧ (C.Φ f ((args ++ caps).map (frz H 4))).1 ∧
        ((C.Φ f ((args ++ caps).map (frz H 4))).2.flat = true ∨ AV.freeL (args ++ caps) = true), .pv (C.Φ f ((args ++ caps).map (frz H 4))).2)
    | none => (False, .top)
def allC (ρ : Nat → AV) : List Operand → Prop
  | [] => True
  | x :: r => oc ρ x ∧ allC ρ r
/-- WHAT AN OPERATION ASKS, AND WHAT IT YIELDS. -/
def aopP (C : Ctx) (ρ : Nat → AV) (H : AHeap) : Op → Prop × AV
  | .move x | .assign x => (True, opndV ρ x)
  | .pick c a b => pickA ρ c a b
  | .binOp op t x y _ => (oc ρ x ∧ oc ρ y ∧ (binA op (C.P.underlying t) (isC x || isC y) (ox ρ x) (ox ρ y)).1, (binA op (C.P.underlying t) (isC x || isC y) (ox ρ x) (ox ρ y)).2)
  | .unOp op _ x => (oc ρ x ∧ (unA op (ox ρ x)).1, (unA op (ox ρ x)).2)
  | .convert s d x => (oc ρ x ∧ (convA C.P H s d (ox ρ x)).1, (convA C.P H s d (ox ρ x)).2)
  | .extract x i => (oc ρ x ∧ (extractA i (ox ρ x)).1, (extractA i (ox ρ x)).2)
  | .field t x f => (oc ρ x ∧ (fieldV C.P t f (ox ρ x)).1, (fieldV C.P t f (ox ρ x)).2)
  | .fieldAddr t x f => (oc ρ x ∧ (fieldAddrA C.P t f (ox ρ x)).1, (fieldAddrA C.P t f (ox ρ x)).2)
  | .indexAddr t x i => (oc ρ x ∧ oc ρ i ∧ (indexAddrA C.P H t (ox ρ x) (ox ρ i)).1, (indexAddrA C.P H t (ox ρ x) (ox ρ i)).2)
  | .index t x i => (oc ρ x ∧ oc ρ i ∧ (indexA C.P t (ox ρ x) (ox ρ i)).1, (indexA C.P t (ox ρ x) (ox ρ i)).2)
  | .load t x => (oc ρ x ∧ (loadA C.P H t (ox ρ x)).1, (loadA C.P H t (ox ρ x)).2)
  | .nilCheck x => (oc ρ x ∧ (nilCheckA (ox ρ x)).1, (nilCheckA (ox ρ x)).2)
  | .slice t x lo hi mx => (oc ρ x ∧ allC ρ (lo.toList ++ hi.toList ++ mx.toList) ∧ (sliceA C.P t (ox ρ x) (lo.map (ox ρ)) (hi.map (ox ρ)) (mx.map (ox ρ))).1, (sliceA C.P t (ox ρ x) (lo.map (ox ρ)) (hi.map (ox ρ)) (mx.map (ox ρ))).2)
  | .makeInterface t x => (oc ρ x ∧ (ifaceA C.P t (ox ρ x)).1, (ifaceA C.P t (ox ρ x)).2)
  | .makeFunc fn first caps => (allC ρ (first.toList ++ caps.toList) ∧ (makeFuncA fn (first.toList.map (ox ρ)) (caps.toList.map (ox ρ))).1, (makeFuncA fn (first.toList.map (ox ρ)) (caps.toList.map (ox ρ))).2)
  | .build t parts => (allC ρ (parts.toList.map (·.2)) ∧ (buildA C.P t (parts.toList.map fun x => (x.1, ox ρ x.2))).1, (buildA C.P t (parts.toList.map fun x => (x.1, ox ρ x.2))).2)
  | .buildSlice t len parts => (allC ρ (parts.toList.map (·.2)) ∧ (buildSliceA C.P H t len (parts.toList.map fun x => (x.1, ox ρ x.2))).1, (buildSliceA C.P H t len (parts.toList.map fun x => (x.1, ox ρ x.2))).2)
  | .call { callee := .builtin .len, args, argTypes } => match args.toList, argTypes.toList with
    | [x], [t] => (oc ρ x ∧ (lenA (C.P.underlying t) H (ox ρ x)).1, (lenA (C.P.underlying t) H (ox ρ x)).2)
    | _, _ => (False, .top)
  | .call { callee := .builtin .min, args, .. } => (allC ρ args.toList ∧ (minmaxA (fun a b => if b < a then b else a) (args.toList.map (ox ρ))).1, (minmaxA (fun a b => if b < a then b else a) (args.toList.map (ox ρ))).2)
  | .call { callee := .builtin .max, args, .. } => (allC ρ args.toList ∧ (minmaxA (fun a b => if b > a then b else a) (args.toList.map (ox ρ))).1, (minmaxA (fun a b => if b > a then b else a) (args.toList.map (ox ρ))).2)
  | .call { callee := .value f, args, .. } => (oc ρ f ∧ allC ρ args.toList ∧ (callP C H (ox ρ f) (args.toList.map (ox ρ))).1, (callP C H (ox ρ f) (args.toList.map (ox ρ))).2)
  | _ => (False, .top)
end Go.AM
