/- AN ABSTRACT MACHINE over the kit's code: slices are values, memory is small, no capacities, no draws. Definitions alone. -/
import Derived.Calls
import Derived.Scope
import Derived.Orders
set_option linter.unusedSimpArgs false
set_option linter.unusedVariables false
namespace Go.AM
open Go

inductive Right where
  | tip (t : Nat) | full | ro
  deriving DecidableEq, Inhabited

inductive AV where
  | bool (b : Bool) | int (k : IntKind) (n : Int) | str (s : ByteArray)
  | slice (r : Right) (k : Nat) (cells : List AV) (n : Nat)
  | nilSlice
  | hsl (b k off n : Nat)
  | ptr (b off : Nat) | nilPtr
  | rptr (cells : List AV)
  | map (b : Nat) | nilMap
  | func (f : FuncId) (first captured : List AV) | nilFunc
  | iface (t : TypeId) (v : AV) | nilIface
  | agg (cells : List AV)
  | tuple (vs : List AV)
  | iter (b : Nat)
  | junk
  deriving Inhabited

inductive Cell where
  | dead
  | cells (cs : List AV)
  | row (e : TypeId) (k : Nat) (cs : List AV)
  | map (es : List (AV × AV))
  | iter (s : ByteArray) (pos : Nat)
  deriving Inhabited

structure Heap where
  objs : Nat → Cell
  tips : Nat → Option TypeId
  next : Nat

def Heap.set (H : Heap) (b : Nat) (c : Cell) : Heap := { H with objs := fun x => if x = b then c else H.objs x }
def Heap.new (H : Heap) (c : Cell) : Heap := { objs := fun x => if x = H.next then c else H.objs x, tips := H.tips, next := H.next + 1 }
def Heap.newTip (H : Heap) (e : TypeId) : Heap := { objs := H.objs, tips := fun x => if x = H.next then some e else H.tips x, next := H.next + 1 }
def Heap.spend (H : Heap) (t : Nat) : Heap := { H with tips := fun x => if x = t then none else H.tips x }

/-- Values without memory. -/
def toS0 : AV → Option Value
  | .bool b => some (.bool b)
  | .int k n => some (.int k n)
  | .str s => some (.string s)
  | .nilSlice => some (.slice none 0 0)
  | .nilPtr => some (.pointer none)
  | .nilMap => some (.map none)
  | .nilFunc => some .nilFunc
  | .nilIface => some .nilIface
  | _ => none
def toL : List AV → Option (List Value)
  | [] => some []
  | x :: xs => match toS0 x, toL xs with
    | some v, some vs => some (v :: vs)
    | _, _ => none
def toV : AV → Option Value
  | .agg cs => (toL cs).map fun l => .agg l.toArray
  | .iface t v => (toS0 v).map (.iface t)
  | v => toS0 v
def ofS0 : Value → Option AV
  | .bool b => some (.bool b)
  | .int k n => some (.int k n)
  | .string s => some (.str s)
  | .slice none 0 0 => some .nilSlice
  | .pointer none => some .nilPtr
  | .map none => some .nilMap
  | .nilFunc => some .nilFunc
  | .nilIface => some .nilIface
  | .func (.func f) ⟨[]⟩ ⟨[]⟩ => some (.func f [] [])
  | _ => none
def ofL : List Value → Option (List AV)
  | [] => some []
  | x :: xs => match ofS0 x, ofL xs with
    | some v, some vs => some (v :: vs)
    | _, _ => none
def ofV : Value → Option AV
  | .agg cs => (ofL cs.toList).map .agg
  | .tuple ⟨[]⟩ => some (.tuple [])
  | v => ofS0 v

/-- A computation that asks nothing of the world. -/
def pureAt {α : Type} (P : Program) : Sem α → Option α
  | .pure a => some a
  | .program k => pureAt P (k P)
  | _ => none

/-- The cells of a value. -/
def AV.flat : AV → Option (List AV)
  | .agg cs => some cs
  | .tuple _ => none
  | .junk => none
  | v => some [v]

structure AAct where
  n : Nat
  get : Nat → AV

def AAct.put (a : AAct) (dst : Option Tmp) (v : AV) : AAct :=
  match dst with
  | some d => if d < a.n then { a with get := fun x => if x = d then v else a.get x } else a
  | none => a

def AAct.eval (a : AAct) : Operand → Option AV
  | .tmp t => some (if t < a.n then a.get t else .tuple [])
  | .const v => ofV v
  | .func f => some (.func f [] [])
  | .global _ => none

/-- What the proof chooses: where a slice is memory that is written; where one becomes a value. -/
structure Hints where
  heap : FuncId → Tmp → Bool
  freeze : FuncId → Tmp → Bool

section ops
variable (P : Program)

def sizeOf? (t : TypeId) : Option Nat := (P.info? t).map (·.size)
def isAgg? (t : TypeId) : Option Bool :=
  match P.underlying t with
  | some (.struct _) | some (.array _ _) => some true
  | some _ => some false
  | none => none

/-- The value of a type at the head of some cells. -/
def takeVar (t : TypeId) (cs : List AV) : Option AV :=
  match isAgg? P t, sizeOf? P t with
  | some true, some n => if n ≤ cs.length then some (.agg (cs.take n)) else none
  | some false, some _ => cs.head?
  | _, _ => none

def setAt (cs : List AV) (off : Nat) (vs : List AV) : List AV := cs.take off ++ vs ++ cs.drop (off + vs.length)

def fillAt (place : Nat → Option (Nat × Nat)) : List AV → List (Nat × AV) → Option (List AV)
  | cells, [] => some cells
  | cells, (i, v) :: rest =>
    match place i with
    | none => none
    | some (off, size) => match v.flat with
      | some vs => if vs.length = size ∧ off + vs.length ≤ cells.length then fillAt place (setAt cells off vs) rest else none
      | none => none

def zeroVal (t : TypeId) : Option AV := ((P.info? t).bind (·.zero)).bind ofV
/-- The cells of a type's zero. -/
def zeroOf (t : TypeId) : Option (List AV) := (zeroVal P t).bind AV.flat

/-- Which of a struct's fields lies where. -/
def placesOf (t : TypeId) : Option (Nat → Option (Nat × Nat)) :=
  match P.underlying t with
  | some (.struct fields) => (fields.toList.mapM fun f => (P.info? f.type).map fun i => (f.offset, i.size)).map fun l => fun i => l[i]?
  | some (.array _ elem) => (P.info? elem).map fun i => fun j => some (j * i.size, i.size)
  | _ => none

def zeroCellsL (z : List AV) : Nat → List AV
  | 0 => []
  | n + 1 => z ++ zeroCellsL z n

/-- A new slice over new cells. -/
def newSlice (heapKind : Bool) (e : TypeId) (k : Nat) (cells : List AV) (n : Nat) (H : Heap) : AV × Heap :=
  if heapKind then (.hsl H.next k 0 n, H.new (.row e k cells))
  else (.slice (.tip H.next) k cells n, H.newTip e)

/-- The cells of a slice's elements, and how many elements. -/
def bytesCells (s : ByteArray) : List AV := s.data.toList.map fun b => .int .u8 b.toNat
def sliceCells (k : Nat) (H : Heap) : AV → Option (List AV × Nat)
  | .str s => if k = 1 then some (bytesCells s, s.size) else none
  | .slice _ k' cells n => if k' = k then some (cells, n) else none
  | .nilSlice => some ([], 0)
  | .hsl b k' off n => if k' = k then
      match H.objs b with
      | .row _ k'' cs => if k'' = k ∧ off + n * k ≤ cs.length then some ((cs.drop off).take (n * k), n) else none
      | _ => none
    else none
  | _ => none

def elemOf? (t : TypeId) : Option TypeId :=
  match P.underlying t with
  | some (.slice e) => some e
  | _ => none

def roomy (n bytes : Nat) : Bool := n * (bytes + 1) ≤ 70368744177664

def srcOk (t : TypeId) : Bool :=
  match P.underlying t with
  | some (.int _) => false
  | some _ => true
  | none => false

def appendA (heapKind : Bool) (t t' : TypeId) (s x : AV) (H : Heap) : Option (AV × Heap) :=
  match elemOf? P t with
  | none => none
  | some e => match P.info? e with
    | none => none
    | some i =>
      let k := i.size
      if srcOk P t' = true ∧ 0 < k ∧ ((zeroOf P e).map List.length) = some k then
      match sliceCells k H x with
      | none => none
      | some (xs, m) =>
        match s with
        | .nilSlice => if m = 0 then some (.nilSlice, H) else if roomy m i.bytes then some (newSlice heapKind e k xs m H) else none
        | .slice .full k' cells n => if k' = k then
            if m = 0 then some (s, H) else if roomy (n + m) i.bytes then some (newSlice heapKind e k (cells ++ xs) (n + m) H) else none
          else none
        | .slice (.tip t) k' cells n => if k' = k ∧ H.tips t = some e ∧ heapKind = false then
            if m = 0 then some (s, H) else if roomy (n + m) i.bytes then some (newSlice false e k (cells ++ xs) (n + m) (H.spend t)) else none
          else none
        | .slice .ro _ _ _ => if m = 0 then some (s, H) else none
        | .hsl b k' off n => if k' = k ∧ off = 0 ∧ heapKind = true then
            match H.objs b with
            | .row e' k'' cs => if e' = e ∧ k'' = k ∧ n * k ≤ cs.length then
                if m = 0 then some (s, H) else if roomy (n + m) i.bytes then some (newSlice true e k (cs.take (n * k) ++ xs) (n + m) (H.set b .dead)) else none
              else none
            | _ => none
          else none
        | _ => none
      else none

/-- Two values of which one is nil. -/
def nilSide : AV → Option Bool
  | .nilSlice | .nilPtr | .nilMap | .nilFunc | .nilIface => some true
  | .slice .. | .hsl .. | .ptr .. | .rptr .. | .map .. | .func .. | .iface .. => some false
  | _ => none
def nilKind : AV → Option Nat
  | .nilSlice | .slice .. | .hsl .. => some 0
  | .nilPtr | .ptr .. | .rptr .. => some 1
  | .nilMap | .map .. => some 2
  | .nilFunc | .func .. => some 3
  | .nilIface | .iface .. => some 4
  | _ => none
def nilType (t : TypeId) : Option Nat :=
  match P.underlying t with
  | some (.slice _) => some 0
  | some (.pointer _) => some 1
  | some (.map ..) => some 2
  | some (.func ..) => some 3
  | some (.interface _) => some 4
  | _ => none
def nilEq (t : TypeId) (x y : AV) : Option Bool :=
  if nilKind x = nilType P t ∧ nilKind y = nilType P t ∧ (nilType P t).isSome then
    match nilSide x, nilSide y with
    | some true, some b => some b
    | some b, some true => some b
    | _, _ => none
  else none

def binOpA (op : BinOp) (t : TypeId) (ox oy : Operand) (x y : AV) : Option AV :=
  match toV x, toV y with
  | some vx, some vy =>
    match pureAt P (eqGuard op t ox oy vx vy) with
    | some _ => (pureAt P (Go.binOp op t vx vy)).bind ofV
    | none => none
  | _, _ =>
    match op with
    | .eql => (nilEq P t x y).map .bool
    | .neq => (nilEq P t x y).map fun b => .bool (!b)
    | _ => none

def natOf : AV → Option Nat
  | .int _ n => if 0 ≤ n then some n.toNat else none
  | _ => none

def byteOfA : AV → Option UInt8
  | .int .u8 n => some (UInt8.ofNat n.toNat)
  | _ => none
def bytesOfA : List AV → Option (List UInt8)
  | [] => some []
  | x :: xs => match byteOfA x, bytesOfA xs with
    | some b, some bs => some (b :: bs)
    | _, _ => none

def sameKey : AV → AV → Option Bool
  | .int k a, .int k' b => if k = k' then some (a == b) else none
  | .str a, .str b => some (a == b)
  | .bool a, .bool b => some (a == b)
  | _, _ => none
def findA (k : AV) : List (AV × AV) → Option (Option AV)
  | [] => some none
  | (k', v) :: r => match sameKey k k' with
    | some true => some (some v)
    | some false => findA k r
    | none => none
def putA (k v : AV) : List (AV × AV) → List (AV × AV)
  | [] => [(k, v)]
  | (k', v') :: r => match sameKey k k' with
    | some true => (k, v) :: r
    | _ => (k', v') :: putA k v r
/-- A key of a map: an int, a string or a bool, as the map's type says. -/
def keyOk (t : TypeId) (k : AV) : Bool :=
  match P.underlying t, k with
  | some (.int j), .int j' _ => j == j'
  | some .string, .str _ => true
  | some .bool, .bool _ => true
  | _, _ => false

def moveA (frz : Bool) (H : Heap) : AV → Option (AV × Heap)
  | .hsl b k off n => if frz then
      match H.objs b with
      | .row _ k' cs => if k' = k ∧ off = 0 ∧ n * k ≤ cs.length then some (.slice .ro k (cs.take (n * k)) n, H.set b .dead) else none
      | _ => none
    else some (.hsl b k off n, H)
  | v => some (v, H)

def pickA : AV → Option AV → Option AV → Option AV
  | .bool true, x, _ => x
  | .bool false, _, y => y
  | _, _, _ => none

def cellsOfObj : Cell → Option (List AV)
  | .cells cs => some cs
  | .row _ _ cs => some cs
  | _ => none

def loadA (t : TypeId) (H : Heap) : AV → Option AV
  | .ptr b off => match cellsOfObj (H.objs b) with
    | some cs => takeVar P t (cs.drop off)
    | none => none
  | .rptr cs => takeVar P t cs
  | _ => none

def storeA (t : TypeId) (H : Heap) (p v : AV) : Option Heap :=
  match p, v.flat with
  | .ptr b off, some vs =>
    if some vs.length = sizeOf? P t then
      match H.objs b with
      | .cells cs => if off + vs.length ≤ cs.length then some (H.set b (.cells (setAt cs off vs))) else none
      | .row e k cs => if off + vs.length ≤ cs.length then some (H.set b (.row e k (setAt cs off vs))) else none
      | _ => none
    else none
  | _, _ => none

def nilCheckA : AV → Option AV
  | .ptr b off => some (.ptr b off)
  | .rptr cs => some (.rptr cs)
  | _ => none

def buildA (t : TypeId) (vs : List (Nat × AV)) : Option AV :=
  match zeroOf P t, placesOf P t with
  | some z, some places => (fillAt places z vs).map .agg
  | _, _ => none

def buildSliceA (heapKind : Bool) (t : TypeId) (len : Nat) (vs : List (Nat × AV)) (H : Heap) : Option (AV × Heap) :=
  match elemOf? P t with
  | some e => match sizeOf? P e, zeroOf P e with
    | some k, some z => if 0 < k ∧ z.length = k ∧ len * k ≤ 16777216 then
        match fillAt (fun i => some (i * k, k)) (zeroCellsL z len) vs with
        | some cs => some (if heapKind then .hsl H.next k 0 len else .slice .full k cs len, if heapKind then H.new (.row e k cs) else H)
        | none => none
      else none
    | _, _ => none
  | none => none

def unOpA (op : UnOp) (v : AV) : Option AV :=
  match toV v with
  | some x => (pureAt P (Op.unary op x)).bind ofV
  | none => none

/-- Which way a conversion goes: 1: a string's bytes; 2: bytes, as a string; 0: another one. -/
def convKind (src dst : TypeId) : Option Nat :=
  match P.underlying src, P.underlying dst with
  | some .string, some (.slice e) => match P.underlying e, sizeOf? P e with
    | some (.int .u8), some 1 => some 1
    | _, _ => none
  | some (.slice e), some .string => match P.underlying e with
    | some (.int .u8) => some 2
    | _ => none
  | some _, some _ => some 0
  | _, _ => none
def convertA (src dst : TypeId) (v : AV) (H : Heap) : Option AV :=
  match convKind P src dst with
  | some 1 => match v with
    | .str s => some (.slice .ro 1 (bytesCells s) s.size)
    | _ => none
  | some 2 => match v with
    | .str _ => none
    | v => match sliceCells 1 H v with
      | some (cs, _) => (bytesOfA cs).map fun l => .str ⟨l.toArray⟩
      | none => none
  | some 0 => match toV v with
    | some x => (pureAt P (Go.convert src dst x)).bind ofV
    | none => none
  | _ => none

def makeInterfaceA (t : TypeId) (v : AV) : Option AV :=
  match P.underlying t with
  | some (.interface _) => none
  | some _ => some (.iface t v)
  | none => none

def makeSliceA (heapKind : Bool) (t : TypeId) (l c : AV) (H : Heap) : Option (AV × Heap) :=
  match elemOf? P t, natOf l, natOf c with
  | some e, some n, some c => match P.info? e, zeroOf P e with
    | some i, some z => if c = n ∧ 0 < i.size ∧ z.length = i.size ∧ roomy n i.bytes = true then
        some (if heapKind then .hsl H.next i.size 0 n else .slice .full i.size (zeroCellsL z n) n, if heapKind then H.new (.row e i.size (zeroCellsL z n)) else H)
      else none
    | _, _ => none
  | _, _, _ => none

/-- A bound of a slice: none given: the one that stands for it. -/
def boundA (d : Nat) : Option AV → Option Nat
  | none => some d
  | some v => natOf v

def sliceA (t : TypeId) (v : AV) (lo hi mx : Option AV) : Option AV :=
  match v with
  | .str s => match P.underlying t, boundA 0 lo, boundA s.size hi, mx with
    | some .string, some l, some h, none => if l ≤ h ∧ h ≤ s.size then some (.str (s.extract l h)) else none
    | _, _, _, _ => none
  | .slice r k cells n => match elemOf? P t, boundA 0 lo, boundA n hi with
    | some e, some l, some h => if sizeOf? P e = some k ∧ l ≤ h ∧ h ≤ n then
        match mx with
        | none => some (.slice (if l = 0 ∧ h = n then r else .ro) k ((cells.drop (l * k)).take ((h - l) * k)) (h - l))
        | some y => if natOf y = some h ∧ hi.isSome = true then some (.slice .full k ((cells.drop (l * k)).take ((h - l) * k)) (h - l)) else none
      else none
    | _, _, _ => none
  | .nilSlice => match elemOf? P t, boundA 0 lo, boundA 0 hi, boundA 0 mx with
    | some e, some 0, some 0, some 0 => if (sizeOf? P e).isSome = true ∧ (mx.isSome → hi.isSome) then some .nilSlice else none
    | _, _, _, _ => none
  | .hsl b k off n => match elemOf? P t, boundA 0 lo, boundA n hi, mx with
    | some e, some l, some h, none => if sizeOf? P e = some k ∧ l ≤ h ∧ h ≤ n ∧ (l = 0 ∨ l < n ∧ 0 < k) then some (.hsl b k (off + l * k) (h - l)) else none
    | _, _, _, _ => none
  | _ => none

def fieldOf? (s : TypeId) (fi : Nat) : Option Field :=
  match P.underlying s with
  | some (.struct fields) => fields[fi]?
  | _ => none

def fieldAddrA (s : TypeId) (v : AV) (fi : Nat) : Option AV :=
  match fieldOf? P s fi with
  | some fd => match sizeOf? P fd.type with
    | some n => if n = 0 then none else match v with
      | .ptr b off => some (.ptr b (off + fd.offset))
      | .rptr cs => if fd.offset ≤ cs.length then some (.rptr (cs.drop fd.offset)) else none
      | _ => none
    | none => none
  | none => none

def fieldA (t : TypeId) (v : AV) (fi : Nat) : Option AV :=
  match fieldOf? P t fi, v with
  | some fd, .agg cs => takeVar P fd.type (cs.drop fd.offset)
  | _, _ => none

def arrayOf? (t : TypeId) : Option (Nat × TypeId) :=
  match P.underlying t with
  | some (.array n e) => some (n, e)
  | _ => none

def indexAddrA (t : TypeId) (v : AV) (i : Nat) : Option AV :=
  match v with
  | .slice _ k cells n => match elemOf? P t with
    | some e => if i < n ∧ sizeOf? P e = some k then some (.rptr (cells.drop (i * k))) else none
    | none => none
  | .hsl b k off n => match elemOf? P t with
    | some e => if i < n ∧ sizeOf? P e = some k then some (.ptr b (off + i * k)) else none
    | none => none
  | .ptr b off => match arrayOf? P t with
    | some (len, e) => match sizeOf? P e with
      | some k => if i < len then some (.ptr b (off + i * k)) else none
      | none => none
    | none => none
  | .rptr cs => match arrayOf? P t with
    | some (len, e) => match sizeOf? P e with
      | some k => if i < len then some (.rptr (cs.drop (i * k))) else none
      | none => none
    | none => none
  | _ => none

def indexA (t : TypeId) (v : AV) (i : Nat) : Option AV :=
  match v with
  | .str s => match P.underlying t, s.data.toList[i]? with
    | some .string, some b => some (.int .u8 b.toNat)
    | _, _ => none
  | .agg cs => match arrayOf? P t with
    | some (len, e) => match sizeOf? P e with
      | some k => if i < len then takeVar P e (cs.drop (i * k)) else none
      | none => none
    | none => none
  | _ => none

def mapOf? (t : TypeId) : Option (TypeId × TypeId) :=
  match P.underlying t with
  | some (.map k e) => some (k, e)
  | _ => none

def entriesA (H : Heap) : AV → Option (List (AV × AV))
  | .nilMap => some []
  | .map b => match H.objs b with
    | .map es => some es
    | _ => none
  | _ => none

def lookupA (t : TypeId) (v k : AV) (ok : Bool) (H : Heap) : Option AV :=
  match mapOf? P t with
  | some (kt, et) => if keyOk P kt k = true then
      match entriesA H v, zeroVal P et with
      | some es, some z => match findA k es with
        | some (some v) => some (if ok then .tuple [v, .bool true] else v)
        | some none => some (if ok then .tuple [z, .bool false] else z)
        | none => none
      | _, _ => none
    else none
  | none => none

def mapUpdateA (t : TypeId) (m k v : AV) (H : Heap) : Option Heap :=
  match mapOf? P t, m with
  | some (kt, _), .map b => if keyOk P kt k = true then
      match H.objs b with
      | .map es => match findA k es with
        | some _ => some (H.set b (.map (putA k v es)))
        | none => none
      | _ => none
    else none
  | _, _ => none

def nextA (v : AV) (H : Heap) : Option (AV × Heap) :=
  match v with
  | .iter b => match H.objs b with
    | .iter s pos => if pos < s.size then
        some (.tuple [.bool true, .int .i64 pos, .int .i32 (Utf8.decode s pos).1], H.set b (.iter s (pos + (Utf8.decode s pos).2)))
      else some (.tuple [.bool false], H)
    | _ => none
  | _ => none

def typeAssertA (v : AV) (asserted : TypeId) (ok : Bool) : Option AV :=
  match P.underlying asserted with
  | some (.interface _) => none
  | some _ => match v with
    | .iface t v => if t = asserted then some (if ok then .tuple [v, .bool true] else v)
      else if ok then (zeroVal P asserted).map fun z => .tuple [z, .bool false] else none
    | .nilIface => if ok then (zeroVal P asserted).map fun z => .tuple [z, .bool false] else none
    | _ => none
  | none => none

def lenA (t : TypeId) (x : AV) (H : Heap) : Option AV :=
  match P.underlying t, x with
  | some .string, .str s => some (.int .i64 s.size)
  | some (.slice _), .slice _ _ _ n => some (.int .i64 n)
  | some (.slice _), .nilSlice => some (.int .i64 0)
  | some (.slice _), .hsl _ _ _ n => some (.int .i64 n)
  | some (.array n _), _ => some (.int .i64 n)
  | some (.map ..), .nilMap => some (.int .i64 0)
  | some (.map ..), .map b => match H.objs b with
    | .map es => some (.int .i64 es.length)
    | _ => none
  | _, _ => none

def toVs : List AV → Option (List Value)
  | [] => some []
  | x :: xs => match toV x, toVs xs with
    | some v, some vs => some (v :: vs)
    | _, _ => none

def copyA (t : TypeId) (d x : AV) (H : Heap) : Option (AV × Heap) :=
  match d, elemOf? P t with
  | .hsl b k off n, some e => if sizeOf? P e = some k then
      match sliceCells k H x, H.objs b with
      | some (xs, m), .row e' k' cs => if k' = k ∧ off + n * k ≤ cs.length then some (.int .i64 (min m n : Nat), H.set b (.row e' k' (setAt cs off (xs.take (min m n * k))))) else none
      | _, _ => none
    else none
  | _, _ => none

def builtinA (heapKind : Bool) (b : Builtin) (ts : List TypeId) (ty : TypeId) (vs : List AV) (H : Heap) : Option (AV × Heap) :=
  match b, vs, ts with
  | .append, [s, x], [t, t'] => appendA P heapKind t t' s x H
  | .len, [x], [t] => (lenA P t x H).map (·, H)
  | .max, vs, ts => match toVs vs with
    | some xs => ((pureAt P (Builtin.max_ ts.toArray ty xs.toArray)).bind ofV).map (·, H)
    | none => none
  | .min, vs, ts => match toVs vs with
    | some xs => ((pureAt P (Builtin.min_ ts.toArray ty xs.toArray)).bind ofV).map (·, H)
    | none => none
  | .copy, [d, x], [t, _] => copyA P t d x H
  | _, _, _ => none

def partsA (a : AAct) (parts : Array (Nat × Operand)) : Option (List (Nat × AV)) := parts.toList.mapM (fun p => (a.eval p.2).map (p.1, ·))
def argsA (a : AAct) (args : Array Operand) : Option (List AV) := args.toList.mapM a.eval
def optA (a : AAct) : Option Operand → Option (Option AV)
  | none => some none
  | some x => (a.eval x).map some

def opA (h : Hints) (f : FuncId) (a : AAct) (o : Oper) (H : Heap) : Option (AV × Heap) :=
  let dst := o.dst.getD 0
  match o.op with
  | .move x | .assign x => (a.eval x).bind (moveA (h.freeze f dst) H)
  | .pick c x y => (a.eval c).bind fun v => (pickA v (a.eval x) (a.eval y)).map (·, H)
  | .alloc t => (zeroOf P t).map fun z => (.ptr H.next 0, H.new (.cells z))
  | .box _ x => ((a.eval x).bind AV.flat).map fun v => (.ptr H.next 0, H.new (.cells v))
  | .build t parts => (partsA a parts).bind fun vs => (buildA P t vs).map (·, H)
  | .buildSlice t len parts => (partsA a parts).bind fun vs => buildSliceA P (h.heap f dst) t len vs H
  | .load t x => (a.eval x).bind fun p => (loadA P t H p).map (·, H)
  | .store t x y => (a.eval x).bind fun p => (a.eval y).bind fun v => (storeA P t H p v).map (.tuple [], ·)
  | .nilCheck x => (a.eval x).bind fun p => (nilCheckA p).map (·, H)
  | .binOp op t x y _ => (a.eval x).bind fun vx => (a.eval y).bind fun vy => (binOpA P op t x y vx vy).map (·, H)
  | .unOp op _ x => (a.eval x).bind fun v => (unOpA P op v).map (·, H)
  | .convert src dst' x => (a.eval x).bind fun v => (convertA P src dst' v H).map (·, H)
  | .makeInterface t x => (a.eval x).bind fun v => (makeInterfaceA P t v).map (·, H)
  | .makeFunc (.func g) first captured => (argsA a first).bind fun fs => (argsA a captured).map fun cs => (.func g fs cs, H)
  | .makeMap _ none => some (.map H.next, H.new (.map []))
  | .makeSlice t l c => (a.eval l).bind fun l => (a.eval c).bind fun c => makeSliceA P (h.heap f dst) t l c H
  | .slice t x lo hi mx => (a.eval x).bind fun v => (optA a lo).bind fun lo => (optA a hi).bind fun hi => (optA a mx).bind fun mx => (sliceA P t v lo hi mx).map (·, H)
  | .fieldAddr s x fi => (a.eval x).bind fun v => (fieldAddrA P s v fi).map (·, H)
  | .field t x fi => (a.eval x).bind fun v => (fieldA P t v fi).map (·, H)
  | .indexAddr t x ix => (a.eval x).bind fun v => (a.eval ix).bind fun iv => (natOf iv).bind fun i => (indexAddrA P t v i).map (·, H)
  | .index t x ix => (a.eval x).bind fun v => (a.eval ix).bind fun iv => (natOf iv).bind fun i => (indexA P t v i).map (·, H)
  | .lookup t x ix ok => (a.eval x).bind fun v => (a.eval ix).bind fun k => (lookupA P t v k ok H).map (·, H)
  | .mapUpdate t m k x => (a.eval m).bind fun m => (a.eval k).bind fun k => (a.eval x).bind fun v => (mapUpdateA P t m k v H).map (.tuple [], ·)
  | .range t x => (a.eval x).bind fun v => match v, P.underlying t with
    | .str s, some .string => some (.iter H.next, H.new (.iter s 0))
    | _, _ => none
  | .next it true => (a.eval it).bind fun v => nextA v H
  | .typeAssert x _ asserted ok => (a.eval x).bind fun v => (typeAssertA P v asserted ok).map (·, H)
  | .extract t ix => (a.eval t).bind fun v => match v with
    | .tuple vs => (vs[ix]?).map (·, H)
    | _ => none
  | .call { callee := .builtin b, args, argTypes } => (argsA a args).bind fun vs => builtinA P (h.heap f dst) b argTypes.toList o.type vs H
  | _ => none

/-- A call of a function: which one, with what. -/
def calleeA (a : AAct) (o : Oper) : Option (FuncId × List AV) :=
  match o.op with
  | .call { callee := .value x, args, .. } => (a.eval x).bind fun v => (argsA a args).bind fun vs => match v with
    | .func g first captured => some (g, first ++ vs ++ captured)
    | _ => none
  | _ => none

def isCall (o : Oper) : Bool := match o.op with
  | .call { callee := .value _, .. } => true
  | _ => false

end ops

inductive AExit where
  | normal | exit (id : Nat) | goto (l : Nat) | ret
  deriving DecidableEq, Inhabited

def yieldedA (ops : Array Oper) (a : AAct) (j : Nat) : Option Bool :=
  match (ops[j]?).bind (·.dst) with
  | some d => match a.eval (.tmp d) with
    | some (.bool b) => some b
    | _ => none
  | none => none

/-- Functions that are taken by what they answer. -/
abbrev Prims := FuncId → Option (List AV → Heap → Option (AV × Heap))

def resultA (P : Program) (a : AAct) (H : Heap) : ResultVar → Option AV
  | .tmp t => a.eval (.tmp t)
  | .cell c t => match a.eval (.tmp c) with
    | some (.ptr b off) => match H.objs b with
      | .cells cs => takeVar P t (cs.drop off)
      | _ => none
    | _ => none
def resultsA (P : Program) (fn : Func) (a : AAct) (H : Heap) : Option AV :=
  match fn.results.toList.mapM (resultA P a H) with
  | some [v] => some v
  | some vs => some (.tuple vs)
  | none => none

/-- Where an effect may be: all operations but those that only compute and those that only read. -/
def effectful (o : Oper) : Bool :=
  match o.op with
  | .move _ | .assign _ | .pick .. | .build .. | .nilCheck _ | .binOp .. | .unOp .. | .makeInterface .. | .makeFunc .. | .slice .. | .fieldAddr .. | .field ..
  | .indexAddr .. | .index .. | .typeAssert .. | .extract .. | .load .. | .lookup .. | .buildSlice .. | .convert .. => false
  | .call { callee := .builtin b, .. } => match b with
    | .len | .max | .min | .cap => false
    | _ => true
  | _ => true

/-- What must have been done ahead of each operation, as bits. -/
def beforeA (ops : Array Oper) : Array Nat :=
  ops.foldl (init := #[]) fun acc o =>
    acc.push (o.after.foldl (fun s e => if Region.binds .any e then s ||| 2 ^ e.on ||| acc.getD e.on 0 else s) 0)

mutual
def aeq : AV → AV → Bool
  | .bool a, .bool b => a == b
  | .int k a, .int j b => k == j && a == b
  | .str a, .str b => a == b
  | .slice r k cs n, .slice r' k' cs' n' => r == r' && k == k' && n == n' && aeqL cs cs'
  | .nilSlice, .nilSlice => true
  | .hsl b k o n, .hsl b' k' o' n' => b == b' && k == k' && o == o' && n == n'
  | .ptr b o, .ptr b' o' => b == b' && o == o'
  | .nilPtr, .nilPtr => true
  | .rptr cs, .rptr cs' => aeqL cs cs'
  | .map b, .map b' => b == b'
  | .nilMap, .nilMap => true
  | .func f a b, .func f' a' b' => f == f' && aeqL a a' && aeqL b b'
  | .nilFunc, .nilFunc => true
  | .iface t v, .iface t' v' => t == t' && aeq v v'
  | .nilIface, .nilIface => true
  | .agg a, .agg b => aeqL a b
  | .tuple a, .tuple b => aeqL a b
  | .iter a, .iter b => a == b
  | .junk, .junk => true
  | _, _ => false
def aeqL : List AV → List AV → Bool
  | [], [] => true
  | x :: xs, y :: ys => aeq x y && aeqL xs ys
  | _, _ => false
end

def wantA (ops : Array Oper) (a : AAct) (o : Oper) : Bool :=
  match o.guard with
  | none => true
  | some (j, b) => yieldedA ops a j == some b

/-- What an operation names. -/
def looksA (ops : Array Oper) (o : Oper) : List Tmp := o.looksAt ops

def isAlloc (o : Oper) : Bool := match o.op, o.guard with
  | .alloc _, none => true
  | _, _ => false

/-- Static: effects stand in one order, but that a new place may be made ahead of its turn; whoever writes a slot is ordered with whoever names it. -/
def apartA (ops : Array Oper) : Bool :=
  let bf := beforeA ops
  (List.range ops.size).all fun j =>
    let oj := ops.getD j default
    (oj.after.all fun e => !Region.binds .any e || e.on < j) &&
    (match oj.op with | .select .. => false | _ => true) &&
    ((List.range j).all fun i =>
      let oi := ops.getD i default
      (bf.getD j 0).testBit i || ((!(effectful oi && effectful oj) || isAlloc oj) && oi.apart ops oj)) &&
    -- who needs a new place needs all effects that stand ahead of it
    ((List.range j).all fun i => !(isAlloc (ops.getD i default) && (bf.getD j 0).testBit i) ||
      (List.range i).all fun e => !effectful (ops.getD e default) || (bf.getD j 0).testBit e)

/-- Each operation that is no effect answers the same at each heap that it may meet. -/
def stableA (P : Program) (h : Hints) (f : FuncId) (ops : Array Oper) (tr : List (AAct × Heap)) (H1 : Heap) : Bool :=
  let bf := beforeA ops
  let hs := (tr.map (·.2)) ++ [H1]
  (List.range ops.size).all fun i =>
    let oi := ops.getD i default
    effectful oi || !h.heap f (oi.dst.getD 0) && !h.freeze f (oi.dst.getD 0) &&
    match tr[i]? with
    | none => false
    | some (a, H) => !wantA ops a oi ||
      match opA P h f a oi H with
      | none => false
      | some (v, _) => (List.range (ops.size + 1)).all fun j =>
        -- may operation i meet the heap that stands ahead of operation j?
        ((List.range ops.size).any fun e => effectful (ops.getD e default) &&
          ((e < j && (bf.getD e 0).testBit i) || (j ≤ e && (bf.getD i 0).testBit e))) ||
        match hs[j]? with
        | none => false
        | some Hj => match opA P h f a oi Hj with
          | some (v', _) => aeq v v'
          | none => false

mutual
def execA (P : Program) (h : Hints) (pr : Prims) : Nat → FuncId → Code → AAct → Heap → Option (AExit × AAct × Heap)
  | 0, _, _, _, _ => none
  | n + 1, f, c, a, H => match c with
    | .skip => some (.normal, a, H)
    | .label _ => some (.normal, a, H)
    | .seq x y => match execA P h pr n f x a H with
      | some (.normal, a1, H1) => execA P h pr n f y a1 H1
      | r => r
    | .cond c x y => match a.eval c with
      | some (.bool true) => execA P h pr n f x a H
      | some (.bool false) => execA P h pr n f y a H
      | _ => none
    | .block id c => match execA P h pr n f c a H with
      | some (.exit id', a1, H1) => if id' = id then some (.normal, a1, H1) else some (.exit id', a1, H1)
      | r => r
    | .loop c => match execA P h pr n f c a H with
      | some (.normal, a1, H1) => execA P h pr n f (.loop c) a1 H1
      | r => r
    | .exit id => some (.exit id, a, H)
    | .goto l => some (.goto l, a, H)
    | .ret => some (.ret, a, H)
    | .scope c => scopeA P h pr n f c c a H
    | .region _ ops false => (opsA P h pr n f ops (List.range ops.size) a H).map fun (a1, H1) => (.normal, a1, H1)
    | .region _ ops true => drawA P h pr n f ops a H
    | _ => none
def scopeA (P : Program) (h : Hints) (pr : Prims) : Nat → FuncId → Code → Code → AAct → Heap → Option (AExit × AAct × Heap)
  | 0, _, _, _, _, _ => none
  | n + 1, f, c, cur, a, H => match execA P h pr n f cur a H with
    | some (.goto l, a1, H1) => match findLabel c l with
      | some rest => scopeA P h pr n f c rest a1 H1
      | none => some (.goto l, a1, H1)
    | r => r
def opsA (P : Program) (h : Hints) (pr : Prims) : Nat → FuncId → Array Oper → List Nat → AAct → Heap → Option (AAct × Heap)
  | 0, _, _, _, _, _ => none
  | _ + 1, _, _, [], a, H => some (a, H)
  | n + 1, f, ops, i :: rest, a, H => match stepA P h pr n f ops i a H with
    | some (a1, H1) => opsA P h pr n f ops rest a1 H1
    | none => none
def stepA (P : Program) (h : Hints) (pr : Prims) : Nat → FuncId → Array Oper → Nat → AAct → Heap → Option (AAct × Heap)
  | 0, _, _, _, _, _ => none
  | n + 1, f, ops, i, a, H => match ops[i]? with
    | none => none
    | some o =>
      if wantA ops a o then
        if isCall o then
          match calleeA a o with
          | some (g, args) => (callA P h pr n g args H).map fun (v, H1) => (a.put o.dst v, H1)
          | none => none
        else (opA P h f a o H).map fun (v, H1) => (a.put o.dst v, H1)
      else some (a.put o.dst (.tuple []), H)
def callA (P : Program) (h : Hints) (pr : Prims) : Nat → FuncId → List AV → Heap → Option (AV × Heap)
  | 0, _, _, _ => none
  | n + 1, f, args, H => match pr f with
    | some p => p args H
    | none => match P.funcs[f]? with
      | none => none
      | some fn => match fn.body with
        | none => none
        | some c => if fn.name = "runtime.NumGoroutine" then none else
          match execA P h pr n f c { n := max args.length fn.ntmps, get := fun i => args.getD i (.tuple []) } H with
          | some (.normal, a, H1) | some (.ret, a, H1) => (resultsA P fn a H1).map (·, H1)
          | _ => none
/-- A region whose order is open: it is run in the order of the text; each operation that only reads must read the same wherever else it may stand. -/
def drawA (P : Program) (h : Hints) (pr : Prims) : Nat → FuncId → Array Oper → AAct → Heap → Option (AExit × AAct × Heap)
  | 0, _, _, _, _ => none
  | n + 1, f, ops, a, H => match traceA P h pr n f ops (List.range ops.size) a H with
    | some (tr, a1, H1) => if P.follows .mixedOrders && apartA ops && stableA P h f ops tr H1 then some (.normal, a1, H1) else none
    | none => none
/-- The states ahead of each operation. -/
def traceA (P : Program) (h : Hints) (pr : Prims) : Nat → FuncId → Array Oper → List Nat → AAct → Heap → Option (List (AAct × Heap) × AAct × Heap)
  | 0, _, _, _, _, _ => none
  | _ + 1, _, _, [], a, H => some ([], a, H)
  | n + 1, f, ops, i :: rest, a, H => match stepA P h pr n f ops i a H with
    | some (a1, H1) => (traceA P h pr n f ops rest a1 H1).map fun (tr, a2, H2) => ((a, H) :: tr, a2, H2)
    | none => none
end
end Go.AM
