/-
  The clean machine, part 1: an abstract evaluator over the model's code, made to be run: no world, no capacities, no draws. Definitions alone.
-/
import GoSem.Step
import Derived.Orders
namespace Go.Cl

/-! A tree of places. -/
inductive Tr (α : Type) where
  | nil
  | node (v : Option α) (l r : Tr α)

def Tr.val {α : Type} : Tr α → Option α
  | .nil => none
  | .node v _ _ => v
def Tr.left {α : Type} : Tr α → Tr α
  | .nil => .nil
  | .node _ l _ => l
def Tr.right {α : Type} : Tr α → Tr α
  | .nil => .nil
  | .node _ _ r => r

def Tr.get {α : Type} : Tr α → Nat → Option α
  | .nil, _ => none
  | .node v l r, i =>
    match i with
    | 0 => v
    | k + 1 =>
      match k % 2 with
      | 0 => l.get (k / 2)
      | _ + 1 => r.get (k / 2)

/-- 'f': more than the depth of the place. -/
def Tr.set {α : Type} : Nat → Tr α → Nat → α → Tr α
  | 0, t, _, _ => t
  | f + 1, t, i, u =>
    match i with
    | 0 => .node (some u) t.left t.right
    | k + 1 =>
      match k % 2 with
      | 0 => .node t.val (Tr.set f t.left (k / 2) u) t.right
      | _ + 1 => .node t.val t.left (Tr.set f t.right (k / 2) u)

/-- So many steps down. -/
def depth (i : Nat) : Nat := Nat.log2 (i + 1) + 1

/-! The state. A block of cells: what it holds; the least version that may be read (a version is one more than how many cells there were); whether it may be written; the cells of one element. -/
structure Blk where
  cells : List Value
  low : Nat
  own : Bool
  esz : Nat
inductive AO where
  | blk (b : Blk)
  | map (es : List (Value × Value))
structure ASt where
  heap : Tr AO
  next : Nat
structure AFr where
  slots : Tr Value
  n : Nat

def ASt.blk? (s : ASt) (i : Nat) : Option Blk :=
  match s.heap.get i with
  | some (.blk b) => some b
  | _ => none
def ASt.map? (s : ASt) (i : Nat) : Option (List (Value × Value)) :=
  match s.heap.get i with
  | some (.map es) => some es
  | _ => none
def ASt.put (s : ASt) (i : Nat) (o : AO) : ASt := ⟨Tr.set (depth i) s.heap i o, s.next⟩
def ASt.new (s : ASt) (o : AO) : ASt := ⟨Tr.set (depth s.next) s.heap s.next o, s.next + 1⟩

/-- May one more block be laid? -/
def ASt.room (_ : ASt) : Bool := true

def AFr.get (f : AFr) (t : Nat) : Value :=
  match f.slots.get t with
  | some v => v
  | none => undef
def AFr.put (f : AFr) (t : Nat) (v : Value) : AFr := ⟨Tr.set (depth t) f.slots t v, f.n⟩

/-- A value without an address in it. -/
def plain1 : Value → Bool
  | .bool _ | .int _ _ | .string _ | .pointer none | .slice none 0 0 | .map none | .nilFunc | .nilIface => true
  | _ => false
def plainV : Value → Bool
  | .agg cs => cs.toList.all plain1
  | .tuple cs => cs.toList.all plain1
  | v => plain1 v

def evalA (f : AFr) : Operand → Option Value
  | .tmp t => if Nat.blt t f.n then some (f.get t) else none
  | .const v => if plainV v then some v else none
  | .global _ => none
  | .func g => some (.func (.func g) #[] #[])

def evalAll (f : AFr) : List Operand → Option (List Value)
  | [] => some []
  | x :: r =>
    match evalA f x with
    | some v =>
      match evalAll f r with
      | some vs => some (v :: vs)
      | none => none
    | none => none

/-! Cells. -/
def takeN : Nat → List Value → Option (List Value)
  | 0, _ => some []
  | _ + 1, [] => none
  | n + 1, v :: r =>
    match takeN n r with
    | some l => some (v :: l)
    | none => none
def dropN : Nat → List Value → List Value
  | 0, l => l
  | _ + 1, [] => []
  | n + 1, _ :: r => dropN n r
def setAt : List Value → Nat → List Value → Option (List Value)
  | l, _, [] => some l
  | [], _, _ :: _ => none
  | c :: r, n + 1, vs =>
    match setAt r n vs with
    | some l => some (c :: l)
    | none => none
  | _ :: r, 0, v :: vs =>
    match setAt r 0 vs with
    | some l => some (v :: l)
    | none => none

/-- A value of one cell. -/
def okCell : Value → Bool
  | .agg _ | .tuple _ => false
  | _ => true
/-- n cells at an address, as they were in version c. -/
def ASt.cellsAt (s : ASt) (i off c n : Nat) : Option (List Value) :=
  match s.blk? i with
  | some b =>
    if Nat.ble b.low c && Nat.ble c (b.cells.length + 1) && Nat.blt (off + n) c then takeN n (dropN off b.cells) else none
  | none => none

/-- Store. -/
def ASt.storeAt (s : ASt) (i off c : Nat) (vs : List Value) : Option ASt :=
  match s.blk? i with
  | some b =>
    if b.own && Nat.ble b.low c && Nat.beq c (b.cells.length + 1) && vs.all okCell then
      match vs with
      | [] => none
      | _ :: _ =>
      match setAt b.cells off vs with
      | some l => some (s.put i (.blk { b with cells := l, low := c }))
      | none => none
    else none
  | none => none

def isAggB (P : Program) (t : TypeId) : Option Bool :=
  match P.underlying t with
  | some (.struct _) | some (.array _ _) => some true
  | some _ => some false
  | none => none
def sizeB (P : Program) (t : TypeId) : Option Nat :=
  match P.info? t with
  | some i => some i.size
  | none => none
def zeroB (P : Program) (t : TypeId) : Option Value :=
  match P.info? t with
  | some i => i.zero
  | none => none
def bytesB (P : Program) (t : TypeId) : Option Nat :=
  match P.info? t with
  | some i => some i.bytes
  | none => none

def partA (P : Program) (t : TypeId) (cs : List Value) (off : Nat) : Option Value :=
  match isAggB P t, sizeB P t with
  | some true, some n =>
    match takeN n (dropN off cs) with
    | some l => some (.agg l.toArray)
    | none => none
  | some false, _ =>
    match dropN off cs with
    | v :: _ => some v
    | [] => none
  | _, _ => none

def loadA (P : Program) (s : ASt) (t : TypeId) (a : Value) : Option Value :=
  match a with
  | .pointer (some ⟨i, off, some c⟩) =>
    match isAggB P t, sizeB P t with
    | some true, some n =>
      match s.cellsAt i off c n with
      | some l => some (.agg l.toArray)
      | none => none
    | some false, _ =>
      match s.cellsAt i off c 1 with
      | some (v :: _) => some v
      | _ => none
    | _, _ => none
  | _ => none

def storeA (P : Program) (s : ASt) (t : TypeId) (a v : Value) : Option ASt :=
  match a, sizeB P t with
  | .pointer (some ⟨_, _, some _⟩), some 0 => if Nat.beq v.cells.toList.length 0 then some s else none
  | .pointer (some ⟨i, off, some c⟩), some n =>
    if Nat.beq v.cells.toList.length n then s.storeAt i off c v.cells.toList else none
  | _, _ => none

/-- A new block of just these cells, and a pointer to it. -/
def newPtr (s : ASt) (cs : List Value) (esz : Nat) : Option (Value × ASt) :=
  if s.room then some (.pointer (some ⟨s.next, 0, some (cs.length + 1)⟩), s.new (.blk ⟨cs, 1, true, esz⟩)) else none
/-- A new block, and a slice of it. -/
def newSlice (s : ASt) (cs : List Value) (len esz : Nat) : Option (Value × ASt) :=
  if s.room then some (.slice (some ⟨s.next, 0, none⟩) len (cs.length + 1), s.new (.blk ⟨cs, 1, true, esz⟩)) else none

def repeatL (z : List Value) : Nat → List Value
  | 0 => []
  | n + 1 => z ++ repeatL z n

/-! Numbers. -/
def intOp (op : BinOp) (k : IntKind) (x y : Int) : Option Value :=
  match op with
  | .add => some (.int k (k.wrap (x + y)))
  | .sub => some (.int k (k.wrap (x - y)))
  | .mul => some (.int k (k.wrap (x * y)))
  | .quo => if y = 0 then none else some (.int k (k.wrap (x.tdiv y)))
  | .rem => if y = 0 then none else some (.int k (x.tmod y))
  | .and => some (.int k (k.wrap (BitVec.ofInt k.bits x &&& BitVec.ofInt k.bits y).toNat))
  | .or => some (.int k (k.wrap (BitVec.ofInt k.bits x ||| BitVec.ofInt k.bits y).toNat))
  | .xor => some (.int k (k.wrap (BitVec.ofInt k.bits x ^^^ BitVec.ofInt k.bits y).toNat))
  | .andNot => some (.int k (k.wrap (BitVec.ofInt k.bits x &&& ~~~BitVec.ofInt k.bits y).toNat))
  | .eql => some (.bool (x == y))
  | .neq => some (.bool (x != y))
  | .lss => some (.bool (x < y))
  | .leq => some (.bool (x ≤ y))
  | .gtr => some (.bool (x > y))
  | .geq => some (.bool (x ≥ y))
  | _ => none
def shiftOp (op : BinOp) (k : IntKind) (x y : Int) : Option Value :=
  if y < 0 then none else
  match op with
  | .shl => some (.int k (k.wrap (x * 2 ^ (min y.toNat k.bits))))
  | .shr => some (.int k (x.fdiv (2 ^ (min y.toNat k.bits))))
  | _ => none
def strOp (op : BinOp) (x y : ByteArray) : Option Value :=
  match op with
  | .add => if Nat.ble (x.data.toList.length + y.data.toList.length) 4294967296 then some (.string ⟨(x.data.toList ++ y.data.toList).toArray⟩) else none
  | .eql => some (.bool (x.data.toList == y.data.toList))
  | .neq => some (.bool (!(x.data.toList == y.data.toList)))
  | .lss => some (.bool (Op.bytesLess x.data.toList y.data.toList))
  | .leq => some (.bool (Op.bytesLess x.data.toList y.data.toList || x.data.toList == y.data.toList))
  | .gtr => some (.bool (!(Op.bytesLess x.data.toList y.data.toList || x.data.toList == y.data.toList)))
  | .geq => some (.bool (!(Op.bytesLess x.data.toList y.data.toList)))
  | _ => none
/-- Against nil. -/
def nilEq (P : Program) (t : TypeId) (x y : Value) : Option Bool :=
  match P.underlying t, x, y with
  | some .bool, .bool a, .bool b => some (a == b)
  | some (.pointer _), .pointer none, .pointer b => some b.isNone
  | some (.pointer _), .pointer (some _), .pointer none => some false
  | some (.slice _), .slice none _ _, .slice b _ _ => some b.isNone
  | some (.slice _), .slice (some _) _ _, .slice none _ _ => some false
  | some (.map _ _), .map none, .map b => some b.isNone
  | some (.map _ _), .map (some _), .map none => some false
  | some (.func _ _ _), .nilFunc, .nilFunc => some true
  | some (.func _ _ _), .nilFunc, .func _ _ _ => some false
  | some (.func _ _ _), .func _ _ _, .nilFunc => some false
  | _, _, _ => none
/-- Rows of whole numbers. -/
def intsEqA : List Value → List Value → Option Bool
  | [], [] => some true
  | .int k a :: r, .int k' b :: q =>
    match (if k = k' then true else false), intsEqA r q with
    | true, some t => some (a == b && t)
    | _, _ => none
  | _, _ => none
/-- Fields that are whole numbers, a cell each, one behind the other. -/
def fieldsInt (P : Program) : List Field → Nat → Bool
  | [], _ => true
  | f :: r, i =>
    (match P.underlying f.type with
      | some (.int _) => f.name != "_" && Nat.beq f.offset i
      | _ => false) && fieldsInt P r (i + 1)
/-- Two cells that are whole numbers or texts. -/
def cellEqA : Value → Value → Option Bool
  | .int k a, .int k' b => if k = k' then some (a == b) else none
  | .string a, .string b => some (a.toList == b.toList)
  | _, _ => none
def cellsEqA : List Value → List Value → Option Bool
  | [], [] => some true
  | x :: r, y :: q =>
    match cellEqA x y, cellsEqA r q with
    | some a, some t => some (a && t)
    | _, _ => none
  | _, _ => none
/-- Fields that are whole numbers or texts, as the cells are, one behind the other. -/
def fieldsText (P : Program) : List Field → List Value → Nat → Bool
  | [], _, _ => true
  | _ :: _, [], _ => false
  | f :: r, x :: q, i =>
    (match P.underlying f.type, x with
      | some (.int _), .int _ _ => f.name != "_" && Nat.beq f.offset i
      | some .string, .string _ => f.name != "_" && Nat.beq f.offset i
      | _, _ => false) && fieldsText P r q (i + 1)
def arrEqA (P : Program) (t : TypeId) (xs ys : Array Value) : Option Bool :=
  match P.underlying t with
  | some (.array n e) =>
    match P.underlying e, sizeB P e with
    | some (.int _), some 1 => if Nat.beq xs.toList.length n && Nat.beq ys.toList.length n && !P.eqGuardType P.depth t then intsEqA xs.toList ys.toList else none
    | _, _ => none
  | some (.struct fs) => if Nat.beq xs.toList.length fs.toList.length && Nat.beq ys.toList.length fs.toList.length && !P.eqGuardType P.depth t && !P.stoodInHeld t then (if fieldsInt P fs.toList 0 then intsEqA xs.toList ys.toList else if fieldsText P fs.toList xs.toList 0 then cellsEqA xs.toList ys.toList else none) else none
  | _ => none
def binA (P : Program) (op : BinOp) (t : TypeId) (x y : Value) : Option Value :=
  match x, y with
  | .agg xs, .agg ys =>
    match op with
    | .eql =>
      match arrEqA P t xs ys with
      | some b => some (.bool b)
      | none => none
    | .neq =>
      match arrEqA P t xs ys with
      | some b => some (.bool (!b))
      | none => none
    | _ => none
  | .int k a, .int k' b =>
    match op with
    | .shl => shiftOp .shl k a b
    | .shr => shiftOp .shr k a b
    | _ => if k = k' then intOp op k a b else none
  | .string a, .string b => strOp op a b
  | _, _ =>
    match op with
    | .eql =>
      match nilEq P t x y with
      | some b => some (.bool b)
      | none => none
    | .neq =>
      match nilEq P t x y with
      | some b => some (.bool (!b))
      | none => none
    | _ => none
def unA (op : UnOp) (x : Value) : Option Value :=
  match op, x with
  | .neg, .int k n => intOp .sub k 0 n
  | .xor, .int k n => intOp .xor k (if k.signed then -1 else k.max) n
  | .not, .bool b => some (.bool (!b))
  | _, _ => none

def toByte : Value → Option UInt8
  | .int .u8 n => some (UInt8.ofNat n.toNat)
  | _ => none
def toBytes : List Value → Option (List UInt8)
  | [] => some []
  | v :: r =>
    match toByte v with
    | some b =>
      match toBytes r with
      | some l => some (b :: l)
      | none => none
    | none => none
def ofBytes (l : List UInt8) : List Value := l.map fun b => .int .u8 b.toNat

def isU8 (P : Program) (t : TypeId) : Bool :=
  match P.underlying t with
  | some (.int .u8) => true
  | _ => false

def convA (P : Program) (s : ASt) (src dst : TypeId) (x : Value) : Option (Value × ASt) :=
  match P.underlying src, P.underlying dst, x with
  | some _, some (.int k), .int _ n => some (.int k (k.wrap n), s)
  | some _, some .string, .string b => some (.string b, s)
  | some .string, some (.slice e), .string b =>
    if isU8 P e && Nat.ble b.data.toList.length 4294967296 then newSlice s (ofBytes b.data.toList) b.data.toList.length 1 else none
  | some (.slice _), some (.slice e), .slice (some ⟨i, _, none⟩) len c =>
    match len with
    | 0 => none
    | _ + 1 =>
      match s.blk? i with
      | some b => if Nat.beq src dst && isU8 P e && b.own && Nat.ble b.low c && Nat.ble c (b.cells.length + 1) then some (x, s.put i (.blk b)) else none
      | none => none
  | some (.slice e), some .string, .slice none _ _ => if isU8 P e then some (.string ⟨#[]⟩, s) else none
  | some (.slice e), some .string, .slice (some ⟨i, off, none⟩) len c =>
    if isU8 P e then
      match len with
      | 0 => some (.string ⟨#[]⟩, s)
      | _ + 1 =>
        match s.cellsAt i off c len with
        | some l =>
          match toBytes l with
          | some bs => some (.string ⟨bs.toArray⟩, s)
          | none => none
        | none => none
    else none
  | _, _, _ => none

/-! Slices. -/
def natOf : Option Value → Nat → Option Nat
  | none, d => some d
  | some (.int _ (.ofNat n)), _ => some n
  | some _, _ => none

/-- Are a block's elements of so many cells? (A slice of version 0 has no room.) -/
def eszIs (s : ASt) (i c z : Nat) : Bool :=
  match c with
  | 0 => true
  | _ + 1 =>
    match s.blk? i with
    | some b => Nat.beq b.esz z
    | none => false
def sliceA (P : Program) (s : ASt) (t : TypeId) (x : Value) (lo hi mx : Option Value) : Option Value :=
  match P.underlying t, x with
  | some .string, .string b =>
    match mx, natOf lo 0, natOf hi b.data.toList.length with
    | none, some l, some h => if Nat.ble l h && Nat.ble h b.data.toList.length then some (.string ⟨((b.data.toList.take h).drop l).toArray⟩) else none
    | _, _, _ => none
  | some (.slice e), .slice a len c =>
    match natOf lo 0, natOf hi len, sizeB P e with
    | some l, some h, some z =>
      if Nat.ble l h && Nat.ble h len then
        match mx with
        | none =>
          match a with
          | none => some (.slice none 0 0)
          | some ⟨i, off, none⟩ => if eszIs s i c z then some (.slice (some ⟨i, off + l * z, none⟩) (h - l) c) else none
          | _ => none
        | some m =>
          match natOf (some m) 0, hi with
          | some m, some _ =>
            if Nat.ble h m && Nat.ble m len then
              match a with
              | none => some (.slice none 0 0)
              | some ⟨i, off, none⟩ => if eszIs s i c z then some (.slice (some ⟨i, off + l * z, none⟩) (h - l) (if Nat.beq l m then 0 else c)) else none
              | _ => none
            else none
          | _, _ => none
      else none
    | _, _, _ => none
  | some (.array n e), .pointer (some ⟨i, off, some c⟩) =>
    match natOf lo 0, natOf hi n, sizeB P e, s.blk? i, mx with
    | some l, some h, some z, some b, none =>
      if Nat.ble l h && Nat.ble h n && Nat.ble b.low c && Nat.ble c (b.cells.length + 1) && Nat.blt (off + n * z) c && Nat.beq b.esz z && Nat.blt 0 z then some (.slice (some ⟨i, off + l * z, none⟩) (h - l) c) else none
    | _, _, _, _, _ => none
  | _, _ => none

def indexAddrA (P : Program) (t : TypeId) (x ix : Value) : Option Value :=
  match P.underlying t, x, ix with
  | some (.slice e), .slice (some ⟨i, off, none⟩) len c, .int _ (.ofNat n) =>
    match sizeB P e with
    | some z => if Nat.blt n len then some (.pointer (some ⟨i, off + n * z, some c⟩)) else none
    | none => none
  | some (.array len e), .pointer (some ⟨i, off, some c⟩), .int _ (.ofNat n) =>
    match sizeB P e with
    | some z => if Nat.blt n len then some (.pointer (some ⟨i, off + n * z, some c⟩)) else none
    | none => none
  | _, _, _ => none
def indexA (P : Program) (t : TypeId) (x ix : Value) : Option Value :=
  match P.underlying t, x, ix with
  | some .string, .string b, .int _ (.ofNat n) =>
    match (b.data.toList.drop n) with
    | c :: _ => some (.int .u8 c.toNat)
    | [] => none
  | some (.array len e), .agg cs, .int _ (.ofNat n) =>
    match sizeB P e with
    | some z => if Nat.blt n len then partA P e cs.toList (n * z) else none
    | none => none
  | _, _, _ => none
def fieldAddrA (P : Program) (t : TypeId) (x : Value) (f : Nat) : Option Value :=
  match P.underlying t, x with
  | some (.struct fs), .pointer (some ⟨i, off, some c⟩) =>
    match fs[f]? with
    | some fd =>
      match sizeB P fd.type with
      | some (_ + 1) => some (.pointer (some ⟨i, off + fd.offset, some c⟩))
      | _ => none
    | none => none
  | _, _ => none
def fieldA (P : Program) (t : TypeId) (x : Value) (f : Nat) : Option Value :=
  match P.underlying t, x with
  | some (.struct fs), .agg cs =>
    match fs[f]? with
    | some fd => partA P fd.type cs.toList fd.offset
    | none => none
  | _, _ => none
def extractA (x : Value) (i : Nat) : Option Value :=
  match x with
  | .tuple vs => vs[i]?
  | _ => none

/-- The parts of a literal laid over its noughts. -/
def fillA (place : Nat → Option (Nat × Nat)) : List Value → List (Nat × Value) → Option (List Value)
  | cs, [] => some cs
  | cs, (i, v) :: r =>
    match place i with
    | some (off, size) =>
      if Nat.beq v.cells.toList.length size && Nat.ble (off + size) cs.length then
        match setAt cs off v.cells.toList with
        | some l => fillA place l r
        | none => none
      else none
    | none => none
def placeOf (P : Program) (fs : Array Field) (i : Nat) : Option (Nat × Nat) :=
  match fs[i]? with
  | some f =>
    match sizeB P f.type with
    | some z => some (f.offset, z)
    | none => none
  | none => none
def buildA (P : Program) (t : TypeId) (parts : List (Nat × Value)) : Option Value :=
  match P.underlying t, zeroB P t with
  | some (.struct fs), some z =>
    if plainV z && fs.toList.all (fun f => (sizeB P f.type).isSome) then
      match fillA (placeOf P fs) z.cells.toList parts with
      | some l => some (.agg l.toArray)
      | none => none
    else none
  | some (.array _ e), some z =>
    match sizeB P e with
    | some n =>
      if plainV z then
        match fillA (fun i => some (i * n, n)) z.cells.toList parts with
        | some l => some (.agg l.toArray)
        | none => none
      else none
    | none => none
  | _, _ => none
def buildSliceA (P : Program) (s : ASt) (t : TypeId) (len : Nat) (parts : List (Nat × Value)) : Option (Value × ASt) :=
  match P.underlying t with
  | some (.slice e) =>
    match sizeB P e, zeroB P e with
    | some n, some z =>
      if Nat.ble (len * n) 65536 && plainV z && Nat.beq z.cells.toList.length n then
        match fillA (fun i => some (i * n, n)) (repeatL z.cells.toList len) parts with
        | some l => newSlice s l len n
        | none => none
      else none
    | _, _ => none
  | _ => none
def makeSliceA (P : Program) (s : ASt) (t : TypeId) (len cap : Value) : Option (Value × ASt) :=
  match P.underlying t, len, cap with
  | some (.slice e), .int _ (.ofNat l), .int _ (.ofNat c) =>
    match sizeB P e, zeroB P e, bytesB P e with
    | some n, some z, some by8 =>
      if Nat.ble l c && Nat.ble c 4294967296 && Nat.ble (by8 * c) 4294967296 && plainV z && Nat.beq z.cells.toList.length n then newSlice s (repeatL z.cells.toList l) l n else none
    | _, _, _ => none
  | _, _, _ => none

/-! append. -/
/-- The cells that are appended: how many elements, and they. -/
def srcCells (s : ASt) (z : Nat) : Value → Option (Nat × List Value)
  | .slice none _ _ => some (0, [])
  | .slice (some ⟨i, off, none⟩) n c =>
    match n with
    | 0 => some (0, [])
    | _ + 1 =>
      match s.cellsAt i off c (n * z) with
      | some l => some (n, l)
      | none => none
  | .string b => if Nat.beq z 1 then some (b.data.toList.length, ofBytes b.data.toList) else none
  | _ => none
/-- What is appended: also so many noughts (append of make). -/
def srcA (s : ASt) (z by8 : Nat) (zv : Value) (xd : TypeDesc) (y : Value) : Option (Nat × List Value) :=
  match xd with
  | .int _ =>
    match y with
    | .int _ (.ofNat n) => if Nat.ble (n * by8) 4294967296 && Nat.ble n 4294967296 && plainV zv && Nat.beq zv.cells.toList.length z && Nat.blt 0 z then some (n, repeatL zv.cells.toList n) else none
    | _ => none
  | _ => srcCells s z y
def kill (b : Blk) : Blk := { b with low := b.low + b.cells.length + 2 }
def appendA (P : Program) (s : ASt) (sType xType : TypeId) (x y : Value) : Option (Value × ASt) :=
  match P.underlying sType, P.underlying xType with
  | some (.slice e), some xd =>
    match (match xd with
      | .slice _ => true
      | .string => true
      | .int _ => true
      | _ => false) with
    | false => none
    | true =>
    match sizeB P e, bytesB P e, zeroB P e with
    | some z, some by8, some zv =>
      match srcA s z by8 zv xd y with
      | some (n, new) =>
        match x with
        | .slice a len c =>
          if Nat.ble ((len + n) * by8) 4294967296 && Nat.ble (len + n) 4294967296 && Nat.blt 0 z && new.all okCell && Nat.beq zv.cells.toList.length z then
            match n with
            | 0 => some (x, s)
            | _ + 1 =>
              match a with
              | none => if Nat.beq len 0 && Nat.beq c 0 then newSlice s new n z else none
              | some ⟨i, off, none⟩ =>
                match c with
                | 0 => if Nat.beq len 0 then newSlice s new n z else none
                | _ + 1 =>
                  match s.blk? i with
                  | some b =>
                    if b.own && Nat.ble b.low c && Nat.beq b.esz z then
                      if Nat.beq c (b.cells.length + 1) && Nat.beq off 0 && Nat.beq (len * z) b.cells.length then
                        some (.slice a (len + n) ((b.cells ++ new).length + 1), s.put i (.blk { b with cells := b.cells ++ new }))
                      else
                        match s.cellsAt i off c (len * z) with
                        | some old => newSlice (s.put i (.blk (kill b))) (old ++ new) (len + n) z
                        | none => none
                    else none
                  | none => none
              | _ => none
          else none
        | _ => none
      | none => none
    | _, _, _ => none
  | _, _ => none

/-- copy: what is copied is cut to its room first. -/
def cutSrc (k : Nat) : Value → Option (Nat × Value)
  | .slice a n c => some (min n k, .slice a (min n k) c)
  | .string b => some (min b.data.toList.length k, .string ⟨(b.data.toList.take k).toArray⟩)
  | _ => none
def copyA (P : Program) (s : ASt) (dT : TypeId) (x y : Value) : Option (Value × ASt) :=
  match P.underlying dT, x with
  | some (.slice e), .slice a dLen c =>
    match sizeB P e, cutSrc dLen y with
    | some z, some (k, y2) =>
      match k with
      | 0 => some (.int .i64 0, s)
      | _ + 1 =>
        match srcCells s z y2, a with
        | some (k2, new), some ⟨i, off, none⟩ =>
          match Nat.beq k2 k, s.storeAt i off c new with
          | true, some t => some (.int .i64 k, t)
          | _, _ => none
        | _, _ => none
    | _, _ => none
  | _, _ => none

/-- clear, of a slice. -/
def clearA (P : Program) (s : ASt) (t : TypeId) (x : Value) : Option (Value × ASt) :=
  match P.underlying t, x with
  | some (.slice _), .slice none _ _ => some (undef, s)
  | some (.slice e), .slice (some ⟨i, off, none⟩) n c =>
    match n with
    | 0 => some (undef, s)
    | m + 1 =>
      match sizeB P e, zeroB P e with
      | some z, some zv =>
        if plainV zv && Nat.beq zv.cells.toList.length z && Nat.blt 0 z then
          match s.storeAt i off c (repeatL zv.cells.toList (m + 1)) with
          | some s' => some (undef, s')
          | none => none
        else none
      | _, _ => none
  | _, _ => none
def lenA (P : Program) (s : ASt) (t : TypeId) (x : Value) : Option Value :=
  match P.underlying t, x with
  | some .string, .string b => some (.int .i64 b.data.toList.length)
  | some (.array n _), _ => some (.int .i64 n)
  | some (.slice _), .slice _ n _ => some (.int .i64 n)
  | some (.map _ _), .map none => some (.int .i64 0)
  | some (.map _ _), .map (some r) =>
    match s.map? r with
    | some es => some (.int .i64 es.length)
    | none => none
  | _, _ => none
def minA : Value → Value → Option Value
  | .int k x, .int _ y => some (.int k (if y < x then y else x))
  | _, _ => none
def maxA : Value → Value → Option Value
  | .int k x, .int _ y => some (.int k (if y > x then y else x))
  | _, _ => none
def foldA (g : Value → Value → Option Value) : Value → List Value → Option Value
  | x, [] => some x
  | x, y :: r =>
    match g x y with
    | some v => foldA g v r
    | none => none

/-! Maps. -/
def keyEq (P : Program) (t : TypeId) (a b : Value) : Option Bool :=
  match P.underlying t, a, b with
  | some (.int _), .int k x, .int k' y => if k = k' then some (x == y) else none
  | some .string, .string x, .string y => some (x.data.toList == y.data.toList)
  | _, _, _ => none
def findA (P : Program) (t : TypeId) (k : Value) : List (Value × Value) → Option (Option Value)
  | [] => some none
  | (k', v) :: r =>
    match keyEq P t k k' with
    | some true => some (some v)
    | some false => findA P t k r
    | none => none
def updA (P : Program) (t : TypeId) (k v : Value) : List (Value × Value) → Option (List (Value × Value))
  | [] => some [(k, v)]
  | (k', v') :: r =>
    match keyEq P t k k' with
    | some true => some ((k', v) :: r)
    | some false =>
      match updA P t k v r with
      | some l => some ((k', v') :: l)
      | none => none
    | none => none
def keyKind (P : Program) (t : TypeId) (k : Value) : Bool :=
  match P.underlying t, k with
  | some (.int _), .int _ _ => true
  | some .string, .string _ => true
  | _, _ => false
def lookupA (P : Program) (s : ASt) (t : TypeId) (m k : Value) (ok : Bool) : Option Value :=
  match P.underlying t with
  | some (.map kt et) =>
    match zeroB P et, keyKind P kt k with
    | some z, true =>
      if plainV z then
        match (match m with
          | .map none => some none
          | .map (some r) =>
            match s.map? r with
            | some es => findA P kt k es
            | none => none
          | _ => none) with
        | some (some v) => some (if ok then .tuple #[v, .bool true] else v)
        | some none => some (if ok then .tuple #[z, .bool false] else z)
        | none => none
      else none
    | _, _ => none
  | _ => none
def mapUpdateA (P : Program) (s : ASt) (t : TypeId) (m k v : Value) : Option ASt :=
  match P.underlying t, m with
  | some (.map kt _), .map (some r) =>
    match s.map? r, keyKind P kt k with
    | some es, true =>
      match updA P kt k v es with
      | some l => some (s.put r (.map l))
      | none => none
    | _, _ => none
  | _, _ => none

/-- The cells of an array's element; else nothing. -/
def boxEsz (P : Program) (t : TypeId) : Nat :=
  match P.underlying t with
  | some (.array _ e) =>
    match sizeB P e with
    | some z => z
    | none => 0
  | _ => 0

/-! An operation. -/
inductive AR where
  | val (v : Value) (s : ASt)
  | call (f : FuncId) (args : List Value)

def vOf (s : ASt) : Option Value → Option AR
  | some v => some (.val v s)
  | none => none
def pOf : Option (Value × ASt) → Option AR
  | some (v, s) => some (.val v s)
  | none => none
def uOf : Option ASt → Option AR
  | some s => some (.val undef s)
  | none => none

def partsA (f : AFr) : List (Nat × Operand) → Option (List (Nat × Value))
  | [] => some []
  | (i, x) :: r =>
    match evalA f x, partsA f r with
    | some v, some l => some ((i, v) :: l)
    | _, _ => none
def optA (f : AFr) : Option Operand → Option (Option Value)
  | none => some none
  | some x =>
    match evalA f x with
    | some v => some (some v)
    | none => none

def builtinA (P : Program) (s : ASt) (b : Builtin) (ts : List TypeId) (args : List Value) : Option AR :=
  match b, ts, args with
  | .len, t :: _, x :: _ => vOf s (lenA P s t x)
  | .append, t :: u :: _, x :: y :: _ => pOf (appendA P s t u x y)
  | .copy, t :: _, x :: y :: _ => pOf (copyA P s t x y)
  | .clear, t :: _, x :: _ => pOf (clearA P s t x)
  | .min, _, x :: r => vOf s (foldA minA x r)
  | .max, _, x :: r => vOf s (foldA maxA x r)
  | _, _, _ => none

def aop (P : Program) (o : Oper) (f : AFr) (s : ASt) : Option AR :=
  match o.op with
  | .move x => vOf s (evalA f x)
  | .assign x => vOf s (evalA f x)
  | .pick c a b =>
    match evalA f c, evalA f a, evalA f b with
    | some (.bool t), some u, some v => some (.val (if t then u else v) s)
    | _, _, _ => none
  | .alloc e =>
    match zeroB P e with
    | some z => if plainV z then pOf (newPtr s z.cells.toList (boxEsz P e)) else none
    | none => none
  | .box e x =>
    match evalA f x with
    | some v => pOf (newPtr s v.cells.toList (boxEsz P e))
    | none => none
  | .build t ps =>
    match partsA f ps.toList with
    | some l => vOf s (buildA P t l)
    | none => none
  | .buildSlice t n ps =>
    match partsA f ps.toList with
    | some l => pOf (buildSliceA P s t n l)
    | none => none
  | .load t x =>
    match evalA f x with
    | some a => vOf s (loadA P s t a)
    | none => none
  | .store t x y =>
    match evalA f x, evalA f y with
    | some a, some v => uOf (storeA P s t a v)
    | _, _ => none
  | .nilCheck x =>
    match evalA f x with
    | some (.pointer (some a)) => some (.val (.pointer (some a)) s)
    | some (.func (.func g) as bs) => some (.val (.func (.func g) as bs) s)
    | _ => none
  | .binOp op t x y _ =>
    match evalA f x, evalA f y with
    | some u, some v => vOf s (binA P op t u v)
    | _, _ => none
  | .unOp op _ x =>
    match evalA f x with
    | some u => vOf s (unA op u)
    | none => none
  | .convert a b x =>
    match evalA f x with
    | some u => pOf (convA P s a b u)
    | none => none
  | .makeFunc (.func g) as bs =>
    match evalAll f as.toList, evalAll f bs.toList with
    | some l, some m => some (.val (.func (.func g) l.toArray m.toArray) s)
    | _, _ => none
  | .makeInterface t x =>
    match P.underlying t, evalA f x with
    | some (.interface _), _ => none
    | some _, some v => some (.val (.iface t v) s)
    | _, _ => none
  | .makeMap _ none => if s.room then some (.val (.map (some s.next)) (s.new (.map []))) else none
  | .makeSlice t x y =>
    match evalA f x, evalA f y with
    | some u, some v => pOf (makeSliceA P s t u v)
    | _, _ => none
  | .slice t x lo hi mx =>
    match evalA f x, optA f lo, optA f hi, optA f mx with
    | some u, some l, some h, some m => vOf s (sliceA P s t u l h m)
    | _, _, _, _ => none
  | .fieldAddr t x i =>
    match evalA f x with
    | some u => vOf s (fieldAddrA P t u i)
    | none => none
  | .field t x i =>
    match evalA f x with
    | some u => vOf s (fieldA P t u i)
    | none => none
  | .indexAddr t x y =>
    match evalA f x, evalA f y with
    | some u, some v => vOf s (indexAddrA P t u v)
    | _, _ => none
  | .index t x y =>
    match evalA f x, evalA f y with
    | some u, some v => vOf s (indexA P t u v)
    | _, _ => none
  | .lookup t x y ok =>
    match evalA f x, evalA f y with
    | some u, some v => vOf s (lookupA P s t u v ok)
    | _, _ => none
  | .mapUpdate t x y z =>
    match evalA f x, evalA f y, evalA f z with
    | some m, some k, some v => uOf (mapUpdateA P s t m k v)
    | _, _, _ => none
  | .extract x i =>
    match evalA f x with
    | some u => vOf s (extractA u i)
    | none => none
  | .call c =>
    match evalAll f c.args.toList with
    | some args =>
      match c.callee with
      | .builtin b => builtinA P s b c.argTypes.toList args
      | .value x =>
        match evalA f x with
        | some (.func (.func g) as bs) => some (.call g (as.toList ++ args ++ bs.toList))
        | _ => none
      | _ => none
    | none => none
  | _ => none

/-- Does it look into memory at most? (It may stand in a statement whose order is open.) -/
def quietOp (P : Program) (o : Oper) : Bool :=
  match o.op with
  | .move _ | .assign _ | .pick _ _ _ | .build _ _ | .load _ _ | .nilCheck _ | .binOp _ _ _ _ _ | .unOp _ _ _ | .makeFunc _ _ _ | .makeInterface _ _
  | .slice _ _ _ _ _ | .fieldAddr _ _ _ | .field _ _ _ | .indexAddr _ _ _ | .index _ _ _ | .lookup _ _ _ _ | .extract _ _ => true
  | .convert _ b _ =>
    match P.underlying b with
    | some (.slice _) => false
    | _ => true
  | .call c =>
    match c.callee with
    | .builtin .len | .builtin .min | .builtin .max => true
    | _ => false
  | _ => false
/-- A text as bytes. -/
def textConv (P : Program) (src dst : TypeId) : Bool :=
  match P.underlying src, P.underlying dst with
  | some .string, some (.slice _) => true
  | _, _ => false
/-- Does it lay one new block, and nothing else? -/
def allocOp (P : Program) (o : Oper) : Bool :=
  match o.op with
  | .alloc _ | .box _ _ | .buildSlice _ _ _ | .makeSlice _ _ _ => true
  | .convert a b _ => textConv P a b
  | _ => false
def effectOp (P : Program) (o : Oper) : Bool := !quietOp P o && !allocOp P o

/-! Code. -/
inductive AX where
  | normal
  | exit (id : Nat)
  | ret
abbrev Out := Option (AX × AFr × ASt)

def yieldA (ops : List Oper) (f : AFr) (j : Nat) : Option Bool :=
  match ops.drop j with
  | o :: _ =>
    match o.dst with
    | some d =>
      if Nat.blt d f.n then
        match f.get d with
        | .bool b => some b
        | _ => none
      else none
    | none => none
  | [] => none
def wantedA (ops : List Oper) (o : Oper) (f : AFr) : Bool :=
  match o.guard with
  | none => true
  | some (j, want) =>
    match yieldA ops f j with
    | some b => b == want
    | none => false
def putD (f : AFr) (d : Option Tmp) (v : Value) : Option AFr :=
  match d with
  | some t => if Nat.blt t f.n then some (f.put t v) else none
  | none => some f

def runOps (P : Program) (call : FuncId → List Value → ASt → Option (Value × ASt)) (all : List Oper) : List Oper → AFr → ASt → Option (AFr × ASt)
  | [], f, s => some (f, s)
  | o :: r, f, s =>
    if wantedA all o f then
      match aop P o f s with
      | some (.val v s') =>
        match putD f o.dst v with
        | some f' => runOps P call all r f' s'
        | none => none
      | some (.call g args) =>
        match call g args s with
        | some (v, s') =>
          match putD f o.dst v with
          | some f' => runOps P call all r f' s'
          | none => none
        | none => none
      | none => none
    else
      match putD f o.dst undef with
      | some f' => runOps P call all r f' s
      | none => none

/-! A statement whose order is open. -/
def nth0 : List Nat → Nat → Nat
  | [], _ => 0
  | x :: _, 0 => x
  | _ :: r, n + 1 => nth0 r n
/-- Of each operation the operations that stand ahead of it in every order: a bit each. -/
def maskOf (acc : List Nat) : List Edge → Nat → Nat
  | [], m => m
  | e :: r, m => maskOf acc r (if Region.binds .any e then m ||| 2 ^ e.on ||| nth0 acc e.on else m)
def masks : List Oper → List Nat → List Nat
  | [], acc => acc
  | o :: r, acc => masks r (acc ++ [maskOf acc o.after.toList 0])
/-- The slots that an operation looks at. -/
def seenBy (ops : List Oper) (o : Oper) : List Nat :=
  (o.op.operands.toList.filterMap fun | .tmp t => some t | _ => none) ++
  (match o.guard with
    | some (j, _) =>
      match ops.drop j with
      | p :: _ => p.dst.toList
      | [] => []
    | none => [])
def hits (l : List Nat) (d : Option Tmp) : Bool :=
  match d with
  | some t => l.any (Nat.beq t)
  | none => false
/-- Must the first one stand ahead of the second one? -/
def depends (P : Program) (ops : List Oper) (x y : Oper) : Bool :=
  effectOp P x && effectOp P y || hits (seenBy ops y) x.dst || hits (seenBy ops x) y.dst || hits x.dst.toList y.dst
def regOk (P : Program) (ops : List Oper) : Bool :=
  let ms := masks ops []
  ops.zipIdx.all fun y =>
    (y.1.after.toList.all fun e => !Region.binds .any e || Nat.blt e.on y.2) &&
    ops.zipIdx.all fun x => !(Nat.blt x.2 y.2 && depends P ops x.1 y.1) || Nat.testBit (nth0 ms y.2) x.2

/-- What became of an operation. -/
inductive Ev where
  | skip
  | quiet (v : Value)
  | made (v : Value) (id : Nat) (b : Blk)
  | eff (v : Value) (s : ASt)
def Ev.val : Ev → Value
  | .skip => undef
  | .quiet v => v
  | .made v _ _ => v
  | .eff v _ => v

/-- The new blocks that stand ahead are laid, where they don't lie yet. -/
def fill (p : Nat → Bool) : ASt → List (Nat × Nat × Blk) → ASt
  | s, [] => s
  | s, (j, id, b) :: r =>
    match p j, s.heap.get id with
    | true, none => fill p (s.put id (.blk b)) r
    | _, _ => fill p s r

def drawOp (P : Program) (call : FuncId → List Value → ASt → Option (Value × ASt)) (all : List Oper) (m id : Nat) (as : List (Nat × Nat × Blk)) (o : Oper) (f : AFr) (T : ASt) : Option Ev :=
  match wantedA all o f with
  | false => some .skip
  | true =>
    match quietOp P o, allocOp P o with
    | true, _ =>
      match aop P o f (fill (Nat.testBit m) T as) with
      | some (.val v _) => some (.quiet v)
      | _ => none
    | false, true =>
      match aop P o f ⟨.nil, id⟩ with
      | some (.val v s1) =>
        match s1.blk? id with
        | some b => some (.made v id b)
        | none => none
      | _ => none
    | false, false =>
      match aop P o f (fill (Nat.testBit m) T as) with
      | some (.val v s1) => some (.eff v s1)
      | some (.call g args) =>
        match call g args (fill (Nat.testBit m) T as) with
        | some (v, s1) => some (.eff v s1)
        | none => none
      | none => none

/-- i: the place; id: the next block's; T: the state behind the last effect; as: the new blocks; sts: the states behind each effect. What became of each operation, in the text's order. -/
def drawOps (P : Program) (call : FuncId → List Value → ASt → Option (Value × ASt)) (all : List Oper) : List Nat → List Oper → Nat → Nat → AFr → ASt → List (Nat × Nat × Blk) → Option (List Ev)
  | m :: ms, o :: r, i, id, f, T, as =>
    match drawOp P call all m id as o f T with
    | some e =>
      match putD f o.dst e.val with
      | some f' =>
        match drawOps P call all ms r (i + 1) (if allocOp P o then id + 1 else id) f' (match e with | .eff _ s => s | _ => T) (match e with | .made _ d b => as ++ [(i, d, b)] | _ => as) with
        | some es => some (e :: es)
        | none => none
      | none => none
    | none => none
  | _, _, _, _, _, _, _ => some []

/-- The new blocks, the states behind the effects (a first one ahead of all), and the frames ahead of each operation. -/
def madeOf : List Ev → Nat → List (Nat × Nat × Blk)
  | [], _ => []
  | .made _ id b :: r, i => (i, id, b) :: madeOf r (i + 1)
  | _ :: r, i => madeOf r (i + 1)
def stagesOf (P : Program) : List Oper → List Ev → ASt → List ASt
  | o :: r, e :: es, T =>
    match e with
    | .eff _ s => T :: stagesOf P r es s
    | _ => if effectOp P o then T :: stagesOf P r es T else stagesOf P r es T
  | _, _, T => [T]
def framesOf : List Oper → List Ev → AFr → AFr
  | o :: r, e :: es, f =>
    match putD f o.dst e.val with
    | some f' => framesOf r es f'
    | none => f
  | _, _, f => f
def countP (p : Nat → Bool) (P : Program) : List Oper → Nat → Nat
  | [], _ => 0
  | o :: r, i => if effectOp P o && p i then countP p P r (i + 1) + 1 else countP p P r (i + 1)

/-! The same value. -/
def valEq1 : Value → Value → Bool
  | .bool a, .bool b => a == b
  | .int k a, .int k' b => (if k = k' then true else false) && a == b
  | .string a, .string b => a.data.toList == b.data.toList
  | .pointer a, .pointer b => if a = b then true else false
  | .slice a n c, .slice b m d => (if a = b then true else false) && Nat.beq n m && Nat.beq c d
  | .map a, .map b => if a = b then true else false
  | .nilFunc, .nilFunc => true
  | .nilIface, .nilIface => true
  | _, _ => false
def valEqL : List Value → List Value → Bool
  | [], [] => true
  | a :: r, b :: q => valEq1 a b && valEqL r q
  | _, _ => false
def valEq2 : Value → Value → Bool
  | .agg a, .agg b => valEqL a.toList b.toList
  | a, b => valEq1 a b
def valEqM : List Value → List Value → Bool
  | [], [] => true
  | a :: r, b :: q => valEq2 a b && valEqM r q
  | _, _ => false
def valEq : Value → Value → Bool
  | .agg a, .agg b => valEqL a.toList b.toList
  | .tuple a, .tuple b => valEqM a.toList b.toList
  | .func (.func g) as bs, .func (.func g') as' bs' => Nat.beq g g' && valEqL as.toList as'.toList && valEqL bs.toList bs'.toList
  | a, b => valEq1 a b

/-- Does an operation that looks see the same, wherever among the effects it stands? -/
def sameAt (P : Program) (m : Nat) (as : List (Nat × Nat × Blk)) (o : Oper) (f : AFr) (v : Value) : List ASt → Bool
  | [] => true
  | T :: r =>
    match aop P o f (fill (Nat.testBit m) T as) with
    | some (.val u _) => valEq v u && sameAt P m as o f v r
    | _ => false
/-- All of them. -/
def checkAll (P : Program) (all : List Oper) (ms : List Nat) (as : List (Nat × Nat × Blk)) (sts : List ASt) : List Nat → List Oper → List Ev → Nat → AFr → Bool
  | m :: mr, o :: r, e :: es, i, f =>
    (match e with
      | .quiet v => sameAt P m as o f v ((sts.take (countP (fun j => !Nat.testBit (nth0 ms j) i) P all 0 + 1)).drop (countP (Nat.testBit m) P all 0))
      | _ => true) &&
    match putD f o.dst e.val with
    | some f' => checkAll P all ms as sts mr r es (i + 1) f'
    | none => false
  | _, _, _, _, _ => true

def allocs (P : Program) : List Oper → Nat
  | [] => 0
  | o :: r => if allocOp P o then allocs P r + 1 else allocs P r
def drawRun (P : Program) (call : FuncId → List Value → ASt → Option (Value × ASt)) (ops : List Oper) (f : AFr) (s : ASt) : Option (AFr × ASt) :=
  match Nat.ble 0 16000000 with
  | false => none
  | true =>
    match drawOps P call ops (masks ops []) ops 0 s.next f ⟨s.heap, s.next + allocs P ops⟩ [] with
    | some es =>
      match checkAll P ops (masks ops []) (madeOf es 0) (stagesOf P ops es ⟨s.heap, s.next + allocs P ops⟩) (masks ops []) ops es 0 f with
      | true => some (framesOf ops es f, fill (fun _ => true) ((stagesOf P ops es ⟨s.heap, s.next + allocs P ops⟩).getLastD s) (madeOf es 0))
      | false => none
    | none => none

def resultsA (P : Program) (f : AFr) (s : ASt) : List ResultVar → Option (List Value)
  | [] => some []
  | .tmp t :: r =>
    if Nat.blt t f.n then
      match resultsA P f s r with
      | some l => some (f.get t :: l)
      | none => none
    else none
  | .cell a t :: r =>
    if Nat.blt a f.n then
      match loadA P s t (f.get a), resultsA P f s r with
      | some v, some l => some (v :: l)
      | _, _ => none
    else none
def oneOf : List Value → Value
  | [v] => v
  | l => .tuple l.toArray
def setAll : Tr Value → Nat → List Value → Tr Value
  | t, _, [] => t
  | t, i, v :: r => setAll (Tr.set (depth i) t i v) (i + 1) r
def enterA (fn : Func) (args : List Value) : AFr := ⟨setAll .nil 0 args, args.length + (fn.ntmps - args.length)⟩

/-- What the machine does at functions that it does not step through. -/
abbrev Prim := List Value → ASt → Option (Value × ASt)
abbrev Prims := List (Nat × Prim)
def Prims.at (l : Prims) (g : Nat) : Option Prim :=
  match l with
  | [] => none
  | (h, p) :: r => if Nat.beq h g then some p else Prims.at r g
def callStep (P : Program) (lib : Prims) (exec : Code → AFr → ASt → Out) (g : FuncId) (args : List Value) (s : ASt) : Option (Value × ASt) :=
  match lib.at g with
  | some p => p args s
  | none =>
  match P.funcs[g]? with
  | some fn =>
    match fn.body, Nat.ble (args.length + (fn.ntmps - args.length)) 16000000 with
    | some c, true =>
      match exec c (enterA fn args) s with
      | some (.normal, f, s') =>
        match resultsA P f s' fn.results.toList with
        | some l => some (oneOf l, s')
        | none => none
      | some (.ret, f, s') =>
        match resultsA P f s' fn.results.toList with
        | some l => some (oneOf l, s')
        | none => none
      | _ => none
    | _, _ => none
  | none => none

def step (P : Program) (lib : Prims) (exec : Code → AFr → ASt → Out) (c : Code) (f : AFr) (s : ASt) : Out :=
  match c with
  | .skip => some (.normal, f, s)
  | .label _ => some (.normal, f, s)
  | .region _ ops d =>
    match (match d with
      | false => runOps P (callStep P lib exec) ops.toList ops.toList f s
      | true => drawRun P (callStep P lib exec) ops.toList f s) with
    | some (f', s') => some (.normal, f', s')
    | none => none
  | .seq a b =>
    match exec a f s with
    | some (.normal, f', s') => exec b f' s'
    | r => r
  | .cond x a b =>
    match evalA f x with
    | some (.bool t) =>
      match t with
      | true => exec a f s
      | false => exec b f s
    | _ => none
  | .block id a =>
    match exec a f s with
    | some (.exit j, f', s') => if Nat.beq j id then some (.normal, f', s') else some (.exit j, f', s')
    | r => r
  | .loop a =>
    match exec a f s with
    | some (.normal, f', s') => exec (.loop a) f' s'
    | r => r
  | .exit id => some (.exit id, f, s)
  | .scope a => exec a f s
  | .ret => some (.ret, f, s)
  | _ => none
def exec (P : Program) (lib : Prims) : Nat → Code → AFr → ASt → Out
  | 0 => fun _ _ _ => none
  | n + 1 => step P lib (exec P lib n)
def acall (P : Program) (lib : Prims) (n : Nat) (g : FuncId) (args : List Value) (s : ASt) : Option (Value × ASt) := callStep P lib (exec P lib n) g args s

/-! What is asked of the program once: each statement whose order is open looks only, but for a tail that stands behind all. -/
def codeOk (P : Program) : Code → Bool
  | .region _ ops true => regOk P ops.toList
  | .seq a b => codeOk P a && codeOk P b
  | .cond _ a b => codeOk P a && codeOk P b
  | .block _ a => codeOk P a
  | .loop a => codeOk P a
  | .scope a => codeOk P a
  | _ => true
def fnOk (P : Program) (lib : Prims) (g : Nat) (fn : Func) : Bool :=
  (fn.name != "runtime.NumGoroutine") &&
  ((lib.at g).isSome || match fn.body with
    | some c => codeOk P c
    | none => true)
def progOk (P : Program) (lib : Prims) : Bool :=
  P.follows .mixedOrders && (P.funcs.toList.zipIdx.all fun x => fnOk P lib x.2 x.1)

def ASt.empty : ASt := ⟨.nil, 0⟩
def answersTrue : Option (Value × ASt) → Bool
  | some (.bool b, _) => b
  | _ => false

end Go.Cl
