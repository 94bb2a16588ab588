/-
 The clean machine, first part: what it is, and that it is true to the model, operation by operation.
-/
import GoSem.Step
import Derived.Orders
import Derived.Below
import Derived.WalkKit
import Derived.Deep.QuietTactic
import Derived.WalkSpells
import Derived.WalkLawsBesides
import Derived.Laws.StructEq
namespace Go.Cl
inductive Tr (α : Type) where
 | nil
 | node (v : Option α) (l r : Tr α)
def Tr.val {α : Type} : Tr α -> Option α
 | .nil => none
 | .node v _ _ => v
def Tr.left {α : Type} : Tr α -> Tr α
 | .nil => .nil
 | .node _ l _ => l
def Tr.right {α : Type} : Tr α -> Tr α
 | .nil => .nil
 | .node _ _ r => r
def Tr.get {α : Type} : Tr α -> Nat -> Option α
 | .nil, _ => none
 | .node v l r, i =>
  match i with
  | 0 => v
  | k + 1 =>
   match k % 2 with
   | 0 => l.get (k / 2)
   | _ + 1 => r.get (k / 2)
def Tr.set {α : Type} : Nat -> Tr α -> Nat -> α -> Tr α
 | 0, t, _, _ => t
 | f + 1, t, i, u =>
  match i with
  | 0 => .node (some u) t.left t.right
  | k + 1 =>
   match k % 2 with
   | 0 => .node t.val (Tr.set f t.left (k / 2) u) t.right
   | _ + 1 => .node t.val t.left (Tr.set f t.right (k / 2) u)
def depth (i : Nat) : Nat := Nat.log2 (i + 1) + 1
structure Blk where
 cells : List Value
 low : Nat
 own : Bool
 esz : Nat
inductive AO where
 | blk (b : Blk)
 | map (es : List (Value × Value))
structure ASt where
 heap : Tr AO
 next : Nat
structure AFr where
 slots : Tr Value
 n : Nat
def ASt.blk? (s : ASt) (i : Nat) : Option Blk :=
 match s.heap.get i with
 | some (.blk b) => some b
 | _ => none
def ASt.map? (s : ASt) (i : Nat) : Option (List (Value × Value)) :=
 match s.heap.get i with
 | some (.map es) => some es
 | _ => none
def ASt.put (s : ASt) (i : Nat) (o : AO) : ASt := ⟨Tr.set (depth i) s.heap i o, s.next⟩
def ASt.new (s : ASt) (o : AO) : ASt := ⟨Tr.set (depth s.next) s.heap s.next o, s.next + 1⟩
def ASt.room (_ : ASt) : Bool := true
def AFr.get (f : AFr) (t : Nat) : Value :=
 match f.slots.get t with
 | some v => v
 | none => undef
def AFr.put (f : AFr) (t : Nat) (v : Value) : AFr := ⟨Tr.set (depth t) f.slots t v, f.n⟩
def plain1 : Value -> Bool
 | .bool _ | .int _ _ | .string _ | .pointer none | .slice none 0 0 | .map none | .nilFunc | .nilIface => true
 | _ => false
def plainV : Value -> Bool
 | .agg cs => cs.toList.all plain1
 | .tuple cs => cs.toList.all plain1
 | v => plain1 v
def evalA (f : AFr) : Operand -> Option Value
 | .tmp t => if Nat.blt t f.n then some (f.get t) else none
 | .const v => if plainV v then some v else none
 | .global _ => none
 | .func g => some (.func (.func g) #[] #[])
def evalAll (f : AFr) : List Operand -> Option (List Value)
 | [] => some []
 | x :: r =>
  match evalA f x with
  | some v =>
   match evalAll f r with
   | some vs => some (v :: vs)
   | none => none
  | none => none
def takeN : Nat -> List Value -> Option (List Value)
 | 0, _ => some []
 | _ + 1, [] => none
 | n + 1, v :: r =>
  match takeN n r with
  | some l => some (v :: l)
  | none => none
def dropN : Nat -> List Value -> List Value
 | 0, l => l
 | _ + 1, [] => []
 | n + 1, _ :: r => dropN n r
def setAt : List Value -> Nat -> List Value -> Option (List Value)
 | l, _, [] => some l
 | [], _, _ :: _ => none
 | c :: r, n + 1, vs =>
  match setAt r n vs with
  | some l => some (c :: l)
  | none => none
 | _ :: r, 0, v :: vs =>
  match setAt r 0 vs with
  | some l => some (v :: l)
  | none => none
def okCell : Value -> Bool
 | .agg _ | .tuple _ => false
 | _ => true
def ASt.cellsAt (s : ASt) (i off c n : Nat) : Option (List Value) :=
 match s.blk? i with
 | some b =>
  if Nat.ble b.low c && Nat.ble c (b.cells.length + 1) && Nat.blt (off + n) c then takeN n (dropN off b.cells) else none
 | none => none
def ASt.storeAt (s : ASt) (i off c : Nat) (vs : List Value) : Option ASt :=
 match s.blk? i with
 | some b =>
  if b.own && Nat.ble b.low c && Nat.beq c (b.cells.length + 1) && vs.all okCell then
   match vs with
   | [] => none
   | _ :: _ =>
   match setAt b.cells off vs with
   | some l => some (s.put i (.blk { b with cells := l, low := c }))
   | none => none
  else none
 | none => none
def isAggB (P : Program) (t : TypeId) : Option Bool :=
 match P.underlying t with
 | some (.struct _) | some (.array _ _) => some true
 | some _ => some false
 | none => none
def sizeB (P : Program) (t : TypeId) : Option Nat :=
 match P.info? t with
 | some i => some i.size
 | none => none
def zeroB (P : Program) (t : TypeId) : Option Value :=
 match P.info? t with
 | some i => i.zero
 | none => none
def bytesB (P : Program) (t : TypeId) : Option Nat :=
 match P.info? t with
 | some i => some i.bytes
 | none => none
def partA (P : Program) (t : TypeId) (cs : List Value) (off : Nat) : Option Value :=
 match isAggB P t, sizeB P t with
 | some true, some n =>
  match takeN n (dropN off cs) with
  | some l => some (.agg l.toArray)
  | none => none
 | some false, _ =>
  match dropN off cs with
  | v :: _ => some v
  | [] => none
 | _, _ => none
def loadA (P : Program) (s : ASt) (t : TypeId) (a : Value) : Option Value :=
 match a with
 | .pointer (some ⟨i, off, some c⟩) =>
  match isAggB P t, sizeB P t with
  | some true, some n =>
   match s.cellsAt i off c n with
   | some l => some (.agg l.toArray)
   | none => none
  | some false, _ =>
   match s.cellsAt i off c 1 with
   | some (v :: _) => some v
   | _ => none
  | _, _ => none
 | _ => none
def storeA (P : Program) (s : ASt) (t : TypeId) (a v : Value) : Option ASt :=
 match a, sizeB P t with
 | .pointer (some ⟨_, _, some _⟩), some 0 => if Nat.beq v.cells.toList.length 0 then some s else none
 | .pointer (some ⟨i, off, some c⟩), some n =>
  if Nat.beq v.cells.toList.length n then s.storeAt i off c v.cells.toList else none
 | _, _ => none
def newPtr (s : ASt) (cs : List Value) (esz : Nat) : Option (Value × ASt) :=
 if s.room then some (.pointer (some ⟨s.next, 0, some (cs.length + 1)⟩), s.new (.blk ⟨cs, 1, true, esz⟩)) else none
def newSlice (s : ASt) (cs : List Value) (len esz : Nat) : Option (Value × ASt) :=
 if s.room then some (.slice (some ⟨s.next, 0, none⟩) len (cs.length + 1), s.new (.blk ⟨cs, 1, true, esz⟩)) else none
def repeatL (z : List Value) : Nat -> List Value
 | 0 => []
 | n + 1 => z ++ repeatL z n
def intOp (op : BinOp) (k : IntKind) (x y : Int) : Option Value :=
 match op with
 | .add => some (.int k (k.wrap (x + y)))
 | .sub => some (.int k (k.wrap (x - y)))
 | .mul => some (.int k (k.wrap (x * y)))
 | .quo => if y = 0 then none else some (.int k (k.wrap (x.tdiv y)))
 | .rem => if y = 0 then none else some (.int k (x.tmod y))
 | .and => some (.int k (k.wrap (BitVec.ofInt k.bits x &&& BitVec.ofInt k.bits y).toNat))
 | .or => some (.int k (k.wrap (BitVec.ofInt k.bits x ||| BitVec.ofInt k.bits y).toNat))
 | .xor => some (.int k (k.wrap (BitVec.ofInt k.bits x ^^^ BitVec.ofInt k.bits y).toNat))
 | .andNot => some (.int k (k.wrap (BitVec.ofInt k.bits x &&& ~~~BitVec.ofInt k.bits y).toNat))
 | .eql => some (.bool (x == y))
 | .neq => some (.bool (x != y))
 | .lss => some (.bool (x < y))
 | .leq => some (.bool (x ≤ y))
 | .gtr => some (.bool (x > y))
 | .geq => some (.bool (x ≥ y))
 | _ => none
def shiftOp (op : BinOp) (k : IntKind) (x y : Int) : Option Value :=
 if y < 0 then none else
 match op with
 | .shl => some (.int k (k.wrap (x * 2 ^ (min y.toNat k.bits))))
 | .shr => some (.int k (x.fdiv (2 ^ (min y.toNat k.bits))))
 | _ => none
def strOp (op : BinOp) (x y : ByteArray) : Option Value :=
 match op with
 | .add => if Nat.ble (x.data.toList.length + y.data.toList.length) 4294967296 then some (.string ⟨(x.data.toList ++ y.data.toList).toArray⟩) else none
 | .eql => some (.bool (x.data.toList == y.data.toList))
 | .neq => some (.bool (!(x.data.toList == y.data.toList)))
 | .lss => some (.bool (Op.bytesLess x.data.toList y.data.toList))
 | .leq => some (.bool (Op.bytesLess x.data.toList y.data.toList || x.data.toList == y.data.toList))
 | .gtr => some (.bool (!(Op.bytesLess x.data.toList y.data.toList || x.data.toList == y.data.toList)))
 | .geq => some (.bool (!(Op.bytesLess x.data.toList y.data.toList)))
 | _ => none
def nilEq (P : Program) (t : TypeId) (x y : Value) : Option Bool :=
 match P.underlying t, x, y with
 | some .bool, .bool a, .bool b => some (a == b)
 | some (.pointer _), .pointer none, .pointer b => some b.isNone
 | some (.pointer _), .pointer (some _), .pointer none => some false
 | some (.slice _), .slice none _ _, .slice b _ _ => some b.isNone
 | some (.slice _), .slice (some _) _ _, .slice none _ _ => some false
 | some (.map _ _), .map none, .map b => some b.isNone
 | some (.map _ _), .map (some _), .map none => some false
 | some (.func _ _ _), .nilFunc, .nilFunc => some true
 | some (.func _ _ _), .nilFunc, .func _ _ _ => some false
 | some (.func _ _ _), .func _ _ _, .nilFunc => some false
 | _, _, _ => none
def intsEqA : List Value -> List Value -> Option Bool
 | [], [] => some true
 | .int k a :: r, .int k' b :: q =>
  match (if k = k' then true else false), intsEqA r q with
  | true, some t => some (a == b && t)
  | _, _ => none
 | _, _ => none
def fieldsInt (P : Program) : List Field -> Nat -> Bool
 | [], _ => true
 | f :: r, i =>
  (match P.underlying f.type with
   | some (.int _) => f.name != "_" && Nat.beq f.offset i
   | _ => false) && fieldsInt P r (i + 1)
def cellEqA : Value -> Value -> Option Bool
 | .int k a, .int k' b => if k = k' then some (a == b) else none
 | .string a, .string b => some (a.toList == b.toList)
 | _, _ => none
def cellsEqA : List Value -> List Value -> Option Bool
 | [], [] => some true
 | x :: r, y :: q =>
  match cellEqA x y, cellsEqA r q with
  | some a, some t => some (a && t)
  | _, _ => none
 | _, _ => none
def fieldsText (P : Program) : List Field -> List Value -> Nat -> Bool
 | [], _, _ => true
 | _ :: _, [], _ => false
 | f :: r, x :: q, i =>
  (match P.underlying f.type, x with
   | some (.int _), .int _ _ => f.name != "_" && Nat.beq f.offset i
   | some .string, .string _ => f.name != "_" && Nat.beq f.offset i
   | _, _ => false) && fieldsText P r q (i + 1)
def arrEqA (P : Program) (t : TypeId) (xs ys : Array Value) : Option Bool :=
 match P.underlying t with
 | some (.array n e) =>
  match P.underlying e, sizeB P e with
  | some (.int _), some 1 => if Nat.beq xs.toList.length n && Nat.beq ys.toList.length n && !P.eqGuardType P.depth t then intsEqA xs.toList ys.toList else none
  | _, _ => none
 | some (.struct fs) => if Nat.beq xs.toList.length fs.toList.length && Nat.beq ys.toList.length fs.toList.length && !P.eqGuardType P.depth t && !P.stoodInHeld t then (if fieldsInt P fs.toList 0 then intsEqA xs.toList ys.toList else if fieldsText P fs.toList xs.toList 0 then cellsEqA xs.toList ys.toList else none) else none
 | _ => none
def binA (P : Program) (op : BinOp) (t : TypeId) (x y : Value) : Option Value :=
 match x, y with
 | .agg xs, .agg ys =>
  match op with
  | .eql =>
   match arrEqA P t xs ys with
   | some b => some (.bool b)
   | none => none
  | .neq =>
   match arrEqA P t xs ys with
   | some b => some (.bool (!b))
   | none => none
  | _ => none
 | .int k a, .int k' b =>
  match op with
  | .shl => shiftOp .shl k a b
  | .shr => shiftOp .shr k a b
  | _ => if k = k' then intOp op k a b else none
 | .string a, .string b => strOp op a b
 | _, _ =>
  match op with
  | .eql =>
   match nilEq P t x y with
   | some b => some (.bool b)
   | none => none
  | .neq =>
   match nilEq P t x y with
   | some b => some (.bool (!b))
   | none => none
  | _ => none
def unA (op : UnOp) (x : Value) : Option Value :=
 match op, x with
 | .neg, .int k n => intOp .sub k 0 n
 | .xor, .int k n => intOp .xor k (if k.signed then -1 else k.max) n
 | .not, .bool b => some (.bool (!b))
 | _, _ => none
def toByte : Value -> Option UInt8
 | .int .u8 n => some (UInt8.ofNat n.toNat)
 | _ => none
def toBytes : List Value -> Option (List UInt8)
 | [] => some []
 | v :: r =>
  match toByte v with
  | some b =>
   match toBytes r with
   | some l => some (b :: l)
   | none => none
  | none => none
def ofBytes (l : List UInt8) : List Value := l.map fun b => .int .u8 b.toNat
def isU8 (P : Program) (t : TypeId) : Bool :=
 match P.underlying t with
 | some (.int .u8) => true
 | _ => false
def convA (P : Program) (s : ASt) (src dst : TypeId) (x : Value) : Option (Value × ASt) :=
 match P.underlying src, P.underlying dst, x with
 | some _, some (.int k), .int _ n => some (.int k (k.wrap n), s)
 | some _, some .string, .string b => some (.string b, s)
 | some .string, some (.slice e), .string b =>
  if isU8 P e && Nat.ble b.data.toList.length 9223372036854775807 then newSlice s (ofBytes b.data.toList) b.data.toList.length 1 else none
 | some (.slice _), some (.slice e), .slice (some ⟨i, _, none⟩) len c =>
  match len with
  | 0 => none
  | _ + 1 =>
   match s.blk? i with
   | some b => if Nat.beq src dst && isU8 P e && b.own && Nat.ble b.low c && Nat.ble c (b.cells.length + 1) && Nat.beq b.esz 1 then some (x, s.put i (.blk b)) else none
   | none => none
 | some (.slice e), some .string, .slice none _ _ => if isU8 P e then some (.string ⟨#[]⟩, s) else none
 | some (.slice e), some .string, .slice (some ⟨i, off, none⟩) len c =>
  if isU8 P e then
   match len with
   | 0 => some (.string ⟨#[]⟩, s)
   | _ + 1 =>
    match s.cellsAt i off c len with
    | some l =>
     match toBytes l with
     | some bs => some (.string ⟨bs.toArray⟩, s)
     | none => none
    | none => none
  else none
 | _, _, _ => none
def natOf : Option Value -> Nat -> Option Nat
 | none, d => some d
 | some (.int _ (.ofNat n)), _ => some n
 | some _, _ => none
def eszIs (s : ASt) (i c z : Nat) : Bool :=
 match c with
 | 0 => true
 | _ + 1 =>
  match s.blk? i with
  | some b => Nat.beq b.esz z
  | none => false
def sliceA (P : Program) (s : ASt) (t : TypeId) (x : Value) (lo hi mx : Option Value) : Option Value :=
 match P.underlying t, x with
 | some .string, .string b =>
  match mx, natOf lo 0, natOf hi b.data.toList.length with
  | none, some l, some h => if Nat.ble l h && Nat.ble h b.data.toList.length then some (.string ⟨((b.data.toList.take h).drop l).toArray⟩) else none
  | _, _, _ => none
 | some (.slice e), .slice a len c =>
  match natOf lo 0, natOf hi len, sizeB P e with
  | some l, some h, some z =>
   if Nat.ble l h && Nat.ble h len then
    match mx with
    | none =>
     match a with
     | none => some (.slice none 0 0)
     | some ⟨i, off, none⟩ => if eszIs s i c z then some (.slice (some ⟨i, off + l * z, none⟩) (h - l) c) else none
     | _ => none
    | some m =>
     match natOf (some m) 0, hi with
     | some m, some _ =>
      if Nat.ble h m && Nat.ble m len then
       match a with
       | none => some (.slice none 0 0)
       | some ⟨i, off, none⟩ => if eszIs s i c z then some (.slice (some ⟨i, off + l * z, none⟩) (h - l) (if Nat.beq l m then 0 else c)) else none
       | _ => none
      else none
     | _, _ => none
   else none
  | _, _, _ => none
 | some (.array n e), .pointer (some ⟨i, off, some c⟩) =>
  match natOf lo 0, natOf hi n, sizeB P e, s.blk? i, mx with
  | some l, some h, some z, some b, none =>
   if Nat.ble l h && Nat.ble h n && Nat.ble b.low c && Nat.ble c (b.cells.length + 1) && Nat.blt (off + n * z) c && Nat.beq b.esz z && Nat.blt 0 z then some (.slice (some ⟨i, off + l * z, none⟩) (h - l) c) else none
  | _, _, _, _, _ => none
 | _, _ => none
def indexAddrA (P : Program) (t : TypeId) (x ix : Value) : Option Value :=
 match P.underlying t, x, ix with
 | some (.slice e), .slice (some ⟨i, off, none⟩) len c, .int _ (.ofNat n) =>
  match sizeB P e with
  | some z => if Nat.blt n len then some (.pointer (some ⟨i, off + n * z, some c⟩)) else none
  | none => none
 | some (.array len e), .pointer (some ⟨i, off, some c⟩), .int _ (.ofNat n) =>
  match sizeB P e with
  | some z => if Nat.blt n len then some (.pointer (some ⟨i, off + n * z, some c⟩)) else none
  | none => none
 | _, _, _ => none
def indexA (P : Program) (t : TypeId) (x ix : Value) : Option Value :=
 match P.underlying t, x, ix with
 | some .string, .string b, .int _ (.ofNat n) =>
  match (b.data.toList.drop n) with
  | c :: _ => some (.int .u8 c.toNat)
  | [] => none
 | some (.array len e), .agg cs, .int _ (.ofNat n) =>
  match sizeB P e with
  | some z => if Nat.blt n len then partA P e cs.toList (n * z) else none
  | none => none
 | _, _, _ => none
def fieldAddrA (P : Program) (t : TypeId) (x : Value) (f : Nat) : Option Value :=
 match P.underlying t, x with
 | some (.struct fs), .pointer (some ⟨i, off, some c⟩) =>
  match fs[f]? with
  | some fd =>
   match sizeB P fd.type with
   | some (_ + 1) => some (.pointer (some ⟨i, off + fd.offset, some c⟩))
   | _ => none
  | none => none
 | _, _ => none
def fieldA (P : Program) (t : TypeId) (x : Value) (f : Nat) : Option Value :=
 match P.underlying t, x with
 | some (.struct fs), .agg cs =>
  match fs[f]? with
  | some fd => partA P fd.type cs.toList fd.offset
  | none => none
 | _, _ => none
def extractA (x : Value) (i : Nat) : Option Value :=
 match x with
 | .tuple vs => vs[i]?
 | _ => none
def fillA (place : Nat -> Option (Nat × Nat)) : List Value -> List (Nat × Value) -> Option (List Value)
 | cs, [] => some cs
 | cs, (i, v) :: r =>
  match place i with
  | some (off, size) =>
   if Nat.beq v.cells.toList.length size && Nat.ble (off + size) cs.length then
    match setAt cs off v.cells.toList with
    | some l => fillA place l r
    | none => none
   else none
  | none => none
def placeOf (P : Program) (fs : Array Field) (i : Nat) : Option (Nat × Nat) :=
 match fs[i]? with
 | some f =>
  match sizeB P f.type with
  | some z => some (f.offset, z)
  | none => none
 | none => none
def buildA (P : Program) (t : TypeId) (parts : List (Nat × Value)) : Option Value :=
 match P.underlying t, zeroB P t with
 | some (.struct fs), some z =>
  if plainV z && fs.toList.all (fun f => (sizeB P f.type).isSome) then
   match fillA (placeOf P fs) z.cells.toList parts with
   | some l => some (.agg l.toArray)
   | none => none
  else none
 | some (.array _ e), some z =>
  match sizeB P e with
  | some n =>
   if plainV z then
    match fillA (fun i => some (i * n, n)) z.cells.toList parts with
    | some l => some (.agg l.toArray)
    | none => none
   else none
  | none => none
 | _, _ => none
def buildSliceA (P : Program) (s : ASt) (t : TypeId) (len : Nat) (parts : List (Nat × Value)) : Option (Value × ASt) :=
 match P.underlying t with
 | some (.slice e) =>
  match sizeB P e, zeroB P e with
  | some n, some z =>
   if Nat.ble (len * n) 65536 && plainV z && Nat.beq z.cells.toList.length n then
    match fillA (fun i => some (i * n, n)) (repeatL z.cells.toList len) parts with
    | some l => newSlice s l len n
    | none => none
   else none
  | _, _ => none
 | _ => none
def makeSliceA (P : Program) (s : ASt) (t : TypeId) (len cap : Value) : Option (Value × ASt) :=
 match P.underlying t, len, cap with
 | some (.slice e), .int _ (.ofNat l), .int _ (.ofNat c) =>
  match sizeB P e, zeroB P e, bytesB P e with
  | some n, some z, some by8 =>
   if Nat.ble l c && Nat.ble c 4294967296 && Nat.ble (by8 * c) 4294967296 && plainV z && Nat.beq z.cells.toList.length n then newSlice s (repeatL z.cells.toList l) l n else none
  | _, _, _ => none
 | _, _, _ => none
def srcCells (s : ASt) (z : Nat) : Value -> Option (Nat × List Value)
 | .slice none _ _ => some (0, [])
 | .slice (some ⟨i, off, none⟩) n c =>
  match n with
  | 0 => some (0, [])
  | _ + 1 =>
   match s.cellsAt i off c (n * z) with
   | some l => some (n, l)
   | none => none
 | .string b => if Nat.beq z 1 then some (b.data.toList.length, ofBytes b.data.toList) else none
 | _ => none
def srcA (s : ASt) (z by8 : Nat) (zv : Value) (xd : TypeDesc) (y : Value) : Option (Nat × List Value) :=
 match xd with
 | .int _ =>
  match y with
  | .int _ (.ofNat n) => if Nat.ble (n * by8) 140737488355328 && Nat.ble n 140737488355328 && plainV zv && Nat.beq zv.cells.toList.length z && Nat.blt 0 z then some (n, repeatL zv.cells.toList n) else none
  | _ => none
 | _ => srcCells s z y
def kill (b : Blk) : Blk := { b with low := b.low + b.cells.length + 2 }
def appendA (P : Program) (s : ASt) (sType xType : TypeId) (x y : Value) : Option (Value × ASt) :=
 match P.underlying sType, P.underlying xType with
 | some (.slice e), some xd =>
  match (match xd with
   | .slice _ => true
   | .string => true
   | .int _ => true
   | _ => false) with
  | false => none
  | true =>
  match sizeB P e, bytesB P e, zeroB P e with
  | some z, some by8, some zv =>
   match srcA s z by8 zv xd y with
   | some (n, new) =>
    match x with
    | .slice a len c =>
     if Nat.ble ((len + n) * by8) 140737488355328 && Nat.ble (len + n) 140737488355328 && Nat.blt 0 z && new.all okCell && Nat.beq zv.cells.toList.length z then
      match n with
      | 0 => some (x, s)
      | _ + 1 =>
       match a with
       | none => if Nat.beq len 0 && Nat.beq c 0 then newSlice s new n z else none
       | some ⟨i, off, none⟩ =>
        match c with
        | 0 => if Nat.beq len 0 then newSlice s new n z else none
        | _ + 1 =>
         match s.blk? i with
         | some b =>
          if b.own && Nat.ble b.low c && Nat.beq b.esz z then
           if Nat.beq c (b.cells.length + 1) && Nat.beq off 0 && Nat.beq (len * z) b.cells.length then
            some (.slice a (len + n) ((b.cells ++ new).length + 1), s.put i (.blk { b with cells := b.cells ++ new }))
           else
            match s.cellsAt i off c (len * z) with
            | some old => newSlice (s.put i (.blk (kill b))) (old ++ new) (len + n) z
            | none => none
          else none
         | none => none
       | _ => none
     else none
    | _ => none
   | none => none
  | _, _, _ => none
 | _, _ => none
def cutSrc (k : Nat) : Value -> Option (Nat × Value)
 | .slice a n c => some (min n k, .slice a (min n k) c)
 | .string b => some (min b.data.toList.length k, .string ⟨(b.data.toList.take k).toArray⟩)
 | _ => none
def copyA (P : Program) (s : ASt) (dT : TypeId) (x y : Value) : Option (Value × ASt) :=
 match P.underlying dT, x with
 | some (.slice e), .slice a dLen c =>
  match sizeB P e, cutSrc dLen y with
  | some z, some (k, y2) =>
   match k with
   | 0 => some (.int .i64 0, s)
   | _ + 1 =>
    match srcCells s z y2, a with
    | some (k2, new), some ⟨i, off, none⟩ =>
     match Nat.beq k2 k, s.storeAt i off c new with
     | true, some t => some (.int .i64 k, t)
     | _, _ => none
    | _, _ => none
  | _, _ => none
 | _, _ => none
def clearA (P : Program) (s : ASt) (t : TypeId) (x : Value) : Option (Value × ASt) :=
 match P.underlying t, x with
 | some (.slice _), .slice none _ _ => some (undef, s)
 | some (.slice e), .slice (some ⟨i, off, none⟩) n c =>
  match n with
  | 0 => some (undef, s)
  | m + 1 =>
   match sizeB P e, zeroB P e with
   | some z, some zv =>
    if plainV zv && Nat.beq zv.cells.toList.length z && Nat.blt 0 z then
     match s.storeAt i off c (repeatL zv.cells.toList (m + 1)) with
     | some s' => some (undef, s')
     | none => none
    else none
   | _, _ => none
 | _, _ => none
def lenA (P : Program) (s : ASt) (t : TypeId) (x : Value) : Option Value :=
 match P.underlying t, x with
 | some .string, .string b => some (.int .i64 b.data.toList.length)
 | some (.array n _), _ => some (.int .i64 n)
 | some (.slice _), .slice _ n _ => some (.int .i64 n)
 | some (.map _ _), .map none => some (.int .i64 0)
 | some (.map _ _), .map (some r) =>
  match s.map? r with
  | some es => some (.int .i64 es.length)
  | none => none
 | _, _ => none
def minA : Value -> Value -> Option Value
 | .int k x, .int _ y => some (.int k (if y < x then y else x))
 | _, _ => none
def maxA : Value -> Value -> Option Value
 | .int k x, .int _ y => some (.int k (if y > x then y else x))
 | _, _ => none
def foldA (g : Value -> Value -> Option Value) : Value -> List Value -> Option Value
 | x, [] => some x
 | x, y :: r =>
  match g x y with
  | some v => foldA g v r
  | none => none
def keyEq (P : Program) (t : TypeId) (a b : Value) : Option Bool :=
 match P.underlying t, a, b with
 | some (.int _), .int k x, .int k' y => if k = k' then some (x == y) else none
 | some .string, .string x, .string y => some (x.data.toList == y.data.toList)
 | _, _, _ => none
def findA (P : Program) (t : TypeId) (k : Value) : List (Value × Value) -> Option (Option Value)
 | [] => some none
 | (k', v) :: r =>
  match keyEq P t k k' with
  | some true => some (some v)
  | some false => findA P t k r
  | none => none
def updA (P : Program) (t : TypeId) (k v : Value) : List (Value × Value) -> Option (List (Value × Value))
 | [] => some [(k, v)]
 | (k', v') :: r =>
  match keyEq P t k k' with
  | some true => some ((k', v) :: r)
  | some false =>
   match updA P t k v r with
   | some l => some ((k', v') :: l)
   | none => none
  | none => none
def keyKind (P : Program) (t : TypeId) (k : Value) : Bool :=
 match P.underlying t, k with
 | some (.int _), .int _ _ => true
 | some .string, .string _ => true
 | _, _ => false
def lookupA (P : Program) (s : ASt) (t : TypeId) (m k : Value) (ok : Bool) : Option Value :=
 match P.underlying t with
 | some (.map kt et) =>
  match zeroB P et, keyKind P kt k with
  | some z, true =>
   if plainV z then
    match (match m with
     | .map none => some none
     | .map (some r) =>
      match s.map? r with
      | some es => findA P kt k es
      | none => none
     | _ => none) with
    | some (some v) => some (if ok then .tuple #[v, .bool true] else v)
    | some none => some (if ok then .tuple #[z, .bool false] else z)
    | none => none
   else none
  | _, _ => none
 | _ => none
def mapUpdateA (P : Program) (s : ASt) (t : TypeId) (m k v : Value) : Option ASt :=
 match P.underlying t, m with
 | some (.map kt _), .map (some r) =>
  match s.map? r, keyKind P kt k with
  | some es, true =>
   match updA P kt k v es with
   | some l => some (s.put r (.map l))
   | none => none
  | _, _ => none
 | _, _ => none
def boxEsz (P : Program) (t : TypeId) : Nat :=
 match P.underlying t with
 | some (.array _ e) =>
  match sizeB P e with
  | some z => z
  | none => 0
 | _ => 0
inductive AR where
 | val (v : Value) (s : ASt)
 | call (f : FuncId) (args : List Value)
def vOf (s : ASt) : Option Value -> Option AR
 | some v => some (.val v s)
 | none => none
def pOf : Option (Value × ASt) -> Option AR
 | some (v, s) => some (.val v s)
 | none => none
def uOf : Option ASt -> Option AR
 | some s => some (.val undef s)
 | none => none
def partsA (f : AFr) : List (Nat × Operand) -> Option (List (Nat × Value))
 | [] => some []
 | (i, x) :: r =>
  match evalA f x, partsA f r with
  | some v, some l => some ((i, v) :: l)
  | _, _ => none
def optA (f : AFr) : Option Operand -> Option (Option Value)
 | none => some none
 | some x =>
  match evalA f x with
  | some v => some (some v)
  | none => none
def builtinA (P : Program) (s : ASt) (b : Builtin) (ts : List TypeId) (args : List Value) : Option AR :=
 match b, ts, args with
 | .len, t :: _, x :: _ => vOf s (lenA P s t x)
 | .append, t :: u :: _, x :: y :: _ => pOf (appendA P s t u x y)
 | .copy, t :: _, x :: y :: _ => pOf (copyA P s t x y)
 | .clear, t :: _, x :: _ => pOf (clearA P s t x)
 | .min, _, x :: r => vOf s (foldA minA x r)
 | .max, _, x :: r => vOf s (foldA maxA x r)
 | _, _, _ => none
def aop (P : Program) (o : Oper) (f : AFr) (s : ASt) : Option AR :=
 match o.op with
 | .move x => vOf s (evalA f x)
 | .assign x => vOf s (evalA f x)
 | .pick c a b =>
  match evalA f c, evalA f a, evalA f b with
  | some (.bool t), some u, some v => some (.val (if t then u else v) s)
  | _, _, _ => none
 | .alloc e =>
  match zeroB P e with
  | some z => if plainV z then pOf (newPtr s z.cells.toList (boxEsz P e)) else none
  | none => none
 | .box e x =>
  match evalA f x with
  | some v => pOf (newPtr s v.cells.toList (boxEsz P e))
  | none => none
 | .build t ps =>
  match partsA f ps.toList with
  | some l => vOf s (buildA P t l)
  | none => none
 | .buildSlice t n ps =>
  match partsA f ps.toList with
  | some l => pOf (buildSliceA P s t n l)
  | none => none
 | .load t x =>
  match evalA f x with
  | some a => vOf s (loadA P s t a)
  | none => none
 | .store t x y =>
  match evalA f x, evalA f y with
  | some a, some v => uOf (storeA P s t a v)
  | _, _ => none
 | .nilCheck x =>
  match evalA f x with
  | some (.pointer (some a)) => some (.val (.pointer (some a)) s)
  | some (.func (.func g) aS bs) => some (.val (.func (.func g) aS bs) s)
  | _ => none
 | .binOp op t x y _ =>
  match evalA f x, evalA f y with
  | some u, some v => vOf s (binA P op t u v)
  | _, _ => none
 | .unOp op _ x =>
  match evalA f x with
  | some u => vOf s (unA op u)
  | none => none
 | .convert a b x =>
  match evalA f x with
  | some u => pOf (convA P s a b u)
  | none => none
 | .makeFunc (.func g) aS bs =>
  match evalAll f aS.toList, evalAll f bs.toList with
  | some l, some m => some (.val (.func (.func g) l.toArray m.toArray) s)
  | _, _ => none
 | .makeInterface t x =>
  match P.underlying t, evalA f x with
  | some (.interface _), _ => none
  | some _, some v => some (.val (.iface t v) s)
  | _, _ => none
 | .makeMap _ none => if s.room then some (.val (.map (some s.next)) (s.new (.map []))) else none
 | .makeSlice t x y =>
  match evalA f x, evalA f y with
  | some u, some v => pOf (makeSliceA P s t u v)
  | _, _ => none
 | .slice t x lo hi mx =>
  match evalA f x, optA f lo, optA f hi, optA f mx with
  | some u, some l, some h, some m => vOf s (sliceA P s t u l h m)
  | _, _, _, _ => none
 | .fieldAddr t x i =>
  match evalA f x with
  | some u => vOf s (fieldAddrA P t u i)
  | none => none
 | .field t x i =>
  match evalA f x with
  | some u => vOf s (fieldA P t u i)
  | none => none
 | .indexAddr t x y =>
  match evalA f x, evalA f y with
  | some u, some v => vOf s (indexAddrA P t u v)
  | _, _ => none
 | .index t x y =>
  match evalA f x, evalA f y with
  | some u, some v => vOf s (indexA P t u v)
  | _, _ => none
 | .lookup t x y ok =>
  match evalA f x, evalA f y with
  | some u, some v => vOf s (lookupA P s t u v ok)
  | _, _ => none
 | .mapUpdate t x y z =>
  match evalA f x, evalA f y, evalA f z with
  | some m, some k, some v => uOf (mapUpdateA P s t m k v)
  | _, _, _ => none
 | .extract x i =>
  match evalA f x with
  | some u => vOf s (extractA u i)
  | none => none
 | .call c =>
  match evalAll f c.args.toList with
  | some args =>
   match c.callee with
   | .builtin b => builtinA P s b c.argTypes.toList args
   | .value x =>
    match evalA f x with
    | some (.func (.func g) aS bs) => some (.call g (aS.toList ++ args ++ bs.toList))
    | _ => none
   | _ => none
  | none => none
 | _ => none
def quietOp (P : Program) (o : Oper) : Bool :=
 match o.op with
 | .move _ | .assign _ | .pick _ _ _ | .build _ _ | .load _ _ | .nilCheck _ | .binOp _ _ _ _ _ | .unOp _ _ _ | .makeFunc _ _ _ | .makeInterface _ _
 | .slice _ _ _ _ _ | .fieldAddr _ _ _ | .field _ _ _ | .indexAddr _ _ _ | .index _ _ _ | .lookup _ _ _ _ | .extract _ _ => true
 | .convert _ b _ =>
  match P.underlying b with
  | some (.slice _) => false
  | _ => true
 | .call c =>
  match c.callee with
  | .builtin .len | .builtin .min | .builtin .max => true
  | _ => false
 | _ => false
def textConv (P : Program) (src dst : TypeId) : Bool :=
 match P.underlying src, P.underlying dst with
 | some .string, some (.slice _) => true
 | _, _ => false
def allocOp (P : Program) (o : Oper) : Bool :=
 match o.op with
 | .alloc _ | .box _ _ | .buildSlice _ _ _ | .makeSlice _ _ _ => true
 | .convert a b _ => textConv P a b
 | _ => false
def effectOp (P : Program) (o : Oper) : Bool := !quietOp P o && !allocOp P o
inductive AX where
 | normal
 | exit (id : Nat)
 | ret
abbrev Out := Option (AX × AFr × ASt)
def yieldA (ops : List Oper) (f : AFr) (j : Nat) : Option Bool :=
 match ops.drop j with
 | o :: _ =>
  match o.dst with
  | some d =>
   if Nat.blt d f.n then
    match f.get d with
    | .bool b => some b
    | _ => none
   else none
  | none => none
 | [] => none
def wantedA (ops : List Oper) (o : Oper) (f : AFr) : Bool :=
 match o.guard with
 | none => true
 | some (j, want) =>
  match yieldA ops f j with
  | some b => b == want
  | none => false
def putD (f : AFr) (d : Option Tmp) (v : Value) : Option AFr :=
 match d with
 | some t => if Nat.blt t f.n then some (f.put t v) else none
 | none => some f
def runOps (P : Program) (call : FuncId -> List Value -> ASt -> Option (Value × ASt)) (all : List Oper) : List Oper -> AFr -> ASt -> Option (AFr × ASt)
 | [], f, s => some (f, s)
 | o :: r, f, s =>
  if wantedA all o f then
   match aop P o f s with
   | some (.val v s') =>
    match putD f o.dst v with
    | some f' => runOps P call all r f' s'
    | none => none
   | some (.call g args) =>
    match call g args s with
    | some (v, s') =>
     match putD f o.dst v with
     | some f' => runOps P call all r f' s'
     | none => none
    | none => none
   | none => none
  else
   match putD f o.dst undef with
   | some f' => runOps P call all r f' s
   | none => none
def nth0 : List Nat -> Nat -> Nat
 | [], _ => 0
 | x :: _, 0 => x
 | _ :: r, n + 1 => nth0 r n
def maskOf (acc : List Nat) : List Edge -> Nat -> Nat
 | [], m => m
 | e :: r, m => maskOf acc r (if Region.binds .any e then m ||| 2 ^ e.on ||| nth0 acc e.on else m)
def masks : List Oper -> List Nat -> List Nat
 | [], acc => acc
 | o :: r, acc => masks r (acc ++ [maskOf acc o.after.toList 0])
def seenBy (ops : List Oper) (o : Oper) : List Nat :=
 (o.op.operands.toList.filterMap fun | .tmp t => some t | _ => none) ++
 (match o.guard with
  | some (j, _) =>
   match ops.drop j with
   | p :: _ => p.dst.toList
   | [] => []
  | none => [])
def hits (l : List Nat) (d : Option Tmp) : Bool :=
 match d with
 | some t => l.any (Nat.beq t)
 | none => false
def depends (P : Program) (ops : List Oper) (x y : Oper) : Bool :=
 effectOp P x && effectOp P y || hits (seenBy ops y) x.dst || hits (seenBy ops x) y.dst || hits x.dst.toList y.dst
def regOk (P : Program) (ops : List Oper) : Bool :=
 let ms := masks ops []
 ops.zipIdx.all fun y =>
  (y.1.after.toList.all fun e => !Region.binds .any e || Nat.blt e.on y.2) &&
  ops.zipIdx.all fun x => !(Nat.blt x.2 y.2 && depends P ops x.1 y.1) || Nat.testBit (nth0 ms y.2) x.2
inductive Ev where
 | skip
 | quiet (v : Value)
 | made (v : Value) (id : Nat) (b : Blk)
 | eff (v : Value) (s : ASt)
def Ev.val : Ev -> Value
 | .skip => undef
 | .quiet v => v
 | .made v _ _ => v
 | .eff v _ => v
def fill (p : Nat -> Bool) : ASt -> List (Nat × Nat × Blk) -> ASt
 | s, [] => s
 | s, (j, id, b) :: r =>
  match p j, s.heap.get id with
  | true, none => fill p (s.put id (.blk b)) r
  | _, _ => fill p s r
def drawOp (P : Program) (call : FuncId -> List Value -> ASt -> Option (Value × ASt)) (all : List Oper) (m id : Nat) (aS : List (Nat × Nat × Blk)) (o : Oper) (f : AFr) (T : ASt) : Option Ev :=
 match wantedA all o f with
 | false => some .skip
 | true =>
  match quietOp P o, allocOp P o with
  | true, _ =>
   match aop P o f (fill (Nat.testBit m) T aS) with
   | some (.val v _) => some (.quiet v)
   | _ => none
  | false, true =>
   match aop P o f ⟨.nil, id⟩ with
   | some (.val v s1) =>
    match s1.blk? id with
    | some b => some (.made v id b)
    | none => none
   | _ => none
  | false, false =>
   match aop P o f (fill (Nat.testBit m) T aS) with
   | some (.val v s1) => some (.eff v s1)
   | some (.call g args) =>
    match call g args (fill (Nat.testBit m) T aS) with
    | some (v, s1) => some (.eff v s1)
    | none => none
   | none => none
def drawOps (P : Program) (call : FuncId -> List Value -> ASt -> Option (Value × ASt)) (all : List Oper) : List Nat -> List Oper -> Nat -> Nat -> AFr -> ASt -> List (Nat × Nat × Blk) -> Option (List Ev)
 | m :: ms, o :: r, i, id, f, T, aS =>
  match drawOp P call all m id aS o f T with
  | some e =>
   match putD f o.dst e.val with
   | some f' =>
    match drawOps P call all ms r (i + 1) (if allocOp P o then id + 1 else id) f' (match e with | .eff _ s => s | _ => T) (match e with | .made _ d b => aS ++ [(i, d, b)] | _ => aS) with
    | some es => some (e :: es)
    | none => none
   | none => none
  | none => none
 | _, _, _, _, _, _, _ => some []
def madeOf : List Ev -> Nat -> List (Nat × Nat × Blk)
 | [], _ => []
 | .made _ id b :: r, i => (i, id, b) :: madeOf r (i + 1)
 | _ :: r, i => madeOf r (i + 1)
def stagesOf (P : Program) : List Oper -> List Ev -> ASt -> List ASt
 | o :: r, e :: es, T =>
  match e with
  | .eff _ s => T :: stagesOf P r es s
  | _ => if effectOp P o then T :: stagesOf P r es T else stagesOf P r es T
 | _, _, T => [T]
def framesOf : List Oper -> List Ev -> AFr -> AFr
 | o :: r, e :: es, f =>
  match putD f o.dst e.val with
  | some f' => framesOf r es f'
  | none => f
 | _, _, f => f
def countP (p : Nat -> Bool) (P : Program) : List Oper -> Nat -> Nat
 | [], _ => 0
 | o :: r, i => if effectOp P o && p i then countP p P r (i + 1) + 1 else countP p P r (i + 1)
def valEq1 : Value -> Value -> Bool
 | .bool a, .bool b => a == b
 | .int k a, .int k' b => (if k = k' then true else false) && a == b
 | .string a, .string b => a.data.toList == b.data.toList
 | .pointer a, .pointer b => if a = b then true else false
 | .slice a n c, .slice b m d => (if a = b then true else false) && Nat.beq n m && Nat.beq c d
 | .map a, .map b => if a = b then true else false
 | .nilFunc, .nilFunc => true
 | .nilIface, .nilIface => true
 | _, _ => false
def valEqL : List Value -> List Value -> Bool
 | [], [] => true
 | a :: r, b :: q => valEq1 a b && valEqL r q
 | _, _ => false
def valEq2 : Value -> Value -> Bool
 | .agg a, .agg b => valEqL a.toList b.toList
 | a, b => valEq1 a b
def valEqM : List Value -> List Value -> Bool
 | [], [] => true
 | a :: r, b :: q => valEq2 a b && valEqM r q
 | _, _ => false
def valEq : Value -> Value -> Bool
 | .agg a, .agg b => valEqL a.toList b.toList
 | .tuple a, .tuple b => valEqM a.toList b.toList
 | .func (.func g) aS bs, .func (.func g') as' bs' => Nat.beq g g' && valEqL aS.toList as'.toList && valEqL bs.toList bs'.toList
 | a, b => valEq1 a b
def sameAt (P : Program) (m : Nat) (aS : List (Nat × Nat × Blk)) (o : Oper) (f : AFr) (v : Value) : List ASt -> Bool
 | [] => true
 | T :: r =>
  match aop P o f (fill (Nat.testBit m) T aS) with
  | some (.val u _) => valEq v u && sameAt P m aS o f v r
  | _ => false
def checkAll (P : Program) (all : List Oper) (ms : List Nat) (aS : List (Nat × Nat × Blk)) (sts : List ASt) : List Nat -> List Oper -> List Ev -> Nat -> AFr -> Bool
 | m :: mr, o :: r, e :: es, i, f =>
  (match e with
   | .quiet v => sameAt P m aS o f v ((sts.take (countP (fun j => !Nat.testBit (nth0 ms j) i) P all 0 + 1)).drop (countP (Nat.testBit m) P all 0))
   | _ => true) &&
  match putD f o.dst e.val with
  | some f' => checkAll P all ms aS sts mr r es (i + 1) f'
  | none => false
 | _, _, _, _, _ => true
def allocs (P : Program) : List Oper -> Nat
 | [] => 0
 | o :: r => if allocOp P o then allocs P r + 1 else allocs P r
def drawRun (P : Program) (call : FuncId -> List Value -> ASt -> Option (Value × ASt)) (ops : List Oper) (f : AFr) (s : ASt) : Option (AFr × ASt) :=
 match Nat.ble 0 16000000 with
 | false => none
 | true =>
  match drawOps P call ops (masks ops []) ops 0 s.next f ⟨s.heap, s.next + allocs P ops⟩ [] with
  | some es =>
   match checkAll P ops (masks ops []) (madeOf es 0) (stagesOf P ops es ⟨s.heap, s.next + allocs P ops⟩) (masks ops []) ops es 0 f with
   | true => some (framesOf ops es f, fill (fun _ => true) ((stagesOf P ops es ⟨s.heap, s.next + allocs P ops⟩).getLastD s) (madeOf es 0))
   | false => none
  | none => none
def resultsA (P : Program) (f : AFr) (s : ASt) : List ResultVar -> Option (List Value)
 | [] => some []
 | .tmp t :: r =>
  if Nat.blt t f.n then
   match resultsA P f s r with
   | some l => some (f.get t :: l)
   | none => none
  else none
 | .cell a t :: r =>
  if Nat.blt a f.n then
   match loadA P s t (f.get a), resultsA P f s r with
   | some v, some l => some (v :: l)
   | _, _ => none
  else none
def oneOf : List Value -> Value
 | [v] => v
 | l => .tuple l.toArray
def setAll : Tr Value -> Nat -> List Value -> Tr Value
 | t, _, [] => t
 | t, i, v :: r => setAll (Tr.set (depth i) t i v) (i + 1) r
def enterA (fn : Func) (args : List Value) : AFr := ⟨setAll .nil 0 args, args.length + (fn.ntmps - args.length)⟩
abbrev Prim := List Value -> ASt -> Option (Value × ASt)
abbrev Prims := List (Nat × Prim)
def Prims.at (l : Prims) (g : Nat) : Option Prim :=
 match l with
 | [] => none
 | (h, p) :: r => if Nat.beq h g then some p else Prims.at r g
def callStep (P : Program) (lib : Prims) (exec : Code -> AFr -> ASt -> Out) (g : FuncId) (args : List Value) (s : ASt) : Option (Value × ASt) :=
 match lib.at g with
 | some p => p args s
 | none =>
 match P.funcs[g]? with
 | some fn =>
  match fn.body, Nat.ble (args.length + (fn.ntmps - args.length)) 16000000 with
  | some c, true =>
   match exec c (enterA fn args) s with
   | some (.normal, f, s') =>
    match resultsA P f s' fn.results.toList with
    | some l => some (oneOf l, s')
    | none => none
   | some (.ret, f, s') =>
    match resultsA P f s' fn.results.toList with
    | some l => some (oneOf l, s')
    | none => none
   | _ => none
  | _, _ => none
 | none => none
def step (P : Program) (lib : Prims) (exec : Code -> AFr -> ASt -> Out) (c : Code) (f : AFr) (s : ASt) : Out :=
 match c with
 | .skip => some (.normal, f, s)
 | .label _ => some (.normal, f, s)
 | .region _ ops d =>
  match (match d with
   | false => runOps P (callStep P lib exec) ops.toList ops.toList f s
   | true => drawRun P (callStep P lib exec) ops.toList f s) with
  | some (f', s') => some (.normal, f', s')
  | none => none
 | .seq a b =>
  match exec a f s with
  | some (.normal, f', s') => exec b f' s'
  | r => r
 | .cond x a b =>
  match evalA f x with
  | some (.bool t) =>
   match t with
   | true => exec a f s
   | false => exec b f s
  | _ => none
 | .block id a =>
  match exec a f s with
  | some (.exit j, f', s') => if Nat.beq j id then some (.normal, f', s') else some (.exit j, f', s')
  | r => r
 | .loop a =>
  match exec a f s with
  | some (.normal, f', s') => exec (.loop a) f' s'
  | r => r
 | .exit id => some (.exit id, f, s)
 | .scope a => exec a f s
 | .ret => some (.ret, f, s)
 | _ => none
def exec (P : Program) (lib : Prims) : Nat -> Code -> AFr -> ASt -> Out
 | 0 => fun _ _ _ => none
 | n + 1 => step P lib (exec P lib n)
def acall (P : Program) (lib : Prims) (n : Nat) (g : FuncId) (args : List Value) (s : ASt) : Option (Value × ASt) := callStep P lib (exec P lib n) g args s
def codeOk (P : Program) : Code -> Bool
 | .region _ ops true => regOk P ops.toList
 | .seq a b => codeOk P a && codeOk P b
 | .cond _ a b => codeOk P a && codeOk P b
 | .block _ a => codeOk P a
 | .loop a => codeOk P a
 | .scope a => codeOk P a
 | _ => true
def fnOk (P : Program) (lib : Prims) (g : Nat) (fn : Func) : Bool :=
 (fn.name != "runtime.NumGoroutine") &&
 ((lib.at g).isSome || match fn.body with
   | some c => codeOk P c
   | none => true)
def progOk (P : Program) (lib : Prims) : Bool :=
 P.follows .mixedOrders && (P.funcs.toList.zipIdx.all fun x => fnOk P lib x.2 x.1)
def ASt.empty : ASt := ⟨.nil, 0⟩
end Go.Cl
namespace Go.Cl
open Go.RowKit
theorem Tr.get_eq {α : Type} (t : Tr α) (i : Nat) : t.get i = match i with
  | 0 => t.val
  | k + 1 => match k % 2 with
   | 0 => t.left.get (k / 2)
   | _ + 1 => t.right.get (k / 2) := by
 cases t with
 | nil => cases i with
  | zero => rfl
  | succ k => simp only [Tr.get, Tr.left, Tr.right]; split <;> rfl
 | node v l r => cases i with
  | zero => rfl
  | succ k => rcases Nat.mod_two_eq_zero_or_one k with h | h <;> simp only [Tr.get, Tr.left, Tr.right, h]
theorem Tr.get_zero {α : Type} (t : Tr α) : t.get 0 = t.val := by rw [Tr.get_eq]
theorem Tr.get_succ {α : Type} (t : Tr α) (k : Nat) : t.get (k + 1) = match k % 2 with
   | 0 => t.left.get (k / 2)
   | _ + 1 => t.right.get (k / 2) := by rw [Tr.get_eq]
theorem Tr.get_set_self {α : Type} : ∀ (f : Nat) (t : Tr α) (i : Nat) (u : α), i + 1 < 2 ^ f -> (Tr.set f t i u).get i = some u := by
 intro f
 induction f with
 | zero => intro t i u h; simp at h
 | succ f ih =>
  intro t i u h
  cases i with
  | zero => rfl
  | succ k =>
   have hk : k / 2 + 1 < 2 ^ f := by rw [Nat.pow_succ] at h; omega
   rw [Tr.get_succ]
   rcases Nat.mod_two_eq_zero_or_one k with hm | hm
   ·simp only [Tr.set, hm, Tr.left]; exact ih _ _ _ hk
   ·simp only [Tr.set, hm, Tr.right]; exact ih _ _ _ hk
theorem Tr.get_set_ne {α : Type} : ∀ (f : Nat) (t : Tr α) (i j : Nat) (u : α), i ≠ j -> (Tr.set f t i u).get j = t.get j := by
 intro f
 induction f with
 | zero => intro t i j u h; rfl
 | succ f ih =>
  intro t i j u h
  cases i with
  | zero =>
   cases j with
   | zero => exact absurd rfl h
   | succ m => rw [Tr.get_succ, Tr.get_succ]; simp only [Tr.set, Tr.left, Tr.right]
  | succ k =>
   rcases Nat.mod_two_eq_zero_or_one k with hm | hm
   ·simp only [Tr.set, hm]
    cases j with
    | zero => rw [Tr.get_zero, Tr.get_zero]; rfl
    | succ m =>
     rw [Tr.get_succ, Tr.get_succ]
     rcases Nat.mod_two_eq_zero_or_one m with hn | hn
     ·simp only [hn, Tr.left]; exact ih _ _ _ _ (by omega)
     ·simp only [hn, Tr.right]
   ·simp only [Tr.set, hm]
    cases j with
    | zero => rw [Tr.get_zero, Tr.get_zero]; rfl
    | succ m =>
     rw [Tr.get_succ, Tr.get_succ]
     rcases Nat.mod_two_eq_zero_or_one m with hn | hn
     ·simp only [hn, Tr.left]
     ·simp only [hn, Tr.right]; exact ih _ _ _ _ (by omega)
theorem deep {i : Nat} (_ : 0 < 16000001) : i + 1 < 2 ^ depth i := by unfold depth; exact Nat.lt_log2_self
theorem ASt.blk?_put_self (s : ASt) (i : Nat) (b : Blk) (h : 0 < 16000001) : (s.put i (.blk b)).blk? i = some b := by
 simp only [ASt.blk?, ASt.put, Tr.get_set_self _ s.heap i _ (deep h)]
theorem ASt.get_put_ne (s : ASt) (i j : Nat) (o : AO) (h : i ≠ j) : (s.put i o).heap.get j = s.heap.get j := by
 simp only [ASt.put, Tr.get_set_ne _ s.heap i j o h]
structure Emb where
 loc : Nat -> Nat -> Nat × Nat
 mp : Nat -> Nat
structure St where
 s : ASt
 e : Emb
 w : World
def RefOk (S : St) (i off c : Nat) (a : Addr) : Prop :=
 ∃ b, S.s.blk? i = some b ∧ c ≤ b.cells.length + 1 ∧ (b.low ≤ c -> a = ⟨(S.e.loc i c).1, (S.e.loc i c).2 + off, none⟩)
def CapOk (S : St) (i c : Nat) (a : Addr) (cap : Nat) : Prop :=
 ∀ b, S.s.blk? i = some b -> b.low ≤ c -> ∃ (arr : Array Value) (E : TypeId) (fr : Nat × Nat), S.w.heap[a.block]? = some (.cells arr E fr) ∧ a.off + cap * b.esz ≤ arr.size
inductive VR (S : St) : Value -> Value -> Prop
 | bool (b : Bool) : VR S (.bool b) (.bool b)
 | int (k : IntKind) (n : Int) : VR S (.int k n) (.int k n)
 | string (x : ByteArray) : VR S (.string x) (.string x)
 | ptrNil : VR S (.pointer none) (.pointer none)
 | ptr (i off c : Nat) (a : Addr) (h : RefOk S i off c a) : VR S (.pointer (some ⟨i, off, some c⟩)) (.pointer (some a))
 | sliceNil : VR S (.slice none 0 0) (.slice none 0 0)
 | slice (i off len c : Nat) (a : Addr) (cap : Nat) (h0 : len ≤ cap) (hz : c = 0 -> cap = 0) (h : 0 < cap -> RefOk S i off c a ∧ CapOk S i c a cap) :
   VR S (.slice (some ⟨i, off, none⟩) len c) (.slice (some a) len cap)
 | mapNil : VR S (.map none) (.map none)
 | map (r : Nat) (h : ∃ es, S.s.map? r = some es) : VR S (.map (some r)) (.map (some (S.e.mp r)))
 | nilFunc : VR S .nilFunc .nilFunc
 | nilIface : VR S .nilIface .nilIface
 | func (g : FuncId) (aS bs as' bs' : Array Value) (ha : aS.toList.length = as'.toList.length) (hb : bs.toList.length = bs'.toList.length)
   (h1 : ∀ i, i < aS.toList.length -> VR S (aS.toList.getD i undef) (as'.toList.getD i undef)) (h2 : ∀ i, i < bs.toList.length -> VR S (bs.toList.getD i undef) (bs'.toList.getD i undef)) :
   VR S (.func (.func g) aS bs) (.func (.func g) as' bs')
 | agg (cs cs' : Array Value) (h1 : cs.toList.length = cs'.toList.length) (h2 : ∀ i, i < cs.toList.length -> VR S (cs.toList.getD i undef) (cs'.toList.getD i undef)) : VR S (.agg cs) (.agg cs')
 | unk (n : Int) : VR S (.chan none) (.int .u8 n)
 | raw (b o : Nat) : VR S (.pointer (some ⟨b, o, none⟩)) (.pointer (some ⟨b, o, none⟩))
 | iface (t : TypeId) (v v' : Value) (h : VR S v v') : VR S (.iface t v) (.iface t v')
 | tuple (cs cs' : Array Value) (h1 : cs.toList.length = cs'.toList.length) (h2 : ∀ i, i < cs.toList.length -> VR S (cs.toList.getD i undef) (cs'.toList.getD i undef)) : VR S (.tuple cs) (.tuple cs')
def VRL (S : St) (l l' : List Value) : Prop := l.length = l'.length ∧ ∀ i, i < l.length -> VR S (l.getD i undef) (l'.getD i undef)
theorem VR.undef' (S : St) : VR S undef undef := VR.tuple #[] #[] rfl (fun i h => by simp at h)
theorem VRL.nil {S : St} : VRL S [] [] := ⟨rfl, fun i h => by simp at h⟩
theorem VRL.cons {S : St} {v v' : Value} {l l' : List Value} (h : VR S v v') (hl : VRL S l l') : VRL S (v :: l) (v' :: l') := by
 refine ⟨by simp [hl.1], fun i hi => ?_⟩
 cases i with
 | zero => simpa using h
 | succ k => simpa using hl.2 k (by simpa using hi)
theorem VRL.cons_inv {S : St} {v : Value} {l l' : List Value} (h : VRL S (v :: l) l') : ∃ v' r', l' = v' :: r' ∧ VR S v v' ∧ VRL S l r' := by
 cases l' with
 | nil => have := h.1; simp at this
 | cons v' r' =>
  refine ⟨v', r', rfl, by simpa using h.2 0 (by simp), by simpa using h.1, fun i hi => by simpa using h.2 (i + 1) (by simpa using hi)⟩
theorem VRL.nil_inv {S : St} {l' : List Value} (h : VRL S [] l') : l' = [] := by
 have := h.1
 cases l' with
 | nil => rfl
 | cons _ _ => simp at this
theorem VRL.append {S : St} {l l' m m' : List Value} (h : VRL S l l') (hm : VRL S m m') : VRL S (l ++ m) (l' ++ m') := by
 induction l generalizing l' with
 | nil => rw [h.nil_inv]; exact hm
 | cons v l ih =>
  obtain ⟨v', r', rfl, h1, h2⟩ := h.cons_inv
  exact VRL.cons h1 (ih h2)
theorem VRL.toList {S : St} {cs cs' : Array Value} (h : VRL S cs.toList cs'.toList) : VR S (.agg cs) (.agg cs') := .agg _ _ h.1 h.2
theorem VRL.agg {S : St} {l l' : List Value} (h : VRL S l l') : VR S (.agg l.toArray) (.agg l'.toArray) := .agg _ _ (by simpa using h.1) (by simpa using h.2)
theorem VRL.tuple {S : St} {l l' : List Value} (h : VRL S l l') : VR S (.tuple l.toArray) (.tuple l'.toArray) := .tuple _ _ (by simpa using h.1) (by simpa using h.2)
structure Ext (S T : St) : Prop where
 blk : ∀ i b, S.s.blk? i = some b -> ∃ b', T.s.blk? i = some b' ∧ b.cells.length ≤ b'.cells.length ∧ b.low ≤ b'.low ∧ b'.esz = b.esz ∧ ∀ c, c ≤ b.cells.length + 1 -> b'.low ≤ c -> T.e.loc i c = S.e.loc i c
 map : ∀ r es, S.s.map? r = some es -> (∃ es', T.s.map? r = some es') ∧ T.e.mp r = S.e.mp r
 arr : ∀ (k : Nat) (arr : Array Value) (E : TypeId) (fr : Nat × Nat), S.w.heap[k]? = some (.cells arr E fr) -> ∃ (arr' : Array Value) (fr' : Nat × Nat), T.w.heap[k]? = some (.cells arr' E fr') ∧ arr'.size = arr.size
theorem Ext.refl (S : St) : Ext S S :=
 ⟨fun _ b h => ⟨b, h, Nat.le_refl _, Nat.le_refl _, rfl, fun _ _ _ => rfl⟩, fun _ es h => ⟨⟨es, h⟩, rfl⟩, fun _ arr _ fr h => ⟨arr, fr, h, rfl⟩⟩
theorem Ext.trans {S T U : St} (h : Ext S T) (k : Ext T U) : Ext S U := by
 refine ⟨fun i b hb => ?_, fun r es hr => ?_, fun n arr E fr hn => ?_⟩
 ·obtain ⟨b1, h1, h2, h3, h4, h5⟩ := h.blk i b hb
  obtain ⟨b2, k1, k2, k3, k4, k5⟩ := k.blk i b1 h1
  exact ⟨b2, k1, by omega, by omega, by rw [k4, h4], fun c hc hl => (k5 c (by omega) hl).trans (h5 c hc (by omega))⟩
 ·obtain ⟨⟨es1, h1⟩, h2⟩ := h.map r es hr
  obtain ⟨h3, h4⟩ := k.map r es1 h1
  exact ⟨h3, h4.trans h2⟩
 ·obtain ⟨a1, f1, h1, h2⟩ := h.arr n arr E fr hn
  obtain ⟨a2, f2, k1, k2⟩ := k.arr n a1 E f1 h1
  exact ⟨a2, f2, k1, k2.trans h2⟩
theorem RefOk.mono {S T : St} (h : Ext S T) {i off c : Nat} {a : Addr} (hr : RefOk S i off c a) : RefOk T i off c a := by
 obtain ⟨b, hb, hc, hl⟩ := hr
 obtain ⟨b', h1, h2, h3, _, h5⟩ := h.blk i b hb
 exact ⟨b', h1, by omega, fun hlow => by rw [h5 c hc hlow]; exact hl (by omega)⟩
theorem CapOk.mono {S T : St} (h : Ext S T) {i c : Nat} {a : Addr} {cap : Nat} (hs : ∃ b, S.s.blk? i = some b) (hr : CapOk S i c a cap) : CapOk T i c a cap := by
 intro b' hb' hl'
 obtain ⟨b, hb⟩ := hs
 obtain ⟨b1, h1, h2, h3, h4, _⟩ := h.blk i b hb
 rw [hb'] at h1
 obtain rfl := Option.some.inj h1
 obtain ⟨arr, E, fr, ha, hsz⟩ := hr b hb (by omega)
 obtain ⟨arr', fr', ha', hsz'⟩ := h.arr _ _ _ _ ha
 exact ⟨arr', E, fr', ha', by rw [h4, hsz']; exact hsz⟩
theorem VR.mono {S T : St} (h : Ext S T) {v v' : Value} (hv : VR S v v') : VR T v v' := by
 induction hv with
 | bool b => exact .bool b
 | int k n => exact .int k n
 | string x => exact .string x
 | ptrNil => exact .ptrNil
 | ptr i off c a hr => exact .ptr i off c a (hr.mono h)
 | sliceNil => exact .sliceNil
 | slice i off len c a cap h0 hz hr =>
  refine .slice i off len c a cap h0 hz fun hc => ?_
  obtain ⟨hr1, hr2⟩ := hr hc
  exact ⟨hr1.mono h, hr2.mono h (by obtain ⟨b, hb, _⟩ := hr1; exact ⟨b, hb⟩)⟩
 | mapNil => exact .mapNil
 | map r hr =>
  obtain ⟨es, hes⟩ := hr
  obtain ⟨h1, h2⟩ := h.map r es hes
  rw [← h2]
  exact .map r h1
 | nilFunc => exact .nilFunc
 | nilIface => exact .nilIface
 | func g aS bs as' bs' ha hb _ _ ih1 ih2 => exact .func g aS bs as' bs' ha hb ih1 ih2
 | agg cs cs' h1 _ ih => exact .agg cs cs' h1 ih
 | unk n => exact .unk n
 | raw b o => exact .raw b o
 | iface t v v' _ ih => exact .iface t v v' ih
 | tuple cs cs' h1 _ ih => exact .tuple cs cs' h1 ih
theorem VRL.mono {S T : St} (h : Ext S T) {l l' : List Value} (hv : VRL S l l') : VRL T l l' := ⟨hv.1, fun i hi => (hv.2 i hi).mono h⟩
def ER (S : St) : List (Value × Value) -> List MapEntry -> Prop
 | [], [] => True
 | (k, v) :: r, e :: r' => e.key = k ∧ VR S v e.val ∧ ER S r r'
 | _, _ => False
theorem ER.mono {S T : St} (h : Ext S T) : ∀ {l : List (Value × Value)} {l' : List MapEntry}, ER S l l' -> ER T l l'
 | [], [], _ => trivial
 | (_, _) :: _, _ :: _, hv => ⟨hv.1, hv.2.1.mono h, ER.mono h hv.2.2⟩
 | [], _ :: _, hv => hv
 | _ :: _, [], hv => hv
def Live (b : Blk) (c : Nat) : Prop := b.low ≤ c ∧ c ≤ b.cells.length + 1
structure SR (base : Nat) (S : St) : Prop where
 room : 0 ≤ 16000000
 bound : ∀ i o, S.s.heap.get i = some o -> i < S.s.next
 low : ∀ i b, S.s.blk? i = some b -> 1 ≤ b.low
 cell : ∀ i b, S.s.blk? i = some b -> ∀ c, Live b c -> ∀ p, p + 1 < c -> ∃ v, S.w.cell? ⟨(S.e.loc i c).1, (S.e.loc i c).2 + p, none⟩ = some v ∧ VR S (b.cells.getD p undef) v
 own : ∀ i b, S.s.blk? i = some b -> b.own = true -> ∀ c, Live b c ->
  base ≤ (S.e.loc i c).1 ∧ (∃ (arr : Array Value) (E : TypeId) (fr : Nat × Nat), S.w.heap[(S.e.loc i c).1]? = some (.cells arr E fr) ∧ (fr.1 = fr.2 ∨ arr.size ≤ fr.1 ∧ b.esz = 1)) ∧
  (∀ j b', S.s.blk? j = some b' -> ∀ c', Live b' c' -> (S.e.loc j c').1 = (S.e.loc i c).1 -> j = i) ∧
  ∀ c', Live b c' -> (S.e.loc i c').1 = (S.e.loc i c).1 -> S.e.loc i c' = S.e.loc i c
 map : ∀ r es, S.s.map? r = some es -> base ≤ S.e.mp r ∧ ∃ (es' : Array MapEntry) (clk : Nat), S.w.heap[S.e.mp r]? = some (.map es' clk) ∧ ER S es es'.toList
 mapInj : ∀ r r' es es', S.s.map? r = some es -> S.s.map? r' = some es' -> S.e.mp r = S.e.mp r' -> r = r'
 size : base ≤ S.w.heap.size
 inb : ∀ i b, S.s.blk? i = some b -> ∀ c, Live b c -> (S.e.loc i c).1 < S.w.heap.size
structure Good (base : Nat) (S T : St) : Prop where
 sr : SR base T
 ext : Ext S T
 below : Below base S.w T.w
theorem Good.refl {base : Nat} {S : St} (h : SR base S) : Good base S S := ⟨h, Ext.refl S, Below.refl _ _⟩
theorem Good.trans {base : Nat} {S T U : St} (h : Good base S T) (k : Good base T U) : Good base S U := ⟨k.sr, h.ext.trans k.ext, h.below.trans k.below⟩
theorem SR.lt {base : Nat} {S : St} (h : SR base S) {i : Nat} {b : Blk} (hb : S.s.blk? i = some b) : i < S.s.next := by
 unfold ASt.blk? at hb
 split at hb
 ·exact h.bound i _ ‹_›
 ·cases hb
theorem SR.mlt {base : Nat} {S : St} (h : SR base S) {i : Nat} {b : List (Value × Value)} (hb : S.s.map? i = some b) : i < S.s.next := by
 unfold ASt.map? at hb
 split at hb
 ·exact h.bound i _ ‹_›
 ·cases hb
theorem blk_not_map {s : ASt} {i : Nat} {b : Blk} {es : List (Value × Value)} (hb : s.blk? i = some b) (he : s.map? i = some es) : False := by
 unfold ASt.blk? at hb
 unfold ASt.map? at he
 split at hb
 ·rename_i h; rw [h] at he; cases he
 ·cases hb
theorem SR.change {base : Nat} {S : St} (h : SR base S) (i L next : Nat) (b' : Blk) (loc' : Nat -> Nat -> Nat × Nat) (w' : World)
  (hi : i < next) (hn : S.s.next ≤ next) (hr : 0 ≤ 16000000) (hi2 : i < S.s.next ∨ i + 1 = next)
  (hmap : ∀ es, S.s.map? i ≠ some es)
  (hlow1 : 1 ≤ b'.low)
  (hold : ∀ b, S.s.blk? i = some b -> b.cells.length ≤ b'.cells.length ∧ b.low ≤ b'.low ∧ b'.esz = b.esz ∧ ∀ c, c ≤ b.cells.length + 1 -> b'.low ≤ c -> loc' i c = S.e.loc i c)
  (hloc : ∀ j, j ≠ i -> loc' j = S.e.loc j)
  (hw : ∀ k, k ≠ L -> k < S.w.heap.size -> w'.heap[k]? = S.w.heap[k]?)
  (hL : ∀ j bj c, j ≠ i -> S.s.blk? j = some bj -> Live bj c -> (S.e.loc j c).1 ≠ L)
  (hLm : ∀ r es, S.s.map? r = some es -> S.e.mp r ≠ L)
  (hinb : ∀ c, Live b' c -> (loc' i c).1 < w'.heap.size)
  (hcell : ∀ c, Live b' c -> ∀ p, p + 1 < c -> ∃ v, w'.cell? ⟨(loc' i c).1, (loc' i c).2 + p, none⟩ = some v ∧ VR S (b'.cells.getD p undef) v)
  (hown : b'.own = true -> ∀ c, Live b' c -> base ≤ (loc' i c).1 ∧ (∃ (arr : Array Value) (E : TypeId) (fr : Nat × Nat), w'.heap[(loc' i c).1]? = some (.cells arr E fr) ∧ (fr.1 = fr.2 ∨ arr.size ≤ fr.1 ∧ b'.esz = 1)) ∧
   (∀ j bj, j ≠ i -> S.s.blk? j = some bj -> ∀ c', Live bj c' -> (S.e.loc j c').1 ≠ (loc' i c).1) ∧
   ∀ c', Live b' c' -> (loc' i c').1 = (loc' i c).1 -> loc' i c' = loc' i c)
  (hoth : ∀ j bj, j ≠ i -> S.s.blk? j = some bj -> bj.own = true -> ∀ c', Live bj c' -> ∀ c, Live b' c -> (loc' i c).1 ≠ (S.e.loc j c').1)
  (harr : ∀ (arr : Array Value) (E : TypeId) (fr : Nat × Nat), S.w.heap[L]? = some (.cells arr E fr) -> ∃ (arr' : Array Value) (fr' : Nat × Nat), w'.heap[L]? = some (.cells arr' E fr') ∧ arr'.size = arr.size)
  (hbelow : Below base S.w w') (hsz : S.w.heap.size ≤ w'.heap.size) :
  Good base S ⟨⟨Tr.set (depth i) S.s.heap i (.blk b'), next⟩, ⟨loc', S.e.mp⟩, w'⟩ := by
 have hget : ∀ j, j ≠ i -> (Tr.set (depth i) S.s.heap i (.blk b')).get j = S.s.heap.get j := fun j hj => Tr.get_set_ne _ _ _ _ _ (Ne.symm hj)
 have hgeti : (Tr.set (depth i) S.s.heap i (.blk b')).get i = some (.blk b') := Tr.get_set_self _ _ _ _ (deep (by omega))
 have hself : (⟨Tr.set (depth i) S.s.heap i (.blk b'), next⟩ : ASt).blk? i = some b' := by simp only [ASt.blk?, hgeti]
 have hblk : ∀ j, j ≠ i -> (⟨Tr.set (depth i) S.s.heap i (.blk b'), next⟩ : ASt).blk? j = S.s.blk? j := fun j hj => by simp only [ASt.blk?, hget j hj]
 have hmp : ∀ j, j ≠ i -> (⟨Tr.set (depth i) S.s.heap i (.blk b'), next⟩ : ASt).map? j = S.s.map? j := fun j hj => by simp only [ASt.map?, hget j hj]
 have hmi : (⟨Tr.set (depth i) S.s.heap i (.blk b'), next⟩ : ASt).map? i = none := by simp only [ASt.map?, hgeti]
 have harr' : ∀ (k : Nat) (arr : Array Value) (E : TypeId) (fr : Nat × Nat), S.w.heap[k]? = some (.cells arr E fr) -> ∃ (arr' : Array Value) (fr' : Nat × Nat), w'.heap[k]? = some (.cells arr' E fr') ∧ arr'.size = arr.size := by
  intro k arr E fr hk
  by_cases hkL : k = L
  ·subst hkL; exact harr arr E fr hk
  ·have hlt : k < S.w.heap.size := by
    rcases Nat.lt_or_ge k S.w.heap.size with h' | h'
    ·exact h'
    ·rw [Array.getElem?_eq_none h'] at hk; cases hk
   exact ⟨arr, fr, by rw [hw k hkL hlt]; exact hk, rfl⟩
 have hext : Ext S ⟨⟨Tr.set (depth i) S.s.heap i (.blk b'), next⟩, ⟨loc', S.e.mp⟩, w'⟩ := by
  refine ⟨fun j b hb => ?_, fun r es he => ?_, harr'⟩
  ·by_cases hj : j = i
   ·subst hj
    obtain ⟨h1, h2, h3, h4⟩ := hold b hb
    exact ⟨b', hself, h1, h2, h3, h4⟩
   ·exact ⟨b, by rw [← hb]; exact hblk j hj, Nat.le_refl _, Nat.le_refl _, rfl, fun c _ _ => by show loc' j c = _; rw [hloc j hj]⟩
  ·have hri : r ≠ i := fun e => hmap es (e ▸ he)
   exact ⟨⟨es, by rw [← he]; exact hmp r hri⟩, rfl⟩
 refine ⟨⟨hr, ?_, ?_, ?_, ?_, ?_, ?_, Nat.le_trans h.size hbelow.size, ?_⟩, hext, hbelow⟩
 ·intro j o hj
  by_cases hji : j = i
  ·show j < next; omega
  ·have hj' : (Tr.set (depth i) S.s.heap i (.blk b')).get j = some o := hj
   rw [hget j hji] at hj'
   have := h.bound j o hj'
   show j < next; omega
 ·intro j b hb
  by_cases hji : j = i
  ·subst hji; rw [hself] at hb; obtain rfl := Option.some.inj hb; exact hlow1
  ·rw [hblk j hji] at hb; exact h.low j b hb
 ·intro j b hb c hc p hp
  by_cases hji : j = i
  ·subst hji
   rw [hself] at hb; obtain rfl := Option.some.inj hb
   obtain ⟨v, h1, h2⟩ := hcell c hc p hp
   exact ⟨v, h1, h2.mono hext⟩
  ·rw [hblk j hji] at hb
   obtain ⟨v, h1, h2⟩ := h.cell j b hb c hc p hp
   refine ⟨v, ?_, h2.mono hext⟩
   show w'.cell? ⟨(loc' j c).1, (loc' j c).2 + p, none⟩ = some v
   rw [hloc j hji, ← h1]
   exact World.cell?_of_block (hw _ (hL j b c hji hb hc) (h.inb j b hb c hc))
 ·intro j b hb hbo c hc
  by_cases hji : j = i
  ·subst hji
   rw [hself] at hb; obtain rfl := Option.some.inj hb
   obtain ⟨h1, h2, h3, h5⟩ := hown hbo c hc
   refine ⟨h1, h2, fun k bk hk c' hc' hEq => ?_, h5⟩
   by_cases hkj : k = j
   ·exact hkj
   ·rw [hblk k hkj] at hk
    exact absurd (by have : (loc' k c').1 = (loc' j c).1 := hEq; rwa [hloc k hkj] at this) (h3 k bk hkj hk c' hc')
  ·rw [hblk j hji] at hb
   obtain ⟨h1, ⟨arr, E, fr, h2, h2'⟩, h3, h5⟩ := h.own j b hb hbo c hc
   have hne := hL j b c hji hb hc
   have hlt : (S.e.loc j c).1 < S.w.heap.size := by
    rcases Nat.lt_or_ge (S.e.loc j c).1 S.w.heap.size with h' | h'
    ·exact h'
    ·rw [Array.getElem?_eq_none h'] at h2; cases h2
   refine ⟨by show base ≤ (loc' j c).1; rw [hloc j hji]; exact h1, ⟨arr, E, fr, ?_, h2'⟩, fun k bk hk c' hc' hEq => ?_, by show ∀ c', Live b c' -> (loc' j c').1 = (loc' j c).1 -> loc' j c' = loc' j c; rw [hloc j hji]; exact h5⟩
   ·show w'.heap[(loc' j c).1]? = _
    rw [hloc j hji, hw _ hne hlt]; exact h2
   ·have hEq' : (loc' k c').1 = (loc' j c).1 := hEq
    rw [hloc j hji] at hEq'
    by_cases hki : k = i
    ·subst hki
     rw [hself] at hk; obtain rfl := Option.some.inj hk
     exact absurd hEq' (hoth j b hji hb hbo c hc c' hc')
    ·rw [hblk k hki] at hk
     rw [hloc k hki] at hEq'
     exact h3 k bk hk c' hc' hEq'
 ·intro r es he
  have hri : r ≠ i := fun e => by subst e; rw [hmi] at he; cases he
  rw [hmp r hri] at he
  obtain ⟨h1, es', clk, h2, h3⟩ := h.map r es he
  have hlt : S.e.mp r < S.w.heap.size := by
   rcases Nat.lt_or_ge (S.e.mp r) S.w.heap.size with h' | h'
   ·exact h'
   ·rw [Array.getElem?_eq_none h'] at h2; cases h2
  exact ⟨h1, es', clk, by show w'.heap[S.e.mp r]? = _; rw [hw _ (hLm r es he) hlt]; exact h2, h3.mono hext⟩
 ·intro r r' es es' he he' hEq
  have hri : r ≠ i := fun e => by subst e; rw [hmi] at he; cases he
  have hri' : r' ≠ i := fun e => by subst e; rw [hmi] at he'; cases he'
  rw [hmp r hri] at he
  rw [hmp r' hri'] at he'
  exact h.mapInj r r' es es' he he' hEq
 ·intro j b hb c hc
  by_cases hji : j = i
  ·subst hji
   rw [hself] at hb; obtain rfl := Option.some.inj hb
   exact hinb c hc
  ·rw [hblk j hji] at hb
   show (loc' j c).1 < w'.heap.size
   rw [hloc j hji]
   exact Nat.lt_of_lt_of_le (h.inb j b hb c hc) hsz
end Go.Cl
namespace Go.Cl
open Go.RowKit
theorem takeN_eq : ∀ (n : Nat) (l : List Value), takeN n l = if n ≤ l.length then some (l.take n) else none := by
 intro n
 induction n with
 | zero => intro l; simp [takeN]
 | succ n ih =>
  intro l
  cases l with
  | nil => simp [takeN]
  | cons v r =>
   simp only [takeN, ih, List.length_cons, Nat.add_le_add_iff_right, List.take_succ_cons]
   by_cases h : n ≤ r.length <;> simp [h]
theorem dropN_eq : ∀ (n : Nat) (l : List Value), dropN n l = l.drop n := by
 intro n
 induction n with
 | zero => intro l; cases l <;> simp [dropN]
 | succ n ih => intro l; cases l with
  | nil => simp [dropN]
  | cons v r => simp [dropN, ih]
theorem setAt_spec : ∀ (l : List Value) (off : Nat) (vs r : List Value), setAt l off vs = some r ->
  r.length = l.length ∧ (vs = [] ∨ off + vs.length ≤ l.length) ∧ ∀ p, r.getD p undef = if off ≤ p ∧ p < off + vs.length then vs.getD (p - off) undef else l.getD p undef := by
 intro l
 induction l with
 | nil =>
  intro off vs r h
  cases vs with
  | nil => simp only [setAt] at h; obtain rfl := Option.some.inj h; exact ⟨rfl, .inl rfl, fun p => by rw [if_neg (by simp)]⟩
  | cons v vs => simp [setAt] at h
 | cons c l ih =>
  intro off vs r h
  cases vs with
  | nil => simp only [setAt] at h; obtain rfl := Option.some.inj h; exact ⟨rfl, .inl rfl, fun p => by rw [if_neg (by simp)]⟩
  | cons v vs =>
   cases off with
   | zero =>
    simp only [setAt] at h
    split at h
    ·rename_i m hm
     obtain rfl := Option.some.inj h
     obtain ⟨h1, h2, h3⟩ := ih 0 vs m hm
     refine ⟨by simp [h1], .inr ?_, fun p => ?_⟩
     ·rcases h2 with rfl | h2
      ·simp
      ·simp; omega
     ·cases p with
      | zero => simp
      | succ p =>
       have := h3 p
       simp only [Nat.zero_le, true_and, Nat.zero_add, Nat.sub_zero, List.getD_cons_succ, List.length_cons, Nat.add_lt_add_iff_right] at this ⊢
       exact this
    ·cases h
   | succ n =>
    simp only [setAt] at h
    split at h
    ·rename_i m hm
     obtain rfl := Option.some.inj h
     obtain ⟨h1, h2, h3⟩ := ih n (v :: vs) m hm
     refine ⟨by simp [h1], .inr ?_, fun p => ?_⟩
     ·rcases h2 with h2 | h2
      ·cases h2
      ·simp at h2 ⊢; omega
     ·cases p with
      | zero => rw [if_neg (by omega)]; simp
      | succ p =>
       have := h3 p
       simp only [List.getD_cons_succ]
       rw [this]
       by_cases hc : n ≤ p ∧ p < n + (v :: vs).length
       ·rw [if_pos hc, if_pos (by omega), show p + 1 - (n + 1) = p - n by omega]
       ·rw [if_neg hc, if_neg (by omega)]
    ·cases h
def conc (w : World) (k o n : Nat) : List Value := (List.range n).map fun p => (w.cell? ⟨k, o + p, none⟩).getD undef
theorem conc_length (w : World) (k o n : Nat) : (conc w k o n).length = n := by simp [conc]
theorem conc_getD (w : World) (k o n p : Nat) (h : p < n) : (conc w k o n).getD p undef = (w.cell? ⟨k, o + p, none⟩).getD undef := by
 simp [conc, List.getD_eq_getElem?_getD, h]
theorem conc_succ (w : World) (k o n : Nat) : conc w k o (n + 1) = (w.cell? ⟨k, o, none⟩).getD undef :: conc w k (o + 1) n := by
 simp only [conc, List.range_succ_eq_map, List.map_cons, List.map_map, Nat.add_zero]
 congr 1
 apply List.map_congr_left
 intro p _
 simp only [Function.comp, Nat.succ_eq_add_one]
 rw [show o + (p + 1) = o + 1 + p by omega]
theorem run_loadCellsFrom (P : Program) (w : World) (k o : Nat) : ∀ (n i : Nat) (acc : Array Value), (∀ p, p < n -> ∃ v, w.cell? ⟨k, o + i + p, none⟩ = some v) ->
  (loadCellsFrom ⟨k, o, none⟩ i n acc).run P w = .ok (acc ++ (conc w k (o + i) n).toArray) w := by
 intro n
 induction n with
 | zero => intro i acc _; simp [loadCellsFrom, conc]
 | succ n ih =>
  intro i acc h
  obtain ⟨v, hv⟩ := h 0 (by omega)
  simp only [Nat.add_zero] at hv
  have := ih (i + 1) (acc.push v) (fun p hp => by have := h (p + 1) (by omega); rwa [show o + i + (p + 1) = o + (i + 1) + p by omega] at this)
  simp only [loadCellsFrom, Sem.run_bind, run_load, Addr.add_lit, hv, Result.andThen_ok, this, conc_succ, Option.getD_some]
  congr 1
  rw [← Array.toList_inj]
  simp [Nat.add_assoc]
theorem run_loadCells (P : Program) (w : World) (k o n : Nat) (h : ∀ p, p < n -> ∃ v, w.cell? ⟨k, o + p, none⟩ = some v) :
  (loadCells ⟨k, o, none⟩ n).run P w = .ok (conc w k o n).toArray w := by
 have := run_loadCellsFrom P w k o n 0 #[] (by simpa using h)
 simpa [loadCells] using this
def setCells (w : World) (k o : Nat) : List Value -> World
 | [] => w
 | v :: r => setCells (w.setCell ⟨k, o, none⟩ v) k (o + 1) r
theorem setCell_block (w : World) (k o : Nat) (v : Value) (arr : Array Value) (E : TypeId) (fr : Nat × Nat) (h : w.heap[k]? = some (.cells arr E fr)) :
  (w.setCell ⟨k, o, none⟩ v).heap[k]? = some (.cells (arr.setIfInBounds o v) E fr) := by
 simp only [World.setCell, Array.getElem?_modify, if_true, h]
 rfl
theorem cell_of_block (w : World) (k o : Nat) (arr : Array Value) (E : TypeId) (fr : Nat × Nat) (h : w.heap[k]? = some (.cells arr E fr)) :
  w.cell? ⟨k, o, none⟩ = arr[o]? := by simp [World.cell?, h]
theorem block_of_cell {w : World} {k o : Nat} {v : Value} (h : w.cell? ⟨k, o, none⟩ = some v) : ∃ (arr : Array Value) (E : TypeId) (fr : Nat × Nat), w.heap[k]? = some (.cells arr E fr) ∧ arr[o]? = some v := by
 unfold World.cell? at h
 split at h
 ·rename_i c E fr hk
  exact ⟨c, E, fr, hk, by simpa using h⟩
 ·cases h
theorem lt_of_cells {w : World} {k : Nat} {o : Obj} (h : w.heap[k]? = some o) : k < w.heap.size := by
 rcases Nat.lt_or_ge k w.heap.size with h' | h'
 ·exact h'
 ·rw [Array.getElem?_eq_none h'] at h; cases h
theorem setCells_size : ∀ (vs : List Value) (w : World) (k o : Nat), (setCells w k o vs).heap.size = w.heap.size
 | [], _, _, _ => rfl
 | v :: r, w, k, o => by rw [setCells, setCells_size r]; simp
theorem setCells_ne : ∀ (vs : List Value) (w : World) (k o j : Nat), j ≠ k -> (setCells w k o vs).heap[j]? = w.heap[j]?
 | [], _, _, _, _, _ => rfl
 | v :: r, w, k, o, j, h => by rw [setCells, setCells_ne r _ _ _ _ h]; exact Below.heap_setCell _ _ _ _ h
theorem setCells_below : ∀ (vs : List Value) (w : World) (k o B : Nat), B ≤ k -> Below B w (setCells w k o vs)
 | [], w, _, _, B, _ => Below.refl B w
 | v :: r, w, k, o, B, h => ((Below.refl B w).setCell (p := ⟨k, o, none⟩) h v).trans (setCells_below r _ k (o + 1) B h)
theorem setCells_block : ∀ (vs : List Value) (w : World) (k o : Nat) (arr : Array Value) (E : TypeId) (fr : Nat × Nat), w.heap[k]? = some (.cells arr E fr) -> o + vs.length ≤ arr.size ->
  ∃ arr', (setCells w k o vs).heap[k]? = some (.cells arr' E fr) ∧ arr'.size = arr.size ∧ ∀ p, arr'[p]? = if o ≤ p ∧ p < o + vs.length then some (vs.getD (p - o) undef) else arr[p]? := by
 intro vs
 induction vs with
 | nil => intro w k o arr E fr h _; exact ⟨arr, h, rfl, fun p => by rw [if_neg (by simp)]⟩
 | cons v r ih =>
  intro w k o arr E fr h hle
  simp only [List.length_cons] at hle
  obtain ⟨arr', h1, h2, h3⟩ := ih (w.setCell ⟨k, o, none⟩ v) k (o + 1) _ E fr (setCell_block w k o v arr E fr h) (by simp; omega)
  refine ⟨arr', h1, by simpa using h2, fun p => ?_⟩
  rw [h3 p]
  by_cases hp : o + 1 ≤ p ∧ p < o + 1 + r.length
  ·rw [if_pos hp, if_pos (by simp; omega), show p - o = (p - (o + 1)) + 1 by omega, List.getD_cons_succ]
  ·rw [if_neg hp]
   by_cases hpo : p = o
   ·subst hpo
    rw [if_pos (by simp), Array.getElem?_setIfInBounds_self_of_lt (by omega), Nat.sub_self, List.getD_cons_zero]
   ·rw [if_neg (by simp; omega), Array.getElem?_setIfInBounds_ne (by omega)]
theorem okCell_oneCell {v : Value} (h : okCell v = true) : v.oneCell' = true := by cases v <;> simp_all [okCell, Value.oneCell']
theorem run_storeCells (P : Program) (k o : Nat) : ∀ (vs : List Value) (w : World) (i : Nat) (arr : Array Value) (E : TypeId) (fr : Nat × Nat), w.heap[k]? = some (.cells arr E fr) ->
  (fr.1 = fr.2 ∨ arr.size ≤ fr.1) -> o + i + vs.length ≤ arr.size -> (∀ v ∈ vs, okCell v = true) -> (storeCells ⟨k, o, none⟩ vs i).run P w = .ok () (setCells w k (o + i) vs) := by
 intro vs
 induction vs with
 | nil => intro w i arr E fr _ _ _ _; simp [storeCells, setCells]
 | cons v r ih =>
  intro w i arr E fr h hfr hle hok
  simp only [List.length_cons] at hle
  have hc : w.cell? ⟨k, o + i, none⟩ = some arr[o + i] := by rw [cell_of_block w k _ arr E fr h]; simp
  have hfz : w.frozen? ⟨k, o + i, none⟩ = false := by
   simp only [World.frozen?, h]
   rcases hfr with h1 | h1
   ·rw [Bool.and_eq_false_iff]; simp; omega
   ·rw [Bool.and_eq_false_iff]; simp; omega
  have hst : (store ⟨k, o + i, none⟩ v).run P w = .ok () (w.setCell ⟨k, o + i, none⟩ v) := by
   rw [run_store P w _ v .plain (okCell_oneCell (hok v (by simp)))]
   simp [hc, hfz]
  have := ih (w.setCell ⟨k, o + i, none⟩ v) (i + 1) _ E fr (setCell_block w k (o + i) v arr E fr h) (by simpa using hfr) (by simp; omega) (fun u hu => hok u (by simp [hu]))
  simp only [storeCells, Sem.run_bind, Addr.add_lit, hst, Result.andThen_ok, this, setCells, Nat.add_assoc]
theorem VR.okCell {S : St} {v v' : Value} (h : VR S v v') : okCell v = okCell v' := by cases h <;> rfl
theorem VRL.okCell {S : St} {l l' : List Value} (h : VRL S l l') (hok : l.all okCell = true) : ∀ v ∈ l', okCell v = true := by
 induction l generalizing l' with
 | nil => rw [h.nil_inv]; simp
 | cons v l ih =>
  obtain ⟨v', r', rfl, h1, h2⟩ := h.cons_inv
  simp only [List.all_cons, Bool.and_eq_true] at hok
  intro u hu
  rcases List.mem_cons.1 hu with rfl | hu
  ·rw [← h1.okCell]; exact hok.1
  ·exact ih h2 hok.2 u hu
theorem VR.cells {S : St} {v v' : Value} (h : VR S v v') : VRL S v.cells.toList v'.cells.toList := by
 cases h with
 | agg cs cs' h1 h2 => exact ⟨h1, h2⟩
 | raw b o => exact VRL.cons (.raw b o) VRL.nil
 | unk n => exact VRL.cons (.unk n) VRL.nil
 | iface t v v' h => exact VRL.cons (.iface t v v' h) VRL.nil
 | _ => exact VRL.cons (by first | assumption | (constructor <;> assumption) | constructor) VRL.nil
theorem live_of {b : Blk} {c n : Nat} (h : (Nat.ble b.low c && Nat.ble c (b.cells.length + 1) && Nat.blt n c) = true) : Live b c ∧ n < c := by
 simp only [Bool.and_eq_true, Nat.ble_eq, Nat.blt_eq] at h
 exact ⟨⟨h.1.1, h.1.2⟩, h.2⟩
theorem getD_drop_take (l : List Value) (o n p : Nat) (h : p < n) : ((l.drop o).take n).getD p undef = l.getD (o + p) undef := by
 simp [List.getD_eq_getElem?_getD, h]
theorem SR.cells {base : Nat} {S : St} (h : SR base S) {i off c n : Nat} {l : List Value} (hc : S.s.cellsAt i off c n = some l) :
  ∃ b, S.s.blk? i = some b ∧ Live b c ∧ off + n < c ∧ l = (b.cells.drop off).take n ∧ l.length = n ∧ VRL S l (conc S.w (S.e.loc i c).1 ((S.e.loc i c).2 + off) n) ∧
   ∀ p, p < n -> ∃ v, S.w.cell? ⟨(S.e.loc i c).1, (S.e.loc i c).2 + off + p, none⟩ = some v := by
 unfold ASt.cellsAt at hc
 split at hc
 ·rename_i b hb
  split at hc
  ·rename_i hcond
   obtain ⟨hlive, hlt⟩ := live_of hcond
   rw [takeN_eq, dropN_eq] at hc
   split at hc
   ·rename_i hn
    obtain rfl := Option.some.inj hc
    have hll : ((b.cells.drop off).take n).length = n := by rw [List.length_take]; omega
    have hcell : ∀ p, p < n -> ∃ v, S.w.cell? ⟨(S.e.loc i c).1, (S.e.loc i c).2 + off + p, none⟩ = some v ∧ VR S (b.cells.getD (off + p) undef) v := fun p hp => by
     have := h.cell i b hb c hlive (off + p) (by omega)
     rwa [← Nat.add_assoc] at this
    refine ⟨b, hb, hlive, hlt, rfl, hll, ⟨by rw [hll, conc_length], fun p hp => ?_⟩, fun p hp => (hcell p hp).imp fun _ h => h.1⟩
    rw [hll] at hp
    obtain ⟨v, h1, h2⟩ := hcell p hp
    rw [conc_getD _ _ _ _ _ hp, h1, getD_drop_take _ _ _ _ hp]
    exact h2
   ·cases hc
  ·cases hc
 ·cases hc
theorem room_lt {s : ASt} (_ : s.room = true) : 0 < 16000000 := by omega
theorem SR.fresh {base : Nat} {S : St} (h : SR base S) : S.s.blk? S.s.next = none ∧ S.s.map? S.s.next = none := by
 constructor
 ·cases hb : S.s.blk? S.s.next with
  | none => rfl
  | some b => have := h.lt hb; omega
 ·cases hb : S.s.map? S.s.next with
  | none => rfl
  | some b => have := h.mlt hb; omega
theorem SR.mp_lt {base : Nat} {S : St} (h : SR base S) {r : Nat} {es : List (Value × Value)} (hr : S.s.map? r = some es) : S.e.mp r < S.w.heap.size := by
 obtain ⟨_, es', clk, h1, _⟩ := h.map r es hr
 exact lt_of_cells h1
structure Pushed (w w' : World) (o : Obj) : Prop where
 heap : w'.heap = w.heap.push o
 os : w'.os = w.os
 tape : w'.tape = w.tape
 output : w'.output = w.output
theorem Pushed.old {w w' : World} {o : Obj} (h : Pushed w w' o) (k : Nat) (hk : k < w.heap.size) : w'.heap[k]? = w.heap[k]? := by
 rw [h.heap, Array.getElem?_push, if_neg (by omega)]
theorem Pushed.new {w w' : World} {o : Obj} (h : Pushed w w' o) : w'.heap[w.heap.size]? = some o := by
 rw [h.heap, Array.getElem?_push, if_pos rfl]
theorem Pushed.size {w w' : World} {o : Obj} (h : Pushed w w' o) : w'.heap.size = w.heap.size + 1 := by rw [h.heap]; simp
theorem Pushed.below {w w' : World} {o : Obj} {B : Nat} (h : Pushed w w' o) (hB : B ≤ w.heap.size) : Below B w w' :=
 ⟨h.os, h.tape, h.output, by rw [h.size]; omega, fun k hk => h.old k (by omega)⟩
structure Spot (S : St) (id next : Nat) : Prop where
 free : S.s.heap.get id = none
 lt : id < next
 le : S.s.next ≤ next
 room : 0 ≤ 16000000
 known : id < S.s.next ∨ id + 1 = next
theorem Spot.blk {S : St} {id next : Nat} (h : Spot S id next) : S.s.blk? id = none := by simp only [ASt.blk?, h.free]
theorem Spot.map {S : St} {id next : Nat} (h : Spot S id next) : S.s.map? id = none := by simp only [ASt.map?, h.free]
theorem Spot.self {base : Nat} {S : St} (h : SR base S) (hr : S.s.room = true) : Spot S S.s.next (S.s.next + 1) := by
 have hlt := room_lt hr
 refine ⟨?_, by omega, by omega, by omega, .inr rfl⟩
 cases hg : S.s.heap.get S.s.next with
 | none => rfl
 | some o => have := h.bound _ _ hg; omega
def St.pushed (S : St) (id next : Nat) (b : Blk) (W : World) : St := ⟨⟨Tr.set (depth id) S.s.heap id (.blk b), next⟩, ⟨fun j c => if j = id then (S.w.heap.size, 0) else S.e.loc j c, S.e.mp⟩, W⟩
theorem Good.newBlk {base : Nat} {S : St} (h : SR base S) {id next : Nat} (hsp : Spot S id next) (cs : List Value) (esz : Nat) (arr : Array Value) (E : TypeId) (fr : Nat × Nat) (W : World)
  (hW : Pushed S.w W (.cells arr E fr)) (hfr : fr.1 = fr.2 ∨ arr.size ≤ fr.1 ∧ esz = 1) (hle : cs.length ≤ arr.size) (hv : ∀ p, p < cs.length -> VR S (cs.getD p undef) (arr.toList.getD p undef)) :
  Good base S (S.pushed id next ⟨cs, 1, true, esz⟩ W) := by
 refine SR.change h id S.w.heap.size next ⟨cs, 1, true, esz⟩ _ W hsp.lt hsp.le hsp.room hsp.known (fun es he => by rw [hsp.map] at he; cases he) (Nat.le_refl _)
  (fun b hb => by rw [hsp.blk] at hb; cases hb) (fun j hj => by funext c; rw [if_neg hj]) (fun k _ hk => hW.old k hk)
  (fun j bj c _ hj hc => Nat.ne_of_lt (h.inb j bj hj c hc)) (fun r es he => Nat.ne_of_lt (h.mp_lt he)) (fun c _ => by simp only [if_true]; rw [hW.size]; omega) ?_ ?_ ?_ ?_
  (hW.below h.size) (by rw [hW.size]; omega)
 ·intro c hc p hp
  simp only [if_true, Nat.zero_add]
  have hpl : p < cs.length := by have := hc.2; simp only at this; omega
  have hpa : p < arr.size := by omega
  refine ⟨arr.toList.getD p undef, ?_, hv p hpl⟩
  rw [cell_of_block W _ _ arr E fr hW.new]
  simp [List.getD_eq_getElem?_getD, hpa]
 ·intro _ c _
  simp only [if_true]
  exact ⟨h.size, ⟨arr, E, fr, hW.new, hfr⟩, fun j bj _ hj c' hc' => Nat.ne_of_lt (h.inb j bj hj c' hc'), by intros; first | rfl | trivial⟩
 ·intro j bj _ hj _ c' hc' c _
  simp only [if_true]
  exact fun e => absurd (h.inb j bj hj c' hc') (by omega)
 ·intro arr E fr hk
  exact absurd (lt_of_cells hk) (by omega)
theorem St.pushed_blk {S : St} {id next : Nat} (hsp : Spot S id next) (b : Blk) (W : World) : (S.pushed id next b W).s.blk? id = some b := by
 simp only [St.pushed, ASt.blk?, Tr.get_set_self _ _ _ _ (deep (show 0 < 16000001 by have := hsp.lt; have := hsp.room; omega))]
theorem St.pushed_ref {S : St} {id next : Nat} (hsp : Spot S id next) (b : Blk) (W : World) (off c : Nat) (hc : c ≤ b.cells.length + 1) : RefOk (S.pushed id next b W) id off c ⟨S.w.heap.size, off, none⟩ :=
 ⟨b, St.pushed_blk hsp b W, hc, fun _ => by simp [St.pushed]⟩
theorem St.pushed_cap {S : St} {id next : Nat} (hsp : Spot S id next) (b : Blk) (W : World) (o c cap : Nat) (arr : Array Value) (E : TypeId) (fr : Nat × Nat) (hW : Pushed S.w W (.cells arr E fr)) (hcap : o + cap * b.esz ≤ arr.size) :
  CapOk (S.pushed id next b W) id c ⟨S.w.heap.size, o, none⟩ cap := by
 intro b' hb' _
 rw [St.pushed_blk hsp b W] at hb'
 obtain rfl := Option.some.inj hb'
 exact ⟨arr, E, fr, hW.new, hcap⟩
theorem Good.store {base : Nat} {S : St} (h : SR base S) {i off c : Nat} {b : Blk} (hb : S.s.blk? i = some b) (ho : b.own = true) (hc : Live b c) (hcur : c = b.cells.length + 1) {vs vs' l : List Value}
  (hl : setAt b.cells off vs = some l) (hv : VRL S vs vs') (hne : vs ≠ []) :
  Good base S ⟨S.s.put i (.blk { b with cells := l, low := c }), S.e, setCells S.w (S.e.loc i c).1 ((S.e.loc i c).2 + off) vs'⟩ ∧
  ∃ (arr : Array Value) (E : TypeId) (fr : Nat × Nat), S.w.heap[(S.e.loc i c).1]? = some (.cells arr E fr) ∧ (fr.1 = fr.2 ∨ arr.size ≤ fr.1) ∧ (S.e.loc i c).2 + off + vs'.length ≤ arr.size := by
 obtain ⟨hll, hin, hget⟩ := setAt_spec _ _ _ _ hl
 have hin' : off + vs.length ≤ b.cells.length := hin.resolve_left hne
 have hvl : vs'.length = vs.length := hv.1.symm
 obtain ⟨ho1, ⟨arr, E, fr, ho2, ho3⟩, ho4, _⟩ := h.own i b hb ho c hc
 have hpos : 0 < vs.length := List.length_pos_iff.2 hne
 have hfit : (S.e.loc i c).2 + off + vs'.length ≤ arr.size := by
  obtain ⟨v, h1, _⟩ := h.cell i b hb c hc (off + vs.length - 1) (by omega)
  rw [cell_of_block _ _ _ _ _ _ ho2] at h1
  have := (Array.getElem?_eq_some_iff.1 h1).1
  omega
 obtain ⟨arr', ha1, ha2, ha3⟩ := setCells_block vs' S.w _ _ arr E fr ho2 hfit
 refine ⟨?_, arr, E, fr, ho2, ho3.imp id And.left, hfit⟩
 have hlive' : ∀ c', Live { b with cells := l, low := c } c' -> c' = c := fun c' hc' => by
  have h1 := hc'.1; have h2 := hc'.2; simp only [hll] at h1 h2; omega
 refine SR.change h i (S.e.loc i c).1 S.s.next { b with cells := l, low := c } S.e.loc _ (h.lt hb) (Nat.le_refl _) h.room (.inl (h.lt hb)) (fun es he => blk_not_map hb he) (by show 1 ≤ c; omega) ?_ (fun _ _ => rfl)
  (fun k hk _ => setCells_ne _ _ _ _ _ hk) (fun j bj c' hj hbj hc' e => hj (ho4 j bj hbj c' hc' e)) ?_ ?_ ?_ ?_ ?_ ?_ (setCells_below _ _ _ _ _ ho1) (by rw [setCells_size]; exact Nat.le_refl _)
 ·intro b0 hb0
  rw [hb] at hb0; obtain rfl := Option.some.inj hb0
  exact ⟨by simp [hll], hc.1, rfl, fun _ _ _ => rfl⟩
 ·intro r es he e
  obtain ⟨_, es', clk, h2, _⟩ := h.map r es he
  rw [e, ho2] at h2; cases h2
 ·intro c' hc'; rw [hlive' c' hc', setCells_size]; exact h.inb i b hb c hc
 ·intro c' hc' p hp
  obtain rfl := hlive' c' hc'
  simp only
  rw [cell_of_block _ _ _ _ _ _ ha1, ha3, hget p]
  by_cases hp1 : off ≤ p ∧ p < off + vs.length
  ·rw [if_pos hp1, if_pos (by omega), show (S.e.loc i c').2 + p - ((S.e.loc i c').2 + off) = p - off by omega]
   exact ⟨_, rfl, hv.2 (p - off) (by omega)⟩
  ·rw [if_neg hp1, if_neg (by omega), ← cell_of_block _ _ _ _ _ _ ho2]
   exact h.cell i b hb c' hc p hp
 ·intro _ c' hc'
  obtain rfl := hlive' c' hc'
  exact ⟨ho1, ⟨arr', E, fr, ha1, by rw [ha2]; exact ho3⟩, fun j bj hj hbj c1 hc1 e => hj (ho4 j bj hbj c1 hc1 e), fun c1 hc1 _ => by rw [hlive' c1 hc1]⟩
 ·intro j bj hj hbj hbo c1 hc1 c' hc' e
  obtain rfl := hlive' c' hc'
  exact hj (ho4 j bj hbj c1 hc1 e.symm)
 ·intro arr0 E0 fr0 hk
  rw [ho2] at hk
  injection hk with hk; injection hk with e1 e2 e3
  subst e1; subst e2
  exact ⟨arr', fr, ha1, ha2⟩
end Go.Cl
namespace Go.Cl
open Go.RowKit
theorem getD_append_lt (l m : List Value) (p : Nat) (h : p < l.length) : (l ++ m).getD p undef = l.getD p undef := by
 simp [List.getD_eq_getElem?_getD, List.getElem?_append, h]
theorem getD_append_ge (l m : List Value) (p : Nat) (h : l.length ≤ p) : (l ++ m).getD p undef = m.getD (p - l.length) undef := by
 simp [List.getD_eq_getElem?_getD, List.getElem?_append, Nat.not_lt.2 h]
theorem Good.growRoom {base : Nat} {S : St} (h : SR base S) {i c : Nat} {b : Blk} (hb : S.s.blk? i = some b) (ho : b.own = true) (hc : Live b c) (hcur : c = b.cells.length + 1) {new new' : List Value}
  (hv : VRL S new new') {arr : Array Value} {E : TypeId} {fr : Nat × Nat} (ha : S.w.heap[(S.e.loc i c).1]? = some (.cells arr E fr)) (hfit : (S.e.loc i c).2 + b.cells.length + new'.length ≤ arr.size) :
  Good base S ⟨S.s.put i (.blk { b with cells := b.cells ++ new }), ⟨fun j c' => if j = i ∧ c < c' then S.e.loc i c else S.e.loc j c', S.e.mp⟩, setCells S.w (S.e.loc i c).1 ((S.e.loc i c).2 + b.cells.length) new'⟩ := by
 obtain ⟨ho1, ⟨arr0, E0, fr0, ho2, ho3⟩, ho4, ho5⟩ := h.own i b hb ho c hc
 rw [ha] at ho2
 injection ho2 with ho2; injection ho2 with e1 e2 e3
 subst e1; subst e2; subst e3
 have hvl : new'.length = new.length := hv.1.symm
 obtain ⟨arr', ha1, ha2, ha3⟩ := setCells_block new' S.w _ _ arr E fr ha hfit
 have hloc : ∀ c', (if i = i ∧ c < c' then S.e.loc i c else S.e.loc i c') = if c < c' then S.e.loc i c else S.e.loc i c' := fun c' => by simp
 have hown : ∀ c', Live { b with cells := b.cells ++ new } c' -> ¬ c < c' -> Live b c' := fun c' hc' hlt => ⟨hc'.1, by omega⟩
 refine SR.change h i (S.e.loc i c).1 S.s.next { b with cells := b.cells ++ new } _ _ (h.lt hb) (Nat.le_refl _) h.room (.inl (h.lt hb)) (fun es he => blk_not_map hb he) (h.low i b hb) ?_
  (fun j hj => by funext c'; rw [if_neg (by simp [hj])]) (fun k hk _ => setCells_ne _ _ _ _ _ hk) (fun j bj c' hj hbj hc' e => hj (ho4 j bj hbj c' hc' e)) ?_ ?_ ?_ ?_ ?_ ?_ (setCells_below _ _ _ _ _ ho1)
  (by rw [setCells_size]; exact Nat.le_refl _)
 ·intro b0 hb0
  rw [hb] at hb0; obtain rfl := Option.some.inj hb0
  exact ⟨by simp, Nat.le_refl _, rfl, fun c' hc' _ => by rw [if_neg (by omega)]⟩
 ·intro r es he e
  obtain ⟨_, es', clk, h2, _⟩ := h.map r es he
  rw [e, ha] at h2; cases h2
 ·intro c' hc'
  rw [hloc, setCells_size]
  by_cases hlt : c < c'
  ·rw [if_pos hlt]; exact h.inb i b hb c hc
  ·rw [if_neg hlt]; exact h.inb i b hb c' (hown c' hc' hlt)
 ·intro c' hc' p hp
  have hpl : p < b.cells.length + new.length := by have := hc'.2; simp only [List.length_append] at this; omega
  simp only [true_and]
  by_cases hlt : c < c'
  ·rw [if_pos hlt, cell_of_block _ _ _ _ _ _ ha1, ha3]
   by_cases hp1 : p < b.cells.length
   ·rw [if_neg (by omega), getD_append_lt _ _ _ hp1, ← cell_of_block _ _ _ _ _ _ ha]
    exact h.cell i b hb c hc p (by omega)
   ·rw [if_pos (by omega), getD_append_ge _ _ _ (by omega), show (S.e.loc i c).2 + p - ((S.e.loc i c).2 + b.cells.length) = p - b.cells.length by omega]
    exact ⟨_, rfl, hv.2 (p - b.cells.length) (by omega)⟩
  ·rw [if_neg hlt]
   have hcb := hown c' hc' hlt
   have hp1 : p < b.cells.length := by omega
   obtain ⟨v, h1, h2⟩ := h.cell i b hb c' hcb p hp
   rw [getD_append_lt _ _ _ hp1]
   refine ⟨v, ?_, h2⟩
   by_cases hcc : c' = c
   ·subst hcc
    rw [cell_of_block _ _ _ _ _ _ ha1, ha3, if_neg (by omega), ← cell_of_block _ _ _ _ _ _ ha]; exact h1
   ·by_cases hblk : (S.e.loc i c').1 = (S.e.loc i c).1
    ·have hsame := ho5 c' hcb hblk
     rw [hsame] at h1 ⊢
     rw [cell_of_block _ _ _ _ _ _ ha1, ha3, if_neg (by omega), ← cell_of_block _ _ _ _ _ _ ha]; exact h1
    ·rw [← h1]; exact World.cell?_of_block (setCells_ne _ _ _ _ _ hblk)
 ·intro _ c' hc'
  rw [hloc]
  by_cases hlt : c < c'
  ·rw [if_pos hlt]
   refine ⟨ho1, ⟨arr', E, fr, ha1, by rw [ha2]; exact ho3⟩, fun j bj hj hbj c1 hc1 e => hj (ho4 j bj hbj c1 hc1 e), fun c1 hc1 => ?_⟩
   rw [hloc]
   by_cases hlt1 : c < c1
   ·rw [if_pos hlt1]; exact fun _ => rfl
   ·rw [if_neg hlt1]; exact ho5 c1 (hown c1 hc1 hlt1)
  ·rw [if_neg hlt]
   obtain ⟨h1, ⟨arr1, E1, fr1, h2, h3⟩, h4, h5⟩ := h.own i b hb ho c' (hown c' hc' hlt)
   refine ⟨h1, ?_, fun j bj hj hbj c1 hc1 e => hj (h4 j bj hbj c1 hc1 e), fun c1 hc1 => ?_⟩
   case refine_2 =>
    rw [hloc]
    by_cases hlt1 : c < c1
    ·rw [if_pos hlt1]; exact h5 c hc
    ·rw [if_neg hlt1]; exact h5 c1 (hown c1 hc1 hlt1)
   by_cases hblk : (S.e.loc i c').1 = (S.e.loc i c).1
   ·rw [hblk, ha] at h2
    injection h2 with h2; injection h2 with e1 e2 e3
    subst e1; subst e2; subst e3
    exact ⟨arr', E, fr, by rw [hblk]; exact ha1, by rw [ha2]; exact h3⟩
   ·exact ⟨arr1, E1, fr1, by rw [setCells_ne _ _ _ _ _ hblk]; exact h2, h3⟩
 ·intro j bj hj hbj hbo c1 hc1 c' hc' e
  rw [hloc] at e
  by_cases hlt : c < c'
  ·rw [if_pos hlt] at e; exact hj (ho4 j bj hbj c1 hc1 e.symm)
  ·rw [if_neg hlt] at e
   exact hj ((h.own i b hb ho c' (hown c' hc' hlt)).2.2.1 j bj hbj c1 hc1 e.symm)
 ·intro arr0 E0 fr0 hk
  rw [ha] at hk
  injection hk with hk; injection hk with e1 e2 e3
  subst e1; subst e2
  exact ⟨arr', fr, ha1, ha2⟩
theorem Good.growNew {base : Nat} {S : St} (h : SR base S) {i c : Nat} {b : Blk} (hb : S.s.blk? i = some b) (ho : b.own = true) (hcur : c = b.cells.length + 1) {new : List Value}
  {arr : Array Value} {E : TypeId} {fr : Nat × Nat} {W : World} (hW : Pushed S.w W (.cells arr E fr)) (hfr : fr.1 = fr.2 ∨ arr.size ≤ fr.1 ∧ b.esz = 1) (hle : b.cells.length + new.length ≤ arr.size)
  (hv : ∀ p, p < b.cells.length + new.length -> VR S ((b.cells ++ new).getD p undef) (arr.toList.getD p undef)) :
  Good base S ⟨S.s.put i (.blk { b with cells := b.cells ++ new }), ⟨fun j c' => if j = i ∧ c < c' then (S.w.heap.size, 0) else S.e.loc j c', S.e.mp⟩, W⟩ := by
 have hloc : ∀ c', (if i = i ∧ c < c' then (S.w.heap.size, 0) else S.e.loc i c') = if c < c' then (S.w.heap.size, 0) else S.e.loc i c' := fun c' => by simp
 have hown : ∀ c', Live { b with cells := b.cells ++ new } c' -> ¬ c < c' -> Live b c' := fun c' hc' hlt => ⟨hc'.1, by omega⟩
 refine SR.change h i S.w.heap.size S.s.next { b with cells := b.cells ++ new } _ _ (h.lt hb) (Nat.le_refl _) h.room (.inl (h.lt hb)) (fun es he => blk_not_map hb he) (h.low i b hb) ?_
  (fun j hj => by funext c'; rw [if_neg (by simp [hj])]) (fun k _ hk => hW.old k hk) (fun j bj c' _ hbj hc' => Nat.ne_of_lt (h.inb j bj hbj c' hc')) (fun r es he => Nat.ne_of_lt (h.mp_lt he)) ?_ ?_ ?_ ?_ ?_
  (hW.below h.size) (by rw [hW.size]; omega)
 ·intro b0 hb0
  rw [hb] at hb0; obtain rfl := Option.some.inj hb0
  exact ⟨by simp, Nat.le_refl _, rfl, fun c' hc' _ => by rw [if_neg (by omega)]⟩
 ·intro c' hc'
  rw [hloc, hW.size]
  by_cases hlt : c < c'
  ·rw [if_pos hlt]; exact Nat.lt_succ_self _
  ·rw [if_neg hlt]; exact Nat.lt_succ_of_lt (h.inb i b hb c' (hown c' hc' hlt))
 ·intro c' hc' p hp
  have hpl : p < b.cells.length + new.length := by have := hc'.2; simp only [List.length_append] at this; omega
  simp only [true_and]
  by_cases hlt : c < c'
  ·rw [if_pos hlt]
   refine ⟨arr.toList.getD p undef, ?_, hv p hpl⟩
   have hpa : p < arr.size := by omega
   rw [cell_of_block W _ _ arr E fr hW.new]
   simp [List.getD_eq_getElem?_getD, hpa]
  ·rw [if_neg hlt]
   have hcb := hown c' hc' hlt
   obtain ⟨v, h1, h2⟩ := h.cell i b hb c' hcb p hp
   rw [getD_append_lt _ _ _ (by omega)]
   exact ⟨v, by rw [← h1]; exact World.cell?_of_block (hW.old _ (h.inb i b hb c' hcb)), h2⟩
 ·intro _ c' hc'
  rw [hloc]
  by_cases hlt : c < c'
  ·rw [if_pos hlt]
   refine ⟨h.size, ⟨arr, E, fr, hW.new, hfr⟩, fun j bj _ hbj c1 hc1 => Nat.ne_of_lt (h.inb j bj hbj c1 hc1), fun c1 hc1 => ?_⟩
   rw [hloc]
   by_cases hlt1 : c < c1
   ·rw [if_pos hlt1]; exact fun _ => rfl
   ·rw [if_neg hlt1]; exact fun e => absurd e (Nat.ne_of_lt (h.inb i b hb c1 (hown c1 hc1 hlt1)))
  ·rw [if_neg hlt]
   obtain ⟨h1, ⟨arr1, E1, fr1, h2, h3⟩, h4, h5⟩ := h.own i b hb ho c' (hown c' hc' hlt)
   refine ⟨h1, ⟨arr1, E1, fr1, by rw [hW.old _ (lt_of_cells h2)]; exact h2, h3⟩, fun j bj hj hbj c1 hc1 e => hj (h4 j bj hbj c1 hc1 e), fun c1 hc1 => ?_⟩
   rw [hloc]
   by_cases hlt1 : c < c1
   ·rw [if_pos hlt1]; exact fun e => absurd e (Ne.symm (Nat.ne_of_lt (lt_of_cells h2)))
   ·rw [if_neg hlt1]; exact h5 c1 (hown c1 hc1 hlt1)
 ·intro j bj hj hbj hbo c1 hc1 c' hc' e
  rw [hloc] at e
  by_cases hlt : c < c'
  ·rw [if_pos hlt] at e; exact absurd e.symm (Nat.ne_of_lt (h.inb j bj hbj c1 hc1))
  ·rw [if_neg hlt] at e
   exact hj ((h.own i b hb ho c' (hown c' hc' hlt)).2.2.1 j bj hbj c1 hc1 e.symm)
 ·intro arr0 E0 fr0 hk
  exact absurd (lt_of_cells hk) (by omega)
theorem Good.kill {base : Nat} {S : St} (h : SR base S) {i : Nat} {b : Blk} (hb : S.s.blk? i = some b) : Good base S ⟨S.s.put i (.blk (Cl.kill b)), S.e, S.w⟩ := by
 have hdead : ∀ c, ¬ Live (Cl.kill b) c := fun c hc => by have h1 := hc.1; have h2 := hc.2; simp only [Cl.kill] at h1 h2; omega
 refine SR.change h i S.w.heap.size S.s.next (Cl.kill b) S.e.loc S.w (h.lt hb) (Nat.le_refl _) h.room (.inl (h.lt hb)) (fun es he => blk_not_map hb he) (by simp [Cl.kill]) ?_ (fun _ _ => rfl) (fun _ _ _ => rfl)
  (fun j bj c' _ hbj hc' => Nat.ne_of_lt (h.inb j bj hbj c' hc')) (fun r es he => Nat.ne_of_lt (h.mp_lt he)) (fun c hc => absurd hc (hdead c)) (fun c hc => absurd hc (hdead c)) (fun _ c hc => absurd hc (hdead c))
  (fun _ _ _ _ _ _ _ c hc => absurd hc (hdead c)) (fun arr E fr hk => absurd (lt_of_cells hk) (by omega)) (Below.refl _ _) (Nat.le_refl _)
 intro b0 hb0
 rw [hb] at hb0; obtain rfl := Option.some.inj hb0
 exact ⟨Nat.le_refl _, by simp only [Cl.kill]; omega, rfl, fun _ _ _ => rfl⟩
theorem Good.reuse {base : Nat} {S : St} (h : SR base S) (hroom : S.s.room = true) (esz : Nat) {k o : Nat} {arr : Array Value} {E : TypeId} {fr : Nat × Nat} (hk : S.w.heap[k]? = some (.cells arr E fr)) (hfr : fr.1 = fr.2 ∨ arr.size ≤ fr.1 ∧ esz = 1)
  (hb : base ≤ k) (hex : ∀ j bj c', S.s.blk? j = some bj -> Live bj c' -> (S.e.loc j c').1 ≠ k) {old new new' : List Value} (hold : ∀ p, p < old.length -> ∃ v, S.w.cell? ⟨k, o + p, none⟩ = some v ∧ VR S (old.getD p undef) v)
  (hv : VRL S new new') (hfit : o + old.length + new'.length ≤ arr.size) :
  Good base S ⟨S.s.new (.blk ⟨old ++ new, 1, true, esz⟩), ⟨fun j c => if j = S.s.next then (k, o) else S.e.loc j c, S.e.mp⟩, setCells S.w k (o + old.length) new'⟩ := by
 have hlt := room_lt hroom
 obtain ⟨hf1, hf2⟩ := h.fresh
 have hvl : new'.length = new.length := hv.1.symm
 obtain ⟨arr', ha1, ha2, ha3⟩ := setCells_block new' S.w k (o + old.length) arr E fr hk hfit
 refine SR.change h S.s.next k (S.s.next + 1) ⟨old ++ new, 1, true, esz⟩ _ _ (by omega) (by omega) (by omega) (.inr rfl) (fun es he => by rw [hf2] at he; cases he) (Nat.le_refl _)
  (fun b hb => by rw [hf1] at hb; cases hb) (fun j hj => by funext c; rw [if_neg hj]) (fun j hj _ => setCells_ne _ _ _ _ _ hj) (fun j bj c _ hj hc => hex j bj c hj hc) ?_
  (fun c _ => by simp only [if_true]; rw [setCells_size]; exact lt_of_cells hk) ?_ ?_ ?_ ?_ (setCells_below _ _ _ _ _ hb) (by rw [setCells_size]; exact Nat.le_refl _)
 ·intro r es he e
  obtain ⟨_, es', clk, h2, _⟩ := h.map r es he
  rw [e, hk] at h2; cases h2
 ·intro c hc p hp
  have hpl : p < old.length + new.length := by have := hc.2; simp only [List.length_append] at this; omega
  simp only [if_true]
  rw [cell_of_block _ _ _ _ _ _ ha1, ha3]
  by_cases hp1 : p < old.length
  ·rw [if_neg (by omega), getD_append_lt _ _ _ hp1, ← cell_of_block _ _ _ _ _ _ hk]
   exact hold p hp1
  ·rw [if_pos (by omega), getD_append_ge _ _ _ (by omega), show o + p - (o + old.length) = p - old.length by omega]
   exact ⟨_, rfl, hv.2 (p - old.length) (by omega)⟩
 ·intro _ c _
  simp only [if_true]
  exact ⟨hb, ⟨arr', E, fr, ha1, by rw [ha2]; exact hfr⟩, fun j bj _ hj c' hc' => hex j bj c' hj hc', by intros; first | rfl | trivial⟩
 ·intro j bj _ hj _ c' hc' c _ e
  simp only [if_true] at e
  exact hex j bj c' hj hc' e.symm
 ·intro arr0 E0 fr0 hk0
  rw [hk] at hk0
  injection hk0 with hk0; injection hk0 with e1 e2 e3
  subst e1; subst e2
  exact ⟨arr', fr, ha1, ha2⟩
theorem SR.changeMap {base : Nat} {S : St} (h : SR base S) (i next : Nat) (es2 : List (Value × Value)) (mp' : Nat -> Nat) (w' : World)
  (hi : i < next) (hn : S.s.next ≤ next) (hr : 0 ≤ 16000000) (hi2 : i < S.s.next ∨ i + 1 = next) (hblk : S.s.blk? i = none)
  (hold : ∀ es, S.s.map? i = some es -> mp' i = S.e.mp i) (hmp : ∀ r, r ≠ i -> mp' r = S.e.mp r)
  (hw : ∀ k, k ≠ mp' i -> k < S.w.heap.size -> w'.heap[k]? = S.w.heap[k]?) (hM : ∀ (arr : Array Value) (E : TypeId) (fr : Nat × Nat), S.w.heap[mp' i]? ≠ some (.cells arr E fr)) (hb : base ≤ mp' i)
  (hfact : ∃ (es' : Array MapEntry) (clk : Nat), w'.heap[mp' i]? = some (.map es' clk) ∧ ER S es2 es'.toList)
  (hinj : ∀ r es, r ≠ i -> S.s.map? r = some es -> S.e.mp r ≠ mp' i) (hbelow : Below base S.w w') :
  Good base S ⟨⟨Tr.set (depth i) S.s.heap i (.map es2), next⟩, ⟨S.e.loc, mp'⟩, w'⟩ := by
 have hget : ∀ j, j ≠ i -> (Tr.set (depth i) S.s.heap i (.map es2)).get j = S.s.heap.get j := fun j hj => Tr.get_set_ne _ _ _ _ _ (Ne.symm hj)
 have hgeti : (Tr.set (depth i) S.s.heap i (.map es2)).get i = some (.map es2) := Tr.get_set_self _ _ _ _ (deep (by omega))
 have hself : (⟨Tr.set (depth i) S.s.heap i (.map es2), next⟩ : ASt).map? i = some es2 := by simp only [ASt.map?, hgeti]
 have hbl : ∀ j, (⟨Tr.set (depth i) S.s.heap i (.map es2), next⟩ : ASt).blk? j = S.s.blk? j := fun j => by
  by_cases hj : j = i
  ·subst hj; rw [hblk]; simp only [ASt.blk?, hgeti]
  ·simp only [ASt.blk?, hget j hj]
 have hmm : ∀ j, j ≠ i -> (⟨Tr.set (depth i) S.s.heap i (.map es2), next⟩ : ASt).map? j = S.s.map? j := fun j hj => by simp only [ASt.map?, hget j hj]
 have hkeep : ∀ (k : Nat) (arr : Array Value) (E : TypeId) (fr : Nat × Nat), S.w.heap[k]? = some (.cells arr E fr) -> w'.heap[k]? = some (.cells arr E fr) := fun k arr E fr hk => by
  rw [hw k (fun e => hM arr E fr (e ▸ hk)) (lt_of_cells hk)]; exact hk
 have hext : Ext S ⟨⟨Tr.set (depth i) S.s.heap i (.map es2), next⟩, ⟨S.e.loc, mp'⟩, w'⟩ := by
  refine ⟨fun j b hb => ⟨b, by rw [← hb]; exact hbl j, Nat.le_refl _, Nat.le_refl _, rfl, fun _ _ _ => rfl⟩, fun r es he => ?_, fun k arr E fr hk => ⟨arr, fr, hkeep k arr E fr hk, rfl⟩⟩
  by_cases hri : r = i
  ·subst hri; exact ⟨⟨es2, hself⟩, hold es he⟩
  ·exact ⟨⟨es, by rw [← he]; exact hmm r hri⟩, hmp r hri⟩
 refine ⟨⟨hr, ?_, ?_, ?_, ?_, ?_, ?_, Nat.le_trans h.size hbelow.size, ?_⟩, hext, hbelow⟩
 ·intro j o hj
  by_cases hji : j = i
  ·show j < next; omega
  ·have hj' : (Tr.set (depth i) S.s.heap i (.map es2)).get j = some o := hj
   rw [hget j hji] at hj'
   have := h.bound j o hj'
   show j < next
   omega
 ·intro j b hb; rw [hbl] at hb; exact h.low j b hb
 ·intro j b hb c hc p hp
  rw [hbl] at hb
  obtain ⟨v, h1, h2⟩ := h.cell j b hb c hc p hp
  obtain ⟨arr, E, fr, h3, h4⟩ := block_of_cell h1
  exact ⟨v, by rw [cell_of_block _ _ _ _ _ _ (hkeep _ _ _ _ h3)]; exact h4, h2.mono hext⟩
 ·intro j b hb hbo c hc
  rw [hbl] at hb
  obtain ⟨h1, ⟨arr, E, fr, h2, h3⟩, h4, h5⟩ := h.own j b hb hbo c hc
  exact ⟨h1, ⟨arr, E, fr, hkeep _ _ _ _ h2, h3⟩, fun k bk hk c' hc' e => by rw [hbl] at hk; exact h4 k bk hk c' hc' e, h5⟩
 ·intro r es he
  by_cases hri : r = i
  ·subst hri
   rw [hself] at he; obtain rfl := Option.some.inj he
   obtain ⟨es', clk, h1, h2⟩ := hfact
   exact ⟨hb, es', clk, h1, h2.mono hext⟩
  ·rw [hmm r hri] at he
   obtain ⟨h1, es', clk, h2, h3⟩ := h.map r es he
   refine ⟨by show base ≤ mp' r; rw [hmp r hri]; exact h1, es', clk, ?_, h3.mono hext⟩
   show w'.heap[mp' r]? = _
   rw [hmp r hri, hw _ (hinj r es hri he) (lt_of_cells h2)]; exact h2
 ·intro r r' es es' he he' hEq
  have hEq' : mp' r = mp' r' := hEq
  by_cases hri : r = i
  ·by_cases hri' : r' = i
   ·omega
   ·rw [hmm r' hri'] at he'
    subst hri
    rw [hmp r' hri'] at hEq'
    exact absurd hEq'.symm (hinj r' es' hri' he')
  ·rw [hmm r hri] at he
   by_cases hri' : r' = i
   ·subst hri'
    rw [hmp r hri] at hEq'
    exact absurd hEq' (hinj r es hri he)
   ·rw [hmm r' hri'] at he'
    rw [hmp r hri, hmp r' hri'] at hEq'
    exact h.mapInj r r' es es' he he' hEq'
 ·intro j b hb c hc
  rw [hbl] at hb
  exact Nat.lt_of_lt_of_le (h.inb j b hb c hc) hbelow.size
theorem Good.newMap {base : Nat} {S : St} (h : SR base S) (hroom : S.s.room = true) :
  Good base S ⟨S.s.new (.map []), ⟨S.e.loc, fun r => if r = S.s.next then S.w.heap.size else S.e.mp r⟩, S.w.alloc (.map #[] 0)⟩ := by
 have hlt := room_lt hroom
 obtain ⟨hf1, hf2⟩ := h.fresh
 refine SR.changeMap h S.s.next (S.s.next + 1) [] _ _ (by omega) (by omega) (by omega) (.inr rfl) hf1 (fun es he => by rw [hf2] at he; cases he) (fun r hr => by rw [if_neg hr]) (fun k _ hk => Below.heap_alloc _ _ _ hk) ?_
  (by simp only [if_true]; exact h.size) ?_ ?_ ((Below.refl _ _).alloc h.size _)
 ·intro arr E fr hk
  simp only [if_true] at hk
  exact absurd (lt_of_cells hk) (by omega)
 ·simp only [if_true]
  exact ⟨#[], 0, heap_alloc_new S.w _, trivial⟩
 ·intro r es _ he
  simp only [if_true]
  exact Nat.ne_of_lt (h.mp_lt he)
end Go.Cl
namespace Go.Cl
open Go.RowKit
theorem plain1_ok {S : St} {v : Value} (h : plain1 v = true) : VR S v v := by
 unfold plain1 at h
 split at h
 ·exact .bool _
 ·exact .int _ _
 ·exact .string _
 ·exact .ptrNil
 ·exact .sliceNil
 ·exact .mapNil
 ·exact .nilFunc
 ·exact .nilIface
 ·cases h
theorem plainL_ok {S : St} {l : List Value} (h : l.all plain1 = true) : VRL S l l := by
 induction l with
 | nil => exact VRL.nil
 | cons v l ih =>
  simp only [List.all_cons, Bool.and_eq_true] at h
  exact VRL.cons (plain1_ok h.1) (ih h.2)
theorem plainV_ok {S : St} {v : Value} (h : plainV v = true) : VR S v v := by
 unfold plainV at h
 split at h
 ·exact VRL.toList (plainL_ok h)
 ·have := plainL_ok (S := S) h; exact .tuple _ _ this.1 this.2
 ·exact plain1_ok h
structure FR (S : St) (f : AFr) (a : Act) : Prop where
 n : f.n = a.tmps.size
 small : f.n ≤ 16000000
 get : ∀ t, t < f.n -> VR S (f.get t) (a.tmps.getD t undef)
theorem FR.mono {S T : St} (h : Ext S T) {f : AFr} {a : Act} (hf : FR S f a) : FR T f a := ⟨hf.n, hf.small, fun t ht => (hf.get t ht).mono h⟩
theorem evalA_ok {S : St} {f : AFr} {a : Act} (hf : FR S f a) {x : Operand} {v : Value} (h : evalA f x = some v) : VR S v (a.eval x) := by
 cases x with
 | tmp t =>
  simp only [evalA] at h
  split at h
  ·rename_i ht; obtain rfl := Option.some.inj h; exact hf.get t (by simpa [Nat.blt_eq] using ht)
  ·cases h
 | const c =>
  simp only [evalA] at h
  split at h
  ·rename_i ht; obtain rfl := Option.some.inj h; exact plainV_ok ht
  ·cases h
 | global g => simp [evalA] at h
 | func g =>
  simp only [evalA] at h
  obtain rfl := Option.some.inj h
  exact .func g #[] #[] #[] #[] rfl rfl (fun i hi => by simp at hi) (fun i hi => by simp at hi)
theorem evalAll_ok {S : St} {f : AFr} {a : Act} (hf : FR S f a) : ∀ {xs : List Operand} {l : List Value}, evalAll f xs = some l -> VRL S l (xs.map a.eval) := by
 intro xs
 induction xs with
 | nil => intro l h; simp only [evalAll] at h; obtain rfl := Option.some.inj h; exact VRL.nil
 | cons x xs ih =>
  intro l h
  simp only [evalAll] at h
  split at h
  ·rename_i v hv
   split at h
   ·rename_i vs hvs; obtain rfl := Option.some.inj h; exact VRL.cons (evalA_ok hf hv) (ih hvs)
   ·cases h
  ·cases h
theorem optA_ok {S : St} {f : AFr} {a : Act} (hf : FR S f a) {x : Option Operand} {o : Option Value} (h : optA f x = some o) :
  (o = none ∧ x.map a.eval = none) ∨ ∃ v v', o = some v ∧ x.map a.eval = some v' ∧ VR S v v' := by
 cases x with
 | none => simp only [optA] at h; obtain rfl := Option.some.inj h; exact .inl ⟨rfl, rfl⟩
 | some x =>
  simp only [optA] at h
  split at h
  ·rename_i v hv; obtain rfl := Option.some.inj h; exact .inr ⟨v, _, rfl, rfl, evalA_ok hf hv⟩
  ·cases h
theorem run_isAgg {P : Program} {t : TypeId} {b : Bool} (h : isAggB P t = some b) (w : World) : (isAgg t).run P w = .ok b w := by
 unfold isAggB at h
 split at h
 ·rename_i fs hu; obtain rfl := Option.some.inj h; simp [isAgg, run_underlying hu]
 ·rename_i n e hu; obtain rfl := Option.some.inj h; simp [isAgg, run_underlying hu]
 ·rename_i d h1 h2 hu
  obtain rfl := Option.some.inj h
  simp only [isAgg, Sem.run_bind, run_underlying hu, Result.andThen_ok]
  cases d <;> first | rfl | (exact absurd hu (h1 _)) | (exact absurd hu (h2 _ _))
 ·cases h
theorem info_of_size {P : Program} {t : TypeId} {n : Nat} (h : sizeB P t = some n) : ∃ i, P.info? t = some i ∧ i.size = n := by
 unfold sizeB at h
 split at h
 ·rename_i i hi; exact ⟨i, hi, Option.some.inj h⟩
 ·cases h
theorem run_sizeOf {P : Program} {t : TypeId} {n : Nat} (h : sizeB P t = some n) (w : World) : (sizeOf t).run P w = .ok n w := by
 obtain ⟨i, hi, rfl⟩ := info_of_size h
 simp [sizeOf, typeInfo, hi]
theorem info_of_zero {P : Program} {t : TypeId} {z : Value} (h : zeroB P t = some z) : ∃ i, P.info? t = some i ∧ i.zero = some z := by
 unfold zeroB at h
 split at h
 ·rename_i i hi; exact ⟨i, hi, h⟩
 ·cases h
theorem run_zeroValue {P : Program} {t : TypeId} {z : Value} (h : zeroB P t = some z) (w : World) : (zeroValue t).run P w = .ok z w := by
 obtain ⟨i, hi, hz⟩ := info_of_zero h
 simp [zeroValue, typeInfo, hi, hz]
theorem info_of_bytes {P : Program} {t : TypeId} {n : Nat} (h : bytesB P t = some n) : ∃ i, P.info? t = some i ∧ i.bytes = n := by
 unfold bytesB at h
 split at h
 ·rename_i i hi; exact ⟨i, hi, Option.some.inj h⟩
 ·cases h
theorem isU8_ok {P : Program} {t : TypeId} (h : isU8 P t = true) : P.underlying t = some (.int .u8) := by
 unfold isU8 at h
 split at h
 ·assumption
 ·cases h
def Reads (P : Program) (S : St) (m : Sem Value) (v : Value) : Prop := ∃ v', m.run P S.w = .ok v' S.w ∧ VR S v v'
theorem VR.ptr_inv {S : St} {i off c : Nat} {v : Value} (h : VR S (.pointer (some ⟨i, off, some c⟩)) v) : ∃ a, v = .pointer (some a) ∧ RefOk S i off c a := by
 cases h with | ptr _ _ _ a hr => exact ⟨a, rfl, hr⟩
theorem VR.agg_inv {S : St} {cs : Array Value} {v : Value} (h : VR S (.agg cs) v) : ∃ cs', v = .agg cs' ∧ VRL S cs.toList cs'.toList := by
 cases h with | agg _ cs' h1 h2 => exact ⟨cs', rfl, h1, h2⟩
theorem VR.tuple_inv {S : St} {cs : Array Value} {v : Value} (h : VR S (.tuple cs) v) : ∃ cs', v = .tuple cs' ∧ VRL S cs.toList cs'.toList := by
 cases h with | tuple _ cs' h1 h2 => exact ⟨cs', rfl, h1, h2⟩
theorem VR.func_inv {S : St} {g : FuncId} {aS bs : Array Value} {v : Value} (h : VR S (.func (.func g) aS bs) v) : ∃ as' bs', v = .func (.func g) as' bs' ∧ VRL S aS.toList as'.toList ∧ VRL S bs.toList bs'.toList := by
 cases h with | func _ _ _ as' bs' ha hb h1 h2 => exact ⟨as', bs', rfl, ⟨ha, h1⟩, hb, h2⟩
theorem RefOk.addr {S : St} {i off c : Nat} {a : Addr} (h : RefOk S i off c a) {b : Blk} (hb : S.s.blk? i = some b) (hc : Live b c) : a = ⟨(S.e.loc i c).1, (S.e.loc i c).2 + off, none⟩ := by
 obtain ⟨b', hb', _, hl⟩ := h
 rw [hb] at hb'; obtain rfl := Option.some.inj hb'
 exact hl hc.1
theorem loadA_ok {P : Program} {base : Nat} {S : St} (h : SR base S) {t : TypeId} {a a' v : Value} (ha : VR S a a') (hl : loadA P S.s t a = some v) : Reads P S (Instr.loadAt t a') v := by
 unfold loadA at hl
 split at hl
 ·rename_i i off c
  obtain ⟨a1, rfl, hr⟩ := ha.ptr_inv
  split at hl
  ·rename_i n hag hsz
   split at hl
   ·rename_i l hc
    obtain rfl := Option.some.inj hl
    obtain ⟨b, hb, hlive, _, _, hln, hvl, hcell⟩ := h.cells hc
    obtain rfl := hr.addr hb hlive
    refine ⟨.agg (conc S.w (S.e.loc i c).1 ((S.e.loc i c).2 + off) n).toArray, ?_, VRL.agg hvl⟩
    simp [Instr.loadAt, Instr.sureAddr, loadVar, run_isAgg hag, run_sizeOf hsz, run_loadCells P S.w _ _ n hcell]
   ·cases hl
  ·rename_i hag
   split at hl
   ·rename_i v0 r0 hc
    obtain rfl := Option.some.inj hl
    obtain ⟨b, hb, hlive, _, _, hln, hvl, hcell⟩ := h.cells hc
    obtain rfl := hr.addr hb hlive
    obtain ⟨u, hu⟩ := hcell 0 (by omega)
    have h0 := hvl.2 0 (by simp)
    rw [conc_getD _ _ _ _ _ (by omega), hu] at h0
    simp only [Nat.add_zero] at hu
    refine ⟨u, ?_, by simpa using h0⟩
    simp [Instr.loadAt, Instr.sureAddr, loadVar, run_isAgg hag, hu]
   ·cases hl
  ·cases hl
 ·cases hl
theorem intOp_ok {P : Program} {S : St} {op : BinOp} {k : IntKind} {x y : Int} {v : Value} {t : TypeId} {ox oy : Operand} (h : intOp op k x y = some v) (hs : op ≠ .shl) (hs' : op ≠ .shr) :
  Reads P S (do eqGuard op t ox oy (.int k x) (.int k y); binOp op t (.int k x) (.int k y)) v := by
 cases op <;> simp only [intOp] at h <;> first
  | exact absurd rfl hs
  | exact absurd rfl hs'
  | (obtain rfl := Option.some.inj h; refine ⟨_, ?_, by first | exact .int _ _ | exact .bool _⟩; simp [go_sem, Op.intArith, Op.intBits]; done)
  | (split at h
     ·cases h
     ·rename_i hy; obtain rfl := Option.some.inj h; refine ⟨_, ?_, .int _ _⟩; simp [go_sem, Op.intDiv, hy])
theorem shiftOp_ok {P : Program} {S : St} {op : BinOp} {k k' : IntKind} {x y : Int} {v : Value} {t : TypeId} {ox oy : Operand} (h : shiftOp op k x y = some v) :
  Reads P S (do eqGuard op t ox oy (.int k x) (.int k' y); binOp op t (.int k x) (.int k' y)) v := by
 unfold shiftOp at h
 split at h
 ·cases h
 ·rename_i hy
  cases op <;> simp only at h <;> first
   | (cases h; done)
   | (obtain rfl := Option.some.inj h; refine ⟨_, ?_, .int _ _⟩; simp [eqGuard_shl, eqGuard_shr, binOp_shl, binOp_shr, Op.shift, hy])
theorem size_data (x : ByteArray) : x.size = x.data.toList.length := by rw [Array.length_toList]; rfl
theorem ba_ext {x y : ByteArray} (h : x.data.toList = y.data.toList) : x = y := by
 cases x; cases y; simp only at h; congr 1; exact Array.toList_inj.1 h
theorem ba_append (x y : ByteArray) : x ++ y = ⟨(x.data.toList ++ y.data.toList).toArray⟩ := by
 apply ba_ext
 rw [ByteArray.data_append, Array.toList_append]
theorem strOp_ok {P : Program} {S : St} {op : BinOp} {x y : ByteArray} {v : Value} {t : TypeId} {ox oy : Operand} (h : strOp op x y = some v) :
  Reads P S (do eqGuard op t ox oy (.string x) (.string y); binOp op t (.string x) (.string y)) v := by
 have hb : ∀ op, binOp op t (.string x) (.string y) = Op.stringOp op x y := fun op => by cases op <;> rfl
 simp only [eqGuard_at_string, hb]
 cases op <;> simp only [strOp] at h <;> first
  | (cases h; done)
  | (split at h
     ·rename_i hle
      obtain rfl := Option.some.inj h
      refine ⟨_, ?_, .string _⟩
      have hle' : x.size + y.size ≤ 4294967296 := by rw [size_data, size_data]; simpa [Nat.ble_eq] using hle
      have hn : ¬ ((9223372036854775807 : Int) < (x.size : Int) + (y.size : Int)) := by omega
      simp [Op.stringOp, hn, ba_append]
     ·cases h)
  | (obtain rfl := Option.some.inj h; refine ⟨_, ?_, .bool _⟩; simp [Op.stringOp, ByteArray.toList_eq])
theorem nilEq_ok' {P : Program} {S : St} {t : TypeId} {x y x' y' : Value} {b : Bool} (d : Nat) (hx : VR S x x') (hy : VR S y y') (h : nilEq P t x y = some b) : (Op.equalIn (d + 1) t x' y').run P S.w = .ok b S.w := by
 unfold nilEq at h
 split at h
 ·rename_i a1 a2 hu; cases hx; cases hy; obtain rfl := Option.some.inj h; simp [Op.equalIn, run_underlying hu]
 ·rename_i e q hu; cases hx; obtain rfl := Option.some.inj h; cases hy <;> simp [Op.equalIn, run_underlying hu]
 ·rename_i e q hu; obtain rfl := Option.some.inj h; cases hx <;> (cases hy; simp [Op.equalIn, run_underlying hu])
 ·rename_i e n c q m d hu; obtain rfl := Option.some.inj h; cases hx; cases hy <;> simp [Op.equalIn, run_underlying hu]
 ·rename_i e q n c m d hu; obtain rfl := Option.some.inj h; cases hx; cases hy; simp [Op.equalIn, run_underlying hu]
 ·rename_i e1 e2 q hu; obtain rfl := Option.some.inj h; cases hx; cases hy <;> simp [Op.equalIn, run_underlying hu]
 ·rename_i e1 e2 q hu; obtain rfl := Option.some.inj h; cases hx; cases hy; simp [Op.equalIn, run_underlying hu]
 ·rename_i hu; obtain rfl := Option.some.inj h; cases hx; cases hy; simp [Op.equalIn, run_underlying hu]
 ·rename_i hu; obtain rfl := Option.some.inj h; cases hx; cases hy; simp [Op.equalIn, run_underlying hu]
 ·rename_i hu; obtain rfl := Option.some.inj h; cases hx; cases hy; simp [Op.equalIn, run_underlying hu]
 ·cases h
theorem nilEq_ok {P : Program} {S : St} {t : TypeId} {x y x' y' : Value} {b : Bool} (hx : VR S x x') (hy : VR S y y') (h : nilEq P t x y = some b) : (Op.equal t x' y').run P S.w = .ok b S.w :=
 nilEq_ok' 9999 hx hy h
def nilKind : Value -> Bool
 | .bool _ | .pointer _ | .slice _ _ _ | .map _ | .nilFunc | .func _ _ _ => true
 | _ => false
theorem nilEq_kind {P : Program} {t : TypeId} {x y : Value} {b : Bool} (h : nilEq P t x y = some b) : nilKind x = true := by
 unfold nilEq at h
 split at h <;> first | rfl | (cases h; done)
theorem eqGuard_nilKind (op : BinOp) (t : TypeId) (ox oy : Operand) (x y : Value) (h : nilKind x = true) : eqGuard op t ox oy x y = pure () := by
 cases x <;> first | (simp [nilKind] at h; done) | (cases op <;> rfl)
theorem VR.kind {S : St} {v v' : Value} (h : VR S v v') : nilKind v = nilKind v' := by cases h <;> rfl
theorem binOp_eql_nil (t : TypeId) (x y : Value) (h : nilKind x = true) : binOp .eql t x y = (do pure (.bool (← Op.equal t x y))) := by
 cases x <;> first | (simp [nilKind] at h; done) | (cases y <;> rfl)
theorem binOp_neq_nil (t : TypeId) (x y : Value) (h : nilKind x = true) : binOp .neq t x y = (do pure (.bool (!(← Op.equal t x y)))) := by
 cases x <;> first | (simp [nilKind] at h; done) | (cases y <;> rfl)
theorem nilA_ok {P : Program} {S : St} {op : BinOp} {t : TypeId} {x y x' y' v : Value} {ox oy : Operand} (hx : VR S x x') (hy : VR S y y')
  (h : (match op with
   | .eql => match nilEq P t x y with | some b => some (.bool b) | none => none
   | .neq => match nilEq P t x y with | some b => some (.bool (!b)) | none => none
   | _ => none) = some v) : Reads P S (do eqGuard op t ox oy x' y'; binOp op t x' y') v := by
 cases op <;> simp only at h <;> first
  | (cases h; done)
  | (split at h
     ·rename_i b hb
      obtain rfl := Option.some.inj h
      have hk : nilKind x' = true := by rw [← hx.kind]; exact nilEq_kind hb
      refine ⟨_, ?_, .bool _⟩
      simp [eqGuard_nilKind _ _ _ _ _ _ hk, binOp_eql_nil _ _ _ hk, binOp_neq_nil _ _ _ hk, nilEq_ok hx hy hb]
     ·cases h)
theorem intsEqA_vr {S : St} : ∀ {xs ys xs' ys' : List Value} {b : Bool}, intsEqA xs ys = some b -> VRL S xs xs' -> VRL S ys ys' -> intsEqA xs' ys' = some b
 | [], [], xs', ys', b, h, hx, hy => by rw [hx.nil_inv, hy.nil_inv]; exact h
 | x :: r, y :: q, xs', ys', b, h, hx, hy => by
  obtain ⟨x', r', rfl, hx1, hx2⟩ := hx.cons_inv
  obtain ⟨y', q', rfl, hy1, hy2⟩ := hy.cons_inv
  unfold intsEqA at h
  split at h
  ·rename_i heq1 heq2; cases heq1
  ·rename_i k a r0 k' b0 q0 heq1 heq2
   injection heq1 with e1 e2; injection heq2 with e3 e4
   subst e1; subst e2; subst e3; subst e4
   cases hx1; cases hy1
   split at h
   ·rename_i t hk ht
    have := intsEqA_vr ht hx2 hy2
    unfold intsEqA
    simp only [hk, this]
    exact h
   ·cases h
  ·cases h
 | [], y :: q, _, _, b, h, _, _ => by simp [intsEqA] at h
 | x :: r, [], _, _, b, h, _, _ => by simp [intsEqA] at h
theorem forIn_elems {P : Program} {e : TypeId} {k' : IntKind} (he : P.underlying e = some (.int k')) (hag : isAggB P e = some false) (w : World) (d : Nat) (xs ys : Array Value) : ∀ (len i : Nat) (b : Bool), intsEqA (xs.toList.drop i) (ys.toList.drop i) = some b -> xs.size = i + len -> ys.size = i + len ->
  (forIn (List.range' i len 1) ((none : Option Bool), ()) fun i __s => do
   let a ← part e xs (i * 1)
   let c ← part e ys (i * 1)
   let r ← Op.equalIn (d + 1) e a c
   if (!r) = true then pure (ForInStep.done (some false, ())) else pure (ForInStep.yield (none, ()))).run P w = .ok (if b then none else some false, ()) w := by
 intro len
 induction len with
 | zero =>
  intro i b h hx hy
  rw [List.drop_eq_nil_of_le (by simp; omega), List.drop_eq_nil_of_le (by simp; omega)] at h
  simp only [intsEqA] at h
  obtain rfl := Option.some.inj h
  simp
 | succ len ih =>
  intro i b h hx hy
  have hxi : i < xs.toList.length := by simp; omega
  have hyi : i < ys.toList.length := by simp; omega
  rw [List.drop_eq_getElem_cons hxi, List.drop_eq_getElem_cons hyi] at h
  unfold intsEqA at h
  split at h
  ·rename_i heq1 _; cases heq1
  ·rename_i k a r0 k2 b0 q0 heq1 heq2
   injection heq1 with e1 e2; injection heq2 with e3 e4
   subst e2; subst e4
   split at h
   case h_2 => cases h
   rename_i t hk ht
   have hkk : k = k2 := by split at hk; assumption; cases hk
   subst hkk
   obtain rfl := Option.some.inj h
   have hpx : (part e xs (i * 1)).run P w = .ok (.int k a) w := by
    have : xs[i]? = some (.int k a) := by rw [← Array.getElem?_toList, List.getElem?_eq_getElem hxi, e1]
    simp [part, run_isAgg hag, this]
   have hpy : (part e ys (i * 1)).run P w = .ok (.int k b0) w := by
    have : ys[i]? = some (.int k b0) := by rw [← Array.getElem?_toList, List.getElem?_eq_getElem hyi, e3]
    simp [part, run_isAgg hag, this]
   have heq : (Op.equalIn (d + 1) e (.int k a) (.int k b0)).run P w = .ok (a == b0) w := by simp [Op.equalIn, run_underlying he]
   rw [List.range'_succ, List.forIn_cons]
   simp only [Sem.run_bind, hpx, hpy, heq, Result.andThen_ok]
   cases hab : (a == b0) with
   | false => simp
   | true =>
    simp only [Bool.not_true, Bool.false_eq_true, if_false, Sem.run_pure, Result.andThen_ok, Bool.true_and]
    exact ih (i + 1) t ht (by omega) (by omega)
  ·cases h
theorem run_equalIn_ints {P : Program} (w : World) (d : Nat) {n : Nat} {t e : TypeId} {k : IntKind} {xs ys : Array Value} {b : Bool} (hu : P.underlying t = some (.array n e)) (hsz : sizeB P e = some 1) (hue : P.underlying e = some (.int k)) (hag : isAggB P e = some false)
  (h : intsEqA (xs.toList.drop 0) (ys.toList.drop 0) = some b) (hx : xs.size = 0 + n) (hy : ys.size = 0 + n) : (Op.equalIn (d + 1 + 1) t (.agg xs) (.agg ys)).run P w = .ok b w := by
 rw [Op.equalIn]
 simp only [Sem.run_bind, run_underlying hu, Result.andThen_ok, run_sizeOf hsz]
 rw [Std.Legacy.Range.forIn_eq_forIn_range']
 have := forIn_elems hue hag w d xs ys n 0 b h hx hy
 have hr : List.range' [:n].start [:n].size [:n].step = List.range' 0 n 1 := by simp [Std.Legacy.Range.size]
 rw [hr, this]
 cases b <;> simp
theorem eqFields_ints {P : Program} (w : World) (d : Nat) {xs ys : Array Value} : ∀ (fs : List Field) (i : Nat) (b : Bool), fieldsInt P fs i = true -> intsEqA (xs.toList.drop i) (ys.toList.drop i) = some b -> xs.size = i + fs.length -> ys.size = i + fs.length ->
  (Op.eqFields (d + 1) xs ys fs).run P w = .ok b w
 | [], i, b, _, h, hx, hy => by
  rw [List.drop_eq_nil_of_le (by simp at hx; simp; omega), List.drop_eq_nil_of_le (by simp at hy; simp; omega)] at h
  simp only [intsEqA] at h
  obtain rfl := Option.some.inj h
  simp [Op.eqFields]
 | f :: r, i, b, hf, h, hx, hy => by
  have hxi : i < xs.toList.length := by simp at hx; simp; omega
  have hyi : i < ys.toList.length := by simp at hy; simp; omega
  rw [List.drop_eq_getElem_cons hxi, List.drop_eq_getElem_cons hyi] at h
  unfold fieldsInt at hf
  rw [Bool.and_eq_true] at hf
  obtain ⟨hf1, hf2⟩ := hf
  split at hf1
  case h_2 => cases hf1
  rename_i k' hue
  simp only [Bool.and_eq_true, Nat.beq_eq] at hf1
  obtain ⟨hname, hoff⟩ := hf1
  have hname' : f.name ≠ "_" := by simpa using hname
  have hag : isAggB P f.type = some false := by unfold isAggB; rw [hue]
  unfold intsEqA at h
  split at h
  ·rename_i heq1 _; cases heq1
  ·rename_i k a r0 k2 b0 q0 heq1 heq2
   injection heq1 with e1 e2; injection heq2 with e3 e4
   subst e2; subst e4
   split at h
   case h_2 => cases h
   rename_i t hk ht
   have hkk : k = k2 := by split at hk; assumption; cases hk
   subst hkk
   obtain rfl := Option.some.inj h
   have hpx : (part f.type xs f.offset).run P w = .ok (.int k a) w := by
    have : xs[i]? = some (.int k a) := by rw [← Array.getElem?_toList, List.getElem?_eq_getElem hxi, e1]
    simp [part, run_isAgg hag, hoff, this]
   have hpy : (part f.type ys f.offset).run P w = .ok (.int k b0) w := by
    have : ys[i]? = some (.int k b0) := by rw [← Array.getElem?_toList, List.getElem?_eq_getElem hyi, e3]
    simp [part, run_isAgg hag, hoff, this]
   have heq : (Op.equalIn (d + 1) f.type (.int k a) (.int k b0)).run P w = .ok (a == b0) w := by simp [Op.equalIn, run_underlying hue]
   rw [Op.eqFields, if_pos hname']
   simp only [Sem.run_bind, hpx, hpy, heq, Result.andThen_ok]
   cases hab : (a == b0) with
   | false => simp
   | true =>
    simp only [Bool.not_true, Bool.false_eq_true, if_false, Bool.true_and]
    exact eqFields_ints w d r (i + 1) t hf2 ht (by simp at hx; omega) (by simp at hy; omega)
  ·cases h
theorem cellEqA_inv {x y : Value} {b : Bool} (h : cellEqA x y = some b) : (∃ k a c, x = .int k a ∧ y = .int k c ∧ b = (a == c)) ∨ (∃ a c, x = .string a ∧ y = .string c ∧ b = (a.toList == c.toList)) := by
 unfold cellEqA at h
 split at h
 ·rename_i k a k' c
  split at h
  ·rename_i hk
   subst hk
   exact .inl ⟨k, a, c, rfl, rfl, (Option.some.inj h).symm⟩
  ·cases h
 ·rename_i a c
  exact .inr ⟨a, c, rfl, rfl, (Option.some.inj h).symm⟩
 ·cases h
theorem cellsEqA_cons {x y : Value} {r q : List Value} {b : Bool} (h : cellsEqA (x :: r) (y :: q) = some b) : ∃ a t, cellEqA x y = some a ∧ cellsEqA r q = some t ∧ b = (a && t) := by
 simp only [cellsEqA] at h
 split at h
 ·rename_i a t h1 h2
  exact ⟨a, t, h1, h2, (Option.some.inj h).symm⟩
 ·cases h
theorem cellsEqA_vr {S : St} : ∀ {xs ys xs' ys' : List Value} {b : Bool}, cellsEqA xs ys = some b -> VRL S xs xs' -> VRL S ys ys' -> xs' = xs ∧ ys' = ys
 | [], [], xs', ys', b, h, hx, hy => ⟨hx.nil_inv, hy.nil_inv⟩
 | x :: r, y :: q, xs', ys', b, h, hx, hy => by
  obtain ⟨x', r', rfl, hx1, hx2⟩ := hx.cons_inv
  obtain ⟨y', q', rfl, hy1, hy2⟩ := hy.cons_inv
  obtain ⟨a, t, h1, h2, _⟩ := cellsEqA_cons h
  obtain ⟨e1, e2⟩ := cellsEqA_vr h2 hx2 hy2
  rw [e1, e2]
  rcases cellEqA_inv h1 with ⟨k, a, c, rfl, rfl, _⟩ | ⟨a, c, rfl, rfl, _⟩
  ·cases hx1; cases hy1; exact ⟨rfl, rfl⟩
  ·cases hx1; cases hy1; exact ⟨rfl, rfl⟩
 | [], y :: q, _, _, b, h, _, _ => by simp [cellsEqA] at h
 | x :: r, [], _, _, b, h, _, _ => by simp [cellsEqA] at h
theorem eqFields_cells {P : Program} (w : World) (d : Nat) {xs ys : Array Value} : ∀ (fs : List Field) (i : Nat) (b : Bool), fieldsText P fs (xs.toList.drop i) i = true -> cellsEqA (xs.toList.drop i) (ys.toList.drop i) = some b -> xs.size = i + fs.length -> ys.size = i + fs.length ->
  (Op.eqFields (d + 1) xs ys fs).run P w = .ok b w
 | [], i, b, _, h, hx, hy => by
  rw [List.drop_eq_nil_of_le (by simp at hx; simp; omega), List.drop_eq_nil_of_le (by simp at hy; simp; omega)] at h
  simp only [cellsEqA] at h
  obtain rfl := Option.some.inj h
  simp [Op.eqFields]
 | f :: r, i, b, hf, h, hx, hy => by
  have hxi : i < xs.toList.length := by simp at hx; simp; omega
  have hyi : i < ys.toList.length := by simp at hy; simp; omega
  rw [List.drop_eq_getElem_cons hxi, List.drop_eq_getElem_cons hyi] at h
  rw [List.drop_eq_getElem_cons hxi] at hf
  simp only [fieldsText] at hf
  rw [Bool.and_eq_true] at hf
  obtain ⟨hf1, hf2⟩ := hf
  obtain ⟨a, t, h1, h2, rfl⟩ := cellsEqA_cons h
  have key : f.name ≠ "_" ∧ (part f.type xs f.offset).run P w = .ok xs.toList[i] w ∧ (part f.type ys f.offset).run P w = .ok ys.toList[i] w ∧ (Op.equalIn (d + 1) f.type xs.toList[i] ys.toList[i]).run P w = .ok a w := by
   have hpx : ∀ (hag : isAggB P f.type = some false) (hoff : f.offset = i), (part f.type xs f.offset).run P w = .ok xs.toList[i] w := fun hag hoff => by
    have : xs[i]? = some xs.toList[i] := by rw [← Array.getElem?_toList, List.getElem?_eq_getElem hxi]
    simp only [part, Sem.run_bind, run_isAgg hag, hoff, this, Result.andThen_ok]
    simp
   have hpy : ∀ (hag : isAggB P f.type = some false) (hoff : f.offset = i), (part f.type ys f.offset).run P w = .ok ys.toList[i] w := fun hag hoff => by
    have : ys[i]? = some ys.toList[i] := by rw [← Array.getElem?_toList, List.getElem?_eq_getElem hyi]
    simp only [part, Sem.run_bind, run_isAgg hag, hoff, this, Result.andThen_ok]
    simp
   split at hf1
   ·rename_i k' k0 n0 hue hxe
    simp only [Bool.and_eq_true, Nat.beq_eq] at hf1
    obtain ⟨hname, hoff⟩ := hf1
    have hag : isAggB P f.type = some false := by unfold isAggB; rw [hue]
    refine ⟨by simpa using hname, hpx hag hoff, hpy hag hoff, ?_⟩
    rcases cellEqA_inv h1 with ⟨k, a1, c1, e1, e2, rfl⟩ | ⟨a1, c1, e1, e2, rfl⟩
    ·rw [e1, e2]; exact run_equalIn_int w d f.type k k' a1 c1 hue
    ·rw [hxe] at e1; cases e1
   ·rename_i k0 hue hxe
    simp only [Bool.and_eq_true, Nat.beq_eq] at hf1
    obtain ⟨hname, hoff⟩ := hf1
    have hag : isAggB P f.type = some false := by unfold isAggB; rw [hue]
    refine ⟨by simpa using hname, hpx hag hoff, hpy hag hoff, ?_⟩
    rcases cellEqA_inv h1 with ⟨k, a1, c1, e1, e2, rfl⟩ | ⟨a1, c1, e1, e2, rfl⟩
    ·rw [hxe] at e1; cases e1
    ·rw [e1, e2]; exact run_equalIn_string w d f.type a1 c1 hue
   ·cases hf1
  obtain ⟨hname', hpx, hpy, heq⟩ := key
  rw [Op.eqFields, if_pos hname']
  simp only [Sem.run_bind, hpx, hpy, heq, Result.andThen_ok]
  cases a with
  | false => simp
  | true =>
   simp only [Bool.not_true, Bool.false_eq_true, if_false, Bool.true_and]
   exact eqFields_cells w d r (i + 1) t hf2 h2 (by simp at hx; omega) (by simp at hy; omega)
theorem arrEqA_ok {P : Program} {S : St} {op : BinOp} {t : TypeId} {xs ys xs' ys' : Array Value} {b : Bool} {ox oy : Operand} (hx : VRL S xs.toList xs'.toList) (hy : VRL S ys.toList ys'.toList) (h : arrEqA P t xs ys = some b) :
  (eqGuard op t ox oy (.agg xs') (.agg ys')).run P S.w = .ok () S.w ∧ (Op.equalIn 10000 t (.agg xs') (.agg ys')).run P S.w = .ok b S.w := by
 unfold arrEqA at h
 split at h
 case h_3 => cases h
 case h_2 =>
  rename_i fs hu
  split at h
  case isFalse => cases h
  rename_i hc
  simp only [Bool.and_eq_true, Nat.beq_eq, Bool.not_eq_true'] at hc
  obtain ⟨⟨⟨hxl, hyl⟩, hg⟩, hst⟩ := hc
  have hxs : xs'.size = 0 + fs.toList.length := by have := hx.1; simp at this hxl; simp; omega
  have hys : ys'.size = 0 + fs.toList.length := by have := hy.1; simp at this hyl; simp; omega
  have hfo : P.fieldsOf t = fs := by simp [Program.fieldsOf, hu]
  refine ⟨by cases op <;> simp [eqGuard, hg], ?_⟩
  have := run_equalIn_struct (P := P) S.w 9999 t xs' ys' (by rw [hfo]; exact hu) hst
  split at h
  ·rename_i hfi
   have h2 := intsEqA_vr h hx hy
   rw [hfo, eqFields_ints S.w 9998 fs.toList 0 b hfi (by simpa using h2) hxs hys] at this
   exact this
  ·split at h
   case isFalse => cases h
   rename_i hfi
   obtain ⟨e1, e2⟩ := cellsEqA_vr h hx hy
   rw [hfo, eqFields_cells S.w 9998 fs.toList 0 b (by rw [e1]; simpa using hfi) (by rw [e1, e2]; simpa using h) hxs hys] at this
   exact this
 rename_i n e hu
 split at h
 case h_2 => cases h
 rename_i k hue hsz
 split at h
 case isFalse => cases h
 rename_i hc
 simp only [Bool.and_eq_true, Nat.beq_eq, Bool.not_eq_true'] at hc
 obtain ⟨⟨hxl, hyl⟩, hg⟩ := hc
 have hag : isAggB P e = some false := by unfold isAggB; rw [hue]
 have h2 := intsEqA_vr h hx hy
 have hxs : xs'.size = n := by have := hx.1; simp at this hxl; omega
 have hys : ys'.size = n := by have := hy.1; simp at this hyl; omega
 constructor
 ·cases op <;> simp [eqGuard, hg]
 ·exact run_equalIn_ints S.w 9998 hu hsz hue hag (by simpa using h2) (by omega) (by omega)
theorem binA_ok {P : Program} {S : St} {op : BinOp} {t : TypeId} {x y x' y' v : Value} {ox oy : Operand} (hx : VR S x x') (hy : VR S y y') (h : binA P op t x y = some v) :
  Reads P S (do eqGuard op t ox oy x' y'; binOp op t x' y') v := by
 unfold binA at h
 split at h
 ·rename_i xs ys
  obtain ⟨xs', rfl, hxv⟩ := hx.agg_inv
  obtain ⟨ys', rfl, hyv⟩ := hy.agg_inv
  split at h
  ·split at h
   ·rename_i b hb
    obtain rfl := Option.some.inj h
    obtain ⟨h1, h2⟩ := arrEqA_ok (op := .eql) (ox := ox) (oy := oy) hxv hyv hb
    exact ⟨_, by simp only [Sem.run_bind, h1, Result.andThen_ok, run_eql_struct, h2], .bool _⟩
   ·cases h
  ·split at h
   ·rename_i b hb
    obtain rfl := Option.some.inj h
    obtain ⟨h1, h2⟩ := arrEqA_ok (op := .neq) (ox := ox) (oy := oy) hxv hyv hb
    exact ⟨_, by simp only [Sem.run_bind, h1, Result.andThen_ok, run_neq_struct, h2], .bool _⟩
   ·cases h
  ·cases h
 ·rename_i k a k' b
  cases hx; cases hy
  split at h
  ·exact shiftOp_ok h
  ·exact shiftOp_ok h
  ·rename_i h1 h2
   split at h
   ·rename_i hk; subst hk; exact intOp_ok h (fun e => h1 e) (fun e => h2 e)
   ·cases h
 ·cases hx; cases hy; exact strOp_ok h
 ·exact nilA_ok hx hy h
theorem unA_ok {P : Program} {S : St} {op : UnOp} {x x' v : Value} (hx : VR S x x') (h : unA op x = some v) : Reads P S (Op.unary op x') v := by
 unfold unA at h
 split at h
 ·cases hx; simp only [intOp] at h; obtain rfl := Option.some.inj h; exact ⟨_, by simp [Op.unary, Op.intArith], .int _ _⟩
 ·cases hx; simp only [intOp] at h; obtain rfl := Option.some.inj h; exact ⟨_, by simp [Op.unary, Op.intBits], .int _ _⟩
 ·cases hx; obtain rfl := Option.some.inj h; exact ⟨_, by simp [Op.unary], .bool _⟩
 ·cases h
theorem indexAddrA_ok {P : Program} {S : St} {t : TypeId} {x ix x' ix' v : Value} (hx : VR S x x') (hi : VR S ix ix') (h : indexAddrA P t x ix = some v) : Reads P S (Instr.indexAt t x' ix') v := by
 unfold indexAddrA at h
 split at h
 ·rename_i e i off len c k n hu
  cases hi
  cases hx with
  | slice _ _ _ _ a cap h0 hz hr =>
  split at h
  ·rename_i z hz'
   split at h
   ·rename_i hlt
    obtain rfl := Option.some.inj h
    have hlt' : n < len := by simpa [Nat.blt_eq] using hlt
    obtain ⟨⟨b, hb, hc, hl⟩, _⟩ := hr (by omega)
    refine ⟨.pointer (some (a.add (n * z))), ?_, .ptr _ _ _ _ ⟨b, hb, hc, fun hlow => ?_⟩⟩
    ·have hlt2 : ((Int.ofNat n) < (len : Int)) := by simp only [Int.ofNat_eq_natCast]; omega
     have h02 : (0 : Int) ≤ Int.ofNat n := by simp
     simp [Instr.indexAt, run_underlying hu, asIntOf, run_sizeOf hz']
     omega
    ·rw [hl hlow, Addr.add_lit, Nat.add_assoc]
   ·cases h
  ·cases h
 ·rename_i len e i off c k n hu
  cases hi
  obtain ⟨a, rfl, b, hb, hc, hl⟩ := hx.ptr_inv
  split at h
  ·rename_i z hz'
   split at h
   ·rename_i hlt
    obtain rfl := Option.some.inj h
    have hlt' : n < len := by simpa [Nat.blt_eq] using hlt
    refine ⟨.pointer (some (a.add (n * z))), ?_, .ptr _ _ _ _ ⟨b, hb, hc, fun hlow => ?_⟩⟩
    ·simp [Instr.indexAt, run_underlying hu, asIntOf, run_sizeOf hz', Instr.sureAddr]
     omega
    ·rw [hl hlow, Addr.add_lit, Nat.add_assoc]
   ·cases h
  ·cases h
 ·cases h
theorem fieldAddrA_ok {P : Program} {S : St} {t : TypeId} {x x' v : Value} {f : Nat} (hx : VR S x x') (h : fieldAddrA P t x f = some v) : Reads P S (Instr.fieldAt t x' f) v := by
 unfold fieldAddrA at h
 split at h
 ·rename_i fs i off c hu
  obtain ⟨a, rfl, b, hb, hc, hl⟩ := hx.ptr_inv
  split at h
  ·rename_i fd hf
   split at h
   ·rename_i z hz'
    obtain rfl := Option.some.inj h
    refine ⟨.pointer (some (a.add fd.offset)), ?_, .ptr _ _ _ _ ⟨b, hb, hc, fun hlow => ?_⟩⟩
    ·simp [Instr.fieldAt, run_underlying hu, hf, Instr.sureAddr, fieldPlace, run_sizeOf hz']
    ·rw [hl hlow, Addr.add_lit, Nat.add_assoc]
   ·cases h
  ·cases h
 ·cases h
theorem partA_ok {P : Program} {S : St} {t : TypeId} {cs cs' : Array Value} {off : Nat} {v : Value} (hv : VRL S cs.toList cs'.toList) (h : partA P t cs.toList off = some v) : Reads P S (part t cs' off) v := by
 unfold partA at h
 split at h
 ·rename_i n hag hsz
  rw [takeN_eq, dropN_eq] at h
  split at h
  ·rename_i l hl
   split at hl
   ·rename_i hn
    obtain rfl := Option.some.inj hl
    obtain rfl := Option.some.inj h
    refine ⟨.agg (cs'.extract off (off + n)), by simp [part, run_isAgg hag, run_sizeOf hsz], ?_⟩
    have hlen := hv.1
    refine .agg _ _ (by simp; simp at hlen; omega) (fun i hi => ?_)
    simp only [List.length_take, List.length_drop] at hi
    have hi' : i < n := by simp at hi; omega
    have := hv.2 (off + i) (by simp at hn ⊢; omega)
    simp only [List.getD_eq_getElem?_getD, Array.getElem?_toList] at this ⊢
    simp only [List.getElem?_take, hi', if_true, List.getElem?_drop, Array.getElem?_toList, Array.getElem?_extract]
    rw [if_pos (by simp at hn hlen; omega)]
    exact this
   ·cases hl
  ·cases h
 ·rename_i hag
  rw [dropN_eq] at h
  split at h
  ·rename_i v0 r hd
   obtain rfl := Option.some.inj h
   have hoff : off < cs.toList.length := by
    rcases Nat.lt_or_ge off cs.toList.length with h' | h'
    ·exact h'
    ·rw [List.drop_eq_nil_of_le h'] at hd; cases hd
   have h0 : cs.toList.getD off undef = v0 := by
    have := congrArg (fun l => l.getD 0 undef) hd
    simpa [List.getD_eq_getElem?_getD, List.getElem?_drop] using this
   have hoff' : off < cs'.size := by have := hv.1; simp at this hoff; omega
   have := hv.2 off hoff
   rw [h0] at this
   refine ⟨cs'.toList.getD off undef, ?_, this⟩
   simp [part, run_isAgg hag, List.getD_eq_getElem?_getD, hoff']
  ·cases h
 ·cases h
theorem fieldA_ok {P : Program} {S : St} {t : TypeId} {x x' v : Value} {f : Nat} (hx : VR S x x') (h : fieldA P t x f = some v) : Reads P S (Instr.field t x' f) v := by
 unfold fieldA at h
 split at h
 ·rename_i fs cs hu
  obtain ⟨cs', rfl, hcs⟩ := hx.agg_inv
  split at h
  ·rename_i fd hf
   obtain ⟨v', h1, h2⟩ := partA_ok (P := P) hcs h
   exact ⟨v', by simp [Instr.field, run_underlying hu, hf, asAgg, h1], h2⟩
  ·cases h
 ·cases h
theorem indexA_ok {P : Program} {S : St} {t : TypeId} {x ix x' ix' v : Value} (hx : VR S x x') (hi : VR S ix ix') (h : indexA P t x ix = some v) : Reads P S (Instr.index t x' ix') v := by
 unfold indexA at h
 split at h
 ·rename_i bs k n hu
  cases hi; cases hx
  split at h
  ·rename_i c r hd
   obtain rfl := Option.some.inj h
   have hn : n < bs.data.toList.length := by
    rcases Nat.lt_or_ge n bs.data.toList.length with h' | h'
    ·exact h'
    ·rw [List.drop_eq_nil_of_le h'] at hd; cases hd
   have h0 : bs[n]? = some c := by
    have := congrArg (fun l => l[0]?) hd
    simp only [List.getElem?_drop, Nat.add_zero, List.getElem?_cons_zero] at this
    have hlt : n < bs.size := by rw [size_data]; exact hn
    rw [getElem?_pos bs n hlt]
    rw [List.getElem?_eq_getElem hn] at this
    rw [← Option.some.inj this, Array.getElem_toList]
    rfl
   refine ⟨_, ?_, .int _ _⟩
   simp [Instr.index, run_underlying hu, asIntOf, h0]
  ·cases h
 ·rename_i len e cs k n hu
  cases hi
  obtain ⟨cs', rfl, hcs⟩ := hx.agg_inv
  split at h
  ·rename_i z hz'
   split at h
   ·rename_i hlt
    have hlt' : n < len := by simpa [Nat.blt_eq] using hlt
    obtain ⟨v', h1, h2⟩ := partA_ok (P := P) hcs h
    refine ⟨v', ?_, h2⟩
    simp [Instr.index, run_underlying hu, asIntOf, run_sizeOf hz', h1]
    omega
   ·cases h
  ·cases h
 ·cases h
theorem extractA_ok {P : Program} {S : St} {x x' v : Value} {i : Nat} (hx : VR S x x') (h : extractA x i = some v) : Reads P S (Instr.extract x' i) v := by
 unfold extractA at h
 split at h
 ·rename_i vs
  obtain ⟨vs', rfl, hvs⟩ := hx.tuple_inv
  have hi : i < vs.size := by
   rcases Nat.lt_or_ge i vs.size with h' | h'
   ·exact h'
   ·rw [Array.getElem?_eq_none h'] at h; cases h
  have hi' : i < vs'.size := by have := hvs.1; simp at this; omega
  have := hvs.2 i (by simpa using hi)
  simp only [List.getD_eq_getElem?_getD, Array.getElem?_toList, h] at this
  refine ⟨vs'[i], by simp [Instr.extract, hi'], by simpa [hi'] using this⟩
 ·cases h
end Go.Cl
namespace Go.Cl
open Go.RowKit
def OV (S : St) (o o' : Option Value) : Prop := (o = none ∧ o' = none) ∨ ∃ v v', o = some v ∧ o' = some v' ∧ VR S v v'
theorem natOf_ok {S : St} {o o' : Option Value} {d n : Nat} (hv : OV S o o') (h : natOf o d = some n) : (o = none ∧ o' = none ∧ n = d) ∨ ∃ k, o = some (.int k n) ∧ o' = some (.int k n) := by
 unfold natOf at h
 split at h
 ·rcases hv with ⟨_, h2⟩ | ⟨v, v', h1, _, _⟩
  ·exact .inl ⟨rfl, h2, (Option.some.inj h).symm⟩
  ·cases h1
 ·rename_i k m
  rcases hv with ⟨h1, _⟩ | ⟨v, v', h1, h2, h3⟩
  ·cases h1
  ·obtain rfl := Option.some.inj h1
   cases h3
   obtain rfl := Option.some.inj h
   exact .inr ⟨k, rfl, h2⟩
 ·cases h
theorem run_sliceBound {P : Program} (w : World) (k : IntKind) (n y : Nat) (code : BoundsCode) (h : n ≤ y) : (Instr.sliceBound (.int k n) y code).run P w = .ok n w := by
 simp [Instr.sliceBound, asIntOf]
 omega
theorem run_sliceBounds2 {P : Program} {S : St} (w : World) (isS : Bool) (len cap : Nat) {lo hi lo' hi' : Option Value} {l h : Nat} (hlo : OV S lo lo') (hhi : OV S hi hi') (h1 : natOf lo 0 = some l) (h2 : natOf hi len = some h) (hlh : l ≤ h) (hh : h ≤ cap) :
  (Instr.sliceBounds isS len cap lo' hi' none).run P w = .ok (l, h, cap) w := by
 rcases natOf_ok hlo h1 with ⟨_, rfl, rfl⟩ | ⟨k1, _, rfl⟩ <;> rcases natOf_ok hhi h2 with ⟨_, rfl, rfl⟩ | ⟨k2, _, rfl⟩ <;>
  simp [Instr.sliceBounds, run_sliceBound, hlh, hh]
theorem run_sliceBounds3 {P : Program} {S : St} (w : World) (isS : Bool) (len cap : Nat) {lo hi mx lo' hi' mx' : Option Value} {l h m : Nat} (hlo : OV S lo lo') (hhi : OV S hi hi') (hmx : OV S mx mx') (h1 : natOf lo 0 = some l) (h2 : natOf hi len = some h)
  (h3 : natOf mx 0 = some m) (hmn : mx ≠ none) (hin : hi ≠ none) (hlh : l ≤ h) (hhm : h ≤ m) (hm : m ≤ cap) :
  (Instr.sliceBounds isS len cap lo' hi' mx').run P w = .ok (l, h, m) w := by
 rcases natOf_ok hmx h3 with ⟨e, _, _⟩ | ⟨k3, _, rfl⟩
 ·exact absurd e hmn
 ·rcases natOf_ok hhi h2 with ⟨e, _, _⟩ | ⟨k2, _, rfl⟩
  ·exact absurd e hin
  ·rcases natOf_ok hlo h1 with ⟨_, rfl, rfl⟩ | ⟨k1, _, rfl⟩ <;> simp [Instr.sliceBounds, run_sliceBound, hlh, hhm, hm]
theorem eszIs_ok {s : ASt} {i c z : Nat} (h : eszIs s i c z = true) : c = 0 ∨ ∃ b, s.blk? i = some b ∧ b.esz = z := by
 unfold eszIs at h
 split at h
 ·exact .inl rfl
 ·split at h
  ·rename_i b hb; exact .inr ⟨b, hb, by simpa [Nat.beq_eq] using h⟩
  ·cases h
theorem VR.sub {S : St} {i off len c : Nat} {a : Addr} {cap : Nat} (hv : VR S (.slice (some ⟨i, off, none⟩) len c) (.slice (some a) len cap)) {l h m z : Nat} (hlh : l ≤ h) (hhm : h ≤ m) (hm : m ≤ cap) (hz : eszIs S.s i c z = true) (c' : Nat) (hc' : c' = c ∨ (c' = 0 ∧ m = l)) :
  VR S (.slice (some ⟨i, off + l * z, none⟩) (h - l) c') (.slice (some (if m = l then a else a.add (l * z))) (h - l) (m - l)) := by
 cases hv with
 | slice _ _ _ _ _ _ h0 hz0 hr =>
 refine .slice _ _ _ _ _ _ (by omega) (fun e => ?_) (fun hpos => ?_)
 ·rcases hc' with rfl | ⟨_, h2⟩
  ·have := hz0 e; omega
  ·omega
 ·have hne : ¬ m = l := by omega
  obtain rfl : c' = c := by rcases hc' with h' | ⟨_, h'⟩ <;> omega
  rw [if_neg hne]
  obtain ⟨⟨b, hb, hcb, hl⟩, hcap⟩ := hr (by omega)
  refine ⟨⟨b, hb, hcb, fun hlow => by rw [hl hlow, Addr.add_lit, Nat.add_assoc]⟩, fun b' hb' hlow => ?_⟩
  rw [hb] at hb'; obtain rfl := Option.some.inj hb'
  obtain ⟨arr, E, fr, h1, h2⟩ := hcap b hb hlow
  have hzz : b.esz = z := by
   rcases eszIs_ok hz with rfl | ⟨b2, hb2, h3⟩
   ·have := hz0 rfl; omega
   ·rw [hb] at hb2; obtain rfl := Option.some.inj hb2; exact h3
  have ha := hl hlow
  rw [ha] at h1 h2 ⊢
  rw [Addr.add_lit]
  refine ⟨arr, E, fr, h1, ?_⟩
  simp only at h2 ⊢
  rw [hzz] at h2 ⊢
  have : l * z + (m - l) * z ≤ cap * z := by rw [← Nat.add_mul]; exact Nat.mul_le_mul_right _ (by omega)
  omega
theorem sliceA_ok {P : Program} {base : Nat} {S : St} (hs : SR base S) {t : TypeId} {x x' v : Value} {lo hi mx lo' hi' mx' : Option Value} (hx : VR S x x') (hlo : OV S lo lo') (hhi : OV S hi hi') (hmx : OV S mx mx') (h : sliceA P S.s t x lo hi mx = some v) :
  Reads P S (Instr.sliceAt t x' lo' hi' mx') v := by
 unfold sliceA at h
 split at h
 ·rename_i b hu
  cases hx
  split at h
  ·rename_i l hh h1 h2
   rcases hmx with ⟨_, rfl⟩ | ⟨_, _, e, _, _⟩
   case inr => cases e
   split at h
   ·rename_i hc
    simp only [Bool.and_eq_true, Nat.ble_eq] at hc
    obtain rfl := Option.some.inj h
    have hsz := size_data b
    have hb := run_sliceBounds2 (P := P) S.w false b.size b.size hlo hhi h1 (by rw [hsz]; exact h2) hc.1 (by rw [hsz]; exact hc.2)
    refine ⟨_, ?_, .string _⟩
    simp only [Instr.sliceAt, Instr.slice, Sem.run_bind, run_underlying hu, Result.andThen_ok, hb, Option.isSome_none, Bool.false_eq_true, if_false, Sem.run_pure]
    congr 2
    apply ba_ext
    rw [ByteArray.data_extract, Array.toList_extract]
    simp only [List.extract, List.drop_take]
   ·cases h
  ·cases h
 ·rename_i e a len c hu
  split at h
  ·rename_i l hh z h1 h2 hz
   split at h
   ·rename_i hc
    simp only [Bool.and_eq_true, Nat.ble_eq] at hc
    split at h
    ·
     rcases hmx with ⟨_, rfl⟩ | ⟨_, _, e, _, _⟩
     case inr => cases e
     split at h
     ·obtain rfl := Option.some.inj h
      cases hx
      have hb := run_sliceBounds2 (P := P) S.w true 0 0 hlo hhi h1 h2 hc.1 hc.2
      obtain rfl : hh = 0 := by omega
      obtain rfl : l = 0 := by omega
      refine ⟨_, ?_, .sliceNil⟩
      simp [Instr.sliceAt, Instr.slice, run_underlying hu, hb, run_sizeOf hz]
     ·rename_i i off
      split at h
      ·rename_i hes
       obtain rfl := Option.some.inj h
       have hx0 := hx
       cases hx with
       | slice _ _ _ _ a1 cap h0 hz0 hr =>
       have hb := run_sliceBounds2 (P := P) S.w true len cap hlo hhi h1 h2 hc.1 (by omega)
       refine ⟨_, ?_, hx0.sub hc.1 (by omega : hh ≤ cap) (Nat.le_refl _) hes c (.inl rfl)⟩
       simp [Instr.sliceAt, Instr.slice, run_underlying hu, hb, run_sizeOf hz]
       split <;> rfl
      ·cases h
     ·cases h
    ·rename_i m
     split at h
     ·rename_i m' hv hm
      split at h
      ·rename_i hc2
       simp only [Bool.and_eq_true, Nat.ble_eq] at hc2
       split at h
       ·obtain rfl := Option.some.inj h
        cases hx
        have hb := run_sliceBounds3 (P := P) S.w true 0 0 hlo hhi hmx h1 h2 hm (by simp) (by simp) hc.1 hc2.1 hc2.2
        obtain rfl : hh = 0 := by omega
        obtain rfl : l = 0 := by omega
        obtain rfl : m' = 0 := by omega
        refine ⟨_, ?_, .sliceNil⟩
        simp [Instr.sliceAt, Instr.slice, run_underlying hu, hb, run_sizeOf hz]
       ·rename_i i off
        split at h
        ·rename_i hes
         obtain rfl := Option.some.inj h
         have hx0 := hx
         cases hx with
         | slice _ _ _ _ a1 cap h0 hz0 hr =>
         have hb := run_sliceBounds3 (P := P) S.w true len cap hlo hhi hmx h1 h2 hm (by simp) (by simp) hc.1 hc2.1 (by omega)
         refine ⟨_, ?_, hx0.sub hc.1 hc2.1 (by omega) hes _ ?_⟩
         ·simp [Instr.sliceAt, Instr.slice, run_underlying hu, hb, run_sizeOf hz]
          split <;> rfl
         ·by_cases hlm : l = m'
          ·rw [if_pos (by simp [hlm])]; exact .inr ⟨rfl, hlm.symm⟩
          ·rw [if_neg (by simp [hlm])]; exact .inl rfl
        ·cases h
       ·cases h
      ·cases h
     ·cases h
   ·cases h
  ·cases h
 ·rename_i n e i off c hu
  split at h
  ·rename_i l hh z b h1 h2 hz hb
   rcases hmx with ⟨_, rfl⟩ | ⟨_, _, e, _, _⟩
   case inr => cases e
   split at h
   ·rename_i hc
    simp only [Bool.and_eq_true, Nat.ble_eq, Nat.blt_eq, Nat.beq_eq] at hc
    obtain ⟨⟨⟨⟨⟨⟨hc1, hc2⟩, hlow⟩, hle⟩, hlt⟩, hesz⟩, hz0⟩ := hc
    obtain rfl := Option.some.inj h
    obtain ⟨a1, rfl, hr⟩ := hx.ptr_inv
    have hlive : Live b c := ⟨hlow, hle⟩
    obtain rfl := hr.addr hb hlive
    have hbd := run_sliceBounds2 (P := P) S.w false n n hlo hhi h1 h2 hc1 hc2
    refine ⟨.slice (some (if n = l then ⟨(S.e.loc i c).1, (S.e.loc i c).2 + off, none⟩ else (⟨(S.e.loc i c).1, (S.e.loc i c).2 + off, none⟩ : Addr).add (l * z))) (hh - l) (n - l), ?_, ?_⟩
    ·simp [Instr.sliceAt, run_underlying hu, Instr.sureAddr, hbd, run_sizeOf hz]
    ·refine .slice _ _ _ _ _ _ (by omega) (fun e => by omega) (fun hpos => ?_)
     have hnl : ¬ n = l := by omega
     rw [if_neg hnl, Addr.add_lit]
     refine ⟨⟨b, hb, hle, fun _ => by rw [Nat.add_assoc]⟩, fun b2 hb2 _ => ?_⟩
     rw [hb] at hb2; obtain rfl := Option.some.inj hb2
     have hnz : 0 < n * z := Nat.mul_pos (by omega) hz0
     obtain ⟨v, hv, _⟩ := hs.cell i b hb c hlive (off + n * z - 1) (by omega)
     obtain ⟨arr, E, fr, hk, ha⟩ := block_of_cell hv
     have hlt2 := (Array.getElem?_eq_some_iff.1 ha).1
     refine ⟨arr, E, fr, hk, ?_⟩
     simp only
     rw [hesz]
     have : l * z + (n - l) * z = n * z := by rw [← Nat.add_mul]; congr 1; omega
     omega
   ·cases h
  ·cases h
 ·cases h
end Go.Cl
namespace Go.Cl
open Go.RowKit
def Does (P : Program) (base : Nat) (S : St) (m : Sem Value) (v : Value) (s' : ASt) : Prop :=
 ∃ T v', T.s = s' ∧ m.run P S.w = .ok v' T.w ∧ VR T v v' ∧ Good base S T
theorem Reads.does {P : Program} {base : Nat} {S : St} {m : Sem Value} {v : Value} (h : SR base S) (hr : Reads P S m v) : Does P base S m v S.s := by
 obtain ⟨v', h1, h2⟩ := hr
 exact ⟨S, v', rfl, h1, h2, Good.refl h⟩
def DoesAt (P : Program) (base : Nat) (S : St) (m : Sem Value) (v : Value) (s0 s' : ASt) (next : Nat) : Prop :=
 ∃ b, s' = s0.new (.blk b) ∧ ∃ T v', T.s = ⟨Tr.set (depth s0.next) S.s.heap s0.next (.blk b), next⟩ ∧ m.run P S.w = .ok v' T.w ∧ VR T v v' ∧ Good base S T
theorem DoesAt.does {P : Program} {base : Nat} {S : St} {m : Sem Value} {v : Value} {s' : ASt} (h : DoesAt P base S m v S.s s' (S.s.next + 1)) : Does P base S m v s' := by
 obtain ⟨b, rfl, T, v', h1, h2, h3, h4⟩ := h
 exact ⟨T, v', h1, h2, h3, h4⟩
theorem newSlice_at {base : Nat} {S : St} (h : SR base S) {s0 : ASt} {next : Nat} (hsp : Spot S s0.next next) {cs : List Value} {len esz : Nat} {v : Value} {s' : ASt} (hn : newSlice s0 cs len esz = some (v, s')) (arr : Array Value) (E : TypeId) (fr : Nat × Nat) (W : World) (cap : Nat)
  (hW : Pushed S.w W (.cells arr E fr)) (hfr : fr.1 = fr.2 ∨ arr.size ≤ fr.1 ∧ esz = 1) (hle : cs.length ≤ arr.size) (hv : ∀ p, p < cs.length -> VR S (cs.getD p undef) (arr.toList.getD p undef)) (hcap : len ≤ cap) (hc2 : cap * esz ≤ arr.size) :
  ∃ b, s' = s0.new (.blk b) ∧ ∃ T, T.s = ⟨Tr.set (depth s0.next) S.s.heap s0.next (.blk b), next⟩ ∧ T.w = W ∧ VR T v (.slice (some ⟨S.w.heap.size, 0, none⟩) len cap) ∧ Good base S T := by
 unfold newSlice at hn
 split at hn
 ·injection hn with hn; injection hn with e1 e2
  subst e1; subst e2
  exact ⟨⟨cs, 1, true, esz⟩, rfl, S.pushed s0.next next ⟨cs, 1, true, esz⟩ W, rfl, rfl, .slice _ _ _ _ _ _ hcap (fun e => by omega) (fun _ => ⟨St.pushed_ref hsp _ W 0 _ (Nat.le_refl _), St.pushed_cap hsp _ W 0 _ cap arr E fr hW (by simpa using hc2)⟩),
   Good.newBlk h hsp cs esz arr E fr W hW hfr hle hv⟩
 ·cases hn
theorem newSlice_ok {base : Nat} {S : St} (h : SR base S) {cs : List Value} {len esz : Nat} {v : Value} {s' : ASt} (hn : newSlice S.s cs len esz = some (v, s')) (arr : Array Value) (E : TypeId) (fr : Nat × Nat) (W : World) (cap : Nat)
  (hW : Pushed S.w W (.cells arr E fr)) (hfr : fr.1 = fr.2 ∨ arr.size ≤ fr.1 ∧ esz = 1) (hle : cs.length ≤ arr.size) (hv : ∀ p, p < cs.length -> VR S (cs.getD p undef) (arr.toList.getD p undef)) (hcap : len ≤ cap) (hc2 : cap * esz ≤ arr.size) :
  ∃ T, T.s = s' ∧ T.w = W ∧ VR T v (.slice (some ⟨S.w.heap.size, 0, none⟩) len cap) ∧ Good base S T := by
 have hroom : S.s.room = true := by
  unfold newSlice at hn
  split at hn
  ·assumption
  ·cases hn
 obtain ⟨b, rfl, T, h1, h2, h3, h4⟩ := newSlice_at h (Spot.self h hroom) hn arr E fr W cap hW hfr hle hv hcap hc2
 exact ⟨T, h1, h2, h3, h4⟩
theorem newPtr_at {base : Nat} {S : St} (h : SR base S) {s0 : ASt} {next : Nat} (hsp : Spot S s0.next next) {cs : List Value} {esz : Nat} {v : Value} {s' : ASt} (hn : newPtr s0 cs esz = some (v, s')) (arr : Array Value) (E : TypeId)
  (hv : VRL S cs arr.toList) : ∃ b, s' = s0.new (.blk b) ∧ ∃ T, T.s = ⟨Tr.set (depth s0.next) S.s.heap s0.next (.blk b), next⟩ ∧ T.w = S.w.alloc (.cells arr E) ∧ VR T v (.pointer (some ⟨S.w.heap.size, 0, none⟩)) ∧ Good base S T := by
 unfold newPtr at hn
 split at hn
 ·injection hn with hn; injection hn with e1 e2
  subst e1; subst e2
  have hl := hv.1
  exact ⟨⟨cs, 1, true, esz⟩, rfl, S.pushed s0.next next ⟨cs, 1, true, esz⟩ _, rfl, rfl, .ptr _ _ _ _ (St.pushed_ref hsp _ _ 0 _ (Nat.le_refl _)),
   Good.newBlk h hsp cs esz arr E (0, 0) _ ⟨rfl, rfl, rfl, rfl⟩ (.inl rfl) (by simp at hl; omega) hv.2⟩
 ·cases hn
theorem run_newVar {P : Program} (w : World) (t : TypeId) (v : Value) : (newVar t v).run P w = .ok ⟨w.heap.size, 0, none⟩ (w.alloc (.cells v.cells t)) := by simp [newVar, newRow]
theorem alloc_at {P : Program} {base : Nat} {S : St} (h : SR base S) {s0 : ASt} {next : Nat} (hsp : Spot S s0.next next) {e : TypeId} {z v : Value} {esz : Nat} {s' : ASt} (hz : zeroB P e = some z) (hp : plainV z = true) (hn : newPtr s0 z.cells.toList esz = some (v, s')) :
  DoesAt P base S (Instr.alloc e true (.tuple #[])) v s0 s' next := by
 obtain ⟨b, h0, T, h1, h2, h3, h4⟩ := newPtr_at h hsp hn z.cells e (plainV_ok hp).cells
 exact ⟨b, h0, T, _, h1, by rw [h2]; simp [Instr.alloc, run_zeroValue hz, run_newVar], h3, h4⟩
theorem box_at {P : Program} {base : Nat} {S : St} (h : SR base S) {s0 : ASt} {next : Nat} (hsp : Spot S s0.next next) {e : TypeId} {x x' v : Value} {esz : Nat} {s' : ASt} (hx : VR S x x') (hn : newPtr s0 x.cells.toList esz = some (v, s')) : DoesAt P base S (Instr.box e x') v s0 s' next := by
 obtain ⟨b, h0, T, h1, h2, h3, h4⟩ := newPtr_at h hsp hn x'.cells e hx.cells
 exact ⟨b, h0, T, _, h1, by rw [h2]; simp [Instr.box, run_newVar], h3, h4⟩
theorem Good.freeze {base : Nat} {S : St} (h : SR base S) {i c : Nat} {b : Blk} (hb : S.s.blk? i = some b) (ho : b.own = true) (hc : Live b c) (hz1 : b.esz = 1) {arr : Array Value} {E : TypeId} {fr : Nat × Nat}
  (ha : S.w.heap[(S.e.loc i c).1]? = some (.cells arr E fr)) :
  Good base S ⟨S.s.put i (.blk b), S.e, S.w.freeze ⟨(S.e.loc i c).1, arr.size, none⟩ 1⟩ := by
 obtain ⟨ho1, ⟨arr0, E0, fr0, ho2, ho3⟩, ho4, ho5⟩ := h.own i b hb ho c hc
 rw [ha] at ho2
 injection ho2 with ho2; injection ho2 with e1 e2 e3
 subst e1; subst e2; subst e3
 have hne : ∀ k, k ≠ (S.e.loc i c).1 -> (S.w.freeze ⟨(S.e.loc i c).1, arr.size, none⟩ 1).heap[k]? = S.w.heap[k]? := fun k hk => by
  unfold World.freeze
  rw [if_neg (by decide)]
  simp only [Array.getElem?_modify]
  rw [if_neg (by omega)]
 have hself : ∃ fr' : Nat × Nat, (S.w.freeze ⟨(S.e.loc i c).1, arr.size, none⟩ 1).heap[(S.e.loc i c).1]? = some (.cells arr E fr') ∧ (fr'.1 = fr'.2 ∨ arr.size ≤ fr'.1 ∧ b.esz = 1) := by
  unfold World.freeze
  rw [if_neg (by decide)]
  simp only [Array.getElem?_modify, if_true, ha, Option.map_some]
  refine ⟨_, rfl, ?_⟩
  by_cases hfr : fr.1 = fr.2
  ·rw [if_pos (by simp [hfr])]; exact .inr ⟨Nat.le_refl _, hz1⟩
  ·rw [if_neg (by simp [hfr])]
   refine .inr ⟨?_, hz1⟩
   have : arr.size ≤ fr.1 := (ho3.resolve_left hfr).1
   show arr.size ≤ min fr.1 arr.size
   omega
 obtain ⟨fr', hs1, hs2⟩ := hself
 have hsz : (S.w.freeze ⟨(S.e.loc i c).1, arr.size, none⟩ 1).heap.size = S.w.heap.size := by
  unfold World.freeze
  rw [if_neg (by decide)]
  simp
 have hcell : ∀ k o, (S.w.freeze ⟨(S.e.loc i c).1, arr.size, none⟩ 1).cell? ⟨k, o, none⟩ = S.w.cell? ⟨k, o, none⟩ := fun k o => by
  by_cases hk : k = (S.e.loc i c).1
  ·subst hk; rw [cell_of_block _ _ _ _ _ _ hs1, cell_of_block _ _ _ _ _ _ ha]
  ·exact World.cell?_of_block (hne k hk)
 have hbelow : Below base S.w (S.w.freeze ⟨(S.e.loc i c).1, arr.size, none⟩ 1) := by
  refine ⟨?_, ?_, ?_, by rw [hsz]; exact Nat.le_refl _, fun k hk => hne k (by omega)⟩ <;> (unfold World.freeze; rw [if_neg (by decide)])
 refine SR.change h i (S.e.loc i c).1 S.s.next b S.e.loc _ (h.lt hb) (Nat.le_refl _) h.room (.inl (h.lt hb)) (fun es he => blk_not_map hb he) (h.low i b hb) ?_ (fun _ _ => rfl)
  (fun k hk _ => hne k hk) (fun j bj c' hj hbj hc' e => hj (ho4 j bj hbj c' hc' e)) ?_ (fun c' hc' => by rw [hsz]; exact h.inb i b hb c' hc') ?_ ?_ ?_ ?_ hbelow (by rw [hsz]; exact Nat.le_refl _)
 ·intro b0 hb0
  rw [hb] at hb0; obtain rfl := Option.some.inj hb0
  exact ⟨Nat.le_refl _, Nat.le_refl _, rfl, fun _ _ _ => rfl⟩
 ·intro r es he e
  obtain ⟨_, es', clk, h2, _⟩ := h.map r es he
  rw [e, ha] at h2; cases h2
 ·intro c' hc' p hp
  rw [hcell]
  exact h.cell i b hb c' hc' p hp
 ·intro _ c' hc'
  obtain ⟨h1, ⟨arr1, E1, fr1, h2, h3⟩, h4, h5⟩ := h.own i b hb ho c' hc'
  refine ⟨h1, ?_, fun j bj hj hbj c1 hc1 e => hj (h4 j bj hbj c1 hc1 e), h5⟩
  by_cases hk : (S.e.loc i c').1 = (S.e.loc i c).1
  ·rw [hk, ha] at h2
   injection h2 with h2; injection h2 with e1 e2 e3
   subst e1
   exact ⟨arr, E, fr', by rw [hk]; exact hs1, hs2⟩
  ·exact ⟨arr1, E1, fr1, by rw [hne _ hk]; exact h2, h3⟩
 ·intro j bj hj hbj hbo c1 hc1 c' hc' e
  exact hj ((h.own i b hb ho c' hc').2.2.1 j bj hbj c1 hc1 e.symm)
 ·intro arr0 E0 fr0 hk
  rw [ha] at hk
  injection hk with hk; injection hk with e1 e2 e3
  subst e1; subst e2
  exact ⟨arr, fr', hs1, rfl⟩
theorem toBytes_ok {S : St} : ∀ {l l' : List Value} {bs : List UInt8}, VRL S l l' -> toBytes l = some bs -> ∃ ns : List Int, l' = ns.map (Value.int .u8) ∧ bs = ns.map (fun n => UInt8.ofNat n.toNat) := by
 intro l
 induction l with
 | nil => intro l' bs hv h; simp only [toBytes] at h; obtain rfl := Option.some.inj h; exact ⟨[], hv.nil_inv, rfl⟩
 | cons v l ih =>
  intro l' bs hv h
  obtain ⟨v', r', rfl, h1, h2⟩ := hv.cons_inv
  simp only [toBytes] at h
  split at h
  ·rename_i b hb
   split at h
   ·rename_i m hm
    obtain rfl := Option.some.inj h
    obtain ⟨ns, h3, h4⟩ := ih h2 hm
    unfold toByte at hb
    split at hb
    ·rename_i n
     cases h1
     obtain rfl := Option.some.inj hb
     exact ⟨n :: ns, by simp [h3], by simp [h4]⟩
    ·cases hb
   ·cases h
  ·cases h
theorem ofBytes_plain {S : St} (l : List UInt8) : VRL S (ofBytes l) (ofBytes l) := by
 induction l with
 | nil => exact VRL.nil
 | cons b l ih => exact VRL.cons (.int _ _) ih
def isSliceD : Option TypeDesc -> Bool
 | some (.slice _) => true
 | _ => false
theorem convA_look {P : Program} {base : Nat} {S : St} (h : SR base S) {src dst : TypeId} {x x' v : Value} {s' : ASt} (hx : VR S x x') (hc : convA P S.s src dst x = some (v, s')) (hq : isSliceD (P.underlying dst) = false) :
  s' = S.s ∧ Reads P S (convert src dst x') v := by
 unfold convA at hc
 split at hc
 ·rename_i d1 k k2 n hs hd
  injection hc with hc; injection hc with e1 e2; subst e1; subst e2
  cases hx
  exact ⟨rfl, _, by simp [convert, run_underlying hs, run_underlying hd, Conv.intToInt], .int _ _⟩
 ·rename_i d1 b hs hd
  injection hc with hc; injection hc with e1 e2; subst e1; subst e2
  cases hx
  exact ⟨rfl, _, by simp [convert, run_underlying hs, run_underlying hd], .string _⟩
 ·rename_i e b hs hd; rw [hd] at hq; cases hq
 ·rename_i e1 e2 i off len c hs hd; rw [hd] at hq; cases hq
 ·rename_i e n c hs hd
  split at hc
  ·rename_i hu
   injection hc with hc; injection hc with e1 e2; subst e1; subst e2
   cases hx
   refine ⟨rfl, _, ?_, .string _⟩
   rw [run_convert_bytes_string _ _ _ _ _ _ _ hs (isU8_ok hu) hd]
   simp [Conv.bytesToString]
   rfl
  ·cases hc
 ·rename_i e i off len c hs hd
  split at hc
  ·rename_i hu
   cases hx with
   | slice _ _ _ _ a cap h0 hz hr =>
   split at hc
   ·injection hc with hc; injection hc with e1 e2; subst e1; subst e2
    refine ⟨rfl, _, ?_, .string _⟩
    rw [run_convert_bytes_string _ _ _ _ _ _ _ hs (isU8_ok hu) hd, run_bytesToString S.w a 0 cap [] (by simp [loadCells, loadCellsFrom])]
    rfl
   ·rename_i m
    split at hc
    ·rename_i l hl
     split at hc
     ·rename_i bs hbs
      injection hc with hc; injection hc with e1 e2; subst e1; subst e2
      obtain ⟨b, hb, hlive, _, _, hln, hvl, hcell⟩ := h.cells hl
      obtain ⟨⟨b', hb', _, hadr⟩, _⟩ := hr (by omega)
      rw [hb] at hb'; obtain rfl := Option.some.inj hb'
      obtain rfl := hadr hlive.1
      obtain ⟨ns, h1, h2⟩ := toBytes_ok hvl hbs
      refine ⟨rfl, _, ?_, .string _⟩
      have hld := run_loadCells P S.w _ _ _ hcell
      rw [h1] at hld
      rw [run_convert_bytes_string _ _ _ _ _ _ _ hs (isU8_ok hu) hd, run_bytesToString S.w _ _ cap ns hld, foldl_push_bytes, h2]
      congr 2
      apply ba_ext
      rw [Array.toList_append]
      rfl
     ·cases hc
    ·cases hc
  ·cases hc
 ·cases hc
theorem textConv_at {P : Program} {base : Nat} {S : St} (h : SR base S) {s0 : ASt} {next : Nat} (hsp : Spot S s0.next next) {src dst : TypeId} {x x' v : Value} {s' : ASt} (hx : VR S x x') (hc : convA P s0 src dst x = some (v, s')) (hq : textConv P src dst = true) :
  DoesAt P base S (convert src dst x') v s0 s' next := by
 unfold textConv at hq
 split at hq
 case h_2 => cases hq
 rename_i e0 hsq hdq
 unfold convA at hc
 split at hc
 ·rename_i hs hd; rw [hdq] at hd; cases hd
 ·rename_i hs hd; rw [hdq] at hd; cases hd
 ·rename_i e b hs hd
  split at hc
  ·rename_i hu
   simp only [Bool.and_eq_true, Nat.ble_eq] at hu
   cases hx
   have hrun := run_bytes_of_string (P := P) S.w src dst e b hs hd (isU8_ok hu.1)
   have hge := grownCap_ge S.w b.size 0 e
   have hsz : (bytesRow b (grownCap S.w b.size 0 e)).size = grownCap S.w b.size 0 e := by
    simp only [bytesRow, Array.size_append, Array.size_map, Array.size_replicate]
    have : b.data.size = b.size := rfl
    omega
   have hlen : (ofBytes b.data.toList).length = b.size := by simp only [ofBytes, List.length_map]; exact (size_data b).symm
   obtain ⟨bk, h0, T, h1, h2, h3, h4⟩ := newSlice_at h hsp hc (bytesRow b (grownCap S.w b.size 0 e)) e ((bytesRow b (grownCap S.w b.size 0 e)).size, (bytesRow b (grownCap S.w b.size 0 e)).size + 1)
    (S.w.drew.alloc (.cells (bytesRow b (grownCap S.w b.size 0 e)) e ((bytesRow b (grownCap S.w b.size 0 e)).size, (bytesRow b (grownCap S.w b.size 0 e)).size + 1))) (grownCap S.w b.size 0 e) ⟨rfl, rfl, rfl, rfl⟩ (.inr ⟨Nat.le_refl _, rfl⟩) (by omega) (fun p hp => by
     have hr : (bytesRow b (grownCap S.w b.size 0 e)).toList.getD p undef = (ofBytes b.data.toList).getD p undef := by
      simp only [bytesRow, Array.toList_append, Array.toList_map]
      rw [getD_append_lt _ _ _ (by rw [List.length_map]; rw [hlen, size_data] at hp; exact hp)]
      rfl
     rw [hr]
     exact (ofBytes_plain (S := S) b.data.toList).2 p hp) (by rw [← size_data]; exact hge) (by omega)
   rw [← size_data] at h3
   exact ⟨bk, h0, T, _, h1, by rw [h2]; exact hrun, h3, h4⟩
  ·cases hc
 ·rename_i hs hd; rw [hsq] at hs; cases hs
 ·rename_i hs hd; rw [hdq] at hd; cases hd
 ·rename_i hs hd; rw [hdq] at hd; cases hd
 ·cases hc
theorem convA_mark {P : Program} {base : Nat} {S : St} (h : SR base S) {src dst : TypeId} {x x' v : Value} {s' : ASt} (hx : VR S x x') (hc : convA P S.s src dst x = some (v, s')) (hq : isSliceD (P.underlying dst) = true) (hnt : textConv P src dst = false) :
  Does P base S (convert src dst x') v s' := by
 unfold convA at hc
 split at hc
 ·rename_i d1 k k2 n hs hd; rw [hd] at hq; cases hq
 ·rename_i d1 b hs hd; rw [hd] at hq; cases hq
 ·rename_i e b hs hd; simp only [textConv, hs, hd] at hnt; cases hnt
 ·rename_i e1 e2 i off len c hs hd
  split at hc
  ·cases hc
  ·rename_i m
   split at hc
   ·rename_i b hb
    split at hc
    ·rename_i hcond
     simp only [Bool.and_eq_true, Nat.ble_eq, Nat.beq_eq] at hcond
     obtain ⟨⟨⟨⟨⟨hsd, hu⟩, ho⟩, hlow⟩, hle⟩, hz1⟩ := hcond
     injection hc with hc; injection hc with e3 e4; subst e3; subst e4
     have hx0 := hx
     cases hx with
     | slice _ _ _ _ a cap h0 hz hr =>
     have hlive : Live b c := ⟨hlow, hle⟩
     obtain ⟨ho1, ⟨arr, E, fr, ho2, ho3⟩, ho4, ho5⟩ := h.own i b hb ho c hlive
     obtain ⟨⟨b', hb', _, hadr⟩, _⟩ := hr (by omega)
     rw [hb] at hb'; obtain rfl := Option.some.inj hb'
     obtain rfl := hadr hlow
     have hg := Good.freeze h hb ho hlive hz1 ho2
     refine ⟨_, _, rfl, ?_, hx0.mono hg.ext, hg⟩
     have hshape : S.w.shape? (S.e.loc i c).1 = some (E, arr.size) := by simp [World.shape?, ho2]
     subst hsd
     obtain rfl : e1 = e2 := by rw [hs] at hd; injection hd with hd; injection hd
     simp [convert, run_underlying hs, run_underlying (isU8_ok hu), markStringish, hshape]
    ·cases hc
   ·cases hc
 ·rename_i e n c hs hd; rw [hd] at hq; cases hq
 ·rename_i e i off len c hs hd; rw [hd] at hq; cases hq
 ·cases hc
theorem foldl_set : ∀ (vs : List Value) (k off : Nat) (cs : Array Value) (p : Nat), off + k + vs.length ≤ cs.size ->
  ((vs.zipIdx k).foldl (fun (cs : Array Value) (x : Value × Nat) => cs.setIfInBounds (off + x.2) x.1) cs).size = cs.size ∧
  ((vs.zipIdx k).foldl (fun (cs : Array Value) (x : Value × Nat) => cs.setIfInBounds (off + x.2) x.1) cs)[p]? = if off + k ≤ p ∧ p < off + k + vs.length then some (vs.getD (p - (off + k)) undef) else cs[p]? := by
 intro vs
 induction vs with
 | nil => intro k off cs p _; exact ⟨rfl, by rw [if_neg (by simp)]; rfl⟩
 | cons v r ih =>
  intro k off cs p h
  simp only [List.length_cons] at h
  simp only [List.zipIdx_cons, List.foldl_cons]
  obtain ⟨h1, h2⟩ := ih (k + 1) off (cs.setIfInBounds (off + k) v) p (by simp; omega)
  refine ⟨by rw [h1]; simp, ?_⟩
  rw [h2]
  by_cases hp : off + (k + 1) ≤ p ∧ p < off + (k + 1) + r.length
  ·rw [if_pos hp, if_pos (by simp; omega), show p - (off + k) = (p - (off + (k + 1))) + 1 by omega, List.getD_cons_succ]
  ·rw [if_neg hp]
   by_cases hpo : p = off + k
   ·subst hpo
    rw [if_pos (by simp), Array.getElem?_setIfInBounds_self_of_lt (by omega), Nat.sub_self, List.getD_cons_zero]
   ·rw [if_neg (by simp; omega), Array.getElem?_setIfInBounds_ne (by omega)]
def PR (S : St) : List (Nat × Value) -> List (Nat × Value) -> Prop
 | [], [] => True
 | (i, v) :: r, (j, u) :: r' => i = j ∧ VR S v u ∧ PR S r r'
 | _, _ => False
theorem fill_ok {S : St} (place place' : Nat -> Option (Nat × Nat)) (hpl : ∀ i, place i = place' i) : ∀ (parts parts' : List (Nat × Value)) (cs : List Value) (cs' : Array Value) (l : List Value),
  PR S parts parts' -> VRL S cs cs'.toList -> fillA place cs parts = some l -> ∃ l', Instr.fill place' cs' parts' = some l' ∧ VRL S l l'.toList := by
 intro parts
 induction parts with
 | nil =>
  intro parts' cs cs' l hp hc h
  cases parts' with
  | nil => simp only [fillA] at h; obtain rfl := Option.some.inj h; exact ⟨cs', rfl, hc⟩
  | cons _ _ => exact hp.elim
 | cons x r ih =>
  intro parts' cs cs' l hp hc h
  obtain ⟨i, v⟩ := x
  cases parts' with
  | nil => exact hp.elim
  | cons y r' =>
   obtain ⟨j, u⟩ := y
   obtain ⟨rfl, hv, hr⟩ := hp
   simp only [fillA] at h
   split at h
   ·rename_i off size hpi
    split at h
    ·rename_i hsz
     simp only [Bool.and_eq_true, Nat.beq_eq, Nat.ble_eq] at hsz
     obtain ⟨hsz', hfit⟩ := hsz
     split at h
     ·rename_i m hm
      obtain ⟨h1, _, h3⟩ := setAt_spec _ _ _ _ hm
      have hcv := hv.cells
      have hul : u.cells.size = size := by have := hcv.1; simp at this hsz'; omega
      have hcl : cs'.size = cs.length := by have := hc.1; simp at this; omega
      have hcs : m.length = cs.length := h1
      have hf := fun p => foldl_set u.cells.toList 0 off cs' p (by simp; omega)
      have hz2 : u.cells.zipIdx.foldl (fun cs x => cs.setIfInBounds (off + x.2) x.1) cs' = (u.cells.toList.zipIdx 0).foldl (fun cs x => cs.setIfInBounds (off + x.2) x.1) cs' := by
       rw [show u.cells.zipIdx = (u.cells.toList.zipIdx 0).toArray by rw [← Array.toList_inj]; simp, List.foldl_toArray]
      generalize hF : (u.cells.toList.zipIdx 0).foldl (fun cs x => cs.setIfInBounds (off + x.2) x.1) cs' = F at hf hz2
      obtain ⟨l', hl1, hl2⟩ := ih r' m F l hr (by
       have hF1 := (hf 0).1
       have hF2 : F.toList.length = F.size := Array.length_toList
       refine ⟨by omega, fun p hp => ?_⟩
       rw [h3 p]
       have hFp : F.toList.getD p undef = if off + 0 ≤ p ∧ p < off + 0 + u.cells.toList.length then u.cells.toList.getD (p - (off + 0)) undef else cs'.toList.getD p undef := by
        rw [List.getD_eq_getElem?_getD, Array.getElem?_toList, (hf p).2]
        split
        ·rfl
        ·rw [List.getD_eq_getElem?_getD, Array.getElem?_toList]
       rw [hFp]
       by_cases hpp : off ≤ p ∧ p < off + v.cells.toList.length
       ·rw [if_pos hpp, if_pos (by rw [Array.length_toList, hul]; rw [hsz'] at hpp; omega)]
        exact hcv.2 (p - off) (by omega)
       ·rw [if_neg hpp, if_neg (by rw [Array.length_toList, hul]; rw [hsz'] at hpp; omega)]
        exact hc.2 p (by omega)) h
      refine ⟨l', ?_, hl2⟩
      simp only [Instr.fill]
      rw [← hpl i, hpi]
      simp only
      rw [if_neg (by simp; omega), hz2]
      exact hl1
     ·cases h
    ·cases h
   ·cases h
theorem partsA_ok {S : St} {f : AFr} {a : Act} (hf : FR S f a) : ∀ {ps : List (Nat × Operand)} {l : List (Nat × Value)}, partsA f ps = some l -> PR S l (ps.map fun x => (x.1, a.eval x.2)) := by
 intro ps
 induction ps with
 | nil => intro l h; simp only [partsA] at h; obtain rfl := Option.some.inj h; trivial
 | cons x ps ih =>
  intro l h
  obtain ⟨i, x⟩ := x
  simp only [partsA] at h
  split at h
  ·rename_i v r hv hr; obtain rfl := Option.some.inj h; exact ⟨rfl, evalA_ok hf hv, ih hr⟩
  ·cases h
theorem run_mapM {α β : Type} {P : Program} (w : World) (g : α -> Sem β) (g' : α -> β) : ∀ (l : List α), (∀ x ∈ l, (g x).run P w = .ok (g' x) w) -> (l.mapM g).run P w = .ok (l.map g') w := by
 intro l
 induction l with
 | nil => intro _; simp
 | cons x l ih =>
  intro h
  simp [List.mapM_cons, h x (by simp), ih (fun y hy => h y (by simp [hy]))]
theorem buildA_ok {P : Program} {S : St} {t : TypeId} {parts parts' : List (Nat × Value)} {v : Value} (hp : PR S parts parts') (h : buildA P t parts = some v) : Reads P S (Instr.build t parts'.toArray) v := by
 unfold buildA at h
 split at h
 ·rename_i fs z hu hz
  split at h
  ·rename_i hc
   simp only [Bool.and_eq_true, List.all_eq_true] at hc
   split at h
   ·rename_i l hl
    obtain rfl := Option.some.inj h
    let g' : Field -> Nat × Nat := fun f => (f.offset, (sizeB P f.type).getD 0)
    have hplaces : (fs.mapM (fun f => Prod.mk f.offset <$> sizeOf f.type) : Sem (Array (Nat × Nat))).run P S.w = .ok (fs.map g') S.w := by
     rw [Array.mapM_eq_mapM_toList]
     have := run_mapM (P := P) S.w (fun f : Field => (Prod.mk f.offset <$> sizeOf f.type : Sem (Nat × Nat))) g' fs.toList (fun f hf => by
      obtain ⟨n, hn⟩ := Option.isSome_iff_exists.1 (hc.2 f hf)
      simp [run_sizeOf hn, g', hn])
     simp only [Sem.run_map, this, Result.andThen_ok]
     congr 1
     rw [← Array.toList_inj]; simp
    obtain ⟨l', h1, h2⟩ := fill_ok (placeOf P fs) ((fs.map g')[·]?) (fun i => by
     simp only [placeOf, Array.getElem?_map]
     cases hfi : fs[i]? with
     | none => rfl
     | some f =>
      have hmem : f ∈ fs.toList := by
       have := Array.mem_of_getElem? hfi
       simpa using this
      obtain ⟨n, hn⟩ := Option.isSome_iff_exists.1 (hc.2 f hmem)
      simp [hn, g']) parts parts' _ z.cells l hp (plainV_ok hc.1).cells hl
    refine ⟨.agg l', ?_, .agg _ _ h2.1 h2.2⟩
    simp only [Array.getElem?_map] at h1
    simp [Instr.build, run_zeroValue hz, run_underlying hu, hplaces, h1]
   ·cases h
  ·cases h
 ·rename_i n e z hu hz
  split at h
  ·rename_i sz hs
   split at h
   ·rename_i hc
    split at h
    ·rename_i l hl
     obtain rfl := Option.some.inj h
     obtain ⟨l', h1, h2⟩ := fill_ok (fun i => some (i * sz, sz)) (fun i => some (i * sz, sz)) (fun _ => rfl) parts parts' _ z.cells l hp (plainV_ok hc).cells hl
     refine ⟨.agg l', ?_, .agg _ _ h2.1 h2.2⟩
     simp [Instr.build, run_zeroValue hz, run_underlying hu, run_sizeOf hs, h1]
    ·cases h
   ·cases h
  ·cases h
 ·cases h
theorem repeatL_length (z : List Value) : ∀ n, (repeatL z n).length = n * z.length
 | 0 => by simp [repeatL]
 | n + 1 => by rw [repeatL, List.length_append, repeatL_length z n, Nat.succ_mul]; omega
theorem repeatL_getD (z : List Value) (hz : 0 < z.length) : ∀ n p, p < n * z.length -> (repeatL z n).getD p undef = z.getD (p % z.length) undef
 | 0, p, h => by simp at h
 | n + 1, p, h => by
  rw [repeatL]
  by_cases hp : p < z.length
  ·rw [getD_append_lt _ _ _ hp, Nat.mod_eq_of_lt hp]
  ·rw [getD_append_ge _ _ _ (by omega), repeatL_getD z hz n (p - z.length) (by rw [Nat.add_mul, Nat.one_mul] at h; omega), ← Nat.mod_eq_sub_mod (by omega)]
theorem made_getD (z : Array Value) (n p : Nat) (h : p < n) (hz : 0 < z.size) : ((Array.range n).map (z[· % z.size]!)).toList.getD p undef = z.toList.getD (p % z.size) undef := by
 have h2 : p % z.size < z.size := Nat.mod_lt _ hz
 simp [List.getD_eq_getElem?_getD, h, h2]
theorem zeros_ok {S : St} {z : Value} (hp : plainV z = true) {n : Nat} (hn : z.cells.toList.length = n) (len m : Nat) (hle : len * n ≤ m) : ∀ p, p < len * n -> VR S ((repeatL z.cells.toList len).getD p undef) (((Array.range m).map (z.cells[· % z.cells.size]!)).toList.getD p undef) := by
 intro p h
 have hpos : 0 < n := by
  rcases Nat.eq_zero_or_pos n with h0 | h0
  ·subst h0; simp at h
  ·exact h0
 have hsz : z.cells.size = n := by simpa using hn
 rw [repeatL_getD _ (by omega) len p (by rw [hn]; exact h), made_getD _ _ _ (by omega) (by omega), hn, hsz]
 exact ((plainV_ok hp).cells (S := S)).2 _ (by rw [hn]; exact Nat.mod_lt _ hpos)
theorem buildSliceA_at {P : Program} {base : Nat} {S : St} (h : SR base S) {s0 : ASt} {next : Nat} (hsp : Spot S s0.next next) {t : TypeId} {len : Nat} {parts parts' : List (Nat × Value)} {v : Value} {s' : ASt} (hp : PR S parts parts') (hb : buildSliceA P s0 t len parts = some (v, s')) :
  DoesAt P base S (Instr.buildSlice t len parts'.toArray) v s0 s' next := by
 unfold buildSliceA at hb
 split at hb
 ·rename_i e hu
  split at hb
  ·rename_i n z hn hz
   split at hb
   ·rename_i hc
    simp only [Bool.and_eq_true, Nat.ble_eq, Nat.beq_eq] at hc
    obtain ⟨⟨hle, hpl⟩, hzn⟩ := hc
    split at hb
    ·rename_i l hl
     have hrl : (repeatL z.cells.toList len).length = len * n := by rw [repeatL_length, hzn]
     obtain ⟨l', h1, h2⟩ := fill_ok (fun i => some (i * n, n)) (fun i => some (i * n, n)) (fun _ => rfl) parts parts' _ ((Array.range (len * n)).map (z.cells[· % z.cells.size]!)) l hp
      ⟨by rw [hrl]; simp, fun p hp => zeros_ok hpl hzn len (len * n) (Nat.le_refl _) p (by rw [hrl] at hp; exact hp)⟩ hl
     have hll : l.length = l'.size := by have := h2.1; simpa using this
     have hl'n : l'.size = len * n := by
      have : ∀ (ps : List (Nat × Value)) (cs : List Value) (l : List Value), fillA (fun i => some (i * n, n)) cs ps = some l -> l.length = cs.length := by
       intro ps
       induction ps with
       | nil => intro cs l h; simp only [fillA] at h; obtain rfl := Option.some.inj h; rfl
       | cons x r ih =>
        intro cs l h
        obtain ⟨i, v⟩ := x
        simp only [fillA] at h
        split at h
        ·split at h
         ·rename_i m hm
          rw [ih m l h]; exact (setAt_spec _ _ _ _ hm).1
         ·cases h
        ·cases h
      rw [← hll, this _ _ _ hl, hrl]
     obtain ⟨b, k0, T, k1, k2, k3, k4⟩ := newSlice_at h hsp hb l' e (0, 0) (S.w.alloc (.cells l' e)) len ⟨rfl, rfl, rfl, rfl⟩ (.inl rfl) (by omega) h2.2 (Nat.le_refl _) (by omega)
     refine ⟨b, k0, T, _, k1, ?_, k3, k4⟩
     rw [k2]
     have hnot : ¬ (16777216 < len * n) := by omega
     by_cases h0 : len * n = 0
     ·have hr : Array.range (len * n) = #[] := by rw [h0]; rfl
      rw [hr] at h1
      simp only [Array.map_empty] at h1
      simp [Instr.buildSlice, run_underlying hu, run_sizeOf hn, h0]
      rw [show Array.range 0 = #[] from rfl]
      simp [h1, newRow]
     ·have h2' : ¬ len * n > 2 ^ 24 := by omega
      simp only [Instr.buildSlice, Sem.run_bind, run_underlying hu, Result.andThen_ok, run_sizeOf hn, if_neg h2', Sem.run_pure, if_neg h0, run_zeroValue hz]
      rw [h1]
      simp [newRow]
    ·cases hb
   ·cases hb
  ·cases hb
 ·cases hb
theorem makeSliceA_at {P : Program} {base : Nat} {S : St} (h : SR base S) {s0 : ASt} {next : Nat} (hsp : Spot S s0.next next) {t : TypeId} {x y x' y' v : Value} {s' : ASt} (hx : VR S x x') (hy : VR S y y') (hb : makeSliceA P s0 t x y = some (v, s')) :
  DoesAt P base S (Instr.makeSlice t x' y') v s0 s' next := by
 unfold makeSliceA at hb
 split at hb
 ·rename_i e k l k2 c hu
  cases hx; cases hy
  split at hb
  ·rename_i n z by8 hn hz hby
   split at hb
   ·rename_i hc
    simp only [Bool.and_eq_true, Nat.ble_eq, Nat.beq_eq] at hc
    obtain ⟨⟨⟨⟨hlc, hc1⟩, hc2⟩, hpl⟩, hzn⟩ := hc
    obtain ⟨i, hi, hiz⟩ := info_of_zero hz
    have his : i.size = n := by obtain ⟨i2, hi2, h3⟩ := info_of_size hn; rw [hi] at hi2; obtain rfl := Option.some.inj hi2; exact h3
    have hib : i.bytes = by8 := by obtain ⟨i2, hi2, h3⟩ := info_of_bytes hby; rw [hi] at hi2; obtain rfl := Option.some.inj hi2; exact h3
    have hrun := run_make (P := P) S.w t e i z hu hi hiz k k2 (Int.ofNat l) (Int.ofNat c) (Int.natCast_nonneg _) (Int.ofNat_le.2 hlc) (by rw [hib]; exact (show ((by8 * c : Nat) : Int) ≤ ((281474976710656 : Nat) : Int) from Int.ofNat_le.2 (by omega))) (show ((c : Nat) : Int) ≤ ((9223372036854775807 : Nat) : Int) from Int.ofNat_le.2 (by omega))
    have hrl : (repeatL z.cells.toList l).length = l * n := by rw [repeatL_length, hzn]
    have hln : l * n ≤ c * n := Nat.mul_le_mul_right _ hlc
    obtain ⟨b, k0, T, k1, k2', k3, k4⟩ := newSlice_at h hsp hb (madeCells z.cells (c * n)) e (0, 0) (S.w.alloc (.cells (madeCells z.cells (c * n)) e)) c ⟨rfl, rfl, rfl, rfl⟩ (.inl rfl) (by rw [hrl, size_madeCells]; exact hln)
     (fun p hp => zeros_ok hpl hzn l (c * n) hln p (by rw [hrl] at hp; exact hp)) hlc (by rw [size_madeCells]; exact Nat.le_refl _)
    refine ⟨b, k0, T, _, k1, ?_, k3, k4⟩
    rw [k2', hrun, his]
    rfl
   ·cases hb
  ·cases hb
 ·cases hb
end Go.Cl
namespace Go.Cl
open Go.RowKit
theorem extract_all (s : ByteArray) : s.extract 0 s.size = s := by
 apply ba_ext
 rw [ByteArray.data_extract, Array.toList_extract]
 simp only [List.extract, List.drop_zero, Nat.sub_zero]
 rw [List.take_of_length_le (by rw [← size_data]; exact Nat.le_refl _)]
theorem src_ok {P : Program} {base : Nat} {S : St} (h : SR base S) {z n : Nat} {y y' : Value} {new : List Value} (hy : VR S y y') (hs : srcCells S.s z y = some (n, new)) :
  ∃ new', VRL S new new' ∧ new.length = n * z ∧ ∀ W : World, W.heap = S.w.heap -> (Builtin.lenOf y').run P W = .ok n W ∧ (Builtin.firstCells z n y').run P W = .ok new'.toArray W := by
 unfold srcCells at hs
 split at hs
 ·injection hs with hs; injection hs with e1 e2; subst e1; subst e2
  cases hy
  exact ⟨[], VRL.nil, by simp, fun W _ => by simp [Builtin.lenOf, Builtin.firstCells]⟩
 ·rename_i i off m c
  cases hy with
  | slice _ _ _ _ a cap h0 hz hr =>
  split at hs
  ·injection hs with hs; injection hs with e1 e2; subst e1; subst e2
   exact ⟨[], VRL.nil, by simp, fun W _ => by simp [Builtin.lenOf, Builtin.firstCells, loadCells, loadCellsFrom]⟩
  ·rename_i m
   split at hs
   ·rename_i l hl
    injection hs with hs; injection hs with e1 e2; subst e1; subst e2
    obtain ⟨b, hb, hlive, _, _, hln, hvl, hcell⟩ := h.cells hl
    obtain ⟨⟨b', hb', _, hadr⟩, _⟩ := hr (by omega)
    rw [hb] at hb'; obtain rfl := Option.some.inj hb'
    obtain rfl := hadr hlive.1
    refine ⟨_, hvl, hln, fun W hW => ⟨by simp [Builtin.lenOf], ?_⟩⟩
    have hc : ∀ k o, W.cell? ⟨k, o, none⟩ = S.w.cell? ⟨k, o, none⟩ := fun k o => World.cell?_of_block (by rw [hW])
    have := run_loadCells P W (S.e.loc i c).1 ((S.e.loc i c).2 + off) _ (fun p hp => by rw [hc]; exact hcell p hp)
    simp only [Builtin.firstCells]
    rw [this]
    congr 2
    simp only [conc, hc]
   ·cases hs
 ·rename_i b
  cases hy
  split at hs
  ·rename_i hz
   obtain rfl : z = 1 := by simpa [Nat.beq_eq] using hz
   injection hs with hs; injection hs with e1 e2; subst e1; subst e2
   refine ⟨ofBytes b.data.toList, ofBytes_plain _, by simp [ofBytes], fun W _ => ?_⟩
   rw [← size_data]
   refine ⟨by simp [Builtin.lenOf], ?_⟩
   simp only [Builtin.firstCells, extract_all, Sem.run_pure]
   congr 1
   rw [← Array.toList_inj]
   simp [ofBytes]
  ·cases hs
 ·cases hs
section
variable {P : Program} {w : World} {ts : Array TypeId} {aS : Array Value} {st xt e ty : TypeId} {xd : TypeDesc} {z by8 n sLen sCap : Nat} {zv : Value} {bs : Option Addr} {y : Value} {new : List Value}
def Src (P : Program) (w w2 : World) (e : TypeId) (z : Nat) (xd : TypeDesc) (y : Value) (n : Nat) (new : List Value) : Prop :=
 (((∃ e2, xd = .slice e2) ∨ xd = .string) ∧ (Builtin.lenOf y).run P w = .ok n w ∧ (Builtin.firstCells z n y).run P w2 = .ok new.toArray w2) ∨
 (∃ k kk i zv, xd = .int k ∧ y = .int kk n ∧ P.info? e = some i ∧ n * i.bytes ≤ 140737488355328 ∧ n ≤ 140737488355328 ∧ zeroB P e = some zv ∧ zv.cells.size = z ∧ 0 < z ∧ new = (Builtin.zeroCells zv.cells n).toList)
theorem wrap_small {n : Nat} (h : n ≤ 140737488355328) : IntKind.i64.wrap (n : Int) = n := by
 have e1 : IntKind.i64.bits = 64 := rfl
 have e2 : IntKind.i64.signed = true := rfl
 simp only [IntKind.wrap, e1, e2, Bool.true_and]
 simp
 omega
set_option maxHeartbeats 1000000 in
theorem run_append_same (h0 : ts[0]? = some st) (h1 : ts[1]? = some xt) (a0 : aS[0]? = some (.slice bs sLen sCap)) (a1 : aS[1]? = some y) (hu : P.underlying st = some (.slice e)) (hx : P.underlying xt = some xd)
  (hz : sizeB P e = some z) (hsrc : Src P w w e z xd y n new) (hroom : sLen + n ≤ sCap) (hn : n = 0) (hnew : new = []) :
  (Builtin.append_ ts ty aS).run P w = .ok (.slice bs sLen sCap) w := by
 subst hn; subst hnew
 have hr : sLen ≤ sCap := by omega
 rcases hsrc with ⟨hni, hlen, hfc⟩ | ⟨k, kk, i, zv, rfl, rfl, hi, hb1, hb2, hzv, hzs, hzp, hnew⟩
 ·cases bs with
  | none => rcases hni with ⟨e2, rfl⟩ | rfl <;> simp [Builtin.append_, h0, h1, a0, a1, run_underlying hu, run_underlying hx, run_sizeOf hz, hlen, hr, hfc]
  | some a => rcases hni with ⟨e2, rfl⟩ | rfl <;> simp [Builtin.append_, h0, h1, a0, a1, run_underlying hu, run_underlying hx, run_sizeOf hz, hlen, hr, hfc, storeCells]
 ·have hw : IntKind.i64.wrap 0 = 0 := wrap_small (n := 0) (by omega)
  have hti : ∀ W : World, (typeInfo e).run P W = .ok i W := fun W => by simp [typeInfo, hi]
  cases bs with
  | none => simp [Builtin.append_, h0, h1, a0, a1, run_underlying hu, run_underlying hx, run_sizeOf hz, hr, asInt, asIntOf, hw, hti]
  | some a => simp [Builtin.append_, h0, h1, a0, a1, run_underlying hu, run_underlying hx, run_sizeOf hz, hr, asInt, asIntOf, hw, hti, storeCells]
set_option maxHeartbeats 1000000 in
theorem run_append_in {a : Addr} {w' : World} (h0 : ts[0]? = some st) (h1 : ts[1]? = some xt) (a0 : aS[0]? = some (.slice (some a) sLen sCap)) (a1 : aS[1]? = some y) (hu : P.underlying st = some (.slice e)) (hx : P.underlying xt = some xd)
  (hz : sizeB P e = some z) (hsrc : Src P w w e z xd y n new) (hpos : 0 < n) (hroom : sLen + n ≤ sCap) (hst : (storeCells (a.add (sLen * z)) new).run P w = .ok () w') :
  (Builtin.append_ ts ty aS).run P w = .ok (.slice (some a) (sLen + n) sCap) w' := by
 rcases hsrc with ⟨hni, hlen, hfc⟩ | ⟨k, kk, i, zv, rfl, rfl, hi, hb1, hb2, hzv, hzs, hzp, hnew⟩
 ·rcases hni with ⟨e2, rfl⟩ | rfl <;> simp [Builtin.append_, h0, h1, a0, a1, run_underlying hu, run_underlying hx, run_sizeOf hz, hlen, hroom, hfc, hst]
 ·have hw := wrap_small hb2
  have hti : ∀ W : World, (typeInfo e).run P W = .ok i W := fun W => by simp [typeInfo, hi]
  have hneg : ¬ (n : Int) < 0 := by omega
  have h48 : ¬ (281474976710656 < (n : Int) * (i.bytes : Int)) := by
   have : ((n * i.bytes : Nat) : Int) = (n : Int) * (i.bytes : Int) := by push_cast; rfl
   omega
  have hnz : ¬ n * z = 0 := by have := Nat.mul_pos hpos hzp; omega
  subst hnew
  simp [Builtin.append_, h0, h1, a0, a1, run_underlying hu, run_underlying hx, run_sizeOf hz, hroom, hst, asInt, asIntOf, hw, hti, hneg, h48, hnz, run_zeroValue hzv]
set_option maxHeartbeats 1000000 in
theorem run_append_re {old : Array Value} (h0 : ts[0]? = some st) (h1 : ts[1]? = some xt) (a0 : aS[0]? = some (.slice bs sLen sCap)) (a1 : aS[1]? = some y) (hu : P.underlying st = some (.slice e)) (hx : P.underlying xt = some xd)
  (hz : sizeB P e = some z) (hb8 : bytesB P e = some by8) (hzv : zeroB P e = some zv) (hsrc : Src P w w.drew e z xd y n new) (hpos : 0 < n)
  (hroom : ¬ sLen + n ≤ sCap) (hold : (Builtin.firstCells z sLen (.slice bs sLen sCap)).run P w.drew = .ok old w.drew) (hsmall : sLen + n ≤ 140737488355328) (hbig : (sLen + n) * by8 ≤ 140737488355328) :
  (Builtin.append_ ts ty aS).run P w = .ok (.slice (some ⟨w.heap.size, 0, none⟩) (sLen + n) (grownCap w (sLen + n) sCap e))
   (w.drew.alloc (.cells (old ++ new.toArray ++ Builtin.zeroCells zv.cells (grownCap w (sLen + n) sCap e - (sLen + n))) e)) := by
 obtain ⟨i, hi, rfl⟩ := info_of_bytes hb8
 have h63 : ¬ (9223372036854775807 < ((sLen : Int) + (n : Int))) := by omega
 have hfit : Builtin.nextslicecap (sLen + n) sCap * i.bytes ≤ 281474976710656 := growslice_fits (by omega) (by omega)
 have h48 : ¬ (281474976710656 < Builtin.nextslicecap (sLen + n) sCap * i.bytes) := by omega
 have hti : ∀ W : World, (typeInfo e).run P W = .ok i W := fun W => by simp [typeInfo, hi]
 have hroomW : ∀ (W : World) (k : Nat), (askRoom k).run P W = .ok () W := fun W k => by
  unfold askRoom
  split
  ·rfl
  ·rfl
 rcases hsrc with ⟨hni, hlen, hfc⟩ | ⟨k, kk, i2, zv2, rfl, rfl, hi2, hb1, hb2, hzv2, hzs, hzp, hnew⟩
 ·rcases hni with ⟨e2, rfl⟩ | rfl <;> simp [Builtin.append_, h0, h1, a0, a1, run_underlying hu, run_underlying hx, run_sizeOf hz, hlen, hroom, hfc, hold, hti, h63, h48, run_zeroValue hzv, Question.forced, hroomW, newRow, grownCap]
 ·rw [hzv] at hzv2
  obtain rfl := Option.some.inj hzv2
  rw [hi] at hi2
  obtain rfl := Option.some.inj hi2
  have hw := wrap_small hb2
  have hneg : ¬ (n : Int) < 0 := by omega
  have h48n : ¬ (281474976710656 < (n : Int) * (i.bytes : Int)) := by
   have : ((n * i.bytes : Nat) : Int) = (n : Int) * (i.bytes : Int) := by push_cast; rfl
   omega
  have hnz : ¬ n * z = 0 := by have := Nat.mul_pos hpos hzp; omega
  subst hnew
  simp [Builtin.append_, h0, h1, a0, a1, run_underlying hu, run_underlying hx, run_sizeOf hz, hroom, hold, hti, h63, h48, run_zeroValue hzv, Question.forced, hroomW, newRow, grownCap, asInt, asIntOf, hw, hneg, h48n, hnz]
end
theorem srcA_ok {P : Program} {base : Nat} {S : St} (h : SR base S) {e : TypeId} {z n by8 : Nat} {zv : Value} {xd : TypeDesc} {y y' : Value} {new : List Value} (hz : sizeB P e = some z) (hby : bytesB P e = some by8) (hzv : zeroB P e = some zv)
  (hxd : (match xd with | .slice _ => true | .string => true | .int _ => true | _ => false) = true) (hy : VR S y y') (hs : srcA S.s z by8 zv xd y = some (n, new)) :
  ∃ new', VRL S new new' ∧ new.length = n * z ∧ ∀ W W2 : World, W.heap = S.w.heap -> W2.heap = S.w.heap -> Src P W W2 e z xd y' n new' := by
 cases xd <;> try (cases hxd; done)
 case int k =>
  simp only [srcA] at hs
  split at hs
  case h_2 => cases hs
  rename_i kk m
  split at hs
  case isFalse => cases hs
  rename_i hc
  simp only [Bool.and_eq_true, Nat.ble_eq, Nat.beq_eq, Nat.blt_eq] at hc
  obtain ⟨⟨⟨⟨hb1, hb2⟩, hpl⟩, hzn⟩, hzp⟩ := hc
  injection hs with hs; injection hs with e1 e2; subst e1; subst e2
  cases hy
  obtain ⟨i, hi, hib⟩ := info_of_bytes hby
  have hzs : zv.cells.size = z := by simpa using hzn
  refine ⟨(Builtin.zeroCells zv.cells m).toList, ⟨by rw [repeatL_length, hzn]; simp [Builtin.zeroCells, hzs], fun p hp => ?_⟩, by rw [repeatL_length, hzn], fun W W2 _ _ => .inr ⟨k, kk, i, zv, rfl, rfl, hi, by rw [hib]; exact hb1, hb2, hzv, hzs, hzp, rfl⟩⟩
  rw [repeatL_length, hzn] at hp
  exact zeros_ok (S := S) hpl hzn m (m * zv.cells.size) (by rw [hzs]; exact Nat.le_refl _) p hp
 case slice e2 =>
  obtain ⟨new', h1, h2, h3⟩ := src_ok (P := P) h hy (by simpa [srcA] using hs)
  exact ⟨new', h1, h2, fun W W2 hW hW2 => .inl ⟨.inl ⟨e2, rfl⟩, (h3 W hW).1, (h3 W2 hW2).2⟩⟩
 case string =>
  obtain ⟨new', h1, h2, h3⟩ := src_ok (P := P) h hy (by simpa [srcA] using hs)
  exact ⟨new', h1, h2, fun W W2 hW hW2 => .inl ⟨.inr rfl, (h3 W hW).1, (h3 W2 hW2).2⟩⟩
theorem src_of_cells {base : Nat} {S : St} (h : SR base S) {i off c len z : Nat} {old : List Value} (hc : S.s.cellsAt i off c (len * z) = some old) : srcCells S.s z (.slice (some ⟨i, off, none⟩) len c) = some (len, old) := by
 cases len with
 | zero =>
  obtain ⟨_, _, _, _, _, hl, _⟩ := h.cells hc
  have : old = [] := List.eq_nil_of_length_eq_zero (by simpa using hl)
  simp [srcCells, this]
 | succ m => simp [srcCells, hc]
theorem zeroCells_size (z : Array Value) (n : Nat) : (Builtin.zeroCells z n).size = n * z.size := by simp [Builtin.zeroCells]
theorem row_size {old new : List Value} {zv : Value} {z len n cap : Nat} (ho : old.length = len * z) (hn : new.length = n * z) (hz : zv.cells.toList.length = z) (hcap : len + n ≤ cap) :
  (old.toArray ++ new.toArray ++ Builtin.zeroCells zv.cells (cap - (len + n))).size = cap * z := by
 simp only [Array.size_append, List.size_toArray, zeroCells_size]
 have : zv.cells.size = z := by simpa using hz
 rw [this, ho, hn, ← Nat.add_mul, ← Nat.add_mul]
 congr 1
 omega
theorem row_getD {old new : List Value} {zs : Array Value} (p : Nat) (h : p < old.length + new.length) : (old.toArray ++ new.toArray ++ zs).toList.getD p undef = (old ++ new).getD p undef := by
 simp only [Array.toList_append]
 rw [getD_append_lt _ _ _ (by simpa using h)]
set_option maxHeartbeats 1000000 in
theorem appendA_ok {P : Program} {base : Nat} {S : St} (h : SR base S) {st xt ty : TypeId} {x y x' y' v : Value} {s' : ASt} (hx : VR S x x') (hy : VR S y y') (ha : appendA P S.s st xt x y = some (v, s')) {ts : Array TypeId} {aS : Array Value}
  (h0 : ts[0]? = some st) (h1 : ts[1]? = some xt) (a0 : aS[0]? = some x') (a1 : aS[1]? = some y') : Does P base S (Builtin.append_ ts ty aS) v s' := by
 unfold appendA at ha
 split at ha
 case h_2 => cases ha
 rename_i e xd hu hxu
 split at ha
 case h_1 => cases ha
 rename_i hxd
 split at ha
 case h_2 => cases ha
 rename_i z by8 zv hz hby hzv
 split at ha
 case h_2 => cases ha
 rename_i n new hsrc
 obtain ⟨new', hvn, hnl, hrun⟩ := srcA_ok (P := P) h hz hby hzv hxd hy hsrc
 have hnl' : new'.length = n * z := by rw [← hvn.1]; exact hnl
 have hsw := hrun S.w S.w rfl rfl
 have hsd := hrun S.w S.w.drew rfl rfl
 split at ha
 case h_2 => cases ha
 rename_i a len c
 split at ha
 case isFalse => cases ha
 rename_i hcond
 simp only [Bool.and_eq_true, Nat.ble_eq, Nat.blt_eq, Nat.beq_eq] at hcond
 obtain ⟨⟨⟨⟨hbig, hsmall⟩, hzpos⟩, hnewok⟩, hzl⟩ := hcond
 have hokn := hvn.okCell hnewok
 cases n with
 | zero =>
  simp only at ha
  injection ha with ha; injection ha with e1 e2; subst e1; subst e2
  have hnn : new' = [] := List.eq_nil_of_length_eq_zero (by rw [hnl']; simp)
  have hx0 := hx
  cases hx with
  | sliceNil => exact ⟨S, _, rfl, run_append_same h0 h1 a0 a1 hu hxu hz hsw (Nat.le_refl _) rfl hnn, hx0, Good.refl h⟩
  | slice i off _ _ a cap hle _ _ => exact ⟨S, _, rfl, run_append_same h0 h1 a0 a1 hu hxu hz hsw hle rfl hnn, hx0, Good.refl h⟩
 | succ m =>
  simp only at ha
  have hn1 : 0 < m + 1 := Nat.succ_pos _
  generalize m + 1 = n at *
  have fresh : ∀ (bs : Option Addr), aS[0]? = some (.slice bs 0 0) -> newSlice S.s new n z = some (v, s') -> Does P base S (Builtin.append_ ts ty aS) v s' := by
   intro bs hb hn
   have hold : (Builtin.firstCells z 0 (.slice bs 0 0)).run P S.w.drew = .ok #[] S.w.drew := by cases bs <;> simp [Builtin.firstCells, loadCells, loadCellsFrom]
   have hbig0 : (0 + n) * by8 ≤ 140737488355328 := Nat.le_trans (Nat.mul_le_mul_right _ (by omega)) hbig
   have hr := run_append_re (ty := ty) h0 h1 hb a1 hu hxu hz hby hzv hsd hn1 (by omega) hold (by omega) hbig0
   have hge := grownCap_ge S.w (0 + n) 0 e
   have hsz := row_size (old := []) (new := new') (zv := zv) (z := z) (len := 0) (n := n) (cap := grownCap S.w (0 + n) 0 e) (by simp) hnl' hzl hge
   obtain ⟨T, k1, k2, k3, k4⟩ := newSlice_ok h hn ([].toArray ++ new'.toArray ++ Builtin.zeroCells zv.cells (grownCap S.w (0 + n) 0 e - (0 + n))) e (0, 0)
    (S.w.drew.alloc (.cells ([].toArray ++ new'.toArray ++ Builtin.zeroCells zv.cells (grownCap S.w (0 + n) 0 e - (0 + n))) e)) (grownCap S.w (0 + n) 0 e) ⟨rfl, rfl, rfl, rfl⟩ (.inl rfl)
    (by rw [hsz, hnl]; exact Nat.mul_le_mul_right _ (by omega)) (fun p hp => by rw [row_getD p (by simp; rw [hnl']; omega), List.nil_append]; exact hvn.2 p hp) (by omega) (by rw [hsz]; exact Nat.le_refl _)
   rw [Nat.zero_add] at hr
   refine ⟨T, _, k1, ?_, k3, k4⟩
   rw [k2, hr]
   simp
  split at ha
  ·
   split at ha
   ·cases hx; exact fresh none a0 ha
   ·cases ha
  ·rename_i i off
   cases hx with
   | slice _ _ _ _ a1' cap hle hz0 hr =>
   split at ha
   ·split at ha
    ·rename_i hl0
     obtain rfl : len = 0 := by simpa [Nat.beq_eq] using hl0
     obtain rfl := hz0 rfl
     exact fresh (some a1') a0 ha
    ·cases ha
   ·rename_i c0
    simp only [Nat.succ_eq_add_one] at ha hr hz0
    split at ha
    case h_2 => cases ha
    rename_i b hb
    split at ha
    case isFalse => cases ha
    rename_i hc2
    simp only [Bool.and_eq_true, Nat.ble_eq, Nat.beq_eq] at hc2
    obtain ⟨⟨hown, hlow⟩, hesz⟩ := hc2
    split at ha
    ·
     rename_i hc3
     simp only [Bool.and_eq_true, Nat.beq_eq] at hc3
     obtain ⟨⟨hcur, rfl⟩, hfull⟩ := hc3
     injection ha with ha; injection ha with e1 e2; subst e1; subst e2
     have hlive : Live b (c0 + 1) := ⟨hlow, Nat.le_of_eq hcur⟩
     have hnewpos : 0 < n * z := Nat.mul_pos hn1 hzpos
     by_cases hroom : len + n ≤ cap
     ·obtain ⟨⟨b', hb', _, hadr⟩, hcap⟩ := hr (by omega)
      rw [hb] at hb'; obtain rfl := Option.some.inj hb'
      obtain rfl := hadr hlive.1
      obtain ⟨arr, E, fr, hk, hfit⟩ := hcap b hb hlow
      obtain ⟨_, ⟨arr2, E2, fr2, hk2, hfr2⟩, _⟩ := h.own i b hb hown _ hlive
      have hkk := hk
      simp only at hkk
      rw [hkk] at hk2
      injection hk2 with hk2; injection hk2 with q1 q2 q3
      subst q1; subst q2; subst q3
      simp only [Nat.add_zero] at hfit
      rw [hesz] at hfit
      have hmul : (len + n) * z ≤ cap * z := Nat.mul_le_mul_right _ hroom
      rw [Nat.add_mul] at hmul
      have hfit' : (S.e.loc i (c0 + 1)).2 + b.cells.length + new'.length ≤ arr.size := by rw [hnl', ← hfull]; omega
      have hg := Good.growRoom h hb hown hlive hcur hvn hkk hfit'
      have hst := run_storeCells P (S.e.loc i (c0 + 1)).1 ((S.e.loc i (c0 + 1)).2 + 0 + len * z) new' S.w 0 arr E fr hkk (hfr2.imp id And.left) (by omega) hokn
      rw [show (S.e.loc i (c0 + 1)).2 + 0 + len * z + 0 = (S.e.loc i (c0 + 1)).2 + b.cells.length by omega] at hst
      have hrun2 := run_append_in (ty := ty) h0 h1 a0 a1 hu hxu hz hsw hn1 hroom (by rw [Addr.add_lit]; exact hst)
      refine ⟨_, _, rfl, hrun2, .slice _ _ _ _ _ _ (by omega) (fun q => by omega) (fun _ => ⟨⟨{ b with cells := b.cells ++ new }, ASt.blk?_put_self _ _ _ (by have := h.lt hb; have := h.room; omega), Nat.le_refl _, fun _ => ?_⟩, fun b2 hb2 _ => ?_⟩), hg⟩
      ·simp only [true_and, List.length_append]
       rw [if_pos (by rw [hnl]; omega)]
      ·rw [ASt.blk?_put_self _ _ _ (by have := h.lt hb; have := h.room; omega)] at hb2
       obtain rfl := Option.some.inj hb2
       obtain ⟨arr', q1, q2, _⟩ := setCells_block new' S.w _ _ arr E fr hkk hfit'
       exact ⟨arr', E, fr, q1, by rw [q2]; simp only [Nat.add_zero]; rw [hesz]; exact hfit⟩
     ·have hcells : S.s.cellsAt i 0 (c0 + 1) (len * z) = some b.cells := by
       simp only [ASt.cellsAt, hb]
       rw [if_pos (by simp only [Bool.and_eq_true, Nat.ble_eq, Nat.blt_eq]; exact ⟨⟨hlow, by omega⟩, by omega⟩), takeN_eq, dropN_eq, hfull]
       simp
      obtain ⟨old', hvo, hol, hrun3⟩ := src_ok (P := P) h (VR.slice i 0 len (c0 + 1) a1' cap hle hz0 hr) (src_of_cells h hcells)
      have hol' : old'.length = len * z := by rw [← hvo.1]; exact hol
      have hr3 := run_append_re (ty := ty) h0 h1 a0 a1 hu hxu hz hby hzv hsd hn1 hroom (hrun3 S.w.drew rfl).2 hsmall hbig
      have hge := grownCap_ge S.w (len + n) cap e
      have hsz := row_size (old := old') (new := new') (zv := zv) (z := z) (len := len) (n := n) (cap := grownCap S.w (len + n) cap e) hol' hnl' hzl hge
      have hg := Good.growNew (new := new) (W := S.w.drew.alloc (.cells (old'.toArray ++ new'.toArray ++ Builtin.zeroCells zv.cells (grownCap S.w (len + n) cap e - (len + n))) e)) h hb hown hcur ⟨rfl, rfl, rfl, rfl⟩ (.inl rfl)
       (by rw [hsz, hnl, ← hfull, ← Nat.add_mul]; exact Nat.mul_le_mul_right _ hge) (fun p hp => by
        rw [row_getD p (by rw [hol', hnl', hfull, ← hnl]; exact hp)]
        exact (hvo.append hvn).2 p (by rw [List.length_append]; exact hp))
      refine ⟨_, _, rfl, hr3, .slice _ _ _ _ _ _ hge (fun q => by omega) (fun _ => ⟨⟨{ b with cells := b.cells ++ new }, ASt.blk?_put_self _ _ _ (by have := h.lt hb; have := h.room; omega), Nat.le_refl _, fun _ => ?_⟩, fun b2 hb2 _ => ?_⟩), hg⟩
      ·simp only [true_and, List.length_append]
       rw [if_pos (by rw [hnl]; omega)]
      ·rw [ASt.blk?_put_self _ _ _ (by have := h.lt hb; have := h.room; omega)] at hb2
       obtain rfl := Option.some.inj hb2
       refine ⟨_, e, (0, 0), heap_alloc_new S.w.drew _, ?_⟩
       simp only
       rw [hsz, hesz, Nat.zero_add]
       exact Nat.le_refl _
    ·
     split at ha
     case h_2 => cases ha
     rename_i old hcells
     obtain ⟨b2, hb2, hlive, _, _, hol, _⟩ := h.cells hcells
     rw [hb] at hb2; obtain rfl := Option.some.inj hb2
     obtain ⟨old', hvo, _, hrun3⟩ := src_ok (P := P) h (VR.slice i off len (c0 + 1) a1' cap hle hz0 hr) (src_of_cells h hcells)
     have hol' : old'.length = len * z := by rw [← hvo.1]; exact hol
     have hkill := Good.kill h hb
     generalize hS1 : (⟨S.s.put i (.blk (Cl.kill b)), S.e, S.w⟩ : St) = S1 at hkill
     have e1s : S1.s = S.s.put i (.blk (Cl.kill b)) := by rw [← hS1]
     have e1e : S1.e = S.e := by rw [← hS1]
     have e1w : S1.w = S.w := by rw [← hS1]
     have hv1 := (hvo.append hvn).mono hkill.ext
     rw [← e1s] at ha
     by_cases hroom : len + n ≤ cap
     ·obtain ⟨⟨b', hb', _, hadr⟩, hcap⟩ := hr (by omega)
      rw [hb] at hb'; obtain rfl := Option.some.inj hb'
      obtain rfl := hadr hlive.1
      obtain ⟨arr, E, fr, hk, hfit⟩ := hcap b hb hlow
      obtain ⟨hbase, ⟨arr2, E2, fr2, hk2, hfr2⟩, hex, _⟩ := h.own i b hb hown _ hlive
      have hkk := hk
      simp only at hkk hfit
      rw [hkk] at hk2
      injection hk2 with hk2; injection hk2 with q1 q2 q3
      subst q1; subst q2; subst q3
      rw [hesz] at hfit
      have hmul : (len + n) * z ≤ cap * z := Nat.mul_le_mul_right _ hroom
      rw [Nat.add_mul] at hmul
      unfold newSlice at ha
      split at ha
      case isFalse => cases ha
      rename_i hrm
      injection ha with ha; injection ha with e1 e2; subst e1; subst e2
      have hne : ∀ j bj c', S1.s.blk? j = some bj -> Live bj c' -> (S1.e.loc j c').1 ≠ (S.e.loc i (c0 + 1)).1 := by
       intro j bj c' hbj hc' heq
       rw [e1e] at heq
       rw [e1s] at hbj
       by_cases hji : j = i
       ·subst hji
        rw [ASt.blk?_put_self _ _ _ (by have := h.lt hb; have := h.room; omega)] at hbj
        obtain rfl := Option.some.inj hbj
        have q1 := hc'.1; have q2 := hc'.2; simp only [Cl.kill] at q1 q2; omega
       ·simp only [ASt.blk?, ASt.get_put_ne _ _ _ _ (Ne.symm hji)] at hbj
        exact hji (hex j bj (by simpa [ASt.blk?] using hbj) c' hc' heq)
      have hcl := h.cells hcells
      obtain ⟨b3, hb3, _, _, _, _, hvc, hcc⟩ := hcl
      have hg := Good.reuse hkill.sr hrm z (k := (S.e.loc i (c0 + 1)).1) (o := (S.e.loc i (c0 + 1)).2 + off) (arr := arr) (E := E) (fr := fr) (by rw [e1w]; exact hkk) (by rw [← hesz]; exact hfr2) hbase hne (old := old) (new := new) (new' := new') (fun p hp => by
        rw [hol] at hp
        obtain ⟨u, hu'⟩ := hcc p hp
        have := hvc.2 p (by omega)
        rw [conc_getD _ _ _ _ _ hp, hu'] at this
        exact ⟨u, by rw [e1w]; exact hu', this.mono hkill.ext⟩) (hvn.mono hkill.ext) (by rw [hol, hnl']; omega)
      have hst := run_storeCells P (S.e.loc i (c0 + 1)).1 ((S.e.loc i (c0 + 1)).2 + off + len * z) new' S.w 0 arr E fr hkk (hfr2.imp id And.left) (by rw [hnl']; omega) hokn
      rw [Nat.add_zero] at hst
      have hrun2 := run_append_in (ty := ty) h0 h1 a0 a1 hu hxu hz hsw hn1 hroom (by rw [Addr.add_lit]; exact hst)
      have hlt := room_lt hrm
      have hself : ∀ (bb : Blk), (S1.s.new (.blk bb)).blk? S1.s.next = some bb := fun bb => by simp only [ASt.new, ASt.blk?, Tr.get_set_self _ _ _ _ (deep (show 0 < 16000001 by omega))]
      rw [e1w, hol] at hg
      refine ⟨_, _, rfl, hrun2, .slice _ _ _ _ _ _ hroom (fun q => by omega) (fun _ => ⟨⟨_, hself _, Nat.le_refl _, fun _ => by simp⟩, fun b4 hb4 _ => ?_⟩), hkill.trans hg⟩
      rw [hself] at hb4
      obtain rfl := Option.some.inj hb4
      obtain ⟨arr', q1, q2, _⟩ := setCells_block new' S.w _ ((S.e.loc i (c0 + 1)).2 + off + len * z) arr E fr hkk (by rw [hnl']; omega)
      exact ⟨arr', E, fr, q1, by rw [q2]; exact hfit⟩
     ·have hr3 := run_append_re (ty := ty) h0 h1 a0 a1 hu hxu hz hby hzv hsd hn1 hroom (hrun3 S.w.drew rfl).2 hsmall hbig
      have hge := grownCap_ge S.w (len + n) cap e
      have hsz := row_size (old := old') (new := new') (zv := zv) (z := z) (len := len) (n := n) (cap := grownCap S.w (len + n) cap e) hol' hnl' hzl hge
      obtain ⟨T, k1, k2, k3, k4⟩ := newSlice_ok hkill.sr ha (old'.toArray ++ new'.toArray ++ Builtin.zeroCells zv.cells (grownCap S.w (len + n) cap e - (len + n))) e (0, 0)
       (S.w.drew.alloc (.cells (old'.toArray ++ new'.toArray ++ Builtin.zeroCells zv.cells (grownCap S.w (len + n) cap e - (len + n))) e)) (grownCap S.w (len + n) cap e) (by rw [e1w]; exact ⟨rfl, rfl, rfl, rfl⟩) (.inl rfl)
       (by rw [hsz, List.length_append, hol, hnl, ← Nat.add_mul]; exact Nat.mul_le_mul_right _ hge) (fun p hp => by
        rw [List.length_append] at hp
        rw [row_getD p (by rw [hol', hnl', ← hol, ← hnl]; exact hp)]
        exact hv1.2 p (by rw [List.length_append]; exact hp)) hge (by rw [hsz]; exact Nat.le_refl _)
      rw [e1w] at k3
      exact ⟨T, _, k1, by rw [k2]; exact hr3, k3, hkill.trans k4⟩
  ·cases ha
end Go.Cl
namespace Go.Cl
open Go.RowKit
theorem ER.length {S : St} : ∀ {l : List (Value × Value)} {l' : List MapEntry}, ER S l l' -> l'.length = l.length
 | [], [], _ => rfl
 | (_, _) :: _, _ :: _, h => by simp [ER.length h.2.2]
 | [], _ :: _, h => h.elim
 | _ :: _, [], h => h.elim
theorem run_getMap {P : Program} {w : World} {r : Nat} {es : Array MapEntry} {clk : Nat} (h : w.heap[r]? = some (.map es clk)) : (getObj r).run P w = .ok (.map es clk) w := by
 simp only [getObj, Sem.run, h]
theorem lenA_ok {P : Program} {base : Nat} {S : St} (h : SR base S) {t ty : TypeId} {x x' v : Value} (hx : VR S x x') (hl : lenA P S.s t x = some v) {ts : Array TypeId} {aS : Array Value} (h0 : ts[0]? = some t) (a0 : aS[0]? = some x') :
  Reads P S (Builtin.len_ ts ty aS) v := by
 unfold lenA at hl
 split at hl
 ·rename_i b hu
  cases hx
  obtain rfl := Option.some.inj hl
  rw [← size_data b]
  exact ⟨_, by simp [Builtin.len_, h0, a0, run_underlying hu, goInt], .int _ _⟩
 ·rename_i n e hu
  obtain rfl := Option.some.inj hl
  exact ⟨_, by simp [Builtin.len_, h0, a0, run_underlying hu, goInt], .int _ _⟩
 ·rename_i e a n c hu
  obtain rfl := Option.some.inj hl
  cases hx <;> exact ⟨_, by simp [Builtin.len_, h0, a0, run_underlying hu, goInt], .int _ _⟩
 ·rename_i k e hu
  cases hx
  obtain rfl := Option.some.inj hl
  exact ⟨_, by simp [Builtin.len_, h0, a0, run_underlying hu, goInt], .int _ _⟩
 ·rename_i k e r hu
  cases hx
  split at hl
  ·rename_i es he
   obtain rfl := Option.some.inj hl
   obtain ⟨_, es', clk, h1, h2⟩ := h.map r es he
   have hlen := h2.length
   refine ⟨_, ?_, .int _ _⟩
   simp only [Array.length_toList] at hlen
   simp [Builtin.len_, h0, a0, run_underlying hu, run_getMap h1, goInt, hlen]
  ·cases hl
 ·cases hl
theorem minA_ok {P : Program} {S : St} {x y x' y' v : Value} (hx : VR S x x') (hy : VR S y y') (h : minA x y = some v) : Reads P S (Builtin.min2 x' y') v := by
 unfold minA at h
 split at h
 ·cases hx; cases hy
  obtain rfl := Option.some.inj h
  exact ⟨_, by simp [Builtin.min2], .int _ _⟩
 ·cases h
theorem maxA_ok {P : Program} {S : St} {x y x' y' v : Value} (hx : VR S x x') (hy : VR S y y') (h : maxA x y = some v) : Reads P S (Builtin.max2 x' y') v := by
 unfold maxA at h
 split at h
 ·cases hx; cases hy
  obtain rfl := Option.some.inj h
  exact ⟨_, by simp [Builtin.max2], .int _ _⟩
 ·cases h
theorem foldA_ok {P : Program} {S : St} (g : Value -> Value -> Option Value) (g' : Value -> Value -> Sem Value) (hg : ∀ {x y x' y' v : Value}, VR S x x' -> VR S y y' -> g x y = some v -> Reads P S (g' x' y') v) :
  ∀ {l l' : List Value} {x x' v : Value}, VR S x x' -> VRL S l l' -> foldA g x l = some v -> Reads P S (l'.foldlM g' x') v := by
 intro l
 induction l with
 | nil => intro l' x x' v hx hl h; rw [hl.nil_inv]; simp only [foldA] at h; obtain rfl := Option.some.inj h; exact ⟨_, by simp, hx⟩
 | cons y l ih =>
  intro l' x x' v hx hl h
  obtain ⟨y', r', rfl, h1, h2⟩ := hl.cons_inv
  simp only [foldA] at h
  split at h
  ·rename_i u hu
   obtain ⟨u', k1, k2⟩ := hg hx h1 hu
   obtain ⟨v', k3, k4⟩ := ih k2 h2 h
   exact ⟨v', by simp [List.foldlM_cons, k1, k3], k4⟩
  ·cases h
theorem ba_beq (a b : ByteArray) : (a == b) = (a.data.toList == b.data.toList) := by
 show (a.data == b.data) = (a.data.toList == b.data.toList)
 by_cases h : a.data = b.data
 ·rw [h]; simp
 ·have h2 : ¬ a.data.toList = b.data.toList := fun e => h (Array.toList_inj.1 e)
  rw [beq_eq_false_iff_ne.2 h, beq_eq_false_iff_ne.2 h2]
theorem ba_beq_self (a : ByteArray) : (a == a) = true := by rw [ba_beq]; simp
theorem keyEq_ok {P : Program} {t : TypeId} {a b : Value} {r : Bool} (h : keyEq P t a b = some r) : ∃ d, P.underlying t = some d ∧ Instr.sameNow d a b = some r ∧ (r = true -> a = b) ∧ (∀ n, r = true -> Instr.sameBits n b a = true) := by
 unfold keyEq at h
 split at h
 ·rename_i k0 k x k' y hu
  split at h
  ·rename_i hk
   subst hk
   obtain rfl := Option.some.inj h
   refine ⟨_, hu, by simp [Instr.sameNow], fun e => ?_, fun n e => ?_⟩
   ·simp at e; rw [e]
   ·simp at e; cases n <;> simp [Instr.sameBits, e]
  ·cases h
 ·rename_i x y hu
  obtain rfl := Option.some.inj h
  refine ⟨_, hu, by simp only [Instr.sameNow, ba_beq], fun e => ?_, fun n e => ?_⟩
  ·rw [ba_ext (eq_of_beq e)]
  ·have := ba_ext (eq_of_beq e)
   subst this
   cases n <;> simp [Instr.sameBits, ba_beq_self]
 ·cases h
theorem findA_ok {P : Program} {S : St} {t : TypeId} {k : Value} {d : TypeDesc} (hd : P.underlying t = some d) : ∀ {es : List (Value × Value)} {es' : List MapEntry} {r : Option Value} (i : Nat), ER S es es' -> findA P t k es = some r ->
  (r = none ∧ Instr.findNow d k es' i = some none) ∨ ∃ v v' j, r = some v ∧ Instr.findNow d k es' i = some (some (j, v')) ∧ VR S v v'
 | [], [], r, i, _, h => by simp only [findA] at h; obtain rfl := Option.some.inj h; exact .inl ⟨rfl, rfl⟩
 | (k1, v1) :: es, e :: es', r, i, he, h => by
  obtain ⟨h1, h2, h3⟩ := he
  simp only [findA] at h
  split at h
  ·rename_i hk
   obtain rfl := Option.some.inj h
   obtain ⟨d', hd', hs, _⟩ := keyEq_ok hk
   rw [hd] at hd'; obtain rfl := Option.some.inj hd'
   exact .inr ⟨v1, e.val, i, rfl, by simp only [Instr.findNow, h1, hs], h2⟩
  ·rename_i hk
   obtain ⟨d', hd', hs, _⟩ := keyEq_ok hk
   rw [hd] at hd'; obtain rfl := Option.some.inj hd'
   have := findA_ok hd (i + 1) h3 h
   simp only [Instr.findNow, h1, hs]
   exact this
  ·cases h
 | [], _ :: _, _, _, he, _ => he.elim
 | _ :: _, [], _, _, he, _ => he.elim
theorem run_findKey {P : Program} {w : World} {t : TypeId} {d : TypeDesc} {k : Value} {es : List MapEntry} {r : Option (Nat × Value)} (hd : P.underlying t = some d) (h : Instr.findNow d k es 0 = some r) : (Instr.findKey t k es).run P w = .ok r w := by
 simp [Instr.findKey, run_underlying hd, h]
theorem keyKind_ok {P : Program} {w : World} {t : TypeId} {k : Value} (h : keyKind P t k = true) (e : Bool) (n : Nat) : (Instr.checkKey e (n + 1) t k).run P w = .ok () w := by
 unfold keyKind at h
 split at h
 ·rename_i hu; simp [Instr.checkKey, run_underlying hu]
 ·rename_i hu; simp [Instr.checkKey, run_underlying hu]
 ·cases h
theorem keyKind_desc {P : Program} {t : TypeId} {k : Value} (h : keyKind P t k = true) : ∃ d, P.underlying t = some d := by
 unfold keyKind at h
 split at h
 ·exact ⟨_, ‹_›⟩
 ·exact ⟨_, ‹_›⟩
 ·cases h
theorem keyKind_vr {P : Program} {S : St} {t : TypeId} {k k' : Value} (h : keyKind P t k = true) (hk : VR S k k') : k' = k := by
 unfold keyKind at h
 split at h
 ·cases hk; rfl
 ·cases hk; rfl
 ·cases h
theorem lookupA_ok {P : Program} {base : Nat} {S : St} (h : SR base S) {t : TypeId} {m k m' k' v : Value} {ok : Bool} (hm : VR S m m') (hk : VR S k k') (hl : lookupA P S.s t m k ok = some v) : Reads P S (Instr.lookup t m' k' ok) v := by
 unfold lookupA at hl
 split at hl
 case h_2 => cases hl
 rename_i kt et hu
 split at hl
 case h_2 => cases hl
 rename_i z hz hkk
 obtain rfl := keyKind_vr hkk hk
 obtain ⟨d, hd⟩ := keyKind_desc hkk
 split at hl
 case isFalse => cases hl
 rename_i hpl
 have hck : ∀ (e : Bool), (Instr.checkKey e 10000 kt k').run P S.w = .ok () S.w := fun e => keyKind_ok hkk e 9999
 have main : ∀ (es' : List MapEntry) (r : Option (Nat × Value)) (rv : Option Value) (arr : Array MapEntry), arr.toList = es' -> Instr.findNow d k' es' 0 = some r -> ((rv = none ∧ r = none) ∨ ∃ u u' j, rv = some u ∧ r = some (j, u') ∧ VR S u u') ->
   (match rv with | some v => some (if ok then Value.tuple #[v, .bool true] else v) | none => some (if ok then Value.tuple #[z, .bool false] else z)) = some v ->
   ((m' = .map none ∧ arr = #[]) ∨ ∃ r clk, m' = .map (some r) ∧ S.w.heap[r]? = some (.map arr clk)) -> Reads P S (Instr.lookup t m' k' ok) v := by
  intro es' r rv arr harr hf hrel hv hget
  have hfk : (Instr.findKey kt k' arr.toList).run P S.w = .ok r S.w := run_findKey hd (by rw [harr]; exact hf)
  rcases hrel with ⟨rfl, rfl⟩ | ⟨u, u', j, rfl, rfl, hu2⟩
  ·simp only at hv
   obtain rfl := Option.some.inj hv
   refine ⟨if ok then .tuple #[z, .bool false] else z, ?_, ?_⟩
   ·rcases hget with ⟨rfl, rfl⟩ | ⟨r, clk, rfl, hr⟩
    ·simp only [Instr.lookup, Sem.run_bind, run_underlying hu, Result.andThen_ok, hck, hfk, run_zeroValue hz, Sem.run_pure]
    ·simp only [Instr.lookup, Sem.run_bind, run_underlying hu, Result.andThen_ok, run_getMap hr, hck, hfk, run_zeroValue hz, Sem.run_pure]
   ·cases ok
    ·exact plainV_ok hpl
    ·exact VRL.tuple (l := [z, .bool false]) (l' := [z, .bool false]) (VRL.cons (plainV_ok hpl) (VRL.cons (.bool _) VRL.nil))
  ·simp only at hv
   obtain rfl := Option.some.inj hv
   refine ⟨if ok then .tuple #[u', .bool true] else u', ?_, ?_⟩
   ·rcases hget with ⟨rfl, rfl⟩ | ⟨r, clk, rfl, hr⟩
    ·simp only [Instr.lookup, Sem.run_bind, run_underlying hu, Result.andThen_ok, hck, hfk, Sem.run_pure]
    ·simp only [Instr.lookup, Sem.run_bind, run_underlying hu, Result.andThen_ok, run_getMap hr, hck, hfk, Sem.run_pure]
   ·cases ok
    ·exact hu2
    ·exact VRL.tuple (l := [u, .bool true]) (l' := [u', .bool true]) (VRL.cons hu2 (VRL.cons (.bool _) VRL.nil))
 split at hl
 ·rename_i v0 hfind
  split at hfind
  ·cases hfind
  ·rename_i r
   cases hm
   split at hfind
   ·rename_i es he
    obtain ⟨_, es', clk, h1, h2⟩ := h.map r es he
    rcases findA_ok hd 0 h2 hfind with ⟨e, _⟩ | ⟨u, u', j, e, hf, hvr⟩
    ·cases e
    ·exact main es'.toList _ (some v0) es' rfl hf (.inr ⟨u, u', j, e, rfl, hvr⟩) hl (.inr ⟨_, clk, rfl, h1⟩)
   ·cases hfind
  ·cases hfind
 ·rename_i hfind
  split at hfind
  ·cases hm
   exact main [] none none #[] rfl rfl (.inl ⟨rfl, rfl⟩) hl (.inl ⟨rfl, rfl⟩)
  ·rename_i r
   cases hm
   split at hfind
   ·rename_i es he
    obtain ⟨_, es', clk, h1, h2⟩ := h.map r es he
    rcases findA_ok hd 0 h2 hfind with ⟨_, hf⟩ | ⟨u, u', j, e, _, _⟩
    ·exact main es'.toList none none es' rfl hf (.inl ⟨rfl, rfl⟩) hl (.inr ⟨_, clk, rfl, h1⟩)
    ·cases e
   ·cases hfind
  ·cases hfind
 ·cases hl
theorem updA_ok {P : Program} {S : St} {t : TypeId} {k v v' : Value} {d : TypeDesc} (hd : P.underlying t = some d) (hv : VR S v v') : ∀ {es l : List (Value × Value)} {es' : List MapEntry} (i : Nat), ER S es es' -> updA P t k v es = some l ->
  (Instr.findNow d k es' i = some none ∧ ∀ born, ER S l (es' ++ [{ key := k, val := v', born }])) ∨
  ∃ j u e, Instr.findNow d k es' i = some (some (i + j, u)) ∧ es'[j]? = some e ∧ (∀ n, Instr.sameBits n e.key k = true) ∧ ER S l (es'.modify j fun e => { e with key := k, val := v' })
 | [], l, [], i, _, h => by
  simp only [updA] at h
  obtain rfl := Option.some.inj h
  exact .inl ⟨rfl, fun born => ⟨rfl, hv, trivial⟩⟩
 | (k1, v1) :: es, l, e :: es', i, he, h => by
  obtain ⟨h1, h2, h3⟩ := he
  simp only [updA] at h
  split at h
  ·rename_i hk
   obtain rfl := Option.some.inj h
   obtain ⟨d', hd', hs, heq, hsb⟩ := keyEq_ok hk
   rw [hd] at hd'; obtain rfl := Option.some.inj hd'
   refine .inr ⟨0, e.val, e, by simp only [Instr.findNow, h1, hs, Nat.add_zero], rfl, fun n => by rw [h1]; exact hsb n rfl, ?_⟩
   simp only [List.modify_zero_cons]
   exact ⟨heq rfl, hv, h3⟩
  ·rename_i hk
   obtain ⟨d', hd', hs, heq, hsb⟩ := keyEq_ok hk
   rw [hd] at hd'; obtain rfl := Option.some.inj hd'
   split at h
   ·rename_i l2 hl2
    obtain rfl := Option.some.inj h
    rcases updA_ok hd hv (i + 1) h3 hl2 with ⟨q1, q2⟩ | ⟨j, u, e2, q1, q2, q3, q4⟩
    ·exact .inl ⟨by simp only [Instr.findNow, h1, hs]; exact q1, fun born => ⟨h1, h2, q2 born⟩⟩
    ·refine .inr ⟨j + 1, u, e2, by simp only [Instr.findNow, h1, hs]; rw [q1]; congr 3; omega, by simpa using q2, q3, ?_⟩
     simp only [List.modify_succ_cons]
     exact ⟨h1, h2, q4⟩
   ·cases h
  ·cases h
 | [], _, _ :: _, _, he, _ => he.elim
 | _ :: _, _, [], _, he, _ => he.elim
def DoesU (P : Program) (base : Nat) (S : St) (m : Sem Unit) (s' : ASt) : Prop := ∃ T, T.s = s' ∧ m.run P S.w = .ok () T.w ∧ Good base S T
theorem run_setMap {P : Program} {w : World} {r : Nat} {es : Array MapEntry} {clk : Nat} (h : w.heap[r]? = some (.map es clk)) (o : Obj) : (setObj r o).run P w = .ok () { w with heap := w.heap.setIfInBounds r o } := by
 simp only [setObj, Sem.run, h]
theorem setObj_good {base : Nat} {S : St} (h : SR base S) {r : Nat} {es l : List (Value × Value)} (he : S.s.map? r = some es) {es' es2 : Array MapEntry} {clk clk2 : Nat} (h1 : S.w.heap[S.e.mp r]? = some (.map es' clk)) (h2 : ER S l es2.toList) :
  Good base S ⟨S.s.put r (.map l), S.e, { S.w with heap := S.w.heap.setIfInBounds (S.e.mp r) (.map es2 clk2) }⟩ := by
 have hlt := lt_of_cells h1
 have hb : S.s.blk? r = none := by
  cases hq : S.s.blk? r with
  | none => rfl
  | some b => exact (blk_not_map hq he).elim
 refine SR.changeMap h r S.s.next l S.e.mp _ (h.mlt he) (Nat.le_refl _) h.room (.inl (h.mlt he)) hb (fun _ _ => rfl) (fun _ _ => rfl) (fun k hk _ => by simp only; rw [Array.getElem?_setIfInBounds_ne (Ne.symm hk)]) ?_ (h.map r es he).1 ?_ ?_ ?_
 ·intro arr E fr hk; rw [h1] at hk; cases hk
 ·exact ⟨es2, clk2, by simp only; rw [Array.getElem?_setIfInBounds_self_of_lt hlt], h2⟩
 ·intro r' es'' hr hq e
  exact hr (h.mapInj r' r es'' es hq he e)
 ·exact ⟨rfl, rfl, rfl, by simp, fun k hk => by simp only; rw [Array.getElem?_setIfInBounds_ne (by have := (h.map r es he).1; omega)]⟩
theorem mapUpdateA_ok {P : Program} {base : Nat} {S : St} (h : SR base S) {t : TypeId} {m k v m' k' v' : Value} {s' : ASt} (hm : VR S m m') (hk : VR S k k') (hv : VR S v v') (hu : mapUpdateA P S.s t m k v = some s') : DoesU P base S (Instr.mapUpdate t m' k' v') s' := by
 unfold mapUpdateA at hu
 split at hu
 case h_2 => cases hu
 rename_i kt et r hut
 cases hm
 split at hu
 case h_2 => cases hu
 rename_i es he hkk
 obtain rfl := keyKind_vr hkk hk
 obtain ⟨d, hd⟩ := keyKind_desc hkk
 have hck : ∀ (e : Bool), (Instr.checkKey e 10000 kt k').run P S.w = .ok () S.w := fun e => keyKind_ok hkk e 9999
 split at hu
 case h_2 => cases hu
 rename_i l hl
 obtain rfl := Option.some.inj hu
 obtain ⟨_, es', clk, h1, h2⟩ := h.map r es he
 rcases updA_ok hd hv 0 h2 hl with ⟨q1, q2⟩ | ⟨j, u, e, q1, q2, q3, q4⟩
 ·refine ⟨_, rfl, ?_, setObj_good h he h1 (es2 := es'.push { key := k', val := v', born := clk }) (clk2 := clk + 1) (by rw [Array.toList_push]; exact q2 clk)⟩
  simp only [Instr.mapUpdate, Sem.run_bind, run_underlying hut, Result.andThen_ok, run_getMap h1, hck, run_findKey hd q1, run_setMap h1]
 ·refine ⟨_, rfl, ?_, setObj_good h he h1 (es2 := es'.modify j fun e => { e with key := k', val := v' }) (clk2 := clk) (by rw [Array.toList_modify]; exact q4)⟩
  rw [Nat.zero_add] at q1
  have hkey : ((es'[j]?).map (·.key)).getD k' = e.key := by
   have : es'[j]? = some e := by rw [← Array.getElem?_toList]; exact q2
   simp [this]
  have hstay : (Instr.keyThatStays e.key k').run P S.w = .ok k' S.w := by simp [Instr.keyThatStays, q3]
  simp only [Instr.mapUpdate, Sem.run_bind, run_underlying hut, Result.andThen_ok, run_getMap h1, hck, run_findKey hd q1, hkey, hstay, run_setMap h1]
theorem storeAt_ok {P : Program} {base : Nat} {S : St} (h : SR base S) {i off c : Nat} {a1 : Addr} (hr : RefOk S i off c a1) {vs vs' : List Value} (hv : VRL S vs vs') {s' : ASt} (hs : S.s.storeAt i off c vs = some s') : DoesU P base S (storeCells a1 vs') s' := by
 unfold ASt.storeAt at hs
 split at hs
 case h_2 => cases hs
 rename_i b hb
 split at hs
 case isFalse => cases hs
 rename_i hc
 simp only [Bool.and_eq_true, Nat.ble_eq, Nat.beq_eq] at hc
 obtain ⟨⟨⟨hown, hlow⟩, hcur⟩, hok⟩ := hc
 split at hs
 ·cases hs
 rename_i hnil
 split at hs
 case h_2 => cases hs
 rename_i l hl
 obtain rfl := Option.some.inj hs
 have hlive : Live b c := ⟨hlow, by omega⟩
 obtain rfl := hr.addr hb hlive
 have hokl := hv.okCell hok
 obtain ⟨hg, arr, E, fr, h1, h2, h3⟩ := Good.store h hb hown hlive hcur hl hv (by simp)
 refine ⟨_, rfl, ?_, hg⟩
 have := run_storeCells P (S.e.loc i c).1 ((S.e.loc i c).2 + off) vs' S.w 0 arr E fr h1 h2 (by omega) hokl
 exact this
theorem cutSrc_ok {P : Program} {S : St} {y y' y2 : Value} {d k : Nat} (hy : VR S y y') (hc : cutSrc d y = some (k, y2)) :
  ∃ y2' m, VR S y2 y2' ∧ (∀ W : World, (Builtin.lenOf y').run P W = .ok m W) ∧ Nat.min m d = k ∧ ∀ z, Builtin.firstCells z k y' = Builtin.firstCells z k y2' := by
 unfold cutSrc at hc
 split at hc
 ·rename_i a n c
  injection hc with hc; injection hc with e1 e2; subst e1; subst e2
  cases hy with
  | sliceNil => exact ⟨_, 0, by rw [Nat.zero_min]; exact .sliceNil, fun W => by simp [Builtin.lenOf], rfl, fun z => rfl⟩
  | slice i off _ _ a' cap h0 hz hr => exact ⟨.slice (some a') (min n d) cap, n, .slice i off _ c a' cap (by omega) hz hr, fun W => by simp [Builtin.lenOf], rfl, fun z => rfl⟩
 ·rename_i b
  injection hc with hc; injection hc with e1 e2; subst e1; subst e2
  cases hy
  refine ⟨_, b.data.toList.length, .string _, fun W => by rw [← size_data]; simp [Builtin.lenOf], rfl, fun z => ?_⟩
  simp only [Builtin.firstCells]
  congr 2
  rw [← Array.toList_inj]
  simp [List.take_take]
 ·cases hc
theorem clearA_ok {P : Program} {base : Nat} {S : St} (h : SR base S) {t ty : TypeId} {x x' v : Value} {s' : ASt} (hx : VR S x x') (ha : clearA P S.s t x = some (v, s')) {ts : Array TypeId} {aS : Array Value}
  (h0 : ts[0]? = some t) (a0 : aS[0]? = some x') : Does P base S (Builtin.clear_ ts ty aS) v s' := by
 unfold clearA at ha
 split at ha
 ·rename_i e n c hu
  cases hx
  injection ha with ha; injection ha with e1 e2; subst e1; subst e2
  exact ⟨S, _, rfl, by simp only [Builtin.clear_, h0, a0, Sem.run_bind, run_underlying hu, Result.andThen_ok]; rfl, VR.undef' S, Good.refl h⟩
 ·rename_i e i off n c hu
  cases hx with
  | slice _ _ _ _ a cap hlc hz hr =>
  split at ha
  ·injection ha with ha; injection ha with e1 e2; subst e1; subst e2
   exact ⟨S, _, rfl, by simp only [Builtin.clear_, h0, a0, Sem.run_bind, run_underlying hu, Result.andThen_ok]; rfl, VR.undef' S, Good.refl h⟩
  ·rename_i m
   split at ha
   case h_2 => cases ha
   rename_i z zv hsz hzv
   split at ha
   case isFalse => cases ha
   rename_i hc
   simp only [Bool.and_eq_true, Nat.beq_eq, Nat.blt_eq] at hc
   obtain ⟨⟨hpl, hzn⟩, hzpos⟩ := hc
   split at ha
   case h_2 => cases ha
   rename_i s1 hst
   injection ha with ha; injection ha with e1 e2; subst e1; subst e2
   have hcap : 0 < cap := by omega
   have hzs : zv.cells.size = z := by simpa using hzn
   have hvn : VRL S (repeatL zv.cells.toList (m + 1)) (Builtin.zeroCells zv.cells (m + 1)).toList := by
    refine ⟨by rw [repeatL_length, hzn]; simp [Builtin.zeroCells, hzs], fun p hp => ?_⟩
    rw [repeatL_length, hzn] at hp
    have := zeros_ok (S := S) hpl hzn (m + 1) ((m + 1) * zv.cells.size) (by rw [hzs]; exact Nat.le_refl _) p hp
    exact this
   obtain ⟨T, hT, hstore, hg⟩ := storeAt_ok (P := P) h (hr hcap).1 hvn hst
   refine ⟨T, _, hT, ?_, VR.undef' T, hg⟩
   simp only [Builtin.clear_, h0, a0, Sem.run_bind, run_underlying hu, Result.andThen_ok, run_zeroValue hzv, hstore]
   rfl
 ·cases ha
theorem copyA_ok {P : Program} {base : Nat} {S : St} (h : SR base S) {dT ty : TypeId} {x y x' y' v : Value} {s' : ASt} (hx : VR S x x') (hy : VR S y y') (ha : copyA P S.s dT x y = some (v, s')) {ts : Array TypeId} {aS : Array Value}
  (h0 : ts[0]? = some dT) (a0 : aS[0]? = some x') (a1 : aS[1]? = some y') : Does P base S (Builtin.copy_ ts ty aS) v s' := by
 unfold copyA at ha
 split at ha
 case h_2 => cases ha
 rename_i e a dLen c hu
 split at ha
 case h_2 => cases ha
 rename_i z k y2 hz hcut
 obtain ⟨y2', m, hy2, hlen, hmin, hfirst⟩ := cutSrc_ok (P := P) hy hcut
 split at ha
 ·injection ha with ha; injection ha with e1 e2; subst e1; subst e2
  have hf : (Builtin.firstCells z 0 y2').run P S.w = .ok #[] S.w := by
   cases hy2 with
   | sliceNil => simp [Builtin.firstCells]
   | slice => simp [Builtin.firstCells, loadCells, loadCellsFrom]
   | string => simp [Builtin.firstCells]
   | _ => exfalso; unfold cutSrc at hcut; split at hcut <;> simp at hcut
  have hmin' : Nat.min m dLen = 0 := hmin
  refine ⟨S, .int .i64 0, rfl, ?_, .int _ _, Good.refl h⟩
  cases hx with
  | sliceNil => simp only [Builtin.copy_, h0, a0, a1, Sem.run_bind, run_underlying hu, Result.andThen_ok, hlen, hmin', run_sizeOf hz, hfirst, hf]; simp [goInt]
  | slice => simp only [Builtin.copy_, h0, a0, a1, Sem.run_bind, run_underlying hu, Result.andThen_ok, hlen, hmin', run_sizeOf hz, hfirst, hf]; simp [storeCells, goInt]
 ·rename_i k
  split at ha
  case h_2 => cases ha
  rename_i k2 new i off hs
  split at ha
  case h_2 => cases ha
  rename_i t hk hst
  have hk' : k2 = k + 1 := Nat.eq_of_beq_eq_true hk
  subst hk'
  injection ha with ha; injection ha with e1 e2; subst e1; subst e2
  obtain ⟨new', hvn, _, hrun⟩ := src_ok (P := P) h hy2 hs
  cases hx with
  | slice _ _ _ _ a' cap h0' hz' hr =>
  have hcap : 0 < cap := by have : k + 1 ≤ dLen := by rw [← Nat.succ_eq_add_one, ← hmin]; exact Nat.min_le_right _ _
                            omega
  obtain ⟨T, hT, hstore, hg⟩ := storeAt_ok (P := P) h (hr hcap).1 hvn hst
  refine ⟨T, .int .i64 (k + 1), hT, ?_, .int _ _, hg⟩
  simp only [Builtin.copy_, h0, a0, a1, Sem.run_bind, run_underlying hu, Result.andThen_ok, hlen, hmin, run_sizeOf hz, hfirst, (hrun S.w rfl).2, hstore]
  simp [goInt]
end Go.Cl
namespace Go.Cl
open Go.RowKit
theorem run_v {P : Program} {w w' : World} {s : Sem Value} {v : Value} (h : s.run P w = .ok v w') : (do pure (Next.value (← s)) : Sem Next).run P w = .ok (.value v) w' := by
 simp [h]
theorem run_u {P : Program} {w w' : World} {s : Sem Unit} (h : s.run P w = .ok () w') : (do s; pure Next.skip : Sem Next).run P w = .ok .skip w' := by
 simp [h]
def Looks (P : Program) (S : St) (a : Act) (o : Oper) (s : ASt) (r : Option AR) : Prop :=
 ∀ x, r = some x -> ∃ v, x = .val v s ∧ ∃ v', VR S v v' ∧ (execOp a.eval o).run P S.w = .ok (.value v') S.w
theorem looks_of {P : Program} {S : St} {a : Act} {o : Oper} {m : Sem Value} {r : Option Value} (he : execOp a.eval o = (do pure (Next.value (← m)))) (h : ∀ v, r = some v -> Reads P S m v) : Looks P S a o S.s (vOf S.s r) := by
 intro x hx
 cases r with
 | none => simp [vOf] at hx
 | some v =>
  simp only [vOf] at hx
  obtain rfl := Option.some.inj hx
  obtain ⟨v', h1, h2⟩ := h v rfl
  exact ⟨v, rfl, v', h2, by rw [he]; exact run_v h1⟩
theorem looks_none {P : Program} {S : St} {a : Act} {o : Oper} : Looks P S a o S.s none := fun x hx => by cases hx
theorem toList_get0 {α : Type} {a : Array α} {x : α} {r : List α} (h : a.toList = x :: r) : a[0]? = some x := by rw [← Array.getElem?_toList, h]; rfl
theorem toList_get1 {α : Type} {a : Array α} {x y : α} {r : List α} (h : a.toList = x :: y :: r) : a[1]? = some y := by rw [← Array.getElem?_toList, h]; rfl
theorem aop_quiet {P : Program} {base : Nat} {S : St} (h : SR base S) {f : AFr} {a : Act} (hf : FR S f a) {o : Oper} (hq : quietOp P o = true) : Looks P S a o S.s (aop P o f S.s) := by
 obtain ⟨dst, op, type, pos, after, guard⟩ := o
 cases op <;> try (simp [quietOp] at hq; done)
 case move x =>
  refine looks_of (m := pure (a.eval x)) (by simp [execOp]) (fun v hv => ⟨_, by simp, evalA_ok hf hv⟩)
 case assign x =>
  refine looks_of (m := pure (a.eval x)) (by simp [execOp]) (fun v hv => ⟨_, by simp, evalA_ok hf hv⟩)
 case pick c x y =>
  intro r hr
  simp only [aop] at hr
  split at hr
  ·rename_i t u v h1 h2 h3
   obtain rfl := Option.some.inj hr
   have hc := evalA_ok hf h1
   have hx := evalA_ok hf h2
   have hy := evalA_ok hf h3
   generalize hcv : a.eval c = cv at hc
   cases hc
   refine ⟨_, rfl, if t then a.eval x else a.eval y, by cases t <;> assumption, ?_⟩
   simp [execOp, hcv, asBool]
  ·cases hr
 case build t ps =>
  simp only [aop]
  split
  ·rename_i l hl
   refine looks_of (m := Instr.build t (ps.map fun (i, x) => (i, a.eval x))) rfl (fun v hv => ?_)
   have := buildA_ok (P := P) (partsA_ok hf hl) hv
   have e : (ps.map fun (x : Nat × Operand) => (x.1, a.eval x.2)) = (ps.toList.map fun x => (x.1, a.eval x.2)).toArray := by rw [← Array.toList_inj]; simp
   rw [e]; exact this
  ·exact looks_none
 case load t x =>
  simp only [aop]
  split
  ·rename_i u hu
   exact looks_of rfl (fun v hv => loadA_ok h (evalA_ok hf hu) hv)
  ·exact looks_none
 case nilCheck x =>
  intro r hr
  simp only [aop] at hr
  split at hr
  ·rename_i p hp
   obtain rfl := Option.some.inj hr
   have hx := evalA_ok hf hp
   refine ⟨_, rfl, a.eval x, hx, ?_⟩
   generalize hcv : a.eval x = cv at hx
   cases hx <;> simp [execOp, hcv]
  ·rename_i g aS bs hp
   obtain rfl := Option.some.inj hr
   have hx := evalA_ok hf hp
   refine ⟨_, rfl, a.eval x, hx, ?_⟩
   generalize hcv : a.eval x = cv at hx
   cases hx
   simp [execOp, hcv]
  ·cases hr
 case binOp op t x y yt =>
  simp only [aop]
  split
  ·rename_i u v hu hv
   exact looks_of rfl (fun r hr => binA_ok (evalA_ok hf hu) (evalA_ok hf hv) hr)
  ·exact looks_none
 case unOp op t x =>
  simp only [aop]
  split
  ·rename_i u hu
   exact looks_of rfl (fun r hr => unA_ok (evalA_ok hf hu) hr)
  ·exact looks_none
 case convert s d x =>
  simp only [aop]
  split
  ·rename_i u hu
   intro r hr
   cases hc : convA P S.s s d u with
   | none => rw [hc] at hr; simp [pOf] at hr
   | some p =>
    obtain ⟨v, s'⟩ := p
    rw [hc] at hr
    simp only [pOf] at hr
    obtain rfl := Option.some.inj hr
    have hnq : isSliceD (P.underlying d) = false := by
     simp only [quietOp] at hq
     unfold isSliceD
     cases hd : P.underlying d with
     | none => rfl
     | some e => rw [hd] at hq; cases e <;> first | rfl | cases hq
    obtain ⟨rfl, v', h1, h2⟩ := convA_look h (evalA_ok hf hu) hc hnq
    exact ⟨v, rfl, v', h2, run_v h1⟩
  ·exact looks_none
 case makeFunc fn aS bs =>
  intro r hr
  cases fn <;> simp only [aop] at hr <;> try (cases hr; done)
  rename_i g
  split at hr
  ·rename_i l m h1 h2
   obtain rfl := Option.some.inj hr
   have hl := evalAll_ok hf h1
   have hm := evalAll_ok hf h2
   refine ⟨_, rfl, .func (.func g) (aS.map a.eval) (bs.map a.eval), ?_, by simp [execOp, Instr.makeFunc]⟩
   refine .func g _ _ _ _ (by simpa using hl.1) (by simpa using hm.1) (fun i hi => ?_) (fun i hi => ?_)
   ·simpa using hl.2 i (by simpa using hi)
   ·simpa using hm.2 i (by simpa using hi)
  ·cases hr
 case makeInterface t x =>
  intro r hr
  simp only [aop] at hr
  split at hr
  ·cases hr
  ·rename_i d v hni hd hv
   obtain rfl := Option.some.inj hr
   refine ⟨_, rfl, .iface t (a.eval x), .iface t _ _ (evalA_ok hf hv), ?_⟩
   cases d <;> first
    | exact absurd rfl (hni _)
    | simp [execOp, Instr.makeInterface, run_underlying hd]
  ·cases hr
 case slice t x lo hi mx =>
  simp only [aop]
  split
  ·rename_i u l h' m h1 h2 h3 h4
   refine looks_of rfl (fun r hr => sliceA_ok h (evalA_ok hf h1) ?_ ?_ ?_ hr)
   ·rcases optA_ok hf h2 with ⟨q1, q2⟩ | ⟨v, v', q1, q2, q3⟩
    ·exact .inl ⟨q1, q2⟩
    ·exact .inr ⟨v, v', q1, q2, q3⟩
   ·rcases optA_ok hf h3 with ⟨q1, q2⟩ | ⟨v, v', q1, q2, q3⟩
    ·exact .inl ⟨q1, q2⟩
    ·exact .inr ⟨v, v', q1, q2, q3⟩
   ·rcases optA_ok hf h4 with ⟨q1, q2⟩ | ⟨v, v', q1, q2, q3⟩
    ·exact .inl ⟨q1, q2⟩
    ·exact .inr ⟨v, v', q1, q2, q3⟩
  ·exact looks_none
 case fieldAddr t x i =>
  simp only [aop]
  split
  ·rename_i u hu
   exact looks_of rfl (fun r hr => fieldAddrA_ok (evalA_ok hf hu) hr)
  ·exact looks_none
 case field t x i =>
  simp only [aop]
  split
  ·rename_i u hu
   exact looks_of rfl (fun r hr => fieldA_ok (evalA_ok hf hu) hr)
  ·exact looks_none
 case indexAddr t x y =>
  simp only [aop]
  split
  ·rename_i u v hu hv
   exact looks_of rfl (fun r hr => indexAddrA_ok (evalA_ok hf hu) (evalA_ok hf hv) hr)
  ·exact looks_none
 case index t x y =>
  simp only [aop]
  split
  ·rename_i u v hu hv
   exact looks_of rfl (fun r hr => indexA_ok (evalA_ok hf hu) (evalA_ok hf hv) hr)
  ·exact looks_none
 case lookup t x y ok =>
  simp only [aop]
  split
  ·rename_i u v hu hv
   exact looks_of rfl (fun r hr => lookupA_ok h (evalA_ok hf hu) (evalA_ok hf hv) hr)
  ·exact looks_none
 case extract x i =>
  simp only [aop]
  split
  ·rename_i u hu
   exact looks_of rfl (fun r hr => extractA_ok (evalA_ok hf hu) hr)
  ·exact looks_none
 case call c =>
  obtain ⟨callee, args, ts⟩ := c
  simp only [aop]
  split
  case h_2 => exact looks_none
  rename_i l hl
  have hvl := evalAll_ok hf hl
  cases callee with
  | value x => simp [quietOp] at hq
  | invoke x m => simp [quietOp] at hq
  | builtin b =>
   simp only
   cases b <;> try (simp [quietOp] at hq; done)
   case len =>
    cases ht : ts.toList with
    | nil => exact looks_none
    | cons t tr =>
     cases l with
     | nil => exact looks_none
     | cons x xr =>
      obtain ⟨x', r', e, hx', _⟩ := hvl.cons_inv
      refine looks_of (m := Builtin.len_ ts type (args.map a.eval)) rfl (fun v hv => lenA_ok h hx' hv (toList_get0 ht) ?_)
      exact toList_get0 (by rw [Array.toList_map]; exact e)
   case min =>
    cases l with
    | nil => exact looks_none
    | cons x xr =>
     obtain ⟨x', r', e, hx', hr'⟩ := hvl.cons_inv
     refine looks_of (m := Builtin.min_ ts type (args.map a.eval)) rfl (fun v hv => ?_)
     obtain ⟨v', k1, k2⟩ := foldA_ok (P := P) minA Builtin.min2 minA_ok hx' hr' hv
     exact ⟨v', by simp only [Builtin.min_, Array.toList_map, e]; exact k1, k2⟩
   case max =>
    cases l with
    | nil => exact looks_none
    | cons x xr =>
     obtain ⟨x', r', e, hx', hr'⟩ := hvl.cons_inv
     refine looks_of (m := Builtin.max_ ts type (args.map a.eval)) rfl (fun v hv => ?_)
     obtain ⟨v', k1, k2⟩ := foldA_ok (P := P) maxA Builtin.max2 maxA_ok hx' hr' hv
     exact ⟨v', by simp only [Builtin.max_, Array.toList_map, e]; exact k1, k2⟩
theorem room_of_slice {s : ASt} {cs : List Value} {len esz : Nat} {r : Value × ASt} (h : newSlice s cs len esz = some r) : s.room = true := by
 unfold newSlice at h
 split at h
 ·assumption
 ·cases h
theorem room_of_ptr {s : ASt} {cs : List Value} {esz : Nat} {r : Value × ASt} (h : newPtr s cs esz = some r) : s.room = true := by
 unfold newPtr at h
 split at h
 ·assumption
 ·cases h
theorem room_of_build {P : Program} {s : ASt} {t : TypeId} {n : Nat} {ps : List (Nat × Value)} {r : Value × ASt} (h : buildSliceA P s t n ps = some r) : s.room = true := by
 unfold buildSliceA at h
 split at h
 ·split at h
  ·split at h
   ·split at h
    ·exact room_of_slice h
    ·cases h
   ·cases h
  ·cases h
 ·cases h
theorem room_of_make {P : Program} {s : ASt} {t : TypeId} {x y : Value} {r : Value × ASt} (h : makeSliceA P s t x y = some r) : s.room = true := by
 unfold makeSliceA at h
 split at h
 ·split at h
  ·split at h
   ·exact room_of_slice h
   ·cases h
  ·cases h
 ·cases h
theorem room_of_conv {P : Program} {s : ASt} {a b : TypeId} {x : Value} {r : Value × ASt} (h : convA P s a b x = some r) (ht : textConv P a b = true) : s.room = true := by
 unfold textConv at ht
 split at ht
 case h_2 => cases ht
 rename_i e0 hsq hdq
 unfold convA at h
 split at h
 ·rename_i hs hd; rw [hdq] at hd; cases hd
 ·rename_i hs hd; rw [hdq] at hd; cases hd
 ·split at h
  ·exact room_of_slice h
  ·cases h
 ·rename_i hs hd; rw [hsq] at hs; cases hs
 ·rename_i hs hd; rw [hdq] at hd; cases hd
 ·rename_i hs hd; rw [hdq] at hd; cases hd
 ·cases h
def Steps1 (P : Program) (base : Nat) (S : St) (a : Act) (o : Oper) : AR -> Prop
 | .val v s' => ∃ T v', T.s = s' ∧ VR T v v' ∧ Good base S T ∧ ((execOp a.eval o).run P S.w = .ok (.value v') T.w ∨ ((execOp a.eval o).run P S.w = .ok .skip T.w ∧ v' = undef))
 | .call g args => ∃ args' : Array Value, VRL S args args'.toList ∧ execOp a.eval o = callFunc g args'
theorem steps_of {P : Program} {base : Nat} {S : St} {a : Act} {o : Oper} {m : Sem Value} {r : Option (Value × ASt)} (he : execOp a.eval o = (do pure (Next.value (← m)))) (h : ∀ v s', r = some (v, s') -> Does P base S m v s') :
  ∀ x, pOf r = some x -> Steps1 P base S a o x := by
 intro x hx
 cases r with
 | none => simp [pOf] at hx
 | some p =>
  obtain ⟨v, s'⟩ := p
  simp only [pOf] at hx
  obtain rfl := Option.some.inj hx
  obtain ⟨T, v', h1, h2, h3, h4⟩ := h v s' rfl
  exact ⟨T, v', h1, h3, h4, .inl (by rw [he]; exact run_v h2)⟩
theorem steps_ofU {P : Program} {base : Nat} {S : St} {a : Act} {o : Oper} {m : Sem Unit} {r : Option ASt} (he : execOp a.eval o = (do m; pure Next.skip)) (h : ∀ s', r = some s' -> DoesU P base S m s') :
  ∀ x, uOf r = some x -> Steps1 P base S a o x := by
 intro x hx
 cases r with
 | none => simp [uOf] at hx
 | some s' =>
  simp only [uOf] at hx
  obtain rfl := Option.some.inj hx
  obtain ⟨T, h1, h2, h3⟩ := h s' rfl
  exact ⟨T, undef, h1, VR.undef' T, h3, .inr ⟨by rw [he]; exact run_u h2, rfl⟩⟩
theorem storeA_ok {P : Program} {base : Nat} {S : St} (h : SR base S) {t : TypeId} {a v a' v' : Value} {s' : ASt} (ha : VR S a a') (hv : VR S v v') (hs : storeA P S.s t a v = some s') : DoesU P base S (Instr.storeAt t a' v') s' := by
 unfold storeA at hs
 split at hs
 ·rename_i i off c hn
  obtain ⟨a1, rfl, hr⟩ := ha.ptr_inv
  split at hs
  ·rename_i hlen
   obtain rfl := Option.some.inj hs
   have hlen' : v.cells.toList.length = 0 := by simpa [Nat.beq_eq] using hlen
   have hcv := hv.cells
   have hsz : v'.cells.size = 0 := by have := hcv.1; rw [hlen'] at this; simpa using this.symm
   have hnil : v'.cells.toList = [] := by simpa using hsz
   refine ⟨S, rfl, ?_, Good.refl h⟩
   simp [Instr.storeAt, Instr.sureAddr, storeVar, run_sizeOf hn, hsz]
   rw [hnil]
   rfl
  ·cases hs
 ·rename_i i off c n hne hn
  obtain ⟨a1, rfl, hr⟩ := ha.ptr_inv
  split at hs
  ·rename_i hlen
   have hlen' : v.cells.toList.length = n := by simpa [Nat.beq_eq] using hlen
   unfold ASt.storeAt at hs
   split at hs
   ·rename_i b hb
    split at hs
    ·rename_i hc
     simp only [Bool.and_eq_true, Nat.ble_eq, Nat.beq_eq] at hc
     obtain ⟨⟨⟨hown, hlow⟩, hcur⟩, hok⟩ := hc
     split at hs
     ·cases hs
     rename_i hnil
     split at hs
     ·rename_i l hl
      obtain rfl := Option.some.inj hs
      have hlive : Live b c := ⟨hlow, by omega⟩
      obtain rfl := hr.addr hb hlive
      have hcv := hv.cells
      have hsz : v'.cells.size = n := by have := hcv.1; simp at this hlen'; omega
      have hokl := hcv.okCell hok
      obtain ⟨hg, arr, E, fr, h1, h2, h3⟩ := Good.store h hb hown hlive hcur hl hcv (by rw [hnil]; simp)
      refine ⟨_, rfl, ?_, hg⟩
      have := run_storeCells P (S.e.loc i c).1 ((S.e.loc i c).2 + off) v'.cells.toList S.w 0 arr E fr h1 h2 (by omega) hokl
      simp [Instr.storeAt, Instr.sureAddr, storeVar, run_sizeOf hn, hsz, this]
     ·cases hs
    ·cases hs
   ·cases hs
  ·cases hs
 ·cases hs
theorem aop_ok {P : Program} {base : Nat} {S : St} (h : SR base S) {f : AFr} {a : Act} (hf : FR S f a) {o : Oper} : ∀ x, aop P o f S.s = some x -> Steps1 P base S a o x := by
 by_cases hq : quietOp P o = true
 ·intro x hx
  obtain ⟨v, rfl, v', h1, h2⟩ := aop_quiet h hf hq x hx
  exact ⟨S, v', rfl, h1, Good.refl h, .inl h2⟩
 obtain ⟨dst, op, type, pos, after, guard⟩ := o
 cases op <;> try (simp [quietOp] at hq; done)
 all_goals try (intro x hx; simp [aop] at hx; done)
 case alloc e =>
  simp only [aop]
  intro x hx
  split at hx
  ·rename_i z hz
   split at hx
   ·rename_i hp
    exact steps_of rfl (fun v s' hv => (alloc_at h (Spot.self h (room_of_ptr hv)) hz hp hv).does) x hx
   ·cases hx
  ·cases hx
 case box e y =>
  simp only [aop]
  intro x hx
  split at hx
  ·rename_i u hu
   exact steps_of rfl (fun v s' hv => (box_at h (Spot.self h (room_of_ptr hv)) (evalA_ok hf hu) hv).does) x hx
  ·cases hx
 case buildSlice t n ps =>
  simp only [aop]
  intro x hx
  split at hx
  ·rename_i l hl
   refine steps_of (m := Instr.buildSlice t n (ps.map fun (i, x) => (i, a.eval x))) rfl (fun v s' hv => ?_) x hx
   have := (buildSliceA_at (P := P) h (Spot.self h (room_of_build hv)) (partsA_ok hf hl) hv).does
   have e : (ps.map fun (x : Nat × Operand) => (x.1, a.eval x.2)) = (ps.toList.map fun x => (x.1, a.eval x.2)).toArray := by rw [← Array.toList_inj]; simp
   rw [e]; exact this
  ·cases hx
 case store t y z =>
  simp only [aop]
  intro x hx
  split at hx
  ·rename_i u v hu hv
   exact steps_ofU rfl (fun s' hs => storeA_ok h (evalA_ok hf hu) (evalA_ok hf hv) hs) x hx
  ·cases hx
 case convert s d y =>
  simp only [aop]
  intro x hx
  split at hx
  ·rename_i u hu
   refine steps_of rfl (fun v s' hv => ?_) x hx
   cases htc : textConv P s d with
   | true => exact (textConv_at h (Spot.self h (room_of_conv hv htc)) (evalA_ok hf hu) hv htc).does
   | false =>
    refine convA_mark h (evalA_ok hf hu) hv ?_ htc
    simp only [quietOp] at hq
    unfold isSliceD
    cases hd : P.underlying d with
    | none => rw [hd] at hq; exact absurd rfl hq
    | some e => rw [hd] at hq; cases e <;> first | rfl | exact absurd rfl hq
  ·cases hx
 case makeMap t r =>
  cases r with
  | some _ => intro x hx; simp [aop] at hx
  | none =>
   simp only [aop]
   intro x hx
   split at hx
   ·rename_i hr
    obtain rfl := Option.some.inj hx
    have hg := Good.newMap h hr
    have hlt := room_lt hr
    refine ⟨_, .map (some S.w.heap.size), rfl, ?_, hg, .inl (by simp [execOp, Instr.makeMap, newObj, Sem.run])⟩
    have := VR.map (S := ⟨S.s.new (.map []), ⟨S.e.loc, fun r => if r = S.s.next then S.w.heap.size else S.e.mp r⟩, S.w.alloc (.map #[] 0)⟩) S.s.next ⟨[], by simp only [ASt.new, ASt.map?, Tr.get_set_self _ _ _ _ (deep (show 0 < 16000001 by omega))]⟩
    simpa using this
   ·cases hx
 case makeSlice t y z =>
  simp only [aop]
  intro x hx
  split at hx
  ·rename_i u v hu hv
   exact steps_of rfl (fun r s' hr => (makeSliceA_at h (Spot.self h (room_of_make hr)) (evalA_ok hf hu) (evalA_ok hf hv) hr).does) x hx
  ·cases hx
 case mapUpdate t y z u =>
  simp only [aop]
  intro x hx
  split at hx
  ·rename_i m k v h1 h2 h3
   exact steps_ofU rfl (fun s' hs => mapUpdateA_ok h (evalA_ok hf h1) (evalA_ok hf h2) (evalA_ok hf h3) hs) x hx
  ·cases hx
 case call c =>
  obtain ⟨callee, args, ts⟩ := c
  simp only [aop]
  intro x hx
  split at hx
  case h_2 => cases hx
  rename_i l hl
  have hvl := evalAll_ok hf hl
  cases callee with
  | invoke y m => cases hx
  | value y =>
   simp only at hx
   split at hx
   ·rename_i g aS bs hy
    obtain rfl := Option.some.inj hx
    obtain ⟨as', bs', e, h1, h2⟩ := (evalA_ok hf hy).func_inv
    refine ⟨as' ++ args.map a.eval ++ bs', ?_, ?_⟩
    ·simp only [Array.toList_append, Array.toList_map]
     exact (h1.append hvl).append h2
    ·simp [execOp, resolve, e, Deferred.ofValue, invoke]
   ·cases hx
  | builtin b =>
   simp only at hx
   cases b <;> try (simp [quietOp] at hq; done)
   all_goals try (simp [builtinA] at hx; done)
   case append =>
    cases ht : ts.toList with
    | nil => rw [ht] at hx; cases hx
    | cons t tr =>
     cases tr with
     | nil => rw [ht] at hx; cases hx
     | cons t2 tr2 =>
      cases l with
      | nil => rw [ht] at hx; cases hx
      | cons y yr =>
       cases yr with
       | nil => rw [ht] at hx; cases hx
       | cons z zr =>
        rw [ht] at hx
        obtain ⟨y', r', e, hy', hr'⟩ := hvl.cons_inv
        obtain ⟨z', r2', e2, hz', _⟩ := hr'.cons_inv
        rw [e2] at e
        refine steps_of (m := Builtin.append_ ts type (args.map a.eval)) rfl (fun v s' hv => appendA_ok h hy' hz' hv (toList_get0 ht) (toList_get1 ht) ?_ ?_) x hx
        ·exact toList_get0 (by rw [Array.toList_map]; exact e)
        ·exact toList_get1 (by rw [Array.toList_map]; exact e)
   case clear =>
    cases ht : ts.toList with
    | nil => rw [ht] at hx; cases hx
    | cons t tr =>
     cases l with
     | nil => rw [ht] at hx; cases hx
     | cons y yr =>
      rw [ht] at hx
      obtain ⟨y', r', e, hy', _⟩ := hvl.cons_inv
      refine steps_of (m := Builtin.clear_ ts type (args.map a.eval)) rfl (fun v s' hv => clearA_ok h hy' hv (toList_get0 ht) ?_) x hx
      exact toList_get0 (by rw [Array.toList_map]; exact e)
   case copy =>
    cases ht : ts.toList with
    | nil => rw [ht] at hx; cases hx
    | cons t tr =>
      cases l with
      | nil => rw [ht] at hx; cases hx
      | cons y yr =>
       cases yr with
       | nil => rw [ht] at hx; cases hx
       | cons z zr =>
        rw [ht] at hx
        obtain ⟨y', r', e, hy', hr'⟩ := hvl.cons_inv
        obtain ⟨z', r2', e2, hz', _⟩ := hr'.cons_inv
        rw [e2] at e
        refine steps_of (m := Builtin.copy_ ts type (args.map a.eval)) rfl (fun v s' hv => copyA_ok h hy' hz' hv (toList_get0 ht) ?_ ?_) x hx
        ·exact toList_get0 (by rw [Array.toList_map]; exact e)
        ·exact toList_get1 (by rw [Array.toList_map]; exact e)
end Go.Cl