/-
 The clean machine, first part: what it is, and that it is true to the model, operation by operation.
-/
import GoSem.Step
import Derived.Orders
import Derived.Below
import Derived.WalkKit
import Derived.Deep.QuietTactic
import Derived.WalkSpells
import Derived.WalkLawsBesides
import Derived.Laws.StructEq
namespace Go.Cl
inductive Tr (α:Type) where
 |nil
 |node (v:Option α) (l r:Tr α)
def Tr.val {α:Type}:Tr α->Option α
 | .nil=>none
 | .node v _ _=>v
def Tr.left {α:Type}:Tr α->Tr α
 | .nil=> .nil
 | .node _ l _=>l
def Tr.right {α:Type}:Tr α->Tr α
 | .nil=> .nil
 | .node _ _ r=>r
def Tr.get {α:Type}:Tr α->Nat->Option α
 | .nil,_=>none
 | .node v l r,i=>
  match i with
  |0=>v
  |k+1=>
   match k%2 with
   |0=>l.get (k/2)
   |_+1=>r.get (k/2)
def Tr.set {α:Type}:Nat->Tr α->Nat->α->Tr α
 |0,t,_,_=>t
 |f+1,t,i,u=>
  match i with
  |0=> .node (some u) t.left t.right
  |k+1=>
   match k%2 with
   |0=> .node t.val (Tr.set f t.left (k/2) u) t.right
   |_+1=> .node t.val t.left (Tr.set f t.right (k/2) u)
def depth (i:Nat):Nat:=Nat.log2 (i+1)+1
structure iC where
 cells:List Value
 low:Nat
 own:Bool
 lW:Nat
inductive AO where
 |dL (b:iC)
 |map (es:List (Value×Value))
structure aq where
 heap:Tr AO
 next:Nat
structure aR where
 Ut:Tr Value
 n:Nat
def aq.bK (s:aq)(i:Nat):Option iC:=
 match s.heap.get i with
 |some (.dL b)=>some b
 |_=>none
def aq.dR (s:aq)(i:Nat):Option (List (Value×Value)):=
 match s.heap.get i with
 |some (.map es)=>some es
 |_=>none
def aq.put (s:aq)(i:Nat)(o:AO):aq:=⟨Tr.set (depth i) s.heap i o,s.next⟩
def aq.new (s:aq)(o:AO):aq:=⟨Tr.set (depth s.next) s.heap s.next o,s.next+1⟩
def aq.room (_:aq):Bool:=true
def aR.get (f:aR)(t:Nat):Value:=
 match f.Ut.get t with
 |some v=>v
 |none=>undef
def aR.put (f:aR)(t:Nat)(v:Value):aR:=⟨Tr.set (depth t) f.Ut t v,f.n⟩
def mI:Value->Bool
 | .bool _| .int _ _| .string _| .pointer none| .slice none 0 0| .map none| .nilFunc| .nilIface=>true
 |_=>false
def cH:Value->Bool
 | .agg cs=>cs.toList.all mI
 | .tuple cs=>cs.toList.all mI
 |v=>mI v
def aS (f:aR):Operand->Option Value
 | .tmp t=>if Nat.blt t f.n then some (f.get t) else none
 | .const v=>if cH v then some v else none
 | .global _=>none
 | .func g=>some (.func (.func g) #[] #[])
def ad (f:aR):List Operand->Option (List Value)
 |[]=>some []
 |x::r=>
  match aS f x with
  |some v=>
   match ad f r with
   |some vs=>some (v::vs)
   |none=>none
  |none=>none
def takeN:Nat->List Value->Option (List Value)
 |0,_=>some []
 |_+1,[]=>none
 |n+1,v::r=>
  match takeN n r with
  |some l=>some (v::l)
  |none=>none
def yc:Nat->List Value->List Value
 |0,l=>l
 |_+1,[]=>[]
 |n+1,_::r=>yc n r
def setAt:List Value->Nat->List Value->Option (List Value)
 |l,_,[]=>some l
 |[],_,_::_=>none
 |c::r,n+1,vs=>
  match setAt r n vs with
  |some l=>some (c::l)
  |none=>none
 |_::r,0,v::vs=>
  match setAt r 0 vs with
  |some l=>some (v::l)
  |none=>none
def aO:Value->Bool
 | .agg _| .tuple _=>false
 |_=>true
def aq.dm (s:aq)(i off c n:Nat):Option (List Value):=
 match s.bK i with
 |some b=>
  if Nat.ble b.low c&&Nat.ble c (b.cells.length+1)&&Nat.blt (off+n) c then takeN n (yc off b.cells) else none
 |none=>none
def aq.storeAt (s:aq)(i off c:Nat)(vs:List Value):Option aq:=
 match s.bK i with
 |some b=>
  if b.own&&Nat.ble b.low c&&Nat.beq c (b.cells.length+1)&&vs.all aO then
   match vs with
   |[]=>none
   |_::_=>
   match setAt b.cells off vs with
   |some l=>some (s.put i (.dL {b with cells:=l,low:=c}))
   |none=>none
  else none
 |none=>none
def cw (P:Program)(t:TypeId):Option Bool:=
 match P.underlying t with
 |some (.struct _)|some (.array _ _)=>some true
 |some _=>some false
 |none=>none
def bq (P:Program)(t:TypeId):Option Nat:=
 match P.info? t with
 |some i=>some i.size
 |none=>none
def cE (P:Program)(t:TypeId):Option Value:=
 match P.info? t with
 |some i=>i.zero
 |none=>none
def eW (P:Program)(t:TypeId):Option Nat:=
 match P.info? t with
 |some i=>some i.bytes
 |none=>none
def La (P:Program)(t:TypeId)(cs:List Value)(off:Nat):Option Value:=
 match cw P t,bq P t with
 |some true,some n=>
  match takeN n (yc off cs) with
  |some l=>some (.agg l.toArray)
  |none=>none
 |some false,_=>
  match yc off cs with
  |v::_=>some v
  |[]=>none
 |_,_=>none
def aG (P:Program)(s:aq)(t:TypeId)(a:Value):Option Value:=
 match a with
 | .pointer (some ⟨i,off,some c⟩)=>
  match cw P t,bq P t with
  |some true,some n=>
   match s.dm i off c n with
   |some l=>some (.agg l.toArray)
   |none=>none
  |some false,_=>
   match s.dm i off c 1 with
   |some (v::_)=>some v
   |_=>none
  |_,_=>none
 |_=>none
def fi (P:Program)(s:aq)(t:TypeId)(a v:Value):Option aq:=
 match a,bq P t with
 | .pointer (some ⟨_,_,some _⟩),some 0=>if Nat.beq v.cells.toList.length 0 then some s else none
 | .pointer (some ⟨i,off,some c⟩),some n=>
  if Nat.beq v.cells.toList.length n then s.storeAt i off c v.cells.toList else none
 |_,_=>none
def fw (s:aq)(cs:List Value)(lW:Nat):Option (Value×aq):=
 if s.room then some (.pointer (some ⟨s.next,0,some (cs.length+1)⟩),s.new (.dL ⟨cs,1,true,lW⟩)) else none
def aX (s:aq)(cs:List Value)(len lW:Nat):Option (Value×aq):=
 if s.room then some (.slice (some ⟨s.next,0,none⟩) len (cs.length+1),s.new (.dL ⟨cs,1,true,lW⟩)) else none
def bS (z:List Value):Nat->List Value
 |0=>[]
 |n+1=>z++bS z n
def jM (op:BinOp)(k:IntKind)(x y:Int):Option Value:=
 match op with
 | .add=>some (.int k (k.wrap (x+y)))
 | .sub=>some (.int k (k.wrap (x-y)))
 | .mul=>some (.int k (k.wrap (x*y)))
 | .quo=>if y=0 then none else some (.int k (k.wrap (x.tdiv y)))
 | .rem=>if y=0 then none else some (.int k (x.tmod y))
 | .and=>some (.int k (k.wrap (BitVec.ofInt k.bits x&&&BitVec.ofInt k.bits y).toNat))
 | .or=>some (.int k (k.wrap (BitVec.ofInt k.bits x|||BitVec.ofInt k.bits y).toNat))
 | .xor=>some (.int k (k.wrap (BitVec.ofInt k.bits x^^^BitVec.ofInt k.bits y).toNat))
 | .andNot=>some (.int k (k.wrap (BitVec.ofInt k.bits x&&& ~~~BitVec.ofInt k.bits y).toNat))
 | .eql=>some (.bool (x==y))
 | .neq=>some (.bool (x !=y))
 | .lss=>some (.bool (x<y))
 | .leq=>some (.bool (x<=y))
 | .gtr=>some (.bool (x>y))
 | .geq=>some (.bool (x>=y))
 |_=>none
def sH (op:BinOp)(k:IntKind)(x y:Int):Option Value:=
 if y<0 then none else
 match op with
 | .shl=>some (.int k (k.wrap (x*2^(min y.toNat k.bits))))
 | .shr=>some (.int k (x.fdiv (2^(min y.toNat k.bits))))
 |_=>none
def zT (op:BinOp)(x y:ByteArray):Option Value:=
 match op with
 | .add=>if Nat.ble (x.data.toList.length+y.data.toList.length) 4294967296 then some (.string ⟨(x.data.toList++y.data.toList).toArray⟩) else none
 | .eql=>some (.bool (x.data.toList==y.data.toList))
 | .neq=>some (.bool (!(x.data.toList==y.data.toList)))
 | .lss=>some (.bool (Op.bytesLess x.data.toList y.data.toList))
 | .leq=>some (.bool (Op.bytesLess x.data.toList y.data.toList||x.data.toList==y.data.toList))
 | .gtr=>some (.bool (!(Op.bytesLess x.data.toList y.data.toList||x.data.toList==y.data.toList)))
 | .geq=>some (.bool (!(Op.bytesLess x.data.toList y.data.toList)))
 |_=>none
def qY (P:Program)(t:TypeId)(x y:Value):Option Bool:=
 match P.underlying t,x,y with
 |some .bool,.bool a,.bool b=>some (a==b)
 |some (.pointer _),.pointer none,.pointer b=>some b.isNone
 |some (.pointer _),.pointer (some _),.pointer none=>some false
 |some (.slice _),.slice none _ _,.slice b _ _=>some b.isNone
 |some (.slice _),.slice (some _) _ _,.slice none _ _=>some false
 |some (.map _ _),.map none,.map b=>some b.isNone
 |some (.map _ _),.map (some _),.map none=>some false
 |some (.func _ _ _),.nilFunc,.nilFunc=>some true
 |some (.func _ _ _),.nilFunc,.func _ _ _=>some false
 |some (.func _ _ _),.func _ _ _,.nilFunc=>some false
 |_,_,_=>none
def gk:List Value->List Value->Option Bool
 |[],[]=>some true
 | .int k a::r,.int k' b::q=>
  match (if k=k' then true else false),gk r q with
  |true,some t=>some (a==b&&t)
  |_,_=>none
 |_,_=>none
def sI (P:Program):List Field->Nat->Bool
 |[],_=>true
 |f::r,i=>
  (match P.underlying f.type with
   |some (.int _)=>f.name != "_" &&Nat.beq f.offset i
   |_=>false)&&sI P r (i+1)
def zw:Value->Value->Option Bool
 | .int k a,.int k' b=>if k=k' then some (a==b) else none
 | .string a,.string b=>some (a.toList==b.toList)
 |_,_=>none
def je:List Value->List Value->Option Bool
 |[],[]=>some true
 |x::r,y::q=>
  match zw x y,je r q with
  |some a,some t=>some (a&&t)
  |_,_=>none
 |_,_=>none
def pJ (P:Program):List Field->List Value->Nat->Bool
 |[],_,_=>true
 |_::_,[],_=>false
 |f::r,x::q,i=>
  (match P.underlying f.type,x with
   |some (.int _),.int _ _=>f.name != "_" &&Nat.beq f.offset i
   |some .string,.string _=>f.name != "_" &&Nat.beq f.offset i
   |_,_=>false)&&pJ P r q (i+1)
def wM (P:Program)(t:TypeId)(xs ys:Array Value):Option Bool:=
 match P.underlying t with
 |some (.array n e)=>
  match P.underlying e,bq P e with
  |some (.int _),some 1=>if Nat.beq xs.toList.length n&&Nat.beq ys.toList.length n&& !P.eqGuardType P.depth t then gk xs.toList ys.toList else none
  |_,_=>none
 |some (.struct fs)=>if Nat.beq xs.toList.length fs.toList.length&&Nat.beq ys.toList.length fs.toList.length&& !P.eqGuardType P.depth t&& !P.stoodInHeld t then(if sI P fs.toList 0 then gk xs.toList ys.toList else if pJ P fs.toList xs.toList 0 then je xs.toList ys.toList else none) else none
 |_=>none
def du (P:Program)(op:BinOp)(t:TypeId)(x y:Value):Option Value:=
 match x,y with
 | .agg xs,.agg ys=>
  match op with
  | .eql=>
   match wM P t xs ys with
   |some b=>some (.bool b)
   |none=>none
  | .neq=>
   match wM P t xs ys with
   |some b=>some (.bool (!b))
   |none=>none
  |_=>none
 | .int k a,.int k' b=>
  match op with
  | .shl=>sH .shl k a b
  | .shr=>sH .shr k a b
  |_=>if k=k' then jM op k a b else none
 | .string a,.string b=>zT op a b
 |_,_=>
  match op with
  | .eql=>
   match qY P t x y with
   |some b=>some (.bool b)
   |none=>none
  | .neq=>
   match qY P t x y with
   |some b=>some (.bool (!b))
   |none=>none
  |_=>none
def Uu (op:UnOp)(x:Value):Option Value:=
 match op,x with
 | .neg,.int k n=>jM .sub k 0 n
 | .xor,.int k n=>jM .xor k (if k.signed then-1 else k.max) n
 | .not,.bool b=>some (.bool (!b))
 |_,_=>none
def toByte:Value->Option UInt8
 | .int .u8 n=>some (UInt8.ofNat n.toNat)
 |_=>none
def nL:List Value->Option (List UInt8)
 |[]=>some []
 |v::r=>
  match toByte v with
  |some b=>
   match nL r with
   |some l=>some (b::l)
   |none=>none
  |none=>none
def ofBytes (l:List UInt8):List Value:=l.map fun b=> .int .u8 b.toNat
def CS (P:Program)(t:TypeId):Bool:=
 match P.underlying t with
 |some (.int .u8)=>true
 |_=>false
def gG (P:Program)(s:aq)(src dst:TypeId)(x:Value):Option (Value×aq):=
 match P.underlying src,P.underlying dst,x with
 |some _,some (.int k),.int _ n=>some (.int k (k.wrap n),s)
 |some _,some .string,.string b=>some (.string b,s)
 |some .string,some (.slice e),.string b=>
  if CS P e&&Nat.ble b.data.toList.length 9223372036854775807 then aX s (ofBytes b.data.toList) b.data.toList.length 1 else none
 |some (.slice _),some (.slice e),.slice (some ⟨i,_,none⟩) len c=>
  match len with
  |0=>none
  |_+1=>
   match s.bK i with
   |some b=>if Nat.beq src dst&&CS P e&&b.own&&Nat.ble b.low c&&Nat.ble c (b.cells.length+1) then some (x,s.put i (.dL b)) else none
   |none=>none
 |some (.slice e),some .string,.slice none _ _=>if CS P e then some (.string ⟨#[]⟩,s) else none
 |some (.slice e),some .string,.slice (some ⟨i,off,none⟩) len c=>
  if CS P e then
   match len with
   |0=>some (.string ⟨#[]⟩,s)
   |_+1=>
    match s.dm i off c len with
    |some l=>
     match nL l with
     |some bs=>some (.string ⟨bs.toArray⟩,s)
     |none=>none
    |none=>none
  else none
 |_,_,_=>none
def hJ:Option Value->Nat->Option Nat
 |none,d=>some d
 |some (.int _ (.ofNat n)),_=>some n
 |some _,_=>none
def jW (s:aq)(i c z:Nat):Bool:=
 match c with
 |0=>true
 |_+1=>
  match s.bK i with
  |some b=>Nat.beq b.lW z
  |none=>false
def dH (P:Program)(s:aq)(t:TypeId)(x:Value)(lo hi mx:Option Value):Option Value:=
 match P.underlying t,x with
 |some .string,.string b=>
  match mx,hJ lo 0,hJ hi b.data.toList.length with
  |none,some l,some h=>if Nat.ble l h&&Nat.ble h b.data.toList.length then some (.string ⟨((b.data.toList.take h).drop l).toArray⟩) else none
  |_,_,_=>none
 |some (.slice e),.slice a len c=>
  match hJ lo 0,hJ hi len,bq P e with
  |some l,some h,some z=>
   if Nat.ble l h&&Nat.ble h len then
    match mx with
    |none=>
     match a with
     |none=>some (.slice none 0 0)
     |some ⟨i,off,none⟩=>if jW s i c z then some (.slice (some ⟨i,off+l*z,none⟩) (h-l) c) else none
     |_=>none
    |some m=>
     match hJ (some m) 0,hi with
     |some m,some _=>
      if Nat.ble h m&&Nat.ble m len then
       match a with
       |none=>some (.slice none 0 0)
       |some ⟨i,off,none⟩=>if jW s i c z then some (.slice (some ⟨i,off+l*z,none⟩) (h-l) (if Nat.beq l m then 0 else c)) else none
       |_=>none
      else none
     |_,_=>none
   else none
  |_,_,_=>none
 |some (.array n e),.pointer (some ⟨i,off,some c⟩)=>
  match hJ lo 0,hJ hi n,bq P e,s.bK i,mx with
  |some l,some h,some z,some b,none=>
   if Nat.ble l h&&Nat.ble h n&&Nat.ble b.low c&&Nat.ble c (b.cells.length+1)&&Nat.blt (off+n*z) c&&Nat.beq b.lW z&&Nat.blt 0 z then some (.slice (some ⟨i,off+l*z,none⟩) (h-l) c) else none
  |_,_,_,_,_=>none
 |_,_=>none
def dC (P:Program)(t:TypeId)(x ix:Value):Option Value:=
 match P.underlying t,x,ix with
 |some (.slice e),.slice (some ⟨i,off,none⟩) len c,.int _ (.ofNat n)=>
  match bq P e with
  |some z=>if Nat.blt n len then some (.pointer (some ⟨i,off+n*z,some c⟩)) else none
  |none=>none
 |some (.array len e),.pointer (some ⟨i,off,some c⟩),.int _ (.ofNat n)=>
  match bq P e with
  |some z=>if Nat.blt n len then some (.pointer (some ⟨i,off+n*z,some c⟩)) else none
  |none=>none
 |_,_,_=>none
def qZ (P:Program)(t:TypeId)(x ix:Value):Option Value:=
 match P.underlying t,x,ix with
 |some .string,.string b,.int _ (.ofNat n)=>
  match (b.data.toList.drop n) with
  |c::_=>some (.int .u8 c.toNat)
  |[]=>none
 |some (.array len e),.agg cs,.int _ (.ofNat n)=>
  match bq P e with
  |some z=>if Nat.blt n len then La P e cs.toList (n*z) else none
  |none=>none
 |_,_,_=>none
def az (P:Program)(t:TypeId)(x:Value)(f:Nat):Option Value:=
 match P.underlying t,x with
 |some (.struct fs),.pointer (some ⟨i,off,some c⟩)=>
  match fs[f]? with
  |some fd=>
   match bq P fd.type with
   |some (_+1)=>some (.pointer (some ⟨i,off+fd.offset,some c⟩))
   |_=>none
  |none=>none
 |_,_=>none
def zU (P:Program)(t:TypeId)(x:Value)(f:Nat):Option Value:=
 match P.underlying t,x with
 |some (.struct fs),.agg cs=>
  match fs[f]? with
  |some fd=>La P fd.type cs.toList fd.offset
  |none=>none
 |_,_=>none
def cN (x:Value)(i:Nat):Option Value:=
 match x with
 | .tuple vs=>vs[i]?
 |_=>none
def iM (place:Nat->Option (Nat×Nat)):List Value->List (Nat×Value)->Option (List Value)
 |cs,[]=>some cs
 |cs,(i,v)::r=>
  match place i with
  |some (off,size)=>
   if Nat.beq v.cells.toList.length size&&Nat.ble (off+size) cs.length then
    match setAt cs off v.cells.toList with
    |some l=>iM place l r
    |none=>none
   else none
  |none=>none
def placeOf (P:Program)(fs:Array Field)(i:Nat):Option (Nat×Nat):=
 match fs[i]? with
 |some f=>
  match bq P f.type with
  |some z=>some (f.offset,z)
  |none=>none
 |none=>none
def dM (P:Program)(t:TypeId)(parts:List (Nat×Value)):Option Value:=
 match P.underlying t,cE P t with
 |some (.struct fs),some z=>
  if cH z&&fs.toList.all (fun f=>(bq P f.type).isSome) then
   match iM (placeOf P fs) z.cells.toList parts with
   |some l=>some (.agg l.toArray)
   |none=>none
  else none
 |some (.array _ e),some z=>
  match bq P e with
  |some n=>
   if cH z then
    match iM (fun i=>some (i*n,n)) z.cells.toList parts with
    |some l=>some (.agg l.toArray)
    |none=>none
   else none
  |none=>none
 |_,_=>none
def aU (P:Program)(s:aq)(t:TypeId)(len:Nat)(parts:List (Nat×Value)):Option (Value×aq):=
 match P.underlying t with
 |some (.slice e)=>
  match bq P e,cE P e with
  |some n,some z=>
   if Nat.ble (len*n) 65536&&cH z&&Nat.beq z.cells.toList.length n then
    match iM (fun i=>some (i*n,n)) (bS z.cells.toList len) parts with
    |some l=>aX s l len n
    |none=>none
   else none
  |_,_=>none
 |_=>none
def eu (P:Program)(s:aq)(t:TypeId)(len cap:Value):Option (Value×aq):=
 match P.underlying t,len,cap with
 |some (.slice e),.int _ (.ofNat l),.int _ (.ofNat c)=>
  match bq P e,cE P e,eW P e with
  |some n,some z,some lX=>
   if Nat.ble l c&&Nat.ble c 4294967296&&Nat.ble (lX*c) 4294967296&&cH z&&Nat.beq z.cells.toList.length n then aX s (bS z.cells.toList l) l n else none
  |_,_,_=>none
 |_,_,_=>none
def dJ (s:aq)(z:Nat):Value->Option (Nat×List Value)
 | .slice none _ _=>some (0,[])
 | .slice (some ⟨i,off,none⟩) n c=>
  match n with
  |0=>some (0,[])
  |_+1=>
   match s.dm i off c (n*z) with
   |some l=>some (n,l)
   |none=>none
 | .string b=>if Nat.beq z 1 then some (b.data.toList.length,ofBytes b.data.toList) else none
 |_=>none
def EU (s:aq)(z lX:Nat)(zv:Value)(xd:TypeDesc)(y:Value):Option (Nat×List Value):=
 match xd with
 | .int _=>
  match y with
  | .int _ (.ofNat n)=>if Nat.ble (n*lX) 140737488355328&&Nat.ble n 140737488355328&&cH zv&&Nat.beq zv.cells.toList.length z&&Nat.blt 0 z then some (n,bS zv.cells.toList n) else none
  |_=>none
 |_=>dJ s z y
def kill (b:iC):iC:={b with low:=b.low+b.cells.length+2}
def gl (P:Program)(s:aq)(Yl Ym:TypeId)(x y:Value):Option (Value×aq):=
 match P.underlying Yl,P.underlying Ym with
 |some (.slice e),some xd=>
  match (match xd with
   | .slice _=>true
   | .string=>true
   | .int _=>true
   |_=>false) with
  |false=>none
  |true=>
  match bq P e,eW P e,cE P e with
  |some z,some lX,some zv=>
   match EU s z lX zv xd y with
   |some (n,new)=>
    match x with
    | .slice a len c=>
     if Nat.ble ((len+n)*lX) 140737488355328&&Nat.ble (len+n) 140737488355328&&Nat.blt 0 z&&new.all aO&&Nat.beq zv.cells.toList.length z then
      match n with
      |0=>some (x,s)
      |_+1=>
       match a with
       |none=>if Nat.beq len 0&&Nat.beq c 0 then aX s new n z else none
       |some ⟨i,off,none⟩=>
        match c with
        |0=>if Nat.beq len 0 then aX s new n z else none
        |_+1=>
         match s.bK i with
         |some b=>
          if b.own&&Nat.ble b.low c&&Nat.beq b.lW z then
           if Nat.beq c (b.cells.length+1)&&Nat.beq off 0&&Nat.beq (len*z) b.cells.length then
            some (.slice a (len+n) ((b.cells++new).length+1),s.put i (.dL {b with cells:=b.cells++new}))
           else
            match s.dm i off c (len*z) with
            |some old=>aX (s.put i (.dL (kill b))) (old++new) (len+n) z
            |none=>none
          else none
         |none=>none
       |_=>none
     else none
    |_=>none
   |none=>none
  |_,_,_=>none
 |_,_=>none
def pK (k:Nat):Value->Option (Nat×Value)
 | .slice a n c=>some (min n k,.slice a (min n k) c)
 | .string b=>some (min b.data.toList.length k,.string ⟨(b.data.toList.take k).toArray⟩)
 |_=>none
def lY (P:Program)(s:aq)(dT:TypeId)(x y:Value):Option (Value×aq):=
 match P.underlying dT,x with
 |some (.slice e),.slice a Sw c=>
  match bq P e,pK Sw y with
  |some z,some (k,y2)=>
   match k with
   |0=>some (.int .i64 0,s)
   |_+1=>
    match dJ s z y2,a with
    |some (k2,new),some ⟨i,off,none⟩=>
     match Nat.beq k2 k,s.storeAt i off c new with
     |true,some t=>some (.int .i64 k,t)
     |_,_=>none
    |_,_=>none
  |_,_=>none
 |_,_=>none
def mJ (P:Program)(s:aq)(t:TypeId)(x:Value):Option (Value×aq):=
 match P.underlying t,x with
 |some (.slice _),.slice none _ _=>some (undef,s)
 |some (.slice e),.slice (some ⟨i,off,none⟩) n c=>
  match n with
  |0=>some (undef,s)
  |m+1=>
   match bq P e,cE P e with
   |some z,some zv=>
    if cH zv&&Nat.beq zv.cells.toList.length z&&Nat.blt 0 z then
     match s.storeAt i off c (bS zv.cells.toList (m+1)) with
     |some s' =>some (undef,s')
     |none=>none
    else none
   |_,_=>none
 |_,_=>none
def aV (P:Program)(s:aq)(t:TypeId)(x:Value):Option Value:=
 match P.underlying t,x with
 |some .string,.string b=>some (.int .i64 b.data.toList.length)
 |some (.array n _),_=>some (.int .i64 n)
 |some (.slice _),.slice _ n _=>some (.int .i64 n)
 |some (.map _ _),.map none=>some (.int .i64 0)
 |some (.map _ _),.map (some r)=>
  match s.dR r with
  |some es=>some (.int .i64 es.length)
  |none=>none
 |_,_=>none
def Sx:Value->Value->Option Value
 | .int k x,.int _ y=>some (.int k (if y<x then y else x))
 |_,_=>none
def Sy:Value->Value->Option Value
 | .int k x,.int _ y=>some (.int k (if y>x then y else x))
 |_,_=>none
def Dz (g:Value->Value->Option Value):Value->List Value->Option Value
 |x,[]=>some x
 |x,y::r=>
  match g x y with
  |some v=>Dz g v r
  |none=>none
def yd (P:Program)(t:TypeId)(a b:Value):Option Bool:=
 match P.underlying t,a,b with
 |some (.int _),.int k x,.int k' y=>if k=k' then some (x==y) else none
 |some .string,.string x,.string y=>some (x.data.toList==y.data.toList)
 |_,_,_=>none
def zV (P:Program)(t:TypeId)(k:Value):List (Value×Value)->Option (Option Value)
 |[]=>some none
 |(k',v)::r=>
  match yd P t k k' with
  |some true=>some (some v)
  |some false=>zV P t k r
  |none=>none
def Jc (P:Program)(t:TypeId)(k v:Value):List (Value×Value)->Option (List (Value×Value))
 |[]=>some [(k,v)]
 |(k',v')::r=>
  match yd P t k k' with
  |some true=>some ((k',v)::r)
  |some false=>
   match Jc P t k v r with
   |some l=>some ((k',v')::l)
   |none=>none
  |none=>none
def js (P:Program)(t:TypeId)(k:Value):Bool:=
 match P.underlying t,k with
 |some (.int _),.int _ _=>true
 |some .string,.string _=>true
 |_,_=>false
def mi (P:Program)(s:aq)(t:TypeId)(m k:Value)(ok:Bool):Option Value:=
 match P.underlying t with
 |some (.map kt et)=>
  match cE P et,js P kt k with
  |some z,true=>
   if cH z then
    match (match m with
     | .map none=>some none
     | .map (some r)=>
      match s.dR r with
      |some es=>zV P kt k es
      |none=>none
     |_=>none) with
    |some (some v)=>some (if ok then .tuple #[v,.bool true] else v)
    |some none=>some (if ok then .tuple #[z,.bool false] else z)
    |none=>none
   else none
  |_,_=>none
 |_=>none
def fX (P:Program)(s:aq)(t:TypeId)(m k v:Value):Option aq:=
 match P.underlying t,m with
 |some (.map kt _),.map (some r)=>
  match s.dR r,js P kt k with
  |some es,true=>
   match Jc P kt k v es with
   |some l=>some (s.put r (.map l))
   |none=>none
  |_,_=>none
 |_,_=>none
def zW (P:Program)(t:TypeId):Nat:=
 match P.underlying t with
 |some (.array _ e)=>
  match bq P e with
  |some z=>z
  |none=>0
 |_=>0
inductive AR where
 |val (v:Value) (s:aq)
 |call (f:FuncId) (args:List Value)
def oo (s:aq):Option Value->Option AR
 |some v=>some (.val v s)
 |none=>none
def lZ:Option (Value×aq)->Option AR
 |some (v,s)=>some (.val v s)
 |none=>none
def CT:Option aq->Option AR
 |some s=>some (.val undef s)
 |none=>none
def ag (f:aR):List (Nat×Operand)->Option (List (Nat×Value))
 |[]=>some []
 |(i,x)::r=>
  match aS f x,ag f r with
  |some v,some l=>some ((i,v)::l)
  |_,_=>none
def ah (f:aR):Option Operand->Option (Option Value)
 |none=>some none
 |some x=>
  match aS f x with
  |some v=>some (some v)
  |none=>none
def im (P:Program)(s:aq)(b:Builtin)(ts:List TypeId)(args:List Value):Option AR:=
 match b,ts,args with
 | .len,t::_,x::_=>oo s (aV P s t x)
 | .append,t::u::_,x::y::_=>lZ (gl P s t u x y)
 | .copy,t::_,x::y::_=>lZ (lY P s t x y)
 | .clear,t::_,x::_=>lZ (mJ P s t x)
 | .min,_,x::r=>oo s (Dz Sx x r)
 | .max,_,x::r=>oo s (Dz Sy x r)
 |_,_,_=>none
def cy (P:Program)(o:Oper)(f:aR)(s:aq):Option AR:=
 match o.op with
 | .move x=>oo s (aS f x)
 | .assign x=>oo s (aS f x)
 | .pick c a b=>
  match aS f c,aS f a,aS f b with
  |some (.bool t),some u,some v=>some (.val (if t then u else v) s)
  |_,_,_=>none
 | .alloc e=>
  match cE P e with
  |some z=>if cH z then lZ (fw s z.cells.toList (zW P e)) else none
  |none=>none
 | .box e x=>
  match aS f x with
  |some v=>lZ (fw s v.cells.toList (zW P e))
  |none=>none
 | .build t ps=>
  match ag f ps.toList with
  |some l=>oo s (dM P t l)
  |none=>none
 | .buildSlice t n ps=>
  match ag f ps.toList with
  |some l=>lZ (aU P s t n l)
  |none=>none
 | .load t x=>
  match aS f x with
  |some a=>oo s (aG P s t a)
  |none=>none
 | .store t x y=>
  match aS f x,aS f y with
  |some a,some v=>CT (fi P s t a v)
  |_,_=>none
 | .nilCheck x=>
  match aS f x with
  |some (.pointer (some a))=>some (.val (.pointer (some a)) s)
  |some (.func (.func g) zS bs)=>some (.val (.func (.func g) zS bs) s)
  |_=>none
 | .binOp op t x y _=>
  match aS f x,aS f y with
  |some u,some v=>oo s (du P op t u v)
  |_,_=>none
 | .unOp op _ x=>
  match aS f x with
  |some u=>oo s (Uu op u)
  |none=>none
 | .convert a b x=>
  match aS f x with
  |some u=>lZ (gG P s a b u)
  |none=>none
 | .makeFunc (.func g) zS bs=>
  match ad f zS.toList,ad f bs.toList with
  |some l,some m=>some (.val (.func (.func g) l.toArray m.toArray) s)
  |_,_=>none
 | .makeInterface t x=>
  match P.underlying t,aS f x with
  |some (.interface _),_=>none
  |some _,some v=>some (.val (.iface t v) s)
  |_,_=>none
 | .makeMap _ none=>if s.room then some (.val (.map (some s.next)) (s.new (.map []))) else none
 | .makeSlice t x y=>
  match aS f x,aS f y with
  |some u,some v=>lZ (eu P s t u v)
  |_,_=>none
 | .slice t x lo hi mx=>
  match aS f x,ah f lo,ah f hi,ah f mx with
  |some u,some l,some h,some m=>oo s (dH P s t u l h m)
  |_,_,_,_=>none
 | .fieldAddr t x i=>
  match aS f x with
  |some u=>oo s (az P t u i)
  |none=>none
 | .field t x i=>
  match aS f x with
  |some u=>oo s (zU P t u i)
  |none=>none
 | .indexAddr t x y=>
  match aS f x,aS f y with
  |some u,some v=>oo s (dC P t u v)
  |_,_=>none
 | .index t x y=>
  match aS f x,aS f y with
  |some u,some v=>oo s (qZ P t u v)
  |_,_=>none
 | .lookup t x y ok=>
  match aS f x,aS f y with
  |some u,some v=>oo s (mi P s t u v ok)
  |_,_=>none
 | .mapUpdate t x y z=>
  match aS f x,aS f y,aS f z with
  |some m,some k,some v=>CT (fX P s t m k v)
  |_,_,_=>none
 | .extract x i=>
  match aS f x with
  |some u=>oo s (cN u i)
  |none=>none
 | .call c=>
  match ad f c.args.toList with
  |some args=>
   match c.callee with
   | .builtin b=>im P s b c.argTypes.toList args
   | .value x=>
    match aS f x with
    |some (.func (.func g) zS bs)=>some (.call g (zS.toList++args++bs.toList))
    |_=>none
   |_=>none
  |none=>none
 |_=>none
def aI (P:Program)(o:Oper):Bool:=
 match o.op with
 | .move _| .assign _| .pick _ _ _| .build _ _| .load _ _| .nilCheck _| .binOp _ _ _ _ _| .unOp _ _ _| .makeFunc _ _ _| .makeInterface _ _
 | .slice _ _ _ _ _| .fieldAddr _ _ _| .field _ _ _| .indexAddr _ _ _| .index _ _ _| .lookup _ _ _ _| .extract _ _=>true
 | .convert _ b _=>
  match P.underlying b with
  |some (.slice _)=>false
  |_=>true
 | .call c=>
  match c.callee with
  | .builtin .len| .builtin .min| .builtin .max=>true
  |_=>false
 |_=>false
def jf (P:Program)(src dst:TypeId):Bool:=
 match P.underlying src,P.underlying dst with
 |some .string,some (.slice _)=>true
 |_,_=>false
def aB (P:Program)(o:Oper):Bool:=
 match o.op with
 | .alloc _| .box _ _| .buildSlice _ _ _| .makeSlice _ _ _=>true
 | .convert a b _=>jf P a b
 |_=>false
def aY (P:Program)(o:Oper):Bool:= !aI P o&& !aB P o
inductive AX where
 |normal
 |exit (id:Nat)
 |ret
abbrev Out:=Option (AX×aR×aq)
def pL (ops:List Oper)(f:aR)(j:Nat):Option Bool:=
 match ops.drop j with
 |o::_=>
  match o.dst with
  |some d=>
   if Nat.blt d f.n then
    match f.get d with
    | .bool b=>some b
    |_=>none
   else none
  |none=>none
 |[]=>none
def b9 (ops:List Oper)(o:Oper)(f:aR):Bool:=
 match o.guard with
 |none=>true
 |some (j,want)=>
  match pL ops f j with
  |some b=>b==want
  |none=>false
def jS (f:aR)(d:Option Tmp)(v:Value):Option aR:=
 match d with
 |some t=>if Nat.blt t f.n then some (f.put t v) else none
 |none=>some f
def gn (P:Program)(call:FuncId->List Value->aq->Option (Value×aq))(all:List Oper):List Oper->aR->aq->Option (aR×aq)
 |[],f,s=>some (f,s)
 |o::r,f,s=>
  if b9 all o f then
   match cy P o f s with
   |some (.val v s')=>
    match jS f o.dst v with
    |some f' =>gn P call all r f' s'
    |none=>none
   |some (.call g args)=>
    match call g args s with
    |some (v,s')=>
     match jS f o.dst v with
     |some f' =>gn P call all r f' s'
     |none=>none
    |none=>none
   |none=>none
  else
   match jS f o.dst undef with
   |some f' =>gn P call all r f' s
   |none=>none
def cC:List Nat->Nat->Nat
 |[],_=>0
 |x::_,0=>x
 |_::r,n+1=>cC r n
def pM (acc:List Nat):List Edge->Nat->Nat
 |[],m=>m
 |e::r,m=>pM acc r (if Region.binds .any e then m|||2^e.on|||cC acc e.on else m)
def bW:List Oper->List Nat->List Nat
 |[],acc=>acc
 |o::r,acc=>bW r (acc++[pM acc o.after.toList 0])
def wN (ops:List Oper)(o:Oper):List Nat:=
 (o.op.operands.toList.filterMap fun| .tmp t=>some t|_=>none)++
 (match o.guard with
  |some (j,_)=>
   match ops.drop j with
   |p::_=>p.dst.toList
   |[]=>[]
  |none=>[])
def My (l:List Nat)(d:Option Tmp):Bool:=
 match d with
 |some t=>l.any (Nat.beq t)
 |none=>false
def mj (P:Program)(ops:List Oper)(x y:Oper):Bool:=
 aY P x&&aY P y||My (wN ops y) x.dst||My (wN ops x) y.dst||My x.dst.toList y.dst
def q6 (P:Program)(ops:List Oper):Bool:=
 let ms:=bW ops []
 ops.zipIdx.all fun y=>
  (y.1.after.toList.all fun e=> !Region.binds .any e||Nat.blt e.on y.2)&&
  ops.zipIdx.all fun x=> !(Nat.blt x.2 y.2&&mj P ops x.1 y.1)||Nat.testBit (cC ms y.2) x.2
inductive Ev where
 |skip
 |quiet (v:Value)
 |made (v:Value) (id:Nat) (b:iC)
 |zc (v:Value) (s:aq)
def Ev.val:Ev->Value
 | .skip=>undef
 | .quiet v=>v
 | .made v _ _=>v
 | .zc v _=>v
def fill (p:Nat->Bool):aq->List (Nat×Nat×iC)->aq
 |s,[]=>s
 |s,(j,id,b)::r=>
  match p j,s.heap.get id with
  |true,none=>fill p (s.put id (.dL b)) r
  |_,_=>fill p s r
def cV (P:Program)(call:FuncId->List Value->aq->Option (Value×aq))(all:List Oper)(m id:Nat)(zS:List (Nat×Nat×iC))(o:Oper)(f:aR)(T:aq):Option Ev:=
 match b9 all o f with
 |false=>some .skip
 |true=>
  match aI P o,aB P o with
  |true,_=>
   match cy P o f (fill (Nat.testBit m) T zS) with
   |some (.val v _)=>some (.quiet v)
   |_=>none
  |false,true=>
   match cy P o f ⟨.nil,id⟩ with
   |some (.val v s1)=>
    match s1.bK id with
    |some b=>some (.made v id b)
    |none=>none
   |_=>none
  |false,false=>
   match cy P o f (fill (Nat.testBit m) T zS) with
   |some (.val v s1)=>some (.zc v s1)
   |some (.call g args)=>
    match call g args (fill (Nat.testBit m) T zS) with
    |some (v,s1)=>some (.zc v s1)
    |none=>none
   |none=>none
def bQ (P:Program)(call:FuncId->List Value->aq->Option (Value×aq))(all:List Oper):List Nat->List Oper->Nat->Nat->aR->aq->List (Nat×Nat×iC)->Option (List Ev)
 |m::ms,o::r,i,id,f,T,zS=>
  match cV P call all m id zS o f T with
  |some e=>
   match jS f o.dst e.val with
   |some f' =>
    match bQ P call all ms r (i+1) (if aB P o then id+1 else id) f' (match e with| .zc _ s=>s|_=>T) (match e with| .made _ d b=>zS++[(i,d,b)]|_=>zS) with
    |some es=>some (e::es)
    |none=>none
   |none=>none
  |none=>none
 |_,_,_,_,_,_,_=>some []
def madeOf:List Ev->Nat->List (Nat×Nat×iC)
 |[],_=>[]
 | .made _ id b::r,i=>(i,id,b)::madeOf r (i+1)
 |_::r,i=>madeOf r (i+1)
def ax (P:Program):List Oper->List Ev->aq->List aq
 |o::r,e::es,T=>
  match e with
  | .zc _ s=>T::ax P r es s
  |_=>if aY P o then T::ax P r es T else ax P r es T
 |_,_,T=>[T]
def bN:List Oper->List Ev->aR->aR
 |o::r,e::es,f=>
  match jS f o.dst e.val with
  |some f' =>bN r es f'
  |none=>f
 |_,_,f=>f
def countP (p:Nat->Bool)(P:Program):List Oper->Nat->Nat
 |[],_=>0
 |o::r,i=>if aY P o&&p i then countP p P r (i+1)+1 else countP p P r (i+1)
def cW:Value->Value->Bool
 | .bool a,.bool b=>a==b
 | .int k a,.int k' b=>(if k=k' then true else false)&&a==b
 | .string a,.string b=>a.data.toList==b.data.toList
 | .pointer a,.pointer b=>if a=b then true else false
 | .slice a n c,.slice b m d=>(if a=b then true else false)&&Nat.beq n m&&Nat.beq c d
 | .map a,.map b=>if a=b then true else false
 | .nilFunc,.nilFunc=>true
 | .nilIface,.nilIface=>true
 |_,_=>false
def gp:List Value->List Value->Bool
 |[],[]=>true
 |a::r,b::q=>cW a b&&gp r q
 |_,_=>false
def Jd:Value->Value->Bool
 | .agg a,.agg b=>gp a.toList b.toList
 |a,b=>cW a b
def wO:List Value->List Value->Bool
 |[],[]=>true
 |a::r,b::q=>Jd a b&&wO r q
 |_,_=>false
def bX:Value->Value->Bool
 | .agg a,.agg b=>gp a.toList b.toList
 | .tuple a,.tuple b=>wO a.toList b.toList
 | .func (.func g) zS bs,.func (.func g') Lb Lc=>Nat.beq g g' &&gp zS.toList Lb.toList&&gp bs.toList Lc.toList
 |a,b=>cW a b
def sameAt (P:Program)(m:Nat)(zS:List (Nat×Nat×iC))(o:Oper)(f:aR)(v:Value):List aq->Bool
 |[]=>true
 |T::r=>
  match cy P o f (fill (Nat.testBit m) T zS) with
  |some (.val u _)=>bX v u&&sameAt P m zS o f v r
  |_=>false
def bJ (P:Program)(all:List Oper)(ms:List Nat)(zS:List (Nat×Nat×iC))(gL:List aq):List Nat->List Oper->List Ev->Nat->aR->Bool
 |m::mr,o::r,e::es,i,f=>
  (match e with
   | .quiet v=>sameAt P m zS o f v ((gL.take (countP (fun j=> !Nat.testBit (cC ms j) i) P all 0+1)).drop (countP (Nat.testBit m) P all 0))
   |_=>true)&&
  match jS f o.dst e.val with
  |some f' =>bJ P all ms zS gL mr r es (i+1) f'
  |none=>false
 |_,_,_,_,_=>true
def aF (P:Program):List Oper->Nat
 |[]=>0
 |o::r=>if aB P o then aF P r+1 else aF P r
def fj (P:Program)(call:FuncId->List Value->aq->Option (Value×aq))(ops:List Oper)(f:aR)(s:aq):Option (aR×aq):=
 match Nat.ble 0 16000000 with
 |false=>none
 |true=>
  match bQ P call ops (bW ops []) ops 0 s.next f ⟨s.heap,s.next+aF P ops⟩ [] with
  |some es=>
   match bJ P ops (bW ops []) (madeOf es 0) (ax P ops es ⟨s.heap,s.next+aF P ops⟩) (bW ops []) ops es 0 f with
   |true=>some (bN ops es f,fill (fun _=>true) ((ax P ops es ⟨s.heap,s.next+aF P ops⟩).getLastD s) (madeOf es 0))
   |false=>none
  |none=>none
def cS (P:Program)(f:aR)(s:aq):List ResultVar->Option (List Value)
 |[]=>some []
 | .tmp t::r=>
  if Nat.blt t f.n then
   match cS P f s r with
   |some l=>some (f.get t::l)
   |none=>none
  else none
 | .cell a t::r=>
  if Nat.blt a f.n then
   match aG P s t (f.get a),cS P f s r with
   |some v,some l=>some (v::l)
   |_,_=>none
  else none
def oneOf:List Value->Value
 |[v]=>v
 |l=> .tuple l.toArray
def zX:Tr Value->Nat->List Value->Tr Value
 |t,_,[]=>t
 |t,i,v::r=>zX (Tr.set (depth i) t i v) (i+1) r
def mK (fn:Func)(args:List Value):aR:=⟨zX .nil 0 args,args.length+(fn.ntmps-args.length)⟩
abbrev Prim:=List Value->aq->Option (Value×aq)
abbrev ay:=List (Nat×Prim)
def ay.at (l:ay)(g:Nat):Option Prim:=
 match l with
 |[]=>none
 |(h,p)::r=>if Nat.beq h g then some p else ay.at r g
def eG (P:Program)(lib:ay)(exec:Code->aR->aq->Out)(g:FuncId)(args:List Value)(s:aq):Option (Value×aq):=
 match lib.at g with
 |some p=>p args s
 |none=>
 match P.funcs[g]? with
 |some fn=>
  match fn.body,Nat.ble (args.length+(fn.ntmps-args.length)) 16000000 with
  |some c,true=>
   match exec c (mK fn args) s with
   |some (.normal,f,s')=>
    match cS P f s' fn.results.toList with
    |some l=>some (oneOf l,s')
    |none=>none
   |some (.ret,f,s')=>
    match cS P f s' fn.results.toList with
    |some l=>some (oneOf l,s')
    |none=>none
   |_=>none
  |_,_=>none
 |none=>none
def step (P:Program)(lib:ay)(exec:Code->aR->aq->Out)(c:Code)(f:aR)(s:aq):Out:=
 match c with
 | .skip=>some (.normal,f,s)
 | .label _=>some (.normal,f,s)
 | .region _ ops d=>
  match (match d with
   |false=>gn P (eG P lib exec) ops.toList ops.toList f s
   |true=>fj P (eG P lib exec) ops.toList f s) with
  |some (f',s')=>some (.normal,f',s')
  |none=>none
 | .seq a b=>
  match exec a f s with
  |some (.normal,f',s')=>exec b f' s'
  |r=>r
 | .cond x a b=>
  match aS f x with
  |some (.bool t)=>
   match t with
   |true=>exec a f s
   |false=>exec b f s
  |_=>none
 | .block id a=>
  match exec a f s with
  |some (.exit j,f',s')=>if Nat.beq j id then some (.normal,f',s') else some (.exit j,f',s')
  |r=>r
 | .loop a=>
  match exec a f s with
  |some (.normal,f',s')=>exec (.loop a) f' s'
  |r=>r
 | .exit id=>some (.exit id,f,s)
 | .scope a=>exec a f s
 | .ret=>some (.ret,f,s)
 |_=>none
def exec (P:Program)(lib:ay):Nat->Code->aR->aq->Out
 |0=>fun _ _ _=>none
 |n+1=>step P lib (exec P lib n)
def fx (P:Program)(lib:ay)(n:Nat)(g:FuncId)(args:List Value)(s:aq):Option (Value×aq):=eG P lib (exec P lib n) g args s
def codeOk (P:Program):Code->Bool
 | .region _ ops true=>q6 P ops.toList
 | .seq a b=>codeOk P a&&codeOk P b
 | .cond _ a b=>codeOk P a&&codeOk P b
 | .block _ a=>codeOk P a
 | .loop a=>codeOk P a
 | .scope a=>codeOk P a
 |_=>true
def Mz (P:Program)(lib:ay)(g:Nat)(fn:Func):Bool:=
 (fn.name != "runtime.NumGoroutine")&&
 ((lib.at g).isSome||match fn.body with
   |some c=>codeOk P c
   |none=>true)
def zY (P:Program)(lib:ay):Bool:=
 P.follows .mixedOrders&&(P.funcs.toList.zipIdx.all fun x=>Mz P lib x.2 x.1)
def aq.empty:aq:=⟨.nil,0⟩
def q7:Option (Value×aq)->Bool
 |some (.bool b,_)=>b
 |_=>false
end Go.Cl
namespace Go.Cl
open Go.RowKit
theorem Tr.get_eq {α:Type}(t:Tr α)(i:Nat):t.get i=match i with
  |0=>t.val
  |k+1=>match k%2 with
   |0=>t.left.get (k/2)
   |_+1=>t.right.get (k/2):=by
 cases t with
 |nil=>cases i with
  |zero=>rfl
  |succ k=>simp only[Tr.get,Tr.left,Tr.right];split<;>rfl
 |node v l r=>cases i with
  |zero=>rfl
  |succ k=>rcases Nat.mod_two_eq_zero_or_one k with h|h<;>simp only[Tr.get,Tr.left,Tr.right,h]
theorem Tr.uX {α:Type}(t:Tr α):t.get 0=t.val:=by rw[Tr.get_eq]
theorem Tr.mL {α:Type}(t:Tr α)(k:Nat):t.get (k+1)=match k%2 with
   |0=>t.left.get (k/2)
   |_+1=>t.right.get (k/2):=by rw[Tr.get_eq]
theorem Tr.bu {α:Type}:∀(f:Nat) (t:Tr α) (i:Nat) (u:α),i+1<2^f->(Tr.set f t i u).get i=some u:=by
 intro f
 induction f with
 |zero=>intro t i u h;simp at h
 |succ f ih=>
  intro t i u h
  cases i with
  |zero=>rfl
  |succ k=>
   have hk:k/2+1<2^f:=by rw[Nat.pow_succ] at h;omega
   rw[Tr.mL]
   rcases Nat.mod_two_eq_zero_or_one k with hm|hm
   ·simp only[Tr.set,hm,Tr.left];exact ih _ _ _ hk
   ·simp only[Tr.set,hm,Tr.right];exact ih _ _ _ hk
theorem Tr.ct {α:Type}:∀(f:Nat) (t:Tr α) (i j:Nat) (u:α),i≠j->(Tr.set f t i u).get j=t.get j:=by
 intro f
 induction f with
 |zero=>intro t i j u h;rfl
 |succ f ih=>
  intro t i j u h
  cases i with
  |zero=>
   cases j with
   |zero=>exact absurd rfl h
   |succ m=>rw[Tr.mL,Tr.mL];simp only[Tr.set,Tr.left,Tr.right]
  |succ k=>
   rcases Nat.mod_two_eq_zero_or_one k with hm|hm
   ·simp only[Tr.set,hm]
    cases j with
    |zero=>rw[Tr.uX,Tr.uX];rfl
    |succ m=>
     rw[Tr.mL,Tr.mL]
     rcases Nat.mod_two_eq_zero_or_one m with hn|hn
     ·simp only[hn,Tr.left];exact ih _ _ _ _ (by omega)
     ·simp only[hn,Tr.right]
   ·simp only[Tr.set,hm]
    cases j with
    |zero=>rw[Tr.uX,Tr.uX];rfl
    |succ m=>
     rw[Tr.mL,Tr.mL]
     rcases Nat.mod_two_eq_zero_or_one m with hn|hn
     ·simp only[hn,Tr.left]
     ·simp only[hn,Tr.right];exact ih _ _ _ _ (by omega)
theorem deep {i:Nat}(_:0<16000001):i+1<2^depth i:=by unfold depth;exact Nat.lt_log2_self
theorem aq.cg (s:aq)(i:Nat)(b:iC)(h:0<16000001):(s.put i (.dL b)).bK i=some b:=by
 simp only[aq.bK,aq.put,Tr.bu _ s.heap i _ (deep h)]
theorem aq.a8 (s:aq)(i j:Nat)(o:AO)(h:i≠j):(s.put i o).heap.get j=s.heap.get j:=by
 simp only[aq.put,Tr.ct _ s.heap i j o h]
structure Emb where
 loc:Nat->Nat->Nat×Nat
 mp:Nat->Nat
structure St where
 s:aq
 e:Emb
 w:World
def tG (S:St)(i off c:Nat)(a:Addr):Prop:=
 ∃b,S.s.bK i=some b/\c<=b.cells.length+1/\(b.low<=c->a=⟨(S.e.loc i c).1,(S.e.loc i c).2+off,none⟩)
def GI (S:St)(i c:Nat)(a:Addr)(cap:Nat):Prop:=
 ∀b,S.s.bK i=some b->b.low<=c->∃(arr:Array Value) (E:TypeId) (fr:Nat×Nat),S.w.heap[a.block]?=some (.cells arr E fr)/\a.off+cap*b.lW<=arr.size
inductive VR (S:St):Value->Value->Prop
 |bool (b:Bool):VR S (.bool b) (.bool b)
 |int (k:IntKind) (n:Int):VR S (.int k n) (.int k n)
 |string (x:ByteArray):VR S (.string x) (.string x)
 |Je:VR S (.pointer none) (.pointer none)
 |ptr (i off c:Nat) (a:Addr) (h:tG S i off c a):VR S (.pointer (some ⟨i,off,some c⟩)) (.pointer (some a))
 |gP:VR S (.slice none 0 0) (.slice none 0 0)
 |slice (i off len c:Nat) (a:Addr) (cap:Nat) (h0:len<=cap) (hz:c=0->cap=0) (h:0<cap->tG S i off c a/\GI S i c a cap):
  VR S (.slice (some ⟨i,off,none⟩) len c) (.slice (some a) len cap)
 |Jf:VR S (.map none) (.map none)
 |map (r:Nat) (h:∃es,S.s.dR r=some es):VR S (.map (some r)) (.map (some (S.e.mp r)))
 |nilFunc:VR S .nilFunc .nilFunc
 |nilIface:VR S .nilIface .nilIface
 |func (g:FuncId) (zS bs Lb Lc:Array Value) (ha:zS.toList.length=Lb.toList.length) (hb:bs.toList.length=Lc.toList.length)
  (h1:∀i,i<zS.toList.length->VR S (zS.toList.getD i undef) (Lb.toList.getD i undef)) (h2:∀i,i<bs.toList.length->VR S (bs.toList.getD i undef) (Lc.toList.getD i undef)):
  VR S (.func (.func g) zS bs) (.func (.func g) Lb Lc)
 |agg (cs jt:Array Value) (h1:cs.toList.length=jt.toList.length) (h2:∀i,i<cs.toList.length->VR S (cs.toList.getD i undef) (jt.toList.getD i undef)):VR S (.agg cs) (.agg jt)
 |Yn (n:Int):VR S (.chan none) (.int .u8 n)
 |raw (b o:Nat):VR S (.pointer (some ⟨b,o,none⟩)) (.pointer (some ⟨b,o,none⟩))
 |iface (t:TypeId) (v v' :Value) (h:VR S v v'):VR S (.iface t v) (.iface t v')
 |tuple (cs jt:Array Value) (h1:cs.toList.length=jt.toList.length) (h2:∀i,i<cs.toList.length->VR S (cs.toList.getD i undef) (jt.toList.getD i undef)):VR S (.tuple cs) (.tuple jt)
def eX (S:St)(l l' :List Value):Prop:=l.length=l'.length/\∀i,i<l.length->VR S (l.getD i undef) (l'.getD i undef)
theorem VR.q8 (S:St):VR S undef undef:=VR.tuple #[] #[] rfl (fun i h=>by simp at h)
theorem eX.nil {S:St}:eX S [] []:=⟨rfl,fun i h=>by simp at h⟩
theorem eX.cons {S:St}{v v' :Value}{l l' :List Value}(h:VR S v v')(hl:eX S l l'):eX S (v::l) (v' ::l'):=by
 refine⟨by simp[hl.1],fun i hi=> ?_⟩
 cases i with
 |zero=>simpa using h
 |succ k=>simpa using hl.2 k (by simpa using hi)
theorem eX.cons_inv {S:St}{v:Value}{l l' :List Value}(h:eX S (v::l) l'):∃v' r',l' =v' ::r' /\VR S v v' /\eX S l r' :=by
 cases l' with
 |nil=>have:=h.1;simp at this
 |cons v' r' =>
  refine⟨v',r',rfl,by simpa using h.2 0 (by simp),by simpa using h.1,fun i hi=>by simpa using h.2 (i+1) (by simpa using hi)⟩
theorem eX.ju {S:St}{l' :List Value}(h:eX S [] l'):l' =[]:=by
 have:=h.1
 cases l' with
 |nil=>rfl
 |cons _ _=>simp at this
theorem eX.append {S:St}{l l' m m' :List Value}(h:eX S l l')(hm:eX S m m'):eX S (l++m) (l' ++m'):=by
 induction l generalizing l' with
 |nil=>rw[h.ju];exact hm
 |cons v l ih=>
  obtain⟨v',r',rfl,h1,h2⟩:=h.cons_inv
  exact eX.cons h1 (ih h2)
theorem eX.toList {S:St}{cs jt:Array Value}(h:eX S cs.toList jt.toList):VR S (.agg cs) (.agg jt):= .agg _ _ h.1 h.2
theorem eX.agg {S:St}{l l' :List Value}(h:eX S l l'):VR S (.agg l.toArray) (.agg l'.toArray):= .agg _ _ (by simpa using h.1) (by simpa using h.2)
theorem eX.tuple {S:St}{l l' :List Value}(h:eX S l l'):VR S (.tuple l.toArray) (.tuple l'.toArray):= .tuple _ _ (by simpa using h.1) (by simpa using h.2)
structure Ext (S T:St):Prop where
 dL:∀i b,S.s.bK i=some b->∃b',T.s.bK i=some b' /\b.cells.length<=b'.cells.length/\b.low<=b'.low/\b'.lW=b.lW/\∀c,c<=b.cells.length+1->b'.low<=c->T.e.loc i c=S.e.loc i c
 map:∀r es,S.s.dR r=some es->(∃fY,T.s.dR r=some fY)/\T.e.mp r=S.e.mp r
 arr:∀(k:Nat) (arr:Array Value) (E:TypeId) (fr:Nat×Nat),S.w.heap[k]?=some (.cells arr E fr)->∃(jT:Array Value) (Jg:Nat×Nat),T.w.heap[k]?=some (.cells jT E Jg)/\jT.size=arr.size
theorem Ext.refl (S:St):Ext S S:=
 ⟨fun _ b h=>⟨b,h,Nat.le_refl _,Nat.le_refl _,rfl,fun _ _ _=>rfl⟩,fun _ es h=>⟨⟨es,h⟩,rfl⟩,fun _ arr _ fr h=>⟨arr,fr,h,rfl⟩⟩
theorem Ext.trans {S T U:St}(h:Ext S T)(k:Ext T U):Ext S U:=by
 refine⟨fun i b hb=> ?_,fun r es hr=> ?_,fun n arr E fr hn=> ?_⟩
 ·obtain⟨b1,h1,h2,h3,h4,h5⟩:=h.dL i b hb
  obtain⟨b2,k1,k2,k3,k4,k5⟩:=k.dL i b1 h1
  exact⟨b2,k1,by omega,by omega,by rw[k4,h4],fun c hc hl=>(k5 c (by omega) hl).trans (h5 c hc (by omega))⟩
 ·obtain⟨⟨Gu,h1⟩,h2⟩:=h.map r es hr
  obtain⟨h3,h4⟩:=k.map r Gu h1
  exact⟨h3,h4.trans h2⟩
 ·obtain⟨a1,f1,h1,h2⟩:=h.arr n arr E fr hn
  obtain⟨a2,f2,k1,k2⟩:=k.arr n a1 E f1 h1
  exact⟨a2,f2,k1,k2.trans h2⟩
theorem tG.mono {S T:St}(h:Ext S T){i off c:Nat}{a:Addr}(hr:tG S i off c a):tG T i off c a:=by
 obtain⟨b,hb,hc,hl⟩:=hr
 obtain⟨b',h1,h2,h3,_,h5⟩:=h.dL i b hb
 exact⟨b',h1,by omega,fun gC=>by rw[h5 c hc gC];exact hl (by omega)⟩
theorem GI.mono {S T:St}(h:Ext S T){i c:Nat}{a:Addr}{cap:Nat}(hs:∃b,S.s.bK i=some b)(hr:GI S i c a cap):GI T i c a cap:=by
 intro b' qV I0
 obtain⟨b,hb⟩:=hs
 obtain⟨b1,h1,h2,h3,h4,_⟩:=h.dL i b hb
 rw[qV] at h1
 obtain rfl:=Option.some.inj h1
 obtain⟨arr,E,fr,ha,cJ⟩:=hr b hb (by omega)
 obtain⟨jT,Jg,ha',O0⟩:=h.arr _ _ _ _ ha
 exact⟨jT,E,Jg,ha',by rw[h4,O0];exact cJ⟩
theorem VR.mono {S T:St}(h:Ext S T){v v' :Value}(hv:VR S v v'):VR T v v' :=by
 induction hv with
 |bool b=>exact .bool b
 |int k n=>exact .int k n
 |string x=>exact .string x
 |Je=>exact .Je
 |ptr i off c a hr=>exact .ptr i off c a (hr.mono h)
 |gP=>exact .gP
 |slice i off len c a cap h0 hz hr=>
  refine .slice i off len c a cap h0 hz fun hc=> ?_
  obtain⟨kH,iT⟩:=hr hc
  exact⟨kH.mono h,iT.mono h (by obtain⟨b,hb,_⟩:=kH;exact⟨b,hb⟩)⟩
 |Jf=>exact .Jf
 |map r hr=>
  obtain⟨es,mM⟩:=hr
  obtain⟨h1,h2⟩:=h.map r es mM
  rw[<-h2]
  exact .map r h1
 |nilFunc=>exact .nilFunc
 |nilIface=>exact .nilIface
 |func g zS bs Lb Lc ha hb _ _ ih1 ih2=>exact .func g zS bs Lb Lc ha hb ih1 ih2
 |agg cs jt h1 _ ih=>exact .agg cs jt h1 ih
 |Yn n=>exact .Yn n
 |raw b o=>exact .raw b o
 |iface t v v' _ ih=>exact .iface t v v' ih
 |tuple cs jt h1 _ ih=>exact .tuple cs jt h1 ih
theorem eX.mono {S T:St}(h:Ext S T){l l' :List Value}(hv:eX S l l'):eX T l l' :=⟨hv.1,fun i hi=>(hv.2 i hi).mono h⟩
def ER (S:St):List (Value×Value)->List MapEntry->Prop
 |[],[]=>True
 |(k,v)::r,e::r' =>e.key=k/\VR S v e.val/\ER S r r'
 |_,_=>False
theorem ER.mono {S T:St}(h:Ext S T):∀{l:List (Value×Value)} {l' :List MapEntry},ER S l l' ->ER T l l'
 |[],[],_=>trivial
 |(_,_)::_,_::_,hv=>⟨hv.1,hv.2.1.mono h,ER.mono h hv.2.2⟩
 |[],_::_,hv=>hv
 |_::_,[],hv=>hv
def Live (b:iC)(c:Nat):Prop:=b.low<=c/\c<=b.cells.length+1
structure SR (base:Nat) (S:St):Prop where
 room:0<=16000000
 bound:∀i o,S.s.heap.get i=some o->i<S.s.next
 low:∀i b,S.s.bK i=some b->1<=b.low
 cell:∀i b,S.s.bK i=some b->∀c,Live b c->∀p,p+1<c->∃v,S.w.cell? ⟨(S.e.loc i c).1,(S.e.loc i c).2+p,none⟩=some v/\VR S (b.cells.getD p undef) v
 own:∀i b,S.s.bK i=some b->b.own=true->∀c,Live b c->
  base<=(S.e.loc i c).1/\(∃(arr:Array Value) (E:TypeId) (fr:Nat×Nat),S.w.heap[(S.e.loc i c).1]?=some (.cells arr E fr)/\(fr.1=fr.2\/arr.size<=fr.1))/\
  (∀j b',S.s.bK j=some b' ->∀c',Live b' c' ->(S.e.loc j c').1=(S.e.loc i c).1->j=i)/\
  ∀c',Live b c' ->(S.e.loc i c').1=(S.e.loc i c).1->S.e.loc i c' =S.e.loc i c
 map:∀r es,S.s.dR r=some es->base<=S.e.mp r/\∃(fY:Array MapEntry) (qK:Nat),S.w.heap[S.e.mp r]?=some (.map fY qK)/\ER S es fY.toList
 EV:∀r r' es fY,S.s.dR r=some es->S.s.dR r' =some fY->S.e.mp r=S.e.mp r' ->r=r'
 size:base<=S.w.heap.size
 EW:∀i b,S.s.bK i=some b->∀c,Live b c->(S.e.loc i c).1<S.w.heap.size
structure Good (base:Nat) (S T:St):Prop where
 sr:SR base T
 ext:Ext S T
 below:Below base S.w T.w
theorem Good.refl {base:Nat}{S:St}(h:SR base S):Good base S S:=⟨h,Ext.refl S,Below.refl _ _⟩
theorem Good.trans {base:Nat}{S T U:St}(h:Good base S T)(k:Good base T U):Good base S U:=⟨k.sr,h.ext.trans k.ext,h.below.trans k.below⟩
theorem SR.lt {base:Nat}{S:St}(h:SR base S){i:Nat}{b:iC}(hb:S.s.bK i=some b):i<S.s.next:=by
 unfold aq.bK at hb
 split at hb
 ·exact h.bound i _ ‹_›
 ·cases hb
theorem SR.mlt {base:Nat}{S:St}(h:SR base S){i:Nat}{b:List (Value×Value)}(hb:S.s.dR i=some b):i<S.s.next:=by
 unfold aq.dR at hb
 split at hb
 ·exact h.bound i _ ‹_›
 ·cases hb
theorem jN {s:aq}{i:Nat}{b:iC}{es:List (Value×Value)}(hb:s.bK i=some b)(he:s.dR i=some es):False:=by
 unfold aq.bK at hb
 unfold aq.dR at he
 split at hb
 ·rename_i h;rw[h] at he;cases he
 ·cases hb
theorem SR.change {base:Nat}{S:St}(h:SR base S)(i L next:Nat)(b' :iC)(jX:Nat->Nat->Nat×Nat)(w' :World)
  (hi:i<next) (hn:S.s.next<=next) (hr:0<=16000000) (EX:i<S.s.next\/i+1=next)
  (ab4:∀es,S.s.dR i≠some es)
  (oR:1<=b'.low)
  (hold:∀b,S.s.bK i=some b->b.cells.length<=b'.cells.length/\b.low<=b'.low/\b'.lW=b.lW/\∀c,c<=b.cells.length+1->b'.low<=c->jX i c=S.e.loc i c)
  (ot:∀j,j≠i->jX j=S.e.loc j)
  (hw:∀k,k≠L->k<S.w.heap.size->w'.heap[k]?=S.w.heap[k]?)
  (hL:∀j bj c,j≠i->S.s.bK j=some bj->Live bj c->(S.e.loc j c).1≠L)
  (hLm:∀r es,S.s.dR r=some es->S.e.mp r≠L)
  (ab5:∀c,Live b' c->(jX i c).1<w'.heap.size)
  (iN:∀c,Live b' c->∀p,p+1<c->∃v,w'.cell? ⟨(jX i c).1,(jX i c).2+p,none⟩=some v/\VR S (b'.cells.getD p undef) v)
  (kI:b'.own=true->∀c,Live b' c->base<=(jX i c).1/\(∃(arr:Array Value) (E:TypeId) (fr:Nat×Nat),w'.heap[(jX i c).1]?=some (.cells arr E fr)/\(fr.1=fr.2\/arr.size<=fr.1))/\
   (∀j bj,j≠i->S.s.bK j=some bj->∀c',Live bj c' ->(S.e.loc j c').1≠(jX i c).1)/\
   ∀c',Live b' c' ->(jX i c').1=(jX i c).1->jX i c' =jX i c)
  (wQ:∀j bj,j≠i->S.s.bK j=some bj->bj.own=true->∀c',Live bj c' ->∀c,Live b' c->(jX i c).1≠(S.e.loc j c').1)
  (VF:∀(arr:Array Value) (E:TypeId) (fr:Nat×Nat),S.w.heap[L]?=some (.cells arr E fr)->∃(jT:Array Value) (Jg:Nat×Nat),w'.heap[L]?=some (.cells jT E Jg)/\jT.size=arr.size)
  (mN:Below base S.w w') (cJ:S.w.heap.size<=w'.heap.size):
  Good base S ⟨⟨Tr.set (depth i) S.s.heap i (.dL b'),next⟩,⟨jX,S.e.mp⟩,w'⟩:=by
 have gq:∀j,j≠i->(Tr.set (depth i) S.s.heap i (.dL b')).get j=S.s.heap.get j:=fun j hj=>Tr.ct _ _ _ _ _ (Ne.symm hj)
 have GJ:(Tr.set (depth i) S.s.heap i (.dL b')).get i=some (.dL b'):=Tr.bu _ _ _ _ (deep (by omega))
 have jY:(⟨Tr.set (depth i) S.s.heap i (.dL b'),next⟩:aq).bK i=some b' :=by simp only[aq.bK,GJ]
 have nC:∀j,j≠i->(⟨Tr.set (depth i) S.s.heap i (.dL b'),next⟩:aq).bK j=S.s.bK j:=fun j hj=>by simp only[aq.bK,gq j hj]
 have Oz:∀j,j≠i->(⟨Tr.set (depth i) S.s.heap i (.dL b'),next⟩:aq).dR j=S.s.dR j:=fun j hj=>by simp only[aq.dR,gq j hj]
 have hmi:(⟨Tr.set (depth i) S.s.heap i (.dL b'),next⟩:aq).dR i=none:=by simp only[aq.dR,GJ]
 have Yo:∀(k:Nat) (arr:Array Value) (E:TypeId) (fr:Nat×Nat),S.w.heap[k]?=some (.cells arr E fr)->∃(jT:Array Value) (Jg:Nat×Nat),w'.heap[k]?=some (.cells jT E Jg)/\jT.size=arr.size:=by
  intro k arr E fr hk
  by_cases hkL:k=L
  ·subst hkL;exact VF arr E fr hk
  ·have aP:k<S.w.heap.size:=by
    rcases Nat.lt_or_ge k S.w.heap.size with h' |h'
    ·exact h'
    ·rw[Array.getElem?_eq_none h'] at hk;cases hk
   exact⟨arr,fr,by rw[hw k hkL aP];exact hk,rfl⟩
 have lJ:Ext S ⟨⟨Tr.set (depth i) S.s.heap i (.dL b'),next⟩,⟨jX,S.e.mp⟩,w'⟩:=by
  refine⟨fun j b hb=> ?_,fun r es he=> ?_,Yo⟩
  ·by_cases hj:j=i
   ·subst hj
    obtain⟨h1,h2,h3,h4⟩:=hold b hb
    exact⟨b',jY,h1,h2,h3,h4⟩
   ·exact⟨b,by rw[<-hb];exact nC j hj,Nat.le_refl _,Nat.le_refl _,rfl,fun c _ _=>by show jX j c=_;rw[ot j hj]⟩
  ·have CU:r≠i:=fun e=>ab4 es (e▸he)
   exact⟨⟨es,by rw[<-he];exact Oz r CU⟩,rfl⟩
 refine⟨⟨hr,?_,?_,?_,?_,?_,?_,Nat.le_trans h.size mN.size,?_⟩,lJ,mN⟩
 ·intro j o hj
  by_cases fZ:j=i
  ·show j<next;omega
  ·have R2:(Tr.set (depth i) S.s.heap i (.dL b')).get j=some o:=hj
   rw[gq j fZ] at R2
   have:=h.bound j o R2
   show j<next;omega
 ·intro j b hb
  by_cases fZ:j=i
  ·subst fZ;rw[jY] at hb;obtain rfl:=Option.some.inj hb;exact oR
  ·rw[nC j fZ] at hb;exact h.low j b hb
 ·intro j b hb c hc p hp
  by_cases fZ:j=i
  ·subst fZ
   rw[jY] at hb;obtain rfl:=Option.some.inj hb
   obtain⟨v,h1,h2⟩:=iN c hc p hp
   exact⟨v,h1,h2.mono lJ⟩
  ·rw[nC j fZ] at hb
   obtain⟨v,h1,h2⟩:=h.cell j b hb c hc p hp
   refine⟨v,?_,h2.mono lJ⟩
   show w'.cell? ⟨(jX j c).1,(jX j c).2+p,none⟩=some v
   rw[ot j fZ,<-h1]
   exact World.cell?_of_block (hw _ (hL j b c fZ hb hc) (h.EW j b hb c hc))
 ·intro j b hb zZ c hc
  by_cases fZ:j=i
  ·subst fZ
   rw[jY] at hb;obtain rfl:=Option.some.inj hb
   obtain⟨h1,h2,h3,h5⟩:=kI zZ c hc
   refine⟨h1,h2,fun k bk hk c' hO VG=> ?_,h5⟩
   by_cases hkj:k=j
   ·exact hkj
   ·rw[nC k hkj] at hk
    exact absurd (by have:(jX k c').1=(jX j c).1:=VG;rwa [ot k hkj] at this) (h3 k bk hkj hk c' hO)
  ·rw[nC j fZ] at hb
   obtain⟨h1,⟨arr,E,fr,h2,Uv⟩,h3,h5⟩:=h.own j b hb zZ c hc
   have cD:=hL j b c fZ hb hc
   have aP:(S.e.loc j c).1<S.w.heap.size:=by
    rcases Nat.lt_or_ge (S.e.loc j c).1 S.w.heap.size with h' |h'
    ·exact h'
    ·rw[Array.getElem?_eq_none h'] at h2;cases h2
   refine⟨by show base<=(jX j c).1;rw[ot j fZ];exact h1,⟨arr,E,fr,?_,Uv⟩,fun k bk hk c' hO VG=> ?_,by show∀c',Live b c' ->(jX j c').1=(jX j c).1->jX j c' =jX j c;rw[ot j fZ];exact h5⟩
   ·show w'.heap[(jX j c).1]?=_
    rw[ot j fZ,hw _ cD aP];exact h2
   ·have z0:(jX k c').1=(jX j c).1:=VG
    rw[ot j fZ] at z0
    by_cases O1:k=i
    ·subst O1
     rw[jY] at hk;obtain rfl:=Option.some.inj hk
     exact absurd z0 (wQ j b fZ hb zZ c hc c' hO)
    ·rw[nC k O1] at hk
     rw[ot k O1] at z0
     exact h3 k bk hk c' hO z0
 ·intro r es he
  have CU:r≠i:=fun e=>by subst e;rw[hmi] at he;cases he
  rw[Oz r CU] at he
  obtain⟨h1,fY,qK,h2,h3⟩:=h.map r es he
  have aP:S.e.mp r<S.w.heap.size:=by
   rcases Nat.lt_or_ge (S.e.mp r) S.w.heap.size with h' |h'
   ·exact h'
   ·rw[Array.getElem?_eq_none h'] at h2;cases h2
  exact⟨h1,fY,qK,by show w'.heap[S.e.mp r]?=_;rw[hw _ (hLm r es he) aP];exact h2,h3.mono lJ⟩
 ·intro r r' es fY he zd VG
  have CU:r≠i:=fun e=>by subst e;rw[hmi] at he;cases he
  have EY:r' ≠i:=fun e=>by subst e;rw[hmi] at zd;cases zd
  rw[Oz r CU] at he
  rw[Oz r' EY] at zd
  exact h.EV r r' es fY he zd VG
 ·intro j b hb c hc
  by_cases fZ:j=i
  ·subst fZ
   rw[jY] at hb;obtain rfl:=Option.some.inj hb
   exact ab5 c hc
  ·rw[nC j fZ] at hb
   show(jX j c).1<w'.heap.size
   rw[ot j fZ]
   exact Nat.lt_of_lt_of_le (h.EW j b hb c hc) cJ
end Go.Cl
namespace Go.Cl
open Go.RowKit
theorem uY:∀(n:Nat) (l:List Value),takeN n l=if n<=l.length then some (l.take n) else none:=by
 intro n
 induction n with
 |zero=>intro l;simp[takeN]
 |succ n ih=>
  intro l
  cases l with
  |nil=>simp[takeN]
  |cons v r=>
   simp only[takeN,ih,List.length_cons,Nat.add_le_add_iff_right,List.take_succ_cons]
   by_cases h:n<=r.length<;>simp[h]
theorem q9:∀(n:Nat) (l:List Value),yc n l=l.drop n:=by
 intro n
 induction n with
 |zero=>intro l;cases l<;>simp[yc]
 |succ n ih=>intro l;cases l with
  |nil=>simp[yc]
  |cons v r=>simp[yc,ih]
theorem uf:∀(l:List Value) (off:Nat) (vs r:List Value),setAt l off vs=some r->
  r.length=l.length/\(vs=[]\/off+vs.length<=l.length)/\∀p,r.getD p undef=if off<=p/\p<off+vs.length then vs.getD (p-off) undef else l.getD p undef:=by
 intro l
 induction l with
 |nil=>
  intro off vs r h
  cases vs with
  |nil=>simp only[setAt] at h;obtain rfl:=Option.some.inj h;exact⟨rfl,.inl rfl,fun p=>by rw[if_neg (by simp)]⟩
  |cons v vs=>simp[setAt] at h
 |cons c l ih=>
  intro off vs r h
  cases vs with
  |nil=>simp only[setAt] at h;obtain rfl:=Option.some.inj h;exact⟨rfl,.inl rfl,fun p=>by rw[if_neg (by simp)]⟩
  |cons v vs=>
   cases off with
   |zero=>
    simp only[setAt] at h
    split at h
    ·rename_i m hm
     obtain rfl:=Option.some.inj h
     obtain⟨h1,h2,h3⟩:=ih 0 vs m hm
     refine⟨by simp[h1],.inr ?_,fun p=> ?_⟩
     ·rcases h2 with rfl|h2
      ·simp
      ·simp;omega
     ·cases p with
      |zero=>simp
      |succ p=>
       have:=h3 p
       simp only[Nat.zero_le,true_and,Nat.zero_add,Nat.sub_zero,List.getD_cons_succ,List.length_cons,Nat.add_lt_add_iff_right] at this|-
       exact this
    ·cases h
   |succ n=>
    simp only[setAt] at h
    split at h
    ·rename_i m hm
     obtain rfl:=Option.some.inj h
     obtain⟨h1,h2,h3⟩:=ih n (v::vs) m hm
     refine⟨by simp[h1],.inr ?_,fun p=> ?_⟩
     ·rcases h2 with h2|h2
      ·cases h2
      ·simp at h2|-;omega
     ·cases p with
      |zero=>rw[if_neg (by omega)];simp
      |succ p=>
       have:=h3 p
       simp only[List.getD_cons_succ]
       rw[this]
       by_cases hc:n<=p/\p<n+(v::vs).length
       ·rw[if_pos hc,if_pos (by omega),show p+1-(n+1)=p-n by omega]
       ·rw[if_neg hc,if_neg (by omega)]
    ·cases h
def wR (w:World)(k o n:Nat):List Value:=(List.range n).map fun p=>(w.cell? ⟨k,o+p,none⟩).getD undef
theorem GK (w:World)(k o n:Nat):(wR w k o n).length=n:=by simp[wR]
theorem wS (w:World)(k o n p:Nat)(h:p<n):(wR w k o n).getD p undef=(w.cell? ⟨k,o+p,none⟩).getD undef:=by
 simp[wR,List.getD_eq_getElem?_getD,h]
theorem MA (w:World)(k o n:Nat):wR w k o (n+1)=(w.cell? ⟨k,o,none⟩).getD undef::wR w k (o+1) n:=by
 simp only[wR,List.range_succ_eq_map,List.map_cons,List.map_map,Nat.add_zero]
 congr 1
 apply List.map_congr_left
 intro p _
 simp only[Function.comp,Nat.succ_eq_add_one]
 rw[show o+(p+1)=o+1+p by omega]
theorem run_loadCellsFrom (P:Program)(w:World)(k o:Nat):∀(n i:Nat) (acc:Array Value),(∀p,p<n->∃v,w.cell? ⟨k,o+i+p,none⟩=some v)->
  (loadCellsFrom ⟨k,o,none⟩ i n acc).run P w= .ok (acc++(wR w k (o+i) n).toArray) w:=by
 intro n
 induction n with
 |zero=>intro i acc _;simp[loadCellsFrom,wR]
 |succ n ih=>
  intro i acc h
  obtain⟨v,hv⟩:=h 0 (by omega)
  simp only[Nat.add_zero] at hv
  have:=ih (i+1) (acc.push v) (fun p hp=>by have:=h (p+1) (by omega);rwa [show o+i+(p+1)=o+(i+1)+p by omega] at this)
  simp only[loadCellsFrom,Sem.run_bind,run_load,Addr.add_lit,hv,Result.andThen_ok,this,MA,Option.getD_some]
  congr 1
  rw[<-Array.toList_inj]
  simp[Nat.add_assoc]
theorem run_loadCells (P:Program)(w:World)(k o n:Nat)(h:∀p,p<n->∃v,w.cell? ⟨k,o+p,none⟩=some v):
  (loadCells ⟨k,o,none⟩ n).run P w= .ok (wR w k o n).toArray w:=by
 have:=run_loadCellsFrom P w k o n 0 #[] (by simpa using h)
 simpa [loadCells] using this
def setCells (w:World)(k o:Nat):List Value->World
 |[]=>w
 |v::r=>setCells (w.setCell ⟨k,o,none⟩ v) k (o+1) r
theorem tH (w:World)(k o:Nat)(v:Value)(arr:Array Value)(E:TypeId)(fr:Nat×Nat)(h:w.heap[k]?=some (.cells arr E fr)):
  (w.setCell ⟨k,o,none⟩ v).heap[k]?=some (.cells (arr.setIfInBounds o v) E fr):=by
 simp only[World.setCell,Array.getElem?_modify,if_true,h]
 rfl
theorem ch (w:World)(k o:Nat)(arr:Array Value)(E:TypeId)(fr:Nat×Nat)(h:w.heap[k]?=some (.cells arr E fr)):
  w.cell? ⟨k,o,none⟩=arr[o]?:=by simp[World.cell?,h]
theorem tI {w:World}{k o:Nat}{v:Value}(h:w.cell? ⟨k,o,none⟩=some v):∃(arr:Array Value) (E:TypeId) (fr:Nat×Nat),w.heap[k]?=some (.cells arr E fr)/\arr[o]?=some v:=by
 unfold World.cell? at h
 split at h
 ·rename_i c E fr hk
  exact⟨c,E,fr,hk,by simpa using h⟩
 ·cases h
theorem eH {w:World}{k:Nat}{o:Obj}(h:w.heap[k]?=some o):k<w.heap.size:=by
 rcases Nat.lt_or_ge k w.heap.size with h' |h'
 ·exact h'
 ·rw[Array.getElem?_eq_none h'] at h;cases h
theorem ga:∀(vs:List Value) (w:World) (k o:Nat),(setCells w k o vs).heap.size=w.heap.size
 |[],_,_,_=>rfl
 |v::r,w,k,o=>by rw[setCells,ga r];simp
theorem jO:∀(vs:List Value) (w:World) (k o j:Nat),j≠k->(setCells w k o vs).heap[j]?=w.heap[j]?
 |[],_,_,_,_,_=>rfl
 |v::r,w,k,o,j,h=>by rw[setCells,jO r _ _ _ _ h];exact Below.heap_setCell _ _ _ _ h
theorem jZ:∀(vs:List Value) (w:World) (k o B:Nat),B<=k->Below B w (setCells w k o vs)
 |[],w,_,_,B,_=>Below.refl B w
 |v::r,w,k,o,B,h=>((Below.refl B w).setCell (p:=⟨k,o,none⟩) h v).trans (jZ r _ k (o+1) B h)
theorem iq:∀(vs:List Value) (w:World) (k o:Nat) (arr:Array Value) (E:TypeId) (fr:Nat×Nat),w.heap[k]?=some (.cells arr E fr)->o+vs.length<=arr.size->
  ∃jT,(setCells w k o vs).heap[k]?=some (.cells jT E fr)/\jT.size=arr.size/\∀p,jT[p]?=if o<=p/\p<o+vs.length then some (vs.getD (p-o) undef) else arr[p]?:=by
 intro vs
 induction vs with
 |nil=>intro w k o arr E fr h _;exact⟨arr,h,rfl,fun p=>by rw[if_neg (by simp)]⟩
 |cons v r ih=>
  intro w k o arr E fr h hle
  simp only[List.length_cons] at hle
  obtain⟨jT,h1,h2,h3⟩:=ih (w.setCell ⟨k,o,none⟩ v) k (o+1) _ E fr (tH w k o v arr E fr h) (by simp;omega)
  refine⟨jT,h1,by simpa using h2,fun p=> ?_⟩
  rw[h3 p]
  by_cases hp:o+1<=p/\p<o+1+r.length
  ·rw[if_pos hp,if_pos (by simp;omega),show p-o=(p-(o+1))+1 by omega,List.getD_cons_succ]
  ·rw[if_neg hp]
   by_cases hpo:p=o
   ·subst hpo
    rw[if_pos (by simp),Array.getElem?_setIfInBounds_self_of_lt (by omega),Nat.sub_self,List.getD_cons_zero]
   ·rw[if_neg (by simp;omega),Array.getElem?_setIfInBounds_ne (by omega)]
theorem z1 {v:Value}(h:aO v=true):v.oneCell' =true:=by cases v<;>simp_all[aO,Value.oneCell']
theorem j0 (P:Program)(k o:Nat):∀(vs:List Value) (w:World) (i:Nat) (arr:Array Value) (E:TypeId) (fr:Nat×Nat),w.heap[k]?=some (.cells arr E fr)->
  (fr.1=fr.2\/arr.size<=fr.1)->o+i+vs.length<=arr.size->(∀v∈vs,aO v=true)->(storeCells ⟨k,o,none⟩ vs i).run P w= .ok () (setCells w k (o+i) vs):=by
 intro vs
 induction vs with
 |nil=>intro w i arr E fr _ _ _ _;simp[storeCells,setCells]
 |cons v r ih=>
  intro w i arr E fr h l5 hle dE
  simp only[List.length_cons] at hle
  have hc:w.cell? ⟨k,o+i,none⟩=some arr[o+i]:=by rw[ch w k _ arr E fr h];simp
  have hfz:w.frozen? ⟨k,o+i,none⟩=false:=by
   simp only[World.frozen?,h]
   rcases l5 with h1|h1
   ·rw[Bool.and_eq_false_iff];simp;omega
   ·rw[Bool.and_eq_false_iff];simp;omega
  have aA:(store ⟨k,o+i,none⟩ v).run P w= .ok () (w.setCell ⟨k,o+i,none⟩ v):=by
   rw[run_store P w _ v .plain (z1 (dE v (by simp)))]
   simp[hc,hfz]
  have:=ih (w.setCell ⟨k,o+i,none⟩ v) (i+1) _ E fr (tH w k (o+i) v arr E fr h) (by simpa using l5) (by simp;omega) (fun u hu=>dE u (by simp[hu]))
  simp only[storeCells,Sem.run_bind,Addr.add_lit,aA,Result.andThen_ok,this,setCells,Nat.add_assoc]
theorem VR.aO {S:St}{v v' :Value}(h:VR S v v'):aO v=aO v' :=by cases h<;>rfl
theorem eX.aO {S:St}{l l' :List Value}(h:eX S l l')(dE:l.all aO=true):∀v∈l',aO v=true:=by
 induction l generalizing l' with
 |nil=>rw[h.ju];simp
 |cons v l ih=>
  obtain⟨v',r',rfl,h1,h2⟩:=h.cons_inv
  simp only[List.all_cons,Bool.and_eq_true] at dE
  intro u hu
  rcases List.mem_cons.1 hu with rfl|hu
  ·rw[<-h1.aO];exact dE.1
  ·exact ih h2 dE.2 u hu
theorem VR.cells {S:St}{v v' :Value}(h:VR S v v'):eX S v.cells.toList v'.cells.toList:=by
 cases h with
 |agg cs jt h1 h2=>exact⟨h1,h2⟩
 |raw b o=>exact eX.cons (.raw b o) eX.nil
 |Yn n=>exact eX.cons (.Yn n) eX.nil
 |iface t v v' h=>exact eX.cons (.iface t v v' h) eX.nil
 |_=>exact eX.cons (by first|assumption|(constructor<;>assumption)|constructor) eX.nil
theorem Sz {b:iC}{c n:Nat}(h:(Nat.ble b.low c&&Nat.ble c (b.cells.length+1)&&Nat.blt n c)=true):Live b c/\n<c:=by
 simp only[Bool.and_eq_true,Nat.ble_eq,Nat.blt_eq] at h
 exact⟨⟨h.1.1,h.1.2⟩,h.2⟩
theorem z2 (l:List Value)(o n p:Nat)(h:p<n):((l.drop o).take n).getD p undef=l.getD (o+p) undef:=by
 simp[List.getD_eq_getElem?_getD,h]
theorem SR.cells {base:Nat}{S:St}(h:SR base S){i off c n:Nat}{l:List Value}(hc:S.s.dm i off c n=some l):
  ∃b,S.s.bK i=some b/\Live b c/\off+n<c/\l=(b.cells.drop off).take n/\l.length=n/\eX S l (wR S.w (S.e.loc i c).1 ((S.e.loc i c).2+off) n)/\
   ∀p,p<n->∃v,S.w.cell? ⟨(S.e.loc i c).1,(S.e.loc i c).2+off+p,none⟩=some v:=by
 unfold aq.dm at hc
 split at hc
 ·rename_i b hb
  split at hc
  ·rename_i jg
   obtain⟨fy,aP⟩:=Sz jg
   rw[uY,q9] at hc
   split at hc
   ·rename_i hn
    obtain rfl:=Option.some.inj hc
    have nA:((b.cells.drop off).take n).length=n:=by rw[List.length_take];omega
    have iN:∀p,p<n->∃v,S.w.cell? ⟨(S.e.loc i c).1,(S.e.loc i c).2+off+p,none⟩=some v/\VR S (b.cells.getD (off+p) undef) v:=fun p hp=>by
     have:=h.cell i b hb c fy (off+p) (by omega)
     rwa [<-Nat.add_assoc] at this
    refine⟨b,hb,fy,aP,rfl,nA,⟨by rw[nA,GK],fun p hp=> ?_⟩,fun p hp=>(iN p hp).imp fun _ h=>h.1⟩
    rw[nA] at hp
    obtain⟨v,h1,h2⟩:=iN p hp
    rw[wS _ _ _ _ _ hp,h1,z2 _ _ _ _ hp]
    exact h2
   ·cases hc
  ·cases hc
 ·cases hc
theorem uZ {s:aq}(_:s.room=true):0<16000000:=by omega
theorem SR.fresh {base:Nat}{S:St}(h:SR base S):S.s.bK S.s.next=none/\S.s.dR S.s.next=none:=by
 constructor
 ·cases hb:S.s.bK S.s.next with
  |none=>rfl
  |some b=>have:=h.lt hb;omega
 ·cases hb:S.s.dR S.s.next with
  |none=>rfl
  |some b=>have:=h.mlt hb;omega
theorem SR.Ld {base:Nat}{S:St}(h:SR base S){r:Nat}{es:List (Value×Value)}(hr:S.s.dR r=some es):S.e.mp r<S.w.heap.size:=by
 obtain⟨_,fY,qK,h1,_⟩:=h.map r es hr
 exact eH h1
structure kJ (w w' :World) (o:Obj):Prop where
 heap:w'.heap=w.heap.push o
 os:w'.os=w.os
 tape:w'.tape=w.tape
 output:w'.output=w.output
theorem kJ.old {w w' :World}{o:Obj}(h:kJ w w' o)(k:Nat)(hk:k<w.heap.size):w'.heap[k]?=w.heap[k]?:=by
 rw[h.heap,Array.getElem?_push,if_neg (by omega)]
theorem kJ.new {w w' :World}{o:Obj}(h:kJ w w' o):w'.heap[w.heap.size]?=some o:=by
 rw[h.heap,Array.getElem?_push,if_pos rfl]
theorem kJ.size {w w' :World}{o:Obj}(h:kJ w w' o):w'.heap.size=w.heap.size+1:=by rw[h.heap];simp
theorem kJ.below {w w' :World}{o:Obj}{B:Nat}(h:kJ w w' o)(hB:B<=w.heap.size):Below B w w' :=
 ⟨h.os,h.tape,h.output,by rw[h.size];omega,fun k hk=>h.old k (by omega)⟩
structure ml (S:St) (id next:Nat):Prop where
 free:S.s.heap.get id=none
 lt:id<next
 le:S.s.next<=next
 room:0<=16000000
 known:id<S.s.next\/id+1=next
theorem ml.dL {S:St}{id next:Nat}(h:ml S id next):S.s.bK id=none:=by simp only[aq.bK,h.free]
theorem ml.map {S:St}{id next:Nat}(h:ml S id next):S.s.dR id=none:=by simp only[aq.dR,h.free]
theorem ml.self {base:Nat}{S:St}(h:SR base S)(hr:S.s.room=true):ml S S.s.next (S.s.next+1):=by
 have aP:=uZ hr
 refine⟨?_,by omega,by omega,by omega,.inr rfl⟩
 cases hg:S.s.heap.get S.s.next with
 |none=>rfl
 |some o=>have:=h.bound _ _ hg;omega
def St.ra (S:St)(id next:Nat)(b:iC)(W:World):St:=⟨⟨Tr.set (depth id) S.s.heap id (.dL b),next⟩,⟨fun j c=>if j=id then(S.w.heap.size,0) else S.e.loc j c,S.e.mp⟩,W⟩
theorem Good.O2 {base:Nat}{S:St}(h:SR base S){id next:Nat}(db:ml S id next)(cs:List Value)(lW:Nat)(arr:Array Value)(E:TypeId)(fr:Nat×Nat)(W:World)
  (hW:kJ S.w W (.cells arr E fr)) (l5:fr.1=fr.2\/arr.size<=fr.1) (hle:cs.length<=arr.size) (hv:∀p,p<cs.length->VR S (cs.getD p undef) (arr.toList.getD p undef)):
  Good base S (S.ra id next ⟨cs,1,true,lW⟩ W):=by
 refine SR.change h id S.w.heap.size next ⟨cs,1,true,lW⟩ _ W db.lt db.le db.room db.known (fun es he=>by rw[db.map] at he;cases he) (Nat.le_refl _)
  (fun b hb=>by rw[db.dL] at hb;cases hb) (fun j hj=>by funext c;rw[if_neg hj]) (fun k _ hk=>hW.old k hk)
  (fun j bj c _ hj hc=>Nat.ne_of_lt (h.EW j bj hj c hc)) (fun r es he=>Nat.ne_of_lt (h.Ld he)) (fun c _=>by simp only[if_true];rw[hW.size];omega) ?_ ?_ ?_ ?_
  (hW.below h.size) (by rw[hW.size];omega)
 ·intro c hc p hp
  simp only[if_true,Nat.zero_add]
  have pH:p<cs.length:=by have:=hc.2;simp only at this;omega
  have EZ:p<arr.size:=by omega
  refine⟨arr.toList.getD p undef,?_,hv p pH⟩
  rw[ch W _ _ arr E fr hW.new]
  simp[List.getD_eq_getElem?_getD,EZ]
 ·intro _ c _
  simp only[if_true]
  exact⟨h.size,⟨arr,E,fr,hW.new,l5⟩,fun j bj _ hj c' hO=>Nat.ne_of_lt (h.EW j bj hj c' hO),by intros;first|rfl|trivial⟩
 ·intro j bj _ hj _ c' hO c _
  simp only[if_true]
  exact fun e=>absurd (h.EW j bj hj c' hO) (by omega)
 ·intro arr E fr hk
  exact absurd (eH hk) (by omega)
theorem St.z3 {S:St}{id next:Nat}(db:ml S id next)(b:iC)(W:World):(S.ra id next b W).s.bK id=some b:=by
 simp only[St.ra,aq.bK,Tr.bu _ _ _ _ (deep (show 0<16000001 by have:=db.lt;have:=db.room;omega))]
theorem St.z4 {S:St}{id next:Nat}(db:ml S id next)(b:iC)(W:World)(off c:Nat)(hc:c<=b.cells.length+1):tG (S.ra id next b W) id off c ⟨S.w.heap.size,off,none⟩:=
 ⟨b,St.z3 db b W,hc,fun _=>by simp[St.ra]⟩
theorem St.Jh {S:St}{id next:Nat}(db:ml S id next)(b:iC)(W:World)(o c cap:Nat)(arr:Array Value)(E:TypeId)(fr:Nat×Nat)(hW:kJ S.w W (.cells arr E fr))(oS:o+cap*b.lW<=arr.size):
  GI (S.ra id next b W) id c ⟨S.w.heap.size,o,none⟩ cap:=by
 intro b' qV _
 rw[St.z3 db b W] at qV
 obtain rfl:=Option.some.inj qV
 exact⟨arr,E,fr,hW.new,oS⟩
theorem Good.store {base:Nat}{S:St}(h:SR base S){i off c:Nat}{b:iC}(hb:S.s.bK i=some b)(ho:b.own=true)(hc:Live b c)(CV:c=b.cells.length+1){vs Le l:List Value}
  (hl:setAt b.cells off vs=some l) (hv:eX S vs Le) (cD:vs≠[]):
  Good base S ⟨S.s.put i (.dL {b with cells:=l,low:=c}),S.e,setCells S.w (S.e.loc i c).1 ((S.e.loc i c).2+off) Le⟩/\
  ∃(arr:Array Value) (E:TypeId) (fr:Nat×Nat),S.w.heap[(S.e.loc i c).1]?=some (.cells arr E fr)/\(fr.1=fr.2\/arr.size<=fr.1)/\(S.e.loc i c).2+off+Le.length<=arr.size:=by
 obtain⟨nA,zx,gq⟩:=uf _ _ _ _ hl
 have O3:off+vs.length<=b.cells.length:=zx.resolve_left cD
 have CK:Le.length=vs.length:=hv.1.symm
 obtain⟨mO,⟨arr,E,fr,fK,mm⟩,zy,_⟩:=h.own i b hb ho c hc
 have E3:0<vs.length:=List.length_pos_iff.2 cD
 have tw:(S.e.loc i c).2+off+Le.length<=arr.size:=by
  obtain⟨v,h1,_⟩:=h.cell i b hb c hc (off+vs.length-1) (by omega)
  rw[ch _ _ _ _ _ _ fK] at h1
  have:=(Array.getElem?_eq_some_iff.1 h1).1
  omega
 obtain⟨jT,GL,ug,O4⟩:=iq Le S.w _ _ arr E fr fK tw
 refine⟨?_,arr,E,fr,fK,mm,tw⟩
 have z5:∀c',Live {b with cells:=l,low:=c} c' ->c' =c:=fun c' hO=>by
  have h1:=hO.1;have h2:=hO.2;simp only[nA] at h1 h2;omega
 refine SR.change h i (S.e.loc i c).1 S.s.next {b with cells:=l,low:=c} S.e.loc _ (h.lt hb) (Nat.le_refl _) h.room (.inl (h.lt hb)) (fun es he=>jN hb he) (by show 1<=c;omega) ?_ (fun _ _=>rfl)
  (fun k hk _=>jO _ _ _ _ _ hk) (fun j bj c' hj qL hO e=>hj (zy j bj qL c' hO e)) ?_ ?_ ?_ ?_ ?_ ?_ (jZ _ _ _ _ _ mO) (by rw[ga];exact Nat.le_refl _)
 ·intro b0 z6
  rw[hb] at z6;obtain rfl:=Option.some.inj z6
  exact⟨by simp[nA],hc.1,rfl,fun _ _ _=>rfl⟩
 ·intro r es he e
  obtain⟨_,fY,qK,h2,_⟩:=h.map r es he
  rw[e,fK] at h2;cases h2
 ·intro c' hO;rw[z5 c' hO,ga];exact h.EW i b hb c hc
 ·intro c' hO p hp
  obtain rfl:=z5 c' hO
  simp only
  rw[ch _ _ _ _ _ _ GL,O4,gq p]
  by_cases nD:off<=p/\p<off+vs.length
  ·rw[if_pos nD,if_pos (by omega),show(S.e.loc i c').2+p-((S.e.loc i c').2+off)=p-off by omega]
   exact⟨_,rfl,hv.2 (p-off) (by omega)⟩
  ·rw[if_neg nD,if_neg (by omega),<-ch _ _ _ _ _ _ fK]
   exact h.cell i b hb c' hc p hp
 ·intro _ c' hO
  obtain rfl:=z5 c' hO
  exact⟨mO,⟨jT,E,fr,GL,by rw[ug];exact mm⟩,fun j bj hj qL c1 oT e=>hj (zy j bj qL c1 oT e),fun c1 oT _=>by rw[z5 c1 oT]⟩
 ·intro j bj hj qL zZ c1 oT c' hO e
  obtain rfl:=z5 c' hO
  exact hj (zy j bj qL c1 oT e.symm)
 ·intro MB E0 XK hk
  rw[fK] at hk
  injection hk with hk;injection hk with e1 e2 e3
  subst e1;subst e2
  exact⟨jT,fr,GL,ug⟩
end Go.Cl
namespace Go.Cl
open Go.RowKit
theorem eJ (l m:List Value)(p:Nat)(h:p<l.length):(l++m).getD p undef=l.getD p undef:=by
 simp[List.getD_eq_getElem?_getD,List.getElem?_append,h]
theorem j5 (l m:List Value)(p:Nat)(h:l.length<=p):(l++m).getD p undef=m.getD (p-l.length) undef:=by
 simp[List.getD_eq_getElem?_getD,List.getElem?_append,Nat.not_lt.2 h]
theorem Good.O5 {base:Nat}{S:St}(h:SR base S){i c:Nat}{b:iC}(hb:S.s.bK i=some b)(ho:b.own=true)(hc:Live b c)(CV:c=b.cells.length+1){new new' :List Value}
  (hv:eX S new new') {arr:Array Value} {E:TypeId} {fr:Nat×Nat} (ha:S.w.heap[(S.e.loc i c).1]?=some (.cells arr E fr)) (tw:(S.e.loc i c).2+b.cells.length+new'.length<=arr.size):
  Good base S ⟨S.s.put i (.dL {b with cells:=b.cells++new}),⟨fun j c' =>if j=i/\c<c' then S.e.loc i c else S.e.loc j c',S.e.mp⟩,setCells S.w (S.e.loc i c).1 ((S.e.loc i c).2+b.cells.length) new'⟩:=by
 obtain⟨mO,⟨MB,E0,XK,fK,mm⟩,zy,XL⟩:=h.own i b hb ho c hc
 rw[ha] at fK
 injection fK with fK;injection fK with e1 e2 e3
 subst e1;subst e2;subst e3
 have CK:new'.length=new.length:=hv.1.symm
 obtain⟨jT,GL,ug,O4⟩:=iq new' S.w _ _ arr E fr ha tw
 have ot:∀c',(if i=i/\c<c' then S.e.loc i c else S.e.loc i c')=if c<c' then S.e.loc i c else S.e.loc i c' :=fun c' =>by simp
 have kI:∀c',Live {b with cells:=b.cells++new} c' ->¬c<c' ->Live b c' :=fun c' hO aP=>⟨hO.1,by omega⟩
 refine SR.change h i (S.e.loc i c).1 S.s.next {b with cells:=b.cells++new} _ _ (h.lt hb) (Nat.le_refl _) h.room (.inl (h.lt hb)) (fun es he=>jN hb he) (h.low i b hb) ?_
  (fun j hj=>by funext c';rw[if_neg (by simp[hj])]) (fun k hk _=>jO _ _ _ _ _ hk) (fun j bj c' hj qL hO e=>hj (zy j bj qL c' hO e)) ?_ ?_ ?_ ?_ ?_ ?_ (jZ _ _ _ _ _ mO)
  (by rw[ga];exact Nat.le_refl _)
 ·intro b0 z6
  rw[hb] at z6;obtain rfl:=Option.some.inj z6
  exact⟨by simp,Nat.le_refl _,rfl,fun c' hO _=>by rw[if_neg (by omega)]⟩
 ·intro r es he e
  obtain⟨_,fY,qK,h2,_⟩:=h.map r es he
  rw[e,ha] at h2;cases h2
 ·intro c' hO
  rw[ot,ga]
  by_cases aP:c<c'
  ·rw[if_pos aP];exact h.EW i b hb c hc
  ·rw[if_neg aP];exact h.EW i b hb c' (kI c' hO aP)
 ·intro c' hO p hp
  have pH:p<b.cells.length+new.length:=by have:=hO.2;simp only[List.length_append] at this;omega
  simp only[true_and]
  by_cases aP:c<c'
  ·rw[if_pos aP,ch _ _ _ _ _ _ GL,O4]
   by_cases nD:p<b.cells.length
   ·rw[if_neg (by omega),eJ _ _ _ nD,<-ch _ _ _ _ _ _ ha]
    exact h.cell i b hb c hc p (by omega)
   ·rw[if_pos (by omega),j5 _ _ _ (by omega),show(S.e.loc i c).2+p-((S.e.loc i c).2+b.cells.length)=p-b.cells.length by omega]
    exact⟨_,rfl,hv.2 (p-b.cells.length) (by omega)⟩
  ·rw[if_neg aP]
   have CL:=kI c' hO aP
   have nD:p<b.cells.length:=by omega
   obtain⟨v,h1,h2⟩:=h.cell i b hb c' CL p hp
   rw[eJ _ _ _ nD]
   refine⟨v,?_,h2⟩
   by_cases Yp:c' =c
   ·subst Yp
    rw[ch _ _ _ _ _ _ GL,O4,if_neg (by omega),<-ch _ _ _ _ _ _ ha];exact h1
   ·by_cases nC:(S.e.loc i c').1=(S.e.loc i c).1
    ·have j6:=XL c' CL nC
     rw[j6] at h1|-
     rw[ch _ _ _ _ _ _ GL,O4,if_neg (by omega),<-ch _ _ _ _ _ _ ha];exact h1
    ·rw[<-h1];exact World.cell?_of_block (jO _ _ _ _ _ nC)
 ·intro _ c' hO
  rw[ot]
  by_cases aP:c<c'
  ·rw[if_pos aP]
   refine⟨mO,⟨jT,E,fr,GL,by rw[ug];exact mm⟩,fun j bj hj qL c1 oT e=>hj (zy j bj qL c1 oT e),fun c1 oT=> ?_⟩
   rw[ot]
   by_cases uh:c<c1
   ·rw[if_pos uh];exact fun _=>rfl
   ·rw[if_neg uh];exact XL c1 (kI c1 oT uh)
  ·rw[if_neg aP]
   obtain⟨h1,⟨Ji,E1,Yq,h2,h3⟩,h4,h5⟩:=h.own i b hb ho c' (kI c' hO aP)
   refine⟨h1,?_,fun j bj hj qL c1 oT e=>hj (h4 j bj qL c1 oT e),fun c1 oT=> ?_⟩
   case refine_2=>
    rw[ot]
    by_cases uh:c<c1
    ·rw[if_pos uh];exact h5 c hc
    ·rw[if_neg uh];exact h5 c1 (kI c1 oT uh)
   by_cases nC:(S.e.loc i c').1=(S.e.loc i c).1
   ·rw[nC,ha] at h2
    injection h2 with h2;injection h2 with e1 e2 e3
    subst e1;subst e2;subst e3
    exact⟨jT,E,fr,by rw[nC];exact GL,by rw[ug];exact h3⟩
   ·exact⟨Ji,E1,Yq,by rw[jO _ _ _ _ _ nC];exact h2,h3⟩
 ·intro j bj hj qL zZ c1 oT c' hO e
  rw[ot] at e
  by_cases aP:c<c'
  ·rw[if_pos aP] at e;exact hj (zy j bj qL c1 oT e.symm)
  ·rw[if_neg aP] at e
   exact hj ((h.own i b hb ho c' (kI c' hO aP)).2.2.1 j bj qL c1 oT e.symm)
 ·intro MB E0 XK hk
  rw[ha] at hk
  injection hk with hk;injection hk with e1 e2 e3
  subst e1;subst e2
  exact⟨jT,fr,GL,ug⟩
theorem Good.SA {base:Nat}{S:St}(h:SR base S){i c:Nat}{b:iC}(hb:S.s.bK i=some b)(ho:b.own=true)(CV:c=b.cells.length+1){new:List Value}
  {arr:Array Value} {E:TypeId} {fr:Nat×Nat} {W:World} (hW:kJ S.w W (.cells arr E fr)) (l5:fr.1=fr.2\/arr.size<=fr.1) (hle:b.cells.length+new.length<=arr.size)
  (hv:∀p,p<b.cells.length+new.length->VR S ((b.cells++new).getD p undef) (arr.toList.getD p undef)):
  Good base S ⟨S.s.put i (.dL {b with cells:=b.cells++new}),⟨fun j c' =>if j=i/\c<c' then(S.w.heap.size,0) else S.e.loc j c',S.e.mp⟩,W⟩:=by
 have ot:∀c',(if i=i/\c<c' then(S.w.heap.size,0) else S.e.loc i c')=if c<c' then(S.w.heap.size,0) else S.e.loc i c' :=fun c' =>by simp
 have kI:∀c',Live {b with cells:=b.cells++new} c' ->¬c<c' ->Live b c' :=fun c' hO aP=>⟨hO.1,by omega⟩
 refine SR.change h i S.w.heap.size S.s.next {b with cells:=b.cells++new} _ _ (h.lt hb) (Nat.le_refl _) h.room (.inl (h.lt hb)) (fun es he=>jN hb he) (h.low i b hb) ?_
  (fun j hj=>by funext c';rw[if_neg (by simp[hj])]) (fun k _ hk=>hW.old k hk) (fun j bj c' _ qL hO=>Nat.ne_of_lt (h.EW j bj qL c' hO)) (fun r es he=>Nat.ne_of_lt (h.Ld he)) ?_ ?_ ?_ ?_ ?_
  (hW.below h.size) (by rw[hW.size];omega)
 ·intro b0 z6
  rw[hb] at z6;obtain rfl:=Option.some.inj z6
  exact⟨by simp,Nat.le_refl _,rfl,fun c' hO _=>by rw[if_neg (by omega)]⟩
 ·intro c' hO
  rw[ot,hW.size]
  by_cases aP:c<c'
  ·rw[if_pos aP];exact Nat.lt_succ_self _
  ·rw[if_neg aP];exact Nat.lt_succ_of_lt (h.EW i b hb c' (kI c' hO aP))
 ·intro c' hO p hp
  have pH:p<b.cells.length+new.length:=by have:=hO.2;simp only[List.length_append] at this;omega
  simp only[true_and]
  by_cases aP:c<c'
  ·rw[if_pos aP]
   refine⟨arr.toList.getD p undef,?_,hv p pH⟩
   have EZ:p<arr.size:=by omega
   rw[ch W _ _ arr E fr hW.new]
   simp[List.getD_eq_getElem?_getD,EZ]
  ·rw[if_neg aP]
   have CL:=kI c' hO aP
   obtain⟨v,h1,h2⟩:=h.cell i b hb c' CL p hp
   rw[eJ _ _ _ (by omega)]
   exact⟨v,by rw[<-h1];exact World.cell?_of_block (hW.old _ (h.EW i b hb c' CL)),h2⟩
 ·intro _ c' hO
  rw[ot]
  by_cases aP:c<c'
  ·rw[if_pos aP]
   refine⟨h.size,⟨arr,E,fr,hW.new,l5⟩,fun j bj _ qL c1 oT=>Nat.ne_of_lt (h.EW j bj qL c1 oT),fun c1 oT=> ?_⟩
   rw[ot]
   by_cases uh:c<c1
   ·rw[if_pos uh];exact fun _=>rfl
   ·rw[if_neg uh];exact fun e=>absurd e (Nat.ne_of_lt (h.EW i b hb c1 (kI c1 oT uh)))
  ·rw[if_neg aP]
   obtain⟨h1,⟨Ji,E1,Yq,h2,h3⟩,h4,h5⟩:=h.own i b hb ho c' (kI c' hO aP)
   refine⟨h1,⟨Ji,E1,Yq,by rw[hW.old _ (eH h2)];exact h2,h3⟩,fun j bj hj qL c1 oT e=>hj (h4 j bj qL c1 oT e),fun c1 oT=> ?_⟩
   rw[ot]
   by_cases uh:c<c1
   ·rw[if_pos uh];exact fun e=>absurd e (Ne.symm (Nat.ne_of_lt (eH h2)))
   ·rw[if_neg uh];exact h5 c1 (kI c1 oT uh)
 ·intro j bj hj qL zZ c1 oT c' hO e
  rw[ot] at e
  by_cases aP:c<c'
  ·rw[if_pos aP] at e;exact absurd e.symm (Nat.ne_of_lt (h.EW j bj qL c1 oT))
  ·rw[if_neg aP] at e
   exact hj ((h.own i b hb ho c' (kI c' hO aP)).2.2.1 j bj qL c1 oT e.symm)
 ·intro MB E0 XK hk
  exact absurd (eH hk) (by omega)
theorem Good.kill {base:Nat}{S:St}(h:SR base S){i:Nat}{b:iC}(hb:S.s.bK i=some b):Good base S ⟨S.s.put i (.dL (Cl.kill b)),S.e,S.w⟩:=by
 have Lf:∀c,¬Live (Cl.kill b) c:=fun c hc=>by have h1:=hc.1;have h2:=hc.2;simp only[Cl.kill] at h1 h2;omega
 refine SR.change h i S.w.heap.size S.s.next (Cl.kill b) S.e.loc S.w (h.lt hb) (Nat.le_refl _) h.room (.inl (h.lt hb)) (fun es he=>jN hb he) (by simp[Cl.kill]) ?_ (fun _ _=>rfl) (fun _ _ _=>rfl)
  (fun j bj c' _ qL hO=>Nat.ne_of_lt (h.EW j bj qL c' hO)) (fun r es he=>Nat.ne_of_lt (h.Ld he)) (fun c hc=>absurd hc (Lf c)) (fun c hc=>absurd hc (Lf c)) (fun _ c hc=>absurd hc (Lf c))
  (fun _ _ _ _ _ _ _ c hc=>absurd hc (Lf c)) (fun arr E fr hk=>absurd (eH hk) (by omega)) (Below.refl _ _) (Nat.le_refl _)
 intro b0 z6
 rw[hb] at z6;obtain rfl:=Option.some.inj z6
 exact⟨Nat.le_refl _,by simp only[Cl.kill];omega,rfl,fun _ _ _=>rfl⟩
theorem Good.reuse {base:Nat}{S:St}(h:SR base S)(dh:S.s.room=true){k o:Nat}{arr:Array Value}{E:TypeId}{fr:Nat×Nat}(hk:S.w.heap[k]?=some (.cells arr E fr))(l5:fr.1=fr.2\/arr.size<=fr.1)
  (hb:base<=k) (hex:∀j bj c',S.s.bK j=some bj->Live bj c' ->(S.e.loc j c').1≠k) (lW:Nat) {old new new' :List Value} (hold:∀p,p<old.length->∃v,S.w.cell? ⟨k,o+p,none⟩=some v/\VR S (old.getD p undef) v)
  (hv:eX S new new') (tw:o+old.length+new'.length<=arr.size):
  Good base S ⟨S.s.new (.dL ⟨old++new,1,true,lW⟩),⟨fun j c=>if j=S.s.next then(k,o) else S.e.loc j c,S.e.mp⟩,setCells S.w k (o+old.length) new'⟩:=by
 have aP:=uZ dh
 obtain⟨z7,Jj⟩:=h.fresh
 have CK:new'.length=new.length:=hv.1.symm
 obtain⟨jT,GL,ug,O4⟩:=iq new' S.w k (o+old.length) arr E fr hk tw
 refine SR.change h S.s.next k (S.s.next+1) ⟨old++new,1,true,lW⟩ _ _ (by omega) (by omega) (by omega) (.inr rfl) (fun es he=>by rw[Jj] at he;cases he) (Nat.le_refl _)
  (fun b hb=>by rw[z7] at hb;cases hb) (fun j hj=>by funext c;rw[if_neg hj]) (fun j hj _=>jO _ _ _ _ _ hj) (fun j bj c _ hj hc=>hex j bj c hj hc) ?_
  (fun c _=>by simp only[if_true];rw[ga];exact eH hk) ?_ ?_ ?_ ?_ (jZ _ _ _ _ _ hb) (by rw[ga];exact Nat.le_refl _)
 ·intro r es he e
  obtain⟨_,fY,qK,h2,_⟩:=h.map r es he
  rw[e,hk] at h2;cases h2
 ·intro c hc p hp
  have pH:p<old.length+new.length:=by have:=hc.2;simp only[List.length_append] at this;omega
  simp only[if_true]
  rw[ch _ _ _ _ _ _ GL,O4]
  by_cases nD:p<old.length
  ·rw[if_neg (by omega),eJ _ _ _ nD,<-ch _ _ _ _ _ _ hk]
   exact hold p nD
  ·rw[if_pos (by omega),j5 _ _ _ (by omega),show o+p-(o+old.length)=p-old.length by omega]
   exact⟨_,rfl,hv.2 (p-old.length) (by omega)⟩
 ·intro _ c _
  simp only[if_true]
  exact⟨hb,⟨jT,E,fr,GL,by rw[ug];exact l5⟩,fun j bj _ hj c' hO=>hex j bj c' hj hO,by intros;first|rfl|trivial⟩
 ·intro j bj _ hj _ c' hO c _ e
  simp only[if_true] at e
  exact hex j bj c' hj hO e.symm
 ·intro MB E0 XK zA
  rw[hk] at zA
  injection zA with zA;injection zA with e1 e2 e3
  subst e1;subst e2
  exact⟨jT,fr,GL,ug⟩
theorem SR.DA {base:Nat}{S:St}(h:SR base S)(i next:Nat)(es2:List (Value×Value))(MD:Nat->Nat)(w' :World)
  (hi:i<next) (hn:S.s.next<=next) (hr:0<=16000000) (EX:i<S.s.next\/i+1=next) (nC:S.s.bK i=none)
  (hold:∀es,S.s.dR i=some es->MD i=S.e.mp i) (Oz:∀r,r≠i->MD r=S.e.mp r)
  (hw:∀k,k≠MD i->k<S.w.heap.size->w'.heap[k]?=S.w.heap[k]?) (hM:∀(arr:Array Value) (E:TypeId) (fr:Nat×Nat),S.w.heap[MD i]?≠some (.cells arr E fr)) (hb:base<=MD i)
  (Yr:∃(fY:Array MapEntry) (qK:Nat),w'.heap[MD i]?=some (.map fY qK)/\ER S es2 fY.toList)
  (VH:∀r es,r≠i->S.s.dR r=some es->S.e.mp r≠MD i) (mN:Below base S.w w'):
  Good base S ⟨⟨Tr.set (depth i) S.s.heap i (.map es2),next⟩,⟨S.e.loc,MD⟩,w'⟩:=by
 have gq:∀j,j≠i->(Tr.set (depth i) S.s.heap i (.map es2)).get j=S.s.heap.get j:=fun j hj=>Tr.ct _ _ _ _ _ (Ne.symm hj)
 have GJ:(Tr.set (depth i) S.s.heap i (.map es2)).get i=some (.map es2):=Tr.bu _ _ _ _ (deep (by omega))
 have jY:(⟨Tr.set (depth i) S.s.heap i (.map es2),next⟩:aq).dR i=some es2:=by simp only[aq.dR,GJ]
 have wT:∀j,(⟨Tr.set (depth i) S.s.heap i (.map es2),next⟩:aq).bK j=S.s.bK j:=fun j=>by
  by_cases hj:j=i
  ·subst hj;rw[nC];simp only[aq.bK,GJ]
  ·simp only[aq.bK,gq j hj]
 have Ys:∀j,j≠i->(⟨Tr.set (depth i) S.s.heap i (.map es2),next⟩:aq).dR j=S.s.dR j:=fun j hj=>by simp only[aq.dR,gq j hj]
 have O6:∀(k:Nat) (arr:Array Value) (E:TypeId) (fr:Nat×Nat),S.w.heap[k]?=some (.cells arr E fr)->w'.heap[k]?=some (.cells arr E fr):=fun k arr E fr hk=>by
  rw[hw k (fun e=>hM arr E fr (e▸hk)) (eH hk)];exact hk
 have lJ:Ext S ⟨⟨Tr.set (depth i) S.s.heap i (.map es2),next⟩,⟨S.e.loc,MD⟩,w'⟩:=by
  refine⟨fun j b hb=>⟨b,by rw[<-hb];exact wT j,Nat.le_refl _,Nat.le_refl _,rfl,fun _ _ _=>rfl⟩,fun r es he=> ?_,fun k arr E fr hk=>⟨arr,fr,O6 k arr E fr hk,rfl⟩⟩
  by_cases CU:r=i
  ·subst CU;exact⟨⟨es2,jY⟩,hold es he⟩
  ·exact⟨⟨es,by rw[<-he];exact Ys r CU⟩,Oz r CU⟩
 refine⟨⟨hr,?_,?_,?_,?_,?_,?_,Nat.le_trans h.size mN.size,?_⟩,lJ,mN⟩
 ·intro j o hj
  by_cases fZ:j=i
  ·show j<next;omega
  ·have R2:(Tr.set (depth i) S.s.heap i (.map es2)).get j=some o:=hj
   rw[gq j fZ] at R2
   have:=h.bound j o R2
   show j<next
   omega
 ·intro j b hb;rw[wT] at hb;exact h.low j b hb
 ·intro j b hb c hc p hp
  rw[wT] at hb
  obtain⟨v,h1,h2⟩:=h.cell j b hb c hc p hp
  obtain⟨arr,E,fr,h3,h4⟩:=tI h1
  exact⟨v,by rw[ch _ _ _ _ _ _ (O6 _ _ _ _ h3)];exact h4,h2.mono lJ⟩
 ·intro j b hb zZ c hc
  rw[wT] at hb
  obtain⟨h1,⟨arr,E,fr,h2,h3⟩,h4,h5⟩:=h.own j b hb zZ c hc
  exact⟨h1,⟨arr,E,fr,O6 _ _ _ _ h2,h3⟩,fun k bk hk c' hO e=>by rw[wT] at hk;exact h4 k bk hk c' hO e,h5⟩
 ·intro r es he
  by_cases CU:r=i
  ·subst CU
   rw[jY] at he;obtain rfl:=Option.some.inj he
   obtain⟨fY,qK,h1,h2⟩:=Yr
   exact⟨hb,fY,qK,h1,h2.mono lJ⟩
  ·rw[Ys r CU] at he
   obtain⟨h1,fY,qK,h2,h3⟩:=h.map r es he
   refine⟨by show base<=MD r;rw[Oz r CU];exact h1,fY,qK,?_,h3.mono lJ⟩
   show w'.heap[MD r]?=_
   rw[Oz r CU,hw _ (VH r es CU he) (eH h2)];exact h2
 ·intro r r' es fY he zd VG
  have z0:MD r=MD r' :=VG
  by_cases CU:r=i
  ·by_cases EY:r' =i
   ·omega
   ·rw[Ys r' EY] at zd
    subst CU
    rw[Oz r' EY] at z0
    exact absurd z0.symm (VH r' fY EY zd)
  ·rw[Ys r CU] at he
   by_cases EY:r' =i
   ·subst EY
    rw[Oz r CU] at z0
    exact absurd z0 (VH r es CU he)
   ·rw[Ys r' EY] at zd
    rw[Oz r CU,Oz r' EY] at z0
    exact h.EV r r' es fY he zd z0
 ·intro j b hb c hc
  rw[wT] at hb
  exact Nat.lt_of_lt_of_le (h.EW j b hb c hc) mN.size
theorem Good.VI {base:Nat}{S:St}(h:SR base S)(dh:S.s.room=true):
  Good base S ⟨S.s.new (.map []),⟨S.e.loc,fun r=>if r=S.s.next then S.w.heap.size else S.e.mp r⟩,S.w.alloc (.map #[] 0)⟩:=by
 have aP:=uZ dh
 obtain⟨z7,Jj⟩:=h.fresh
 refine SR.DA h S.s.next (S.s.next+1) [] _ _ (by omega) (by omega) (by omega) (.inr rfl) z7 (fun es he=>by rw[Jj] at he;cases he) (fun r hr=>by rw[if_neg hr]) (fun k _ hk=>Below.heap_alloc _ _ _ hk) ?_
  (by simp only[if_true];exact h.size) ?_ ?_ ((Below.refl _ _).alloc h.size _)
 ·intro arr E fr hk
  simp only[if_true] at hk
  exact absurd (eH hk) (by omega)
 ·simp only[if_true]
  exact⟨#[],0,heap_alloc_new S.w _,trivial⟩
 ·intro r es _ he
  simp only[if_true]
  exact Nat.ne_of_lt (h.Ld he)
end Go.Cl
namespace Go.Cl
open Go.RowKit
theorem DB {S:St}{v:Value}(h:mI v=true):VR S v v:=by
 unfold mI at h
 split at h
 ·exact .bool _
 ·exact .int _ _
 ·exact .string _
 ·exact .Je
 ·exact .gP
 ·exact .Jf
 ·exact .nilFunc
 ·exact .nilIface
 ·cases h
theorem DD {S:St}{l:List Value}(h:l.all mI=true):eX S l l:=by
 induction l with
 |nil=>exact eX.nil
 |cons v l ih=>
  simp only[List.all_cons,Bool.and_eq_true] at h
  exact eX.cons (DB h.1) (ih h.2)
theorem kK {S:St}{v:Value}(h:cH v=true):VR S v v:=by
 unfold cH at h
 split at h
 ·exact eX.toList (DD h)
 ·have:=DD (S:=S) h;exact .tuple _ _ this.1 this.2
 ·exact DB h
structure FR (S:St) (f:aR) (a:Act):Prop where
 n:f.n=a.tmps.size
 small:f.n<=16000000
 get:∀t,t<f.n->VR S (f.get t) (a.tmps.getD t undef)
theorem FR.mono {S T:St}(h:Ext S T){f:aR}{a:Act}(hf:FR S f a):FR T f a:=⟨hf.n,hf.small,fun t ht=>(hf.get t ht).mono h⟩
theorem bI {S:St}{f:aR}{a:Act}(hf:FR S f a){x:Operand}{v:Value}(h:aS f x=some v):VR S v (a.eval x):=by
 cases x with
 |tmp t=>
  simp only[aS] at h
  split at h
  ·rename_i ht;obtain rfl:=Option.some.inj h;exact hf.get t (by simpa [Nat.blt_eq] using ht)
  ·cases h
 |const c=>
  simp only[aS] at h
  split at h
  ·rename_i ht;obtain rfl:=Option.some.inj h;exact kK ht
  ·cases h
 |global g=>simp[aS] at h
 |func g=>
  simp only[aS] at h
  obtain rfl:=Option.some.inj h
  exact .func g #[] #[] #[] #[] rfl rfl (fun i hi=>by simp at hi) (fun i hi=>by simp at hi)
theorem pN {S:St}{f:aR}{a:Act}(hf:FR S f a):∀{xs:List Operand} {l:List Value},ad f xs=some l->eX S l (xs.map a.eval):=by
 intro xs
 induction xs with
 |nil=>intro l h;simp only[ad] at h;obtain rfl:=Option.some.inj h;exact eX.nil
 |cons x xs ih=>
  intro l h
  simp only[ad] at h
  split at h
  ·rename_i v hv
   split at h
   ·rename_i vs hvs;obtain rfl:=Option.some.inj h;exact eX.cons (bI hf hv) (ih hvs)
   ·cases h
  ·cases h
theorem E4 {S:St}{f:aR}{a:Act}(hf:FR S f a){x:Option Operand}{o:Option Value}(h:ah f x=some o):
  (o=none/\x.map a.eval=none)\/∃v v',o=some v/\x.map a.eval=some v' /\VR S v v' :=by
 cases x with
 |none=>simp only[ah] at h;obtain rfl:=Option.some.inj h;exact .inl ⟨rfl,rfl⟩
 |some x=>
  simp only[ah] at h
  split at h
  ·rename_i v hv;obtain rfl:=Option.some.inj h;exact .inr ⟨v,_,rfl,rfl,bI hf hv⟩
  ·cases h
theorem gV {P:Program}{t:TypeId}{b:Bool}(h:cw P t=some b)(w:World):(isAgg t).run P w= .ok b w:=by
 unfold cw at h
 split at h
 ·rename_i fs hu;obtain rfl:=Option.some.inj h;simp[isAgg,run_underlying hu]
 ·rename_i n e hu;obtain rfl:=Option.some.inj h;simp[isAgg,run_underlying hu]
 ·rename_i d h1 h2 hu
  obtain rfl:=Option.some.inj h
  simp only[isAgg,Sem.run_bind,run_underlying hu,Result.andThen_ok]
  cases d<;>first|rfl|(exact absurd hu (h1 _))|(exact absurd hu (h2 _ _))
 ·cases h
theorem u4 {P:Program}{t:TypeId}{n:Nat}(h:bq P t=some n):∃i,P.info? t=some i/\i.size=n:=by
 unfold bq at h
 split at h
 ·rename_i i hi;exact⟨i,hi,Option.some.inj h⟩
 ·cases h
theorem run_sizeOf {P:Program}{t:TypeId}{n:Nat}(h:bq P t=some n)(w:World):(sizeOf t).run P w= .ok n w:=by
 obtain⟨i,hi,rfl⟩:=u4 h
 simp[sizeOf,typeInfo,hi]
theorem u5 {P:Program}{t:TypeId}{z:Value}(h:cE P t=some z):∃i,P.info? t=some i/\i.zero=some z:=by
 unfold cE at h
 split at h
 ·rename_i i hi;exact⟨i,hi,h⟩
 ·cases h
theorem dU {P:Program}{t:TypeId}{z:Value}(h:cE P t=some z)(w:World):(zeroValue t).run P w= .ok z w:=by
 obtain⟨i,hi,hz⟩:=u5 h
 simp[zeroValue,typeInfo,hi,hz]
theorem ou {P:Program}{t:TypeId}{n:Nat}(h:eW P t=some n):∃i,P.info? t=some i/\i.bytes=n:=by
 unfold eW at h
 split at h
 ·rename_i i hi;exact⟨i,hi,Option.some.inj h⟩
 ·cases h
theorem u6 {P:Program}{t:TypeId}(h:CS P t=true):P.underlying t=some (.int .u8):=by
 unfold CS at h
 split at h
 ·assumption
 ·cases h
def Reads (P:Program)(S:St)(m:Sem Value)(v:Value):Prop:=∃v',m.run P S.w= .ok v' S.w/\VR S v v'
theorem VR.pO {S:St}{i off c:Nat}{v:Value}(h:VR S (.pointer (some ⟨i,off,some c⟩)) v):∃a,v= .pointer (some a)/\tG S i off c a:=by
 cases h with|ptr _ _ _ a hr=>exact⟨a,rfl,hr⟩
theorem VR.zB {S:St}{cs:Array Value}{v:Value}(h:VR S (.agg cs) v):∃jt,v= .agg jt/\eX S cs.toList jt.toList:=by
 cases h with|agg _ jt h1 h2=>exact⟨jt,rfl,h1,h2⟩
theorem VR.ME {S:St}{cs:Array Value}{v:Value}(h:VR S (.tuple cs) v):∃jt,v= .tuple jt/\eX S cs.toList jt.toList:=by
 cases h with|tuple _ jt h1 h2=>exact⟨jt,rfl,h1,h2⟩
theorem VR.O7 {S:St}{g:FuncId}{zS bs:Array Value}{v:Value}(h:VR S (.func (.func g) zS bs) v):∃Lb Lc,v= .func (.func g) Lb Lc/\eX S zS.toList Lb.toList/\eX S bs.toList Lc.toList:=by
 cases h with|func _ _ _ Lb Lc ha hb h1 h2=>exact⟨Lb,Lc,rfl,⟨ha,h1⟩,hb,h2⟩
theorem tG.addr {S:St}{i off c:Nat}{a:Addr}(h:tG S i off c a){b:iC}(hb:S.s.bK i=some b)(hc:Live b c):a=⟨(S.e.loc i c).1,(S.e.loc i c).2+off,none⟩:=by
 obtain⟨b',qV,_,hl⟩:=h
 rw[hb] at qV;obtain rfl:=Option.some.inj qV
 exact hl hc.1
theorem GM {P:Program}{base:Nat}{S:St}(h:SR base S){t:TypeId}{a a' v:Value}(ha:VR S a a')(hl:aG P S.s t a=some v):Reads P S (Instr.loadAt t a') v:=by
 unfold aG at hl
 split at hl
 ·rename_i i off c
  obtain⟨a1,rfl,hr⟩:=ha.pO
  split at hl
  ·rename_i n ow cJ
   split at hl
   ·rename_i l hc
    obtain rfl:=Option.some.inj hl
    obtain⟨b,hb,fy,_,_,Uw,CK,iN⟩:=h.cells hc
    obtain rfl:=hr.addr hb fy
    refine⟨.agg (wR S.w (S.e.loc i c).1 ((S.e.loc i c).2+off) n).toArray,?_,eX.agg CK⟩
    simp[Instr.loadAt,Instr.sureAddr,loadVar,gV ow,run_sizeOf cJ,run_loadCells P S.w _ _ n iN]
   ·cases hl
  ·rename_i ow
   split at hl
   ·rename_i v0 r0 hc
    obtain rfl:=Option.some.inj hl
    obtain⟨b,hb,fy,_,_,Uw,CK,iN⟩:=h.cells hc
    obtain rfl:=hr.addr hb fy
    obtain⟨u,hu⟩:=iN 0 (by omega)
    have h0:=CK.2 0 (by simp)
    rw[wS _ _ _ _ _ (by omega),hu] at h0
    simp only[Nat.add_zero] at hu
    refine⟨u,?_,by simpa using h0⟩
    simp[Instr.loadAt,Instr.sureAddr,loadVar,gV ow,hu]
   ·cases hl
  ·cases hl
 ·cases hl
theorem O8 {P:Program}{S:St}{op:BinOp}{k:IntKind}{x y:Int}{v:Value}{t:TypeId}{ox oy:Operand}(h:jM op k x y=some v)(hs:op≠ .shl)(rf:op≠ .shr):
  Reads P S (do eqGuard op t ox oy (.int k x) (.int k y);binOp op t (.int k x) (.int k y)) v:=by
 cases op<;>simp only[jM] at h<;>first
  |exact absurd rfl hs
  |exact absurd rfl rf
  |(obtain rfl:=Option.some.inj h;refine⟨_,?_,by first|exact .int _ _|exact .bool _⟩;simp[go_sem,Op.intArith,Op.intBits];done)
  |(split at h
    ·cases h
    ·rename_i hy;obtain rfl:=Option.some.inj h;refine⟨_,?_,.int _ _⟩;simp[go_sem,Op.intDiv,hy])
theorem z8 {P:Program}{S:St}{op:BinOp}{k k' :IntKind}{x y:Int}{v:Value}{t:TypeId}{ox oy:Operand}(h:sH op k x y=some v):
  Reads P S (do eqGuard op t ox oy (.int k x) (.int k' y);binOp op t (.int k x) (.int k' y)) v:=by
 unfold sH at h
 split at h
 ·cases h
 ·rename_i hy
  cases op<;>simp only at h<;>first
   |(cases h;done)
   |(obtain rfl:=Option.some.inj h;refine⟨_,?_,.int _ _⟩;simp[eqGuard_shl,eqGuard_shr,binOp_shl,binOp_shr,Op.shift,hy])
theorem size_data (x:ByteArray):x.size=x.data.toList.length:=by rw[Array.length_toList];rfl
theorem wU {x y:ByteArray}(h:x.data.toList=y.data.toList):x=y:=by
 cases x;cases y;simp only at h;congr 1;exact Array.toList_inj.1 h
theorem MF (x y:ByteArray):x++y=⟨(x.data.toList++y.data.toList).toArray⟩:=by
 apply wU
 rw[ByteArray.data_append,Array.toList_append]
theorem O9 {P:Program}{S:St}{op:BinOp}{x y:ByteArray}{v:Value}{t:TypeId}{ox oy:Operand}(h:zT op x y=some v):
  Reads P S (do eqGuard op t ox oy (.string x) (.string y);binOp op t (.string x) (.string y)) v:=by
 have hb:∀op,binOp op t (.string x) (.string y)=Op.stringOp op x y:=fun op=>by cases op<;>rfl
 simp only[eqGuard_at_string,hb]
 cases op<;>simp only[zT] at h<;>first
  |(cases h;done)
  |(split at h
    ·rename_i hle
     obtain rfl:=Option.some.inj h
     refine⟨_,?_,.string _⟩
     have Yt:x.size+y.size<=4294967296:=by rw[size_data,size_data];simpa [Nat.ble_eq] using hle
     have hn:¬((9223372036854775807:Int)<(x.size:Int)+(y.size:Int)):=by omega
     simp[Op.stringOp,hn,MF]
    ·cases h)
  |(obtain rfl:=Option.some.inj h;refine⟨_,?_,.bool _⟩;simp[Op.stringOp,ByteArray.toList_eq])
theorem MG {P:Program}{S:St}{t:TypeId}{x y x' y' :Value}{b:Bool}(d:Nat)(hx:VR S x x')(hy:VR S y y')(h:qY P t x y=some b):(Op.equalIn (d+1) t x' y').run P S.w= .ok b S.w:=by
 unfold qY at h
 split at h
 ·rename_i a1 a2 hu;cases hx;cases hy;obtain rfl:=Option.some.inj h;simp[Op.equalIn,run_underlying hu]
 ·rename_i e q hu;cases hx;obtain rfl:=Option.some.inj h;cases hy<;>simp[Op.equalIn,run_underlying hu]
 ·rename_i e q hu;obtain rfl:=Option.some.inj h;cases hx<;>(cases hy;simp[Op.equalIn,run_underlying hu])
 ·rename_i e n c q m d hu;obtain rfl:=Option.some.inj h;cases hx;cases hy<;>simp[Op.equalIn,run_underlying hu]
 ·rename_i e q n c m d hu;obtain rfl:=Option.some.inj h;cases hx;cases hy;simp[Op.equalIn,run_underlying hu]
 ·rename_i e1 e2 q hu;obtain rfl:=Option.some.inj h;cases hx;cases hy<;>simp[Op.equalIn,run_underlying hu]
 ·rename_i e1 e2 q hu;obtain rfl:=Option.some.inj h;cases hx;cases hy;simp[Op.equalIn,run_underlying hu]
 ·rename_i hu;obtain rfl:=Option.some.inj h;cases hx;cases hy;simp[Op.equalIn,run_underlying hu]
 ·rename_i hu;obtain rfl:=Option.some.inj h;cases hx;cases hy;simp[Op.equalIn,run_underlying hu]
 ·rename_i hu;obtain rfl:=Option.some.inj h;cases hx;cases hy;simp[Op.equalIn,run_underlying hu]
 ·cases h
theorem Pa {P:Program}{S:St}{t:TypeId}{x y x' y' :Value}{b:Bool}(hx:VR S x x')(hy:VR S y y')(h:qY P t x y=some b):(Op.equal t x' y').run P S.w= .ok b S.w:=
 MG 9999 hx hy h
def kW:Value->Bool
 | .bool _| .pointer _| .slice _ _ _| .map _| .nilFunc| .func _ _ _=>true
 |_=>false
theorem Jk {P:Program}{t:TypeId}{x y:Value}{b:Bool}(h:qY P t x y=some b):kW x=true:=by
 unfold qY at h
 split at h<;>first|rfl|(cases h;done)
theorem ze (op:BinOp)(t:TypeId)(ox oy:Operand)(x y:Value)(h:kW x=true):eqGuard op t ox oy x y=pure ():=by
 cases x<;>first|(simp[kW] at h;done)|(cases op<;>rfl)
theorem VR.kind {S:St}{v v' :Value}(h:VR S v v'):kW v=kW v' :=by cases h<;>rfl
theorem CW (t:TypeId)(x y:Value)(h:kW x=true):binOp .eql t x y=(do pure (.bool (<-Op.equal t x y))):=by
 cases x<;>first|(simp[kW] at h;done)|(cases y<;>rfl)
theorem CX (t:TypeId)(x y:Value)(h:kW x=true):binOp .neq t x y=(do pure (.bool (!(<-Op.equal t x y)))):=by
 cases x<;>first|(simp[kW] at h;done)|(cases y<;>rfl)
theorem SB {P:Program}{S:St}{op:BinOp}{t:TypeId}{x y x' y' v:Value}{ox oy:Operand}(hx:VR S x x')(hy:VR S y y')
  (h:(match op with
   | .eql=>match qY P t x y with|some b=>some (.bool b)|none=>none
   | .neq=>match qY P t x y with|some b=>some (.bool (!b))|none=>none
   |_=>none)=some v):Reads P S (do eqGuard op t ox oy x' y';binOp op t x' y') v:=by
 cases op<;>simp only at h<;>first
  |(cases h;done)
  |(split at h
    ·rename_i b hb
     obtain rfl:=Option.some.inj h
     have hk:kW x' =true:=by rw[<-hx.kind];exact Jk hb
     refine⟨_,?_,.bool _⟩
     simp[ze _ _ _ _ _ _ hk,CW _ _ _ hk,CX _ _ _ hk,Pa hx hy hb]
    ·cases h)
theorem ui {S:St}:∀{xs ys GN GO:List Value} {b:Bool},gk xs ys=some b->eX S xs GN->eX S ys GO->gk GN GO=some b
 |[],[],GN,GO,b,h,hx,hy=>by rw[hx.ju,hy.ju];exact h
 |x::r,y::q,GN,GO,b,h,hx,hy=>by
  obtain⟨x',r',rfl,iU,kC⟩:=hx.cons_inv
  obtain⟨y',q',rfl,zC,pQ⟩:=hy.cons_inv
  unfold gk at h
  split at h
  ·rename_i z9 MH;cases z9
  ·rename_i k a r0 k' b0 q0 z9 MH
   injection z9 with e1 e2;injection MH with e3 e4
   subst e1;subst e2;subst e3;subst e4
   cases iU;cases zC
   split at h
   ·rename_i t hk ht
    have:=ui ht kC pQ
    unfold gk
    simp only[hk,this]
    exact h
   ·cases h
  ·cases h
 |[],y::q,_,_,b,h,_,_=>by simp[gk] at h
 |x::r,[],_,_,b,h,_,_=>by simp[gk] at h
theorem GP {P:Program}{e:TypeId}{k' :IntKind}(he:P.underlying e=some (.int k'))(ow:cw P e=some false)(w:World)(d:Nat)(xs ys:Array Value):∀(len i:Nat) (b:Bool),gk (xs.toList.drop i) (ys.toList.drop i)=some b->xs.size=i+len->ys.size=i+len->
  (forIn (List.range' i len 1) ((none:Option Bool),()) fun i __s=>do
   let a<-part e xs (i*1)
   let c<-part e ys (i*1)
   let r<-Op.equalIn (d+1) e a c
   if(!r)=true then pure (ForInStep.done (some false,())) else pure (ForInStep.yield (none,()))).run P w= .ok (if b then none else some false,()) w:=by
 intro len
 induction len with
 |zero=>
  intro i b h hx hy
  rw[List.drop_eq_nil_of_le (by simp;omega),List.drop_eq_nil_of_le (by simp;omega)] at h
  simp only[gk] at h
  obtain rfl:=Option.some.inj h
  simp
 |succ len ih=>
  intro i b h hx hy
  have SC:i<xs.toList.length:=by simp;omega
  have CY:i<ys.toList.length:=by simp;omega
  rw[List.drop_eq_getElem_cons SC,List.drop_eq_getElem_cons CY] at h
  unfold gk at h
  split at h
  ·rename_i z9 _;cases z9
  ·rename_i k a r0 k2 b0 q0 z9 MH
   injection z9 with e1 e2;injection MH with e3 e4
   subst e2;subst e4
   split at h
   case h_2=>cases h
   rename_i t hk ht
   have rh:k=k2:=by split at hk;assumption;cases hk
   subst rh
   obtain rfl:=Option.some.inj h
   have Ux:(part e xs (i*1)).run P w= .ok (.int k a) w:=by
    have:xs[i]?=some (.int k a):=by rw[<-Array.getElem?_toList,List.getElem?_eq_getElem SC,e1]
    simp[part,gV ow,this]
   have Uy:(part e ys (i*1)).run P w= .ok (.int k b0) w:=by
    have:ys[i]?=some (.int k b0):=by rw[<-Array.getElem?_toList,List.getElem?_eq_getElem CY,e3]
    simp[part,gV ow,this]
   have heq:(Op.equalIn (d+1) e (.int k a) (.int k b0)).run P w= .ok (a==b0) w:=by simp[Op.equalIn,run_underlying he]
   rw[List.range'_succ,List.forIn_cons]
   simp only[Sem.run_bind,Ux,Uy,heq,Result.andThen_ok]
   cases CZ:(a==b0) with
   |false=>simp
   |true=>
    simp only[Bool.not_true,Bool.false_eq_true,if_false,Sem.run_pure,Result.andThen_ok,Bool.true_and]
    exact ih (i+1) t ht (by omega) (by omega)
  ·cases h
theorem wV {P:Program}(w:World)(d:Nat){n:Nat}{t e:TypeId}{k:IntKind}{xs ys:Array Value}{b:Bool}(hu:P.underlying t=some (.array n e))(cJ:bq P e=some 1)(MI:P.underlying e=some (.int k))(ow:cw P e=some false)
  (h:gk (xs.toList.drop 0) (ys.toList.drop 0)=some b) (hx:xs.size=0+n) (hy:ys.size=0+n):(Op.equalIn (d+1+1) t (.agg xs) (.agg ys)).run P w= .ok b w:=by
 rw[Op.equalIn]
 simp only[Sem.run_bind,run_underlying hu,Result.andThen_ok,run_sizeOf cJ]
 rw[Std.Legacy.Range.forIn_eq_forIn_range']
 have:=GP MI ow w d xs ys n 0 b h hx hy
 have hr:List.range' [:n].start [:n].size [:n].step=List.range' 0 n 1:=by simp[Std.Legacy.Range.size]
 rw[hr,this]
 cases b<;>simp
theorem tJ {P:Program}(w:World)(d:Nat){xs ys:Array Value}:∀(fs:List Field) (i:Nat) (b:Bool),sI P fs i=true->gk (xs.toList.drop i) (ys.toList.drop i)=some b->xs.size=i+fs.length->ys.size=i+fs.length->
  (Op.eqFields (d+1) xs ys fs).run P w= .ok b w
 |[],i,b,_,h,hx,hy=>by
  rw[List.drop_eq_nil_of_le (by simp at hx;simp;omega),List.drop_eq_nil_of_le (by simp at hy;simp;omega)] at h
  simp only[gk] at h
  obtain rfl:=Option.some.inj h
  simp[Op.eqFields]
 |f::r,i,b,hf,h,hx,hy=>by
  have SC:i<xs.toList.length:=by simp at hx;simp;omega
  have CY:i<ys.toList.length:=by simp at hy;simp;omega
  rw[List.drop_eq_getElem_cons SC,List.drop_eq_getElem_cons CY] at h
  unfold sI at hf
  rw[Bool.and_eq_true] at hf
  obtain⟨z7,Jj⟩:=hf
  split at z7
  case h_2=>cases z7
  rename_i k' MI
  simp only[Bool.and_eq_true,Nat.beq_eq] at z7
  obtain⟨Aa,fL⟩:=z7
  have Jl:f.name≠ "_" :=by simpa using Aa
  have ow:cw P f.type=some false:=by unfold cw;rw[MI]
  unfold gk at h
  split at h
  ·rename_i z9 _;cases z9
  ·rename_i k a r0 k2 b0 q0 z9 MH
   injection z9 with e1 e2;injection MH with e3 e4
   subst e2;subst e4
   split at h
   case h_2=>cases h
   rename_i t hk ht
   have rh:k=k2:=by split at hk;assumption;cases hk
   subst rh
   obtain rfl:=Option.some.inj h
   have Ux:(part f.type xs f.offset).run P w= .ok (.int k a) w:=by
    have:xs[i]?=some (.int k a):=by rw[<-Array.getElem?_toList,List.getElem?_eq_getElem SC,e1]
    simp[part,gV ow,fL,this]
   have Uy:(part f.type ys f.offset).run P w= .ok (.int k b0) w:=by
    have:ys[i]?=some (.int k b0):=by rw[<-Array.getElem?_toList,List.getElem?_eq_getElem CY,e3]
    simp[part,gV ow,fL,this]
   have heq:(Op.equalIn (d+1) f.type (.int k a) (.int k b0)).run P w= .ok (a==b0) w:=by simp[Op.equalIn,run_underlying MI]
   rw[Op.eqFields,if_pos Jl]
   simp only[Sem.run_bind,Ux,Uy,heq,Result.andThen_ok]
   cases CZ:(a==b0) with
   |false=>simp
   |true=>
    simp only[Bool.not_true,Bool.false_eq_true,if_false,Bool.true_and]
    exact tJ w d r (i+1) t Jj ht (by simp at hx;omega) (by simp at hy;omega)
  ·cases h
theorem ri {x y:Value}{b:Bool}(h:zw x y=some b):(∃k a c,x= .int k a/\y= .int k c/\b=(a==c))\/(∃a c,x= .string a/\y= .string c/\b=(a.toList==c.toList)):=by
 unfold zw at h
 split at h
 ·rename_i k a k' c
  split at h
  ·rename_i hk
   subst hk
   exact .inl ⟨k,a,c,rfl,rfl,(Option.some.inj h).symm⟩
  ·cases h
 ·rename_i a c
  exact .inr ⟨a,c,rfl,rfl,(Option.some.inj h).symm⟩
 ·cases h
theorem tK {x y:Value}{r q:List Value}{b:Bool}(h:je (x::r) (y::q)=some b):∃a t,zw x y=some a/\je r q=some t/\b=(a&&t):=by
 simp only[je] at h
 split at h
 ·rename_i a t h1 h2
  exact⟨a,t,h1,h2,(Option.some.inj h).symm⟩
 ·cases h
theorem ye {S:St}:∀{xs ys GN GO:List Value} {b:Bool},je xs ys=some b->eX S xs GN->eX S ys GO->GN=xs/\GO=ys
 |[],[],GN,GO,b,h,hx,hy=>⟨hx.ju,hy.ju⟩
 |x::r,y::q,GN,GO,b,h,hx,hy=>by
  obtain⟨x',r',rfl,iU,kC⟩:=hx.cons_inv
  obtain⟨y',q',rfl,zC,pQ⟩:=hy.cons_inv
  obtain⟨a,t,h1,h2,_⟩:=tK h
  obtain⟨e1,e2⟩:=ye h2 kC pQ
  rw[e1,e2]
  rcases ri h1 with ⟨k,a,c,rfl,rfl,_⟩|⟨a,c,rfl,rfl,_⟩
  ·cases iU;cases zC;exact⟨rfl,rfl⟩
  ·cases iU;cases zC;exact⟨rfl,rfl⟩
 |[],y::q,_,_,b,h,_,_=>by simp[je] at h
 |x::r,[],_,_,b,h,_,_=>by simp[je] at h
theorem rk {P:Program}(w:World)(d:Nat){xs ys:Array Value}:∀(fs:List Field) (i:Nat) (b:Bool),pJ P fs (xs.toList.drop i) i=true->je (xs.toList.drop i) (ys.toList.drop i)=some b->xs.size=i+fs.length->ys.size=i+fs.length->
  (Op.eqFields (d+1) xs ys fs).run P w= .ok b w
 |[],i,b,_,h,hx,hy=>by
  rw[List.drop_eq_nil_of_le (by simp at hx;simp;omega),List.drop_eq_nil_of_le (by simp at hy;simp;omega)] at h
  simp only[je] at h
  obtain rfl:=Option.some.inj h
  simp[Op.eqFields]
 |f::r,i,b,hf,h,hx,hy=>by
  have SC:i<xs.toList.length:=by simp at hx;simp;omega
  have CY:i<ys.toList.length:=by simp at hy;simp;omega
  rw[List.drop_eq_getElem_cons SC,List.drop_eq_getElem_cons CY] at h
  rw[List.drop_eq_getElem_cons SC] at hf
  simp only[pJ] at hf
  rw[Bool.and_eq_true] at hf
  obtain⟨z7,Jj⟩:=hf
  obtain⟨a,t,h1,h2,rfl⟩:=tK h
  have key:f.name≠ "_" /\(part f.type xs f.offset).run P w= .ok xs.toList[i] w/\(part f.type ys f.offset).run P w= .ok ys.toList[i] w/\(Op.equalIn (d+1) f.type xs.toList[i] ys.toList[i]).run P w= .ok a w:=by
   have Ux:∀(ow:cw P f.type=some false) (fL:f.offset=i),(part f.type xs f.offset).run P w= .ok xs.toList[i] w:=fun ow fL=>by
    have:xs[i]?=some xs.toList[i]:=by rw[<-Array.getElem?_toList,List.getElem?_eq_getElem SC]
    simp only[part,Sem.run_bind,gV ow,fL,this,Result.andThen_ok]
    simp
   have Uy:∀(ow:cw P f.type=some false) (fL:f.offset=i),(part f.type ys f.offset).run P w= .ok ys.toList[i] w:=fun ow fL=>by
    have:ys[i]?=some ys.toList[i]:=by rw[<-Array.getElem?_toList,List.getElem?_eq_getElem CY]
    simp only[part,Sem.run_bind,gV ow,fL,this,Result.andThen_ok]
    simp
   split at z7
   ·rename_i k' k0 n0 MI Uz
    simp only[Bool.and_eq_true,Nat.beq_eq] at z7
    obtain⟨Aa,fL⟩:=z7
    have ow:cw P f.type=some false:=by unfold cw;rw[MI]
    refine⟨by simpa using Aa,Ux ow fL,Uy ow fL,?_⟩
    rcases ri h1 with ⟨k,a1,c1,e1,e2,rfl⟩|⟨a1,c1,e1,e2,rfl⟩
    ·rw[e1,e2];exact run_equalIn_int w d f.type k k' a1 c1 MI
    ·rw[Uz] at e1;cases e1
   ·rename_i k0 MI Uz
    simp only[Bool.and_eq_true,Nat.beq_eq] at z7
    obtain⟨Aa,fL⟩:=z7
    have ow:cw P f.type=some false:=by unfold cw;rw[MI]
    refine⟨by simpa using Aa,Ux ow fL,Uy ow fL,?_⟩
    rcases ri h1 with ⟨k,a1,c1,e1,e2,rfl⟩|⟨a1,c1,e1,e2,rfl⟩
    ·rw[Uz] at e1;cases e1
    ·rw[e1,e2];exact run_equalIn_string w d f.type a1 c1 MI
   ·cases z7
  obtain⟨Jl,Ux,Uy,heq⟩:=key
  rw[Op.eqFields,if_pos Jl]
  simp only[Sem.run_bind,Ux,Uy,heq,Result.andThen_ok]
  cases a with
  |false=>simp
  |true=>
   simp only[Bool.not_true,Bool.false_eq_true,if_false,Bool.true_and]
   exact rk w d r (i+1) t Jj h2 (by simp at hx;omega) (by simp at hy;omega)
theorem DE {P:Program}{S:St}{op:BinOp}{t:TypeId}{xs ys GN GO:Array Value}{b:Bool}{ox oy:Operand}(hx:eX S xs.toList GN.toList)(hy:eX S ys.toList GO.toList)(h:wM P t xs ys=some b):
  (eqGuard op t ox oy (.agg GN) (.agg GO)).run P S.w= .ok () S.w/\(Op.equalIn 10000 t (.agg GN) (.agg GO)).run P S.w= .ok b S.w:=by
 unfold wM at h
 split at h
 case h_3=>cases h
 case h_2=>
  rename_i fs hu
  split at h
  case isFalse=>cases h
  rename_i hc
  simp only[Bool.and_eq_true,Nat.beq_eq,Bool.not_eq_true'] at hc
  obtain⟨⟨⟨u7,GQ⟩,hg⟩,aA⟩:=hc
  have qM:GN.size=0+fs.toList.length:=by have:=hx.1;simp at this u7;simp;omega
  have CM:GO.size=0+fs.toList.length:=by have:=hy.1;simp at this GQ;simp;omega
  have hfo:P.fieldsOf t=fs:=by simp[Program.fieldsOf,hu]
  refine⟨by cases op<;>simp[eqGuard,hg],?_⟩
  have:=run_equalIn_struct (P:=P) S.w 9999 t GN GO (by rw[hfo];exact hu) aA
  split at h
  ·rename_i Yu
   have h2:=ui h hx hy
   rw[hfo,tJ S.w 9998 fs.toList 0 b Yu (by simpa using h2) qM CM] at this
   exact this
  ·split at h
   case isFalse=>cases h
   rename_i Yu
   obtain⟨e1,e2⟩:=ye h hx hy
   rw[hfo,rk S.w 9998 fs.toList 0 b (by rw[e1];simpa using Yu) (by rw[e1,e2];simpa using h) qM CM] at this
   exact this
 rename_i n e hu
 split at h
 case h_2=>cases h
 rename_i k MI cJ
 split at h
 case isFalse=>cases h
 rename_i hc
 simp only[Bool.and_eq_true,Nat.beq_eq,Bool.not_eq_true'] at hc
 obtain⟨⟨u7,GQ⟩,hg⟩:=hc
 have ow:cw P e=some false:=by unfold cw;rw[MI]
 have h2:=ui h hx hy
 have qM:GN.size=n:=by have:=hx.1;simp at this u7;omega
 have CM:GO.size=n:=by have:=hy.1;simp at this GQ;omega
 constructor
 ·cases op<;>simp[eqGuard,hg]
 ·exact wV S.w 9998 hu cJ MI ow (by simpa using h2) (by omega) (by omega)
theorem SD {P:Program}{S:St}{op:BinOp}{t:TypeId}{x y x' y' v:Value}{ox oy:Operand}(hx:VR S x x')(hy:VR S y y')(h:du P op t x y=some v):
  Reads P S (do eqGuard op t ox oy x' y';binOp op t x' y') v:=by
 unfold du at h
 split at h
 ·rename_i xs ys
  obtain⟨GN,rfl,hxv⟩:=hx.zB
  obtain⟨GO,rfl,hyv⟩:=hy.zB
  split at h
  ·split at h
   ·rename_i b hb
    obtain rfl:=Option.some.inj h
    obtain⟨h1,h2⟩:=DE (op:= .eql) (ox:=ox) (oy:=oy) hxv hyv hb
    exact⟨_,by simp only[Sem.run_bind,h1,Result.andThen_ok,run_eql_struct,h2],.bool _⟩
   ·cases h
  ·split at h
   ·rename_i b hb
    obtain rfl:=Option.some.inj h
    obtain⟨h1,h2⟩:=DE (op:= .neq) (ox:=ox) (oy:=oy) hxv hyv hb
    exact⟨_,by simp only[Sem.run_bind,h1,Result.andThen_ok,run_neq_struct,h2],.bool _⟩
   ·cases h
  ·cases h
 ·rename_i k a k' b
  cases hx;cases hy
  split at h
  ·exact z8 h
  ·exact z8 h
  ·rename_i h1 h2
   split at h
   ·rename_i hk;subst hk;exact O8 h (fun e=>h1 e) (fun e=>h2 e)
   ·cases h
 ·cases hx;cases hy;exact O9 h
 ·exact SB hx hy h
theorem VJ {P:Program}{S:St}{op:UnOp}{x x' v:Value}(hx:VR S x x')(h:Uu op x=some v):Reads P S (Op.unary op x') v:=by
 unfold Uu at h
 split at h
 ·cases hx;simp only[jM] at h;obtain rfl:=Option.some.inj h;exact⟨_,by simp[Op.unary,Op.intArith],.int _ _⟩
 ·cases hx;simp only[jM] at h;obtain rfl:=Option.some.inj h;exact⟨_,by simp[Op.unary,Op.intBits],.int _ _⟩
 ·cases hx;obtain rfl:=Option.some.inj h;exact⟨_,by simp[Op.unary],.bool _⟩
 ·cases h
theorem C0 {P:Program}{S:St}{t:TypeId}{x ix x' Yv v:Value}(hx:VR S x x')(hi:VR S ix Yv)(h:dC P t x ix=some v):Reads P S (Instr.indexAt t x' Yv) v:=by
 unfold dC at h
 split at h
 ·rename_i e i off len c k n hu
  cases hi
  cases hx with
  |slice _ _ _ _ a cap h0 hz hr=>
  split at h
  ·rename_i z pR
   split at h
   ·rename_i aP
    obtain rfl:=Option.some.inj h
    have jz:n<len:=by simpa [Nat.blt_eq] using aP
    obtain⟨⟨b,hb,hc,hl⟩,_⟩:=hr (by omega)
    refine⟨.pointer (some (a.add (n*z))),?_,.ptr _ _ _ _ ⟨b,hb,hc,fun gC=> ?_⟩⟩
    ·have zf:((Int.ofNat n)<(len:Int)):=by simp only[Int.ofNat_eq_natCast];omega
     have MJ:(0:Int)<=Int.ofNat n:=by simp
     simp[Instr.indexAt,run_underlying hu,asIntOf,run_sizeOf pR]
     omega
    ·rw[hl gC,Addr.add_lit,Nat.add_assoc]
   ·cases h
  ·cases h
 ·rename_i len e i off c k n hu
  cases hi
  obtain⟨a,rfl,b,hb,hc,hl⟩:=hx.pO
  split at h
  ·rename_i z pR
   split at h
   ·rename_i aP
    obtain rfl:=Option.some.inj h
    have jz:n<len:=by simpa [Nat.blt_eq] using aP
    refine⟨.pointer (some (a.add (n*z))),?_,.ptr _ _ _ _ ⟨b,hb,hc,fun gC=> ?_⟩⟩
    ·simp[Instr.indexAt,run_underlying hu,asIntOf,run_sizeOf pR,Instr.sureAddr]
     omega
    ·rw[hl gC,Addr.add_lit,Nat.add_assoc]
   ·cases h
  ·cases h
 ·cases h
theorem C1 {P:Program}{S:St}{t:TypeId}{x x' v:Value}{f:Nat}(hx:VR S x x')(h:az P t x f=some v):Reads P S (Instr.fieldAt t x' f) v:=by
 unfold az at h
 split at h
 ·rename_i fs i off c hu
  obtain⟨a,rfl,b,hb,hc,hl⟩:=hx.pO
  split at h
  ·rename_i fd hf
   split at h
   ·rename_i z pR
    obtain rfl:=Option.some.inj h
    refine⟨.pointer (some (a.add fd.offset)),?_,.ptr _ _ _ _ ⟨b,hb,hc,fun gC=> ?_⟩⟩
    ·simp[Instr.fieldAt,run_underlying hu,hf,Instr.sureAddr,fieldPlace,run_sizeOf pR]
    ·rw[hl gC,Addr.add_lit,Nat.add_assoc]
   ·cases h
  ·cases h
 ·cases h
theorem GR {P:Program}{S:St}{t:TypeId}{cs jt:Array Value}{off:Nat}{v:Value}(hv:eX S cs.toList jt.toList)(h:La P t cs.toList off=some v):Reads P S (part t jt off) v:=by
 unfold La at h
 split at h
 ·rename_i n ow cJ
  rw[uY,q9] at h
  split at h
  ·rename_i l hl
   split at hl
   ·rename_i hn
    obtain rfl:=Option.some.inj hl
    obtain rfl:=Option.some.inj h
    refine⟨.agg (jt.extract off (off+n)),by simp[part,gV ow,run_sizeOf cJ],?_⟩
    have hlen:=hv.1
    refine .agg _ _ (by simp;simp at hlen;omega) (fun i hi=> ?_)
    simp only[List.length_take,List.length_drop] at hi
    have u9:i<n:=by simp at hi;omega
    have:=hv.2 (off+i) (by simp at hn|-;omega)
    simp only[List.getD_eq_getElem?_getD,Array.getElem?_toList] at this|-
    simp only[List.getElem?_take,u9,if_true,List.getElem?_drop,Array.getElem?_toList,Array.getElem?_extract]
    rw[if_pos (by simp at hn hlen;omega)]
    exact this
   ·cases hl
  ·cases h
 ·rename_i ow
  rw[q9] at h
  split at h
  ·rename_i v0 r hd
   obtain rfl:=Option.some.inj h
   have fL:off<cs.toList.length:=by
    rcases Nat.lt_or_ge off cs.toList.length with h' |h'
    ·exact h'
    ·rw[List.drop_eq_nil_of_le h'] at hd;cases hd
   have h0:cs.toList.getD off undef=v0:=by
    have:=congrArg (fun l=>l.getD 0 undef) hd
    simpa [List.getD_eq_getElem?_getD,List.getElem?_drop] using this
   have Yw:off<jt.size:=by have:=hv.1;simp at this fL;omega
   have:=hv.2 off fL
   rw[h0] at this
   refine⟨jt.toList.getD off undef,?_,this⟩
   simp[part,gV ow,List.getD_eq_getElem?_getD,Yw]
  ·cases h
 ·cases h
theorem MK {P:Program}{S:St}{t:TypeId}{x x' v:Value}{f:Nat}(hx:VR S x x')(h:zU P t x f=some v):Reads P S (Instr.field t x' f) v:=by
 unfold zU at h
 split at h
 ·rename_i fs cs hu
  obtain⟨jt,rfl,tL⟩:=hx.zB
  split at h
  ·rename_i fd hf
   obtain⟨v',h1,h2⟩:=GR (P:=P) tL h
   exact⟨v',by simp[Instr.field,run_underlying hu,hf,asAgg,h1],h2⟩
  ·cases h
 ·cases h
theorem ML {P:Program}{S:St}{t:TypeId}{x ix x' Yv v:Value}(hx:VR S x x')(hi:VR S ix Yv)(h:qZ P t x ix=some v):Reads P S (Instr.index t x' Yv) v:=by
 unfold qZ at h
 split at h
 ·rename_i bs k n hu
  cases hi;cases hx
  split at h
  ·rename_i c r hd
   obtain rfl:=Option.some.inj h
   have hn:n<bs.data.toList.length:=by
    rcases Nat.lt_or_ge n bs.data.toList.length with h' |h'
    ·exact h'
    ·rw[List.drop_eq_nil_of_le h'] at hd;cases hd
   have h0:bs[n]?=some c:=by
    have:=congrArg (fun l=>l[0]?) hd
    simp only[List.getElem?_drop,Nat.add_zero,List.getElem?_cons_zero] at this
    have aP:n<bs.size:=by rw[size_data];exact hn
    rw[getElem?_pos bs n aP]
    rw[List.getElem?_eq_getElem hn] at this
    rw[<-Option.some.inj this,Array.getElem_toList]
    rfl
   refine⟨_,?_,.int _ _⟩
   simp[Instr.index,run_underlying hu,asIntOf,h0]
  ·cases h
 ·rename_i len e cs k n hu
  cases hi
  obtain⟨jt,rfl,tL⟩:=hx.zB
  split at h
  ·rename_i z pR
   split at h
   ·rename_i aP
    have jz:n<len:=by simpa [Nat.blt_eq] using aP
    obtain⟨v',h1,h2⟩:=GR (P:=P) tL h
    refine⟨v',?_,h2⟩
    simp[Instr.index,run_underlying hu,asIntOf,run_sizeOf pR,h1]
    omega
   ·cases h
  ·cases h
 ·cases h
theorem GS {P:Program}{S:St}{x x' v:Value}{i:Nat}(hx:VR S x x')(h:cN x i=some v):Reads P S (Instr.extract x' i) v:=by
 unfold cN at h
 split at h
 ·rename_i vs
  obtain⟨Le,rfl,hvs⟩:=hx.ME
  have hi:i<vs.size:=by
   rcases Nat.lt_or_ge i vs.size with h' |h'
   ·exact h'
   ·rw[Array.getElem?_eq_none h'] at h;cases h
  have u9:i<Le.size:=by have:=hvs.1;simp at this;omega
  have:=hvs.2 i (by simpa using hi)
  simp only[List.getD_eq_getElem?_getD,Array.getElem?_toList,h] at this
  refine⟨Le[i],by simp[Instr.extract,u9],by simpa [u9] using this⟩
 ·cases h
end Go.Cl
namespace Go.Cl
open Go.RowKit
def OV (S:St)(o o' :Option Value):Prop:=(o=none/\o' =none)\/∃v v',o=some v/\o' =some v' /\VR S v v'
theorem rp {S:St}{o o' :Option Value}{d n:Nat}(hv:OV S o o')(h:hJ o d=some n):(o=none/\o' =none/\n=d)\/∃k,o=some (.int k n)/\o' =some (.int k n):=by
 unfold hJ at h
 split at h
 ·rcases hv with ⟨_,h2⟩|⟨v,v',h1,_,_⟩
  ·exact .inl ⟨rfl,h2,(Option.some.inj h).symm⟩
  ·cases h1
 ·rename_i k m
  rcases hv with ⟨h1,_⟩|⟨v,v',h1,h2,h3⟩
  ·cases h1
  ·obtain rfl:=Option.some.inj h1
   cases h3
   obtain rfl:=Option.some.inj h
   exact .inr ⟨k,rfl,h2⟩
 ·cases h
theorem run_sliceBound {P:Program}(w:World)(k:IntKind)(n y:Nat)(code:BoundsCode)(h:n<=y):(Instr.sliceBound (.int k n) y code).run P w= .ok n w:=by
 simp[Instr.sliceBound,asIntOf]
 omega
theorem iE {P:Program}{S:St}(w:World)(isS:Bool)(len cap:Nat){lo hi UA u9:Option Value}{l h:Nat}(nM:OV S lo UA)(OA:OV S hi u9)(h1:hJ lo 0=some l)(h2:hJ hi len=some h)(hlh:l<=h)(hh:h<=cap):
  (Instr.sliceBounds isS len cap UA u9 none).run P w= .ok (l,h,cap) w:=by
 rcases rp nM h1 with ⟨_,rfl,rfl⟩|⟨k1,_,rfl⟩<;>rcases rp OA h2 with ⟨_,rfl,rfl⟩|⟨k2,_,rfl⟩<;>
  simp[Instr.sliceBounds,run_sliceBound,hlh,hh]
theorem oU {P:Program}{S:St}(w:World)(isS:Bool)(len cap:Nat){lo hi mx UA u9 Yx:Option Value}{l h m:Nat}(nM:OV S lo UA)(OA:OV S hi u9)(VK:OV S mx Yx)(h1:hJ lo 0=some l)(h2:hJ hi len=some h)
  (h3:hJ mx 0=some m) (hmn:mx≠none) (zx:hi≠none) (hlh:l<=h) (hhm:h<=m) (hm:m<=cap):
  (Instr.sliceBounds isS len cap UA u9 Yx).run P w= .ok (l,h,m) w:=by
 rcases rp VK h3 with ⟨e,_,_⟩|⟨k3,_,rfl⟩
 ·exact absurd e hmn
 ·rcases rp OA h2 with ⟨e,_,_⟩|⟨k2,_,rfl⟩
  ·exact absurd e zx
  ·rcases rp nM h1 with ⟨_,rfl,rfl⟩|⟨k1,_,rfl⟩<;>simp[Instr.sliceBounds,run_sliceBound,hlh,hhm,hm]
theorem Pb {s:aq}{i c z:Nat}(h:jW s i c z=true):c=0\/∃b,s.bK i=some b/\b.lW=z:=by
 unfold jW at h
 split at h
 ·exact .inl rfl
 ·split at h
  ·rename_i b hb;exact .inr ⟨b,hb,by simpa [Nat.beq_eq] using h⟩
  ·cases h
theorem VR.sub {S:St}{i off len c:Nat}{a:Addr}{cap:Nat}(hv:VR S (.slice (some ⟨i,off,none⟩) len c) (.slice (some a) len cap)){l h m z:Nat}(hlh:l<=h)(hhm:h<=m)(hm:m<=cap)(hz:jW S.s i c z=true)(c' :Nat)(hO:c' =c\/(c' =0/\m=l)):
  VR S (.slice (some ⟨i,off+l*z,none⟩) (h-l) c') (.slice (some (if m=l then a else a.add (l*z))) (h-l) (m-l)):=by
 cases hv with
 |slice _ _ _ _ _ _ h0 sJ hr=>
 refine .slice _ _ _ _ _ _ (by omega) (fun e=> ?_) (fun E3=> ?_)
 ·rcases hO with rfl|⟨_,h2⟩
  ·have:=sJ e;omega
  ·omega
 ·have cD:¬m=l:=by omega
  obtain rfl:c' =c:=by rcases hO with h' |⟨_,h'⟩<;>omega
  rw[if_neg cD]
  obtain⟨⟨b,hb,CL,hl⟩,oS⟩:=hr (by omega)
  refine⟨⟨b,hb,CL,fun gC=>by rw[hl gC,Addr.add_lit,Nat.add_assoc]⟩,fun b' qV gC=> ?_⟩
  rw[hb] at qV;obtain rfl:=Option.some.inj qV
  obtain⟨arr,E,fr,h1,h2⟩:=oS b hb gC
  have hzz:b.lW=z:=by
   rcases Pb hz with rfl|⟨b2,eR,h3⟩
   ·have:=sJ rfl;omega
   ·rw[hb] at eR;obtain rfl:=Option.some.inj eR;exact h3
  have ha:=hl gC
  rw[ha] at h1 h2|-
  rw[Addr.add_lit]
  refine⟨arr,E,fr,h1,?_⟩
  simp only at h2|-
  rw[hzz] at h2|-
  have:l*z+(m-l)*z<=cap*z:=by rw[<-Nat.add_mul];exact Nat.mul_le_mul_right _ (by omega)
  omega
theorem MM {P:Program}{base:Nat}{S:St}(hs:SR base S){t:TypeId}{x x' v:Value}{lo hi mx UA u9 Yx:Option Value}(hx:VR S x x')(nM:OV S lo UA)(OA:OV S hi u9)(VK:OV S mx Yx)(h:dH P S.s t x lo hi mx=some v):
  Reads P S (Instr.sliceAt t x' UA u9 Yx) v:=by
 unfold dH at h
 split at h
 ·rename_i b hu
  cases hx
  split at h
  ·rename_i l hh h1 h2
   rcases VK with ⟨_,rfl⟩|⟨_,_,e,_,_⟩
   case inr=>cases e
   split at h
   ·rename_i hc
    simp only[Bool.and_eq_true,Nat.ble_eq] at hc
    obtain rfl:=Option.some.inj h
    have cJ:=size_data b
    have hb:=iE (P:=P) S.w false b.size b.size nM OA h1 (by rw[cJ];exact h2) hc.1 (by rw[cJ];exact hc.2)
    refine⟨_,?_,.string _⟩
    simp only[Instr.sliceAt,Instr.slice,Sem.run_bind,run_underlying hu,Result.andThen_ok,hb,Option.isSome_none,Bool.false_eq_true,if_false,Sem.run_pure]
    congr 2
    apply wU
    rw[ByteArray.data_extract,Array.toList_extract]
    simp only[List.extract,List.drop_take]
   ·cases h
  ·cases h
 ·rename_i e a len c hu
  split at h
  ·rename_i l hh z h1 h2 hz
   split at h
   ·rename_i hc
    simp only[Bool.and_eq_true,Nat.ble_eq] at hc
    split at h
    ·
     rcases VK with ⟨_,rfl⟩|⟨_,_,e,_,_⟩
     case inr=>cases e
     split at h
     ·obtain rfl:=Option.some.inj h
      cases hx
      have hb:=iE (P:=P) S.w true 0 0 nM OA h1 h2 hc.1 hc.2
      obtain rfl:hh=0:=by omega
      obtain rfl:l=0:=by omega
      refine⟨_,?_,.gP⟩
      simp[Instr.sliceAt,Instr.slice,run_underlying hu,hb,run_sizeOf hz]
     ·rename_i i off
      split at h
      ·rename_i mM
       obtain rfl:=Option.some.inj h
       have GU:=hx
       cases hx with
       |slice _ _ _ _ a1 cap h0 sJ hr=>
       have hb:=iE (P:=P) S.w true len cap nM OA h1 h2 hc.1 (by omega)
       refine⟨_,?_,GU.sub hc.1 (by omega:hh<=cap) (Nat.le_refl _) mM c (.inl rfl)⟩
       simp[Instr.sliceAt,Instr.slice,run_underlying hu,hb,run_sizeOf hz]
       split<;>rfl
      ·cases h
     ·cases h
    ·rename_i m
     split at h
     ·rename_i m' hv hm
      split at h
      ·rename_i va
       simp only[Bool.and_eq_true,Nat.ble_eq] at va
       split at h
       ·obtain rfl:=Option.some.inj h
        cases hx
        have hb:=oU (P:=P) S.w true 0 0 nM OA VK h1 h2 hm (by simp) (by simp) hc.1 va.1 va.2
        obtain rfl:hh=0:=by omega
        obtain rfl:l=0:=by omega
        obtain rfl:m' =0:=by omega
        refine⟨_,?_,.gP⟩
        simp[Instr.sliceAt,Instr.slice,run_underlying hu,hb,run_sizeOf hz]
       ·rename_i i off
        split at h
        ·rename_i mM
         obtain rfl:=Option.some.inj h
         have GU:=hx
         cases hx with
         |slice _ _ _ _ a1 cap h0 sJ hr=>
         have hb:=oU (P:=P) S.w true len cap nM OA VK h1 h2 hm (by simp) (by simp) hc.1 va.1 (by omega)
         refine⟨_,?_,GU.sub hc.1 va.1 (by omega) mM _ ?_⟩
         ·simp[Instr.sliceAt,Instr.slice,run_underlying hu,hb,run_sizeOf hz]
          split<;>rfl
         ·by_cases hlm:l=m'
          ·rw[if_pos (by simp[hlm])];exact .inr ⟨rfl,hlm.symm⟩
          ·rw[if_neg (by simp[hlm])];exact .inl rfl
        ·cases h
       ·cases h
      ·cases h
     ·cases h
   ·cases h
  ·cases h
 ·rename_i n e i off c hu
  split at h
  ·rename_i l hh z b h1 h2 hz hb
   rcases VK with ⟨_,rfl⟩|⟨_,_,e,_,_⟩
   case inr=>cases e
   split at h
   ·rename_i hc
    simp only[Bool.and_eq_true,Nat.ble_eq,Nat.blt_eq,Nat.beq_eq] at hc
    obtain⟨⟨⟨⟨⟨⟨oT,va⟩,gC⟩,hle⟩,aP⟩,MN⟩,sJ⟩:=hc
    obtain rfl:=Option.some.inj h
    obtain⟨a1,rfl,hr⟩:=hx.pO
    have fy:Live b c:=⟨gC,hle⟩
    obtain rfl:=hr.addr hb fy
    have hbd:=iE (P:=P) S.w false n n nM OA h1 h2 oT va
    refine⟨.slice (some (if n=l then⟨(S.e.loc i c).1,(S.e.loc i c).2+off,none⟩ else(⟨(S.e.loc i c).1,(S.e.loc i c).2+off,none⟩:Addr).add (l*z))) (hh-l) (n-l),?_,?_⟩
    ·simp[Instr.sliceAt,run_underlying hu,Instr.sureAddr,hbd,run_sizeOf hz]
    ·refine .slice _ _ _ _ _ _ (by omega) (fun e=>by omega) (fun E3=> ?_)
     have I1:¬n=l:=by omega
     rw[if_neg I1,Addr.add_lit]
     refine⟨⟨b,hb,hle,fun _=>by rw[Nat.add_assoc]⟩,fun b2 eR _=> ?_⟩
     rw[hb] at eR;obtain rfl:=Option.some.inj eR
     have hnz:0<n*z:=Nat.mul_pos (by omega) sJ
     obtain⟨v,hv,_⟩:=hs.cell i b hb c fy (off+n*z-1) (by omega)
     obtain⟨arr,E,fr,hk,ha⟩:=tI hv
     have zf:=(Array.getElem?_eq_some_iff.1 ha).1
     refine⟨arr,E,fr,hk,?_⟩
     simp only
     rw[MN]
     have:l*z+(n-l)*z=n*z:=by rw[<-Nat.add_mul];congr 1;omega
     omega
   ·cases h
  ·cases h
 ·cases h
end Go.Cl
namespace Go.Cl
open Go.RowKit
def jA (P:Program)(base:Nat)(S:St)(m:Sem Value)(v:Value)(s' :aq):Prop:=
 ∃T v',T.s=s' /\m.run P S.w= .ok v' T.w/\VR T v v' /\Good base S T
theorem Reads.E5 {P:Program}{base:Nat}{S:St}{m:Sem Value}{v:Value}(h:SR base S)(hr:Reads P S m v):jA P base S m v S.s:=by
 obtain⟨v',h1,h2⟩:=hr
 exact⟨S,v',rfl,h1,h2,Good.refl h⟩
def rq (P:Program)(base:Nat)(S:St)(m:Sem Value)(v:Value)(s0 s' :aq)(next:Nat):Prop:=
 ∃b,s' =s0.new (.dL b)/\∃T v',T.s=⟨Tr.set (depth s0.next) S.s.heap s0.next (.dL b),next⟩/\m.run P S.w= .ok v' T.w/\VR T v v' /\Good base S T
theorem rq.E5 {P:Program}{base:Nat}{S:St}{m:Sem Value}{v:Value}{s' :aq}(h:rq P base S m v S.s s' (S.s.next+1)):jA P base S m v s' :=by
 obtain⟨b,rfl,T,v',h1,h2,h3,h4⟩:=h
 exact⟨T,v',h1,h2,h3,h4⟩
theorem nN {base:Nat}{S:St}(h:SR base S){s0:aq}{next:Nat}(db:ml S s0.next next){cs:List Value}{len lW:Nat}{v:Value}{s' :aq}(hn:aX s0 cs len lW=some (v,s'))(arr:Array Value)(E:TypeId)(fr:Nat×Nat)(W:World)(cap:Nat)
  (hW:kJ S.w W (.cells arr E fr)) (l5:fr.1=fr.2\/arr.size<=fr.1) (hle:cs.length<=arr.size) (hv:∀p,p<cs.length->VR S (cs.getD p undef) (arr.toList.getD p undef)) (oS:len<=cap) (va:cap*lW<=arr.size):
  ∃b,s' =s0.new (.dL b)/\∃T,T.s=⟨Tr.set (depth s0.next) S.s.heap s0.next (.dL b),next⟩/\T.w=W/\VR T v (.slice (some ⟨S.w.heap.size,0,none⟩) len cap)/\Good base S T:=by
 unfold aX at hn
 split at hn
 ·injection hn with hn;injection hn with e1 e2
  subst e1;subst e2
  exact⟨⟨cs,1,true,lW⟩,rfl,S.ra s0.next next ⟨cs,1,true,lW⟩ W,rfl,rfl,.slice _ _ _ _ _ _ oS (fun e=>by omega) (fun _=>⟨St.z4 db _ W 0 _ (Nat.le_refl _),St.Jh db _ W 0 _ cap arr E fr hW (by simpa using va)⟩),
   Good.O2 h db cs lW arr E fr W hW l5 hle hv⟩
 ·cases hn
theorem ru {base:Nat}{S:St}(h:SR base S){cs:List Value}{len lW:Nat}{v:Value}{s' :aq}(hn:aX S.s cs len lW=some (v,s'))(arr:Array Value)(E:TypeId)(fr:Nat×Nat)(W:World)(cap:Nat)
  (hW:kJ S.w W (.cells arr E fr)) (l5:fr.1=fr.2\/arr.size<=fr.1) (hle:cs.length<=arr.size) (hv:∀p,p<cs.length->VR S (cs.getD p undef) (arr.toList.getD p undef)) (oS:len<=cap) (va:cap*lW<=arr.size):
  ∃T,T.s=s' /\T.w=W/\VR T v (.slice (some ⟨S.w.heap.size,0,none⟩) len cap)/\Good base S T:=by
 have dh:S.s.room=true:=by
  unfold aX at hn
  split at hn
  ·assumption
  ·cases hn
 obtain⟨b,rfl,T,h1,h2,h3,h4⟩:=nN h (ml.self h dh) hn arr E fr W cap hW l5 hle hv oS va
 exact⟨T,h1,h2,h3,h4⟩
theorem DF {base:Nat}{S:St}(h:SR base S){s0:aq}{next:Nat}(db:ml S s0.next next){cs:List Value}{lW:Nat}{v:Value}{s' :aq}(hn:fw s0 cs lW=some (v,s'))(arr:Array Value)(E:TypeId)
  (hv:eX S cs arr.toList):∃b,s' =s0.new (.dL b)/\∃T,T.s=⟨Tr.set (depth s0.next) S.s.heap s0.next (.dL b),next⟩/\T.w=S.w.alloc (.cells arr E)/\VR T v (.pointer (some ⟨S.w.heap.size,0,none⟩))/\Good base S T:=by
 unfold fw at hn
 split at hn
 ·injection hn with hn;injection hn with e1 e2
  subst e1;subst e2
  have hl:=hv.1
  exact⟨⟨cs,1,true,lW⟩,rfl,S.ra s0.next next ⟨cs,1,true,lW⟩ _,rfl,rfl,.ptr _ _ _ _ (St.z4 db _ _ 0 _ (Nat.le_refl _)),
   Good.O2 h db cs lW arr E (0,0) _ ⟨rfl,rfl,rfl,rfl⟩ (.inl rfl) (by simp at hl;omega) hv.2⟩
 ·cases hn
theorem Ab {P:Program}(w:World)(t:TypeId)(v:Value):(newVar t v).run P w= .ok ⟨w.heap.size,0,none⟩ (w.alloc (.cells v.cells t)):=by simp[newVar,newRow]
theorem GV {P:Program}{base:Nat}{S:St}(h:SR base S){s0:aq}{next:Nat}(db:ml S s0.next next){e:TypeId}{z v:Value}{lW:Nat}{s' :aq}(hz:cE P e=some z)(hp:cH z=true)(hn:fw s0 z.cells.toList lW=some (v,s')):
  rq P base S (Instr.alloc e true (.tuple #[])) v s0 s' next:=by
 obtain⟨b,h0,T,h1,h2,h3,h4⟩:=DF h db hn z.cells e (kK hp).cells
 exact⟨b,h0,T,_,h1,by rw[h2];simp[Instr.alloc,dU hz,Ab],h3,h4⟩
theorem Pc {P:Program}{base:Nat}{S:St}(h:SR base S){s0:aq}{next:Nat}(db:ml S s0.next next){e:TypeId}{x x' v:Value}{lW:Nat}{s' :aq}(hx:VR S x x')(hn:fw s0 x.cells.toList lW=some (v,s')):rq P base S (Instr.box e x') v s0 s' next:=by
 obtain⟨b,h0,T,h1,h2,h3,h4⟩:=DF h db hn x'.cells e hx.cells
 exact⟨b,h0,T,_,h1,by rw[h2];simp[Instr.box,Ab],h3,h4⟩
theorem Good.freeze {base:Nat}{S:St}(h:SR base S){i c:Nat}{b:iC}(hb:S.s.bK i=some b)(ho:b.own=true)(hc:Live b c){arr:Array Value}{E:TypeId}{fr:Nat×Nat}
  (ha:S.w.heap[(S.e.loc i c).1]?=some (.cells arr E fr)):
  Good base S ⟨S.s.put i (.dL b),S.e,S.w.freeze ⟨(S.e.loc i c).1,arr.size,none⟩ 1⟩:=by
 obtain⟨mO,⟨MB,E0,XK,fK,mm⟩,zy,XL⟩:=h.own i b hb ho c hc
 rw[ha] at fK
 injection fK with fK;injection fK with e1 e2 e3
 subst e1;subst e2;subst e3
 have cD:∀k,k≠(S.e.loc i c).1->(S.w.freeze ⟨(S.e.loc i c).1,arr.size,none⟩ 1).heap[k]?=S.w.heap[k]?:=fun k hk=>by
  unfold World.freeze
  rw[if_neg (by decide)]
  simp only[Array.getElem?_modify]
  rw[if_neg (by omega)]
 have jY:∃Jg:Nat×Nat,(S.w.freeze ⟨(S.e.loc i c).1,arr.size,none⟩ 1).heap[(S.e.loc i c).1]?=some (.cells arr E Jg)/\(Jg.1=Jg.2\/arr.size<=Jg.1):=by
  unfold World.freeze
  rw[if_neg (by decide)]
  simp only[Array.getElem?_modify,if_true,ha,Option.map_some]
  refine⟨_,rfl,?_⟩
  by_cases l5:fr.1=fr.2
  ·rw[if_pos (by simp[l5])];exact .inr (Nat.le_refl _)
  ·rw[if_neg (by simp[l5])]
   refine .inr ?_
   have:arr.size<=fr.1:=mm.resolve_left l5
   show arr.size<=min fr.1 arr.size
   omega
 obtain⟨Jg,I2,df⟩:=jY
 have cJ:(S.w.freeze ⟨(S.e.loc i c).1,arr.size,none⟩ 1).heap.size=S.w.heap.size:=by
  unfold World.freeze
  rw[if_neg (by decide)]
  simp
 have iN:∀k o,(S.w.freeze ⟨(S.e.loc i c).1,arr.size,none⟩ 1).cell? ⟨k,o,none⟩=S.w.cell? ⟨k,o,none⟩:=fun k o=>by
  by_cases hk:k=(S.e.loc i c).1
  ·subst hk;rw[ch _ _ _ _ _ _ I2,ch _ _ _ _ _ _ ha]
  ·exact World.cell?_of_block (cD k hk)
 have mN:Below base S.w (S.w.freeze ⟨(S.e.loc i c).1,arr.size,none⟩ 1):=by
  refine⟨?_,?_,?_,by rw[cJ];exact Nat.le_refl _,fun k hk=>cD k (by omega)⟩<;>(unfold World.freeze;rw[if_neg (by decide)])
 refine SR.change h i (S.e.loc i c).1 S.s.next b S.e.loc _ (h.lt hb) (Nat.le_refl _) h.room (.inl (h.lt hb)) (fun es he=>jN hb he) (h.low i b hb) ?_ (fun _ _=>rfl)
  (fun k hk _=>cD k hk) (fun j bj c' hj qL hO e=>hj (zy j bj qL c' hO e)) ?_ (fun c' hO=>by rw[cJ];exact h.EW i b hb c' hO) ?_ ?_ ?_ ?_ mN (by rw[cJ];exact Nat.le_refl _)
 ·intro b0 z6
  rw[hb] at z6;obtain rfl:=Option.some.inj z6
  exact⟨Nat.le_refl _,Nat.le_refl _,rfl,fun _ _ _=>rfl⟩
 ·intro r es he e
  obtain⟨_,fY,qK,h2,_⟩:=h.map r es he
  rw[e,ha] at h2;cases h2
 ·intro c' hO p hp
  rw[iN]
  exact h.cell i b hb c' hO p hp
 ·intro _ c' hO
  obtain⟨h1,⟨Ji,E1,Yq,h2,h3⟩,h4,h5⟩:=h.own i b hb ho c' hO
  refine⟨h1,?_,fun j bj hj qL c1 oT e=>hj (h4 j bj qL c1 oT e),h5⟩
  by_cases hk:(S.e.loc i c').1=(S.e.loc i c).1
  ·rw[hk,ha] at h2
   injection h2 with h2;injection h2 with e1 e2 e3
   subst e1
   exact⟨arr,E,Jg,by rw[hk];exact I2,df⟩
  ·exact⟨Ji,E1,Yq,by rw[cD _ hk];exact h2,h3⟩
 ·intro j bj hj qL zZ c1 oT c' hO e
  exact hj ((h.own i b hb ho c' hO).2.2.1 j bj qL c1 oT e.symm)
 ·intro MB E0 XK hk
  rw[ha] at hk
  injection hk with hk;injection hk with e1 e2 e3
  subst e1;subst e2
  exact⟨arr,Jg,I2,rfl⟩
theorem Jm {S:St}:∀{l l' :List Value} {bs:List UInt8},eX S l l' ->nL l=some bs->∃ns:List Int,l' =ns.map (Value.int .u8)/\bs=ns.map (fun n=>UInt8.ofNat n.toNat):=by
 intro l
 induction l with
 |nil=>intro l' bs hv h;simp only[nL] at h;obtain rfl:=Option.some.inj h;exact⟨[],hv.ju,rfl⟩
 |cons v l ih=>
  intro l' bs hv h
  obtain⟨v',r',rfl,h1,h2⟩:=hv.cons_inv
  simp only[nL] at h
  split at h
  ·rename_i b hb
   split at h
   ·rename_i m hm
    obtain rfl:=Option.some.inj h
    obtain⟨ns,h3,h4⟩:=ih h2 hm
    unfold toByte at hb
    split at hb
    ·rename_i n
     cases h1
     obtain rfl:=Option.some.inj hb
     exact⟨n::ns,by simp[h3],by simp[h4]⟩
    ·cases hb
   ·cases h
  ·cases h
theorem tM {S:St}(l:List UInt8):eX S (ofBytes l) (ofBytes l):=by
 induction l with
 |nil=>exact eX.nil
 |cons b l ih=>exact eX.cons (.int _ _) ih
def ry:Option TypeDesc->Bool
 |some (.slice _)=>true
 |_=>false
theorem Jn {P:Program}{base:Nat}{S:St}(h:SR base S){src dst:TypeId}{x x' v:Value}{s' :aq}(hx:VR S x x')(hc:gG P S.s src dst x=some (v,s'))(hq:ry (P.underlying dst)=false):
  s' =S.s/\Reads P S (convert src dst x') v:=by
 unfold gG at hc
 split at hc
 ·rename_i d1 k k2 n hs hd
  injection hc with hc;injection hc with e1 e2;subst e1;subst e2
  cases hx
  exact⟨rfl,_,by simp[convert,run_underlying hs,run_underlying hd,Conv.intToInt],.int _ _⟩
 ·rename_i d1 b hs hd
  injection hc with hc;injection hc with e1 e2;subst e1;subst e2
  cases hx
  exact⟨rfl,_,by simp[convert,run_underlying hs,run_underlying hd],.string _⟩
 ·rename_i e b hs hd;rw[hd] at hq;cases hq
 ·rename_i e1 e2 i off len c hs hd;rw[hd] at hq;cases hq
 ·rename_i e n c hs hd
  split at hc
  ·rename_i hu
   injection hc with hc;injection hc with e1 e2;subst e1;subst e2
   cases hx
   refine⟨rfl,_,?_,.string _⟩
   rw[run_convert_bytes_string _ _ _ _ _ _ _ hs (u6 hu) hd]
   simp[Conv.bytesToString]
   rfl
  ·cases hc
 ·rename_i e i off len c hs hd
  split at hc
  ·rename_i hu
   cases hx with
   |slice _ _ _ _ a cap h0 hz hr=>
   split at hc
   ·injection hc with hc;injection hc with e1 e2;subst e1;subst e2
    refine⟨rfl,_,?_,.string _⟩
    rw[run_convert_bytes_string _ _ _ _ _ _ _ hs (u6 hu) hd,run_bytesToString S.w a 0 cap [] (by simp[loadCells,loadCellsFrom])]
    rfl
   ·rename_i m
    split at hc
    ·rename_i l hl
     split at hc
     ·rename_i bs pS
      injection hc with hc;injection hc with e1 e2;subst e1;subst e2
      obtain⟨b,hb,fy,_,_,Uw,CK,iN⟩:=h.cells hl
      obtain⟨⟨b',qV,_,E6⟩,_⟩:=hr (by omega)
      rw[hb] at qV;obtain rfl:=Option.some.inj qV
      obtain rfl:=E6 fy.1
      obtain⟨ns,h1,h2⟩:=Jm CK pS
      refine⟨rfl,_,?_,.string _⟩
      have fM:=run_loadCells P S.w _ _ _ iN
      rw[h1] at fM
      rw[run_convert_bytes_string _ _ _ _ _ _ _ hs (u6 hu) hd,run_bytesToString S.w _ _ cap ns fM,foldl_push_bytes,h2]
      congr 2
      apply wU
      rw[Array.toList_append]
      rfl
     ·cases hc
    ·cases hc
  ·cases hc
 ·cases hc
theorem yf {P:Program}{base:Nat}{S:St}(h:SR base S){s0:aq}{next:Nat}(db:ml S s0.next next){src dst:TypeId}{x x' v:Value}{s' :aq}(hx:VR S x x')(hc:gG P s0 src dst x=some (v,s'))(hq:jf P src dst=true):
  rq P base S (convert src dst x') v s0 s' next:=by
 unfold jf at hq
 split at hq
 case h_2=>cases hq
 rename_i e0 vb SE
 unfold gG at hc
 split at hc
 ·rename_i hs hd;rw[SE] at hd;cases hd
 ·rename_i hs hd;rw[SE] at hd;cases hd
 ·rename_i e b hs hd
  split at hc
  ·rename_i hu
   simp only[Bool.and_eq_true,Nat.ble_eq] at hu
   cases hx
   have gD:=run_bytes_of_string (P:=P) S.w src dst e b hs hd (u6 hu.1)
   have Lg:=grownCap_ge S.w b.size 0 e
   have cJ:(bytesRow b (grownCap S.w b.size 0 e)).size=grownCap S.w b.size 0 e:=by
    simp only[bytesRow,Array.size_append,Array.size_map,Array.size_replicate]
    have:b.data.size=b.size:=rfl
    omega
   have hlen:(ofBytes b.data.toList).length=b.size:=by simp only[ofBytes,List.length_map];exact(size_data b).symm
   obtain⟨bk,h0,T,h1,h2,h3,h4⟩:=nN h db hc (bytesRow b (grownCap S.w b.size 0 e)) e ((bytesRow b (grownCap S.w b.size 0 e)).size,(bytesRow b (grownCap S.w b.size 0 e)).size+1)
    (S.w.drew.alloc (.cells (bytesRow b (grownCap S.w b.size 0 e)) e ((bytesRow b (grownCap S.w b.size 0 e)).size,(bytesRow b (grownCap S.w b.size 0 e)).size+1))) (grownCap S.w b.size 0 e) ⟨rfl,rfl,rfl,rfl⟩ (.inr (Nat.le_refl _)) (by omega) (fun p hp=>by
     have hr:(bytesRow b (grownCap S.w b.size 0 e)).toList.getD p undef=(ofBytes b.data.toList).getD p undef:=by
      simp only[bytesRow,Array.toList_append,Array.toList_map]
      rw[eJ _ _ _ (by rw[List.length_map];rw[hlen,size_data] at hp;exact hp)]
      rfl
     rw[hr]
     exact(tM (S:=S) b.data.toList).2 p hp) (by rw[<-size_data];exact Lg) (by omega)
   rw[<-size_data] at h3
   exact⟨bk,h0,T,_,h1,by rw[h2];exact gD,h3,h4⟩
  ·cases hc
 ·rename_i hs hd;rw[vb] at hs;cases hs
 ·rename_i hs hd;rw[SE] at hd;cases hd
 ·rename_i hs hd;rw[SE] at hd;cases hd
 ·cases hc
theorem Jo {P:Program}{base:Nat}{S:St}(h:SR base S){src dst:TypeId}{x x' v:Value}{s' :aq}(hx:VR S x x')(hc:gG P S.s src dst x=some (v,s'))(hq:ry (P.underlying dst)=true)(hnt:jf P src dst=false):
  jA P base S (convert src dst x') v s' :=by
 unfold gG at hc
 split at hc
 ·rename_i d1 k k2 n hs hd;rw[hd] at hq;cases hq
 ·rename_i d1 b hs hd;rw[hd] at hq;cases hq
 ·rename_i e b hs hd;simp only[jf,hs,hd] at hnt;cases hnt
 ·rename_i e1 e2 i off len c hs hd
  split at hc
  ·cases hc
  ·rename_i m
   split at hc
   ·rename_i b hb
    split at hc
    ·rename_i jg
     simp only[Bool.and_eq_true,Nat.ble_eq,Nat.beq_eq] at jg
     obtain⟨⟨⟨⟨UB,hu⟩,ho⟩,gC⟩,hle⟩:=jg
     injection hc with hc;injection hc with e3 e4;subst e3;subst e4
     have GU:=hx
     cases hx with
     |slice _ _ _ _ a cap h0 hz hr=>
     have fy:Live b c:=⟨gC,hle⟩
     obtain⟨mO,⟨arr,E,fr,fK,mm⟩,zy,XL⟩:=h.own i b hb ho c fy
     obtain⟨⟨b',qV,_,E6⟩,_⟩:=hr (by omega)
     rw[hb] at qV;obtain rfl:=Option.some.inj qV
     obtain rfl:=E6 gC
     have hg:=Good.freeze h hb ho fy fK
     refine⟨_,_,rfl,?_,GU.mono hg.ext,hg⟩
     have VL:S.w.shape? (S.e.loc i c).1=some (E,arr.size):=by simp[World.shape?,fK]
     subst UB
     obtain rfl:e1=e2:=by rw[hs] at hd;injection hd with hd;injection hd
     simp[convert,run_underlying hs,run_underlying (u6 hu),markStringish,VL]
    ·cases hc
   ·cases hc
 ·rename_i e n c hs hd;rw[hd] at hq;cases hq
 ·rename_i e i off len c hs hd;rw[hd] at hq;cases hq
 ·cases hc
theorem MO:∀(vs:List Value) (k off:Nat) (cs:Array Value) (p:Nat),off+k+vs.length<=cs.size->
  ((vs.zipIdx k).foldl (fun(cs:Array Value) (x:Value×Nat)=>cs.setIfInBounds (off+x.2) x.1) cs).size=cs.size/\
  ((vs.zipIdx k).foldl (fun(cs:Array Value) (x:Value×Nat)=>cs.setIfInBounds (off+x.2) x.1) cs)[p]?=if off+k<=p/\p<off+k+vs.length then some (vs.getD (p-(off+k)) undef) else cs[p]?:=by
 intro vs
 induction vs with
 |nil=>intro k off cs p _;exact⟨rfl,by rw[if_neg (by simp)];rfl⟩
 |cons v r ih=>
  intro k off cs p h
  simp only[List.length_cons] at h
  simp only[List.zipIdx_cons,List.foldl_cons]
  obtain⟨h1,h2⟩:=ih (k+1) off (cs.setIfInBounds (off+k) v) p (by simp;omega)
  refine⟨by rw[h1];simp,?_⟩
  rw[h2]
  by_cases hp:off+(k+1)<=p/\p<off+(k+1)+r.length
  ·rw[if_pos hp,if_pos (by simp;omega),show p-(off+k)=(p-(off+(k+1)))+1 by omega,List.getD_cons_succ]
  ·rw[if_neg hp]
   by_cases hpo:p=off+k
   ·subst hpo
    rw[if_pos (by simp),Array.getElem?_setIfInBounds_self_of_lt (by omega),Nat.sub_self,List.getD_cons_zero]
   ·rw[if_neg (by simp;omega),Array.getElem?_setIfInBounds_ne (by omega)]
def PR (S:St):List (Nat×Value)->List (Nat×Value)->Prop
 |[],[]=>True
 |(i,v)::r,(j,u)::r' =>i=j/\VR S v u/\PR S r r'
 |_,_=>False
theorem E7 {S:St}(place Pd:Nat->Option (Nat×Nat))(pH:∀i,place i=Pd i):∀(parts jB:List (Nat×Value)) (cs:List Value) (jt:Array Value) (l:List Value),
  PR S parts jB->eX S cs jt.toList->iM place cs parts=some l->∃l',Instr.fill Pd jt jB=some l' /\eX S l l'.toList:=by
 intro parts
 induction parts with
 |nil=>
  intro jB cs jt l hp hc h
  cases jB with
  |nil=>simp only[iM] at h;obtain rfl:=Option.some.inj h;exact⟨jt,rfl,hc⟩
  |cons _ _=>exact hp.elim
 |cons x r ih=>
  intro jB cs jt l hp hc h
  obtain⟨i,v⟩:=x
  cases jB with
  |nil=>exact hp.elim
  |cons y r' =>
   obtain⟨j,u⟩:=y
   obtain⟨rfl,hv,hr⟩:=hp
   simp only[iM] at h
   split at h
   ·rename_i off size Gv
    split at h
    ·rename_i cJ
     simp only[Bool.and_eq_true,Nat.beq_eq,Nat.ble_eq] at cJ
     obtain⟨O0,tw⟩:=cJ
     split at h
     ·rename_i m hm
      obtain⟨h1,_,h3⟩:=uf _ _ _ _ hm
      have GW:=hv.cells
      have Pe:u.cells.size=size:=by have:=GW.1;simp at this O0;omega
      have mP:jt.size=cs.length:=by have:=hc.1;simp at this;omega
      have tL:m.length=cs.length:=h1
      have hf:=fun p=>MO u.cells.toList 0 off jt p (by simp;omega)
      have GX:u.cells.zipIdx.foldl (fun cs x=>cs.setIfInBounds (off+x.2) x.1) jt=(u.cells.toList.zipIdx 0).foldl (fun cs x=>cs.setIfInBounds (off+x.2) x.1) jt:=by
       rw[show u.cells.zipIdx=(u.cells.toList.zipIdx 0).toArray by rw[<-Array.toList_inj];simp,List.foldl_toArray]
      generalize hF:(u.cells.toList.zipIdx 0).foldl (fun cs x=>cs.setIfInBounds (off+x.2) x.1) jt=F at hf GX
      obtain⟨l',nF,oP⟩:=ih r' m F l hr (by
       have VM:=(hf 0).1
       have hF2:F.toList.length=F.size:=Array.length_toList
       refine⟨by omega,fun p hp=> ?_⟩
       rw[h3 p]
       have hFp:F.toList.getD p undef=if off+0<=p/\p<off+0+u.cells.toList.length then u.cells.toList.getD (p-(off+0)) undef else jt.toList.getD p undef:=by
        rw[List.getD_eq_getElem?_getD,Array.getElem?_toList,(hf p).2]
        split
        ·rfl
        ·rw[List.getD_eq_getElem?_getD,Array.getElem?_toList]
       rw[hFp]
       by_cases Pf:off<=p/\p<off+v.cells.toList.length
       ·rw[if_pos Pf,if_pos (by rw[Array.length_toList,Pe];rw[O0] at Pf;omega)]
        exact GW.2 (p-off) (by omega)
       ·rw[if_neg Pf,if_neg (by rw[Array.length_toList,Pe];rw[O0] at Pf;omega)]
        exact hc.2 p (by omega)) h
      refine⟨l',?_,oP⟩
      simp only[Instr.fill]
      rw[<-pH i,Gv]
      simp only
      rw[if_neg (by simp;omega),GX]
      exact nF
     ·cases h
    ·cases h
   ·cases h
theorem wW {S:St}{f:aR}{a:Act}(hf:FR S f a):∀{ps:List (Nat×Operand)} {l:List (Nat×Value)},ag f ps=some l->PR S l (ps.map fun x=>(x.1,a.eval x.2)):=by
 intro ps
 induction ps with
 |nil=>intro l h;simp only[ag] at h;obtain rfl:=Option.some.inj h;trivial
 |cons x ps ih=>
  intro l h
  obtain⟨i,x⟩:=x
  simp only[ag] at h
  split at h
  ·rename_i v r hv hr;obtain rfl:=Option.some.inj h;exact⟨rfl,bI hf hv,ih hr⟩
  ·cases h
theorem Pg {α β:Type}{P:Program}(w:World)(g:α->Sem β)(g' :α->β):∀(l:List α),(∀x∈l,(g x).run P w= .ok (g' x) w)->(l.mapM g).run P w= .ok (l.map g') w:=by
 intro l
 induction l with
 |nil=>intro _;simp
 |cons x l ih=>
  intro h
  simp[List.mapM_cons,h x (by simp),ih (fun y hy=>h y (by simp[hy]))]
theorem MP {P:Program}{S:St}{t:TypeId}{parts jB:List (Nat×Value)}{v:Value}(hp:PR S parts jB)(h:dM P t parts=some v):Reads P S (Instr.build t jB.toArray) v:=by
 unfold dM at h
 split at h
 ·rename_i fs z hu hz
  split at h
  ·rename_i hc
   simp only[Bool.and_eq_true,List.all_eq_true] at hc
   split at h
   ·rename_i l hl
    obtain rfl:=Option.some.inj h
    let g' :Field->Nat×Nat:=fun f=>(f.offset,(bq P f.type).getD 0)
    have SF:(fs.mapM (fun f=>Prod.mk f.offset<$>sizeOf f.type):Sem (Array (Nat×Nat))).run P S.w= .ok (fs.map g') S.w:=by
     rw[Array.mapM_eq_mapM_toList]
     have:=Pg (P:=P) S.w (fun f:Field=>(Prod.mk f.offset<$>sizeOf f.type:Sem (Nat×Nat))) g' fs.toList (fun f hf=>by
      obtain⟨n,hn⟩:=Option.isSome_iff_exists.1 (hc.2 f hf)
      simp[run_sizeOf hn,g',hn])
     simp only[Sem.run_map,this,Result.andThen_ok]
     congr 1
     rw[<-Array.toList_inj];simp
    obtain⟨l',h1,h2⟩:=E7 (placeOf P fs) ((fs.map g')[·]?) (fun i=>by
     simp only[placeOf,Array.getElem?_map]
     cases Yu:fs[i]? with
     |none=>rfl
     |some f=>
      have jU:f∈fs.toList:=by
       have:=Array.mem_of_getElem? Yu
       simpa using this
      obtain⟨n,hn⟩:=Option.isSome_iff_exists.1 (hc.2 f jU)
      simp[hn,g']) parts jB _ z.cells l hp (kK hc.1).cells hl
    refine⟨.agg l',?_,.agg _ _ h2.1 h2.2⟩
    simp only[Array.getElem?_map] at h1
    simp[Instr.build,dU hz,run_underlying hu,SF,h1]
   ·cases h
  ·cases h
 ·rename_i n e z hu hz
  split at h
  ·rename_i sz hs
   split at h
   ·rename_i hc
    split at h
    ·rename_i l hl
     obtain rfl:=Option.some.inj h
     obtain⟨l',h1,h2⟩:=E7 (fun i=>some (i*sz,sz)) (fun i=>some (i*sz,sz)) (fun _=>rfl) parts jB _ z.cells l hp (kK hc).cells hl
     refine⟨.agg l',?_,.agg _ _ h2.1 h2.2⟩
     simp[Instr.build,dU hz,run_underlying hu,run_sizeOf hs,h1]
    ·cases h
   ·cases h
  ·cases h
 ·cases h
theorem dV (z:List Value):∀n,(bS z n).length=n*z.length
 |0=>by simp[bS]
 |n+1=>by rw[bS,List.length_append,dV z n,Nat.succ_mul];omega
theorem vc (z:List Value)(hz:0<z.length):∀n p,p<n*z.length->(bS z n).getD p undef=z.getD (p%z.length) undef
 |0,p,h=>by simp at h
 |n+1,p,h=>by
  rw[bS]
  by_cases hp:p<z.length
  ·rw[eJ _ _ _ hp,Nat.mod_eq_of_lt hp]
  ·rw[j5 _ _ _ (by omega),vc z hz n (p-z.length) (by rw[Nat.add_mul,Nat.one_mul] at h;omega),<-Nat.mod_eq_sub_mod (by omega)]
theorem MQ (z:Array Value)(n p:Nat)(h:p<n)(hz:0<z.size):((Array.range n).map (z[·%z.size]!)).toList.getD p undef=z.toList.getD (p%z.size) undef:=by
 have h2:p%z.size<z.size:=Nat.mod_lt _ hz
 simp[List.getD_eq_getElem?_getD,h,h2]
theorem vd {S:St}{z:Value}(hp:cH z=true){n:Nat}(hn:z.cells.toList.length=n)(len m:Nat)(hle:len*n<=m):∀p,p<len*n->VR S ((bS z.cells.toList len).getD p undef) (((Array.range m).map (z.cells[·%z.cells.size]!)).toList.getD p undef):=by
 intro p h
 have E3:0<n:=by
  rcases Nat.eq_zero_or_pos n with h0|h0
  ·subst h0;simp at h
  ·exact h0
 have cJ:z.cells.size=n:=by simpa using hn
 rw[vc _ (by omega) len p (by rw[hn];exact h),MQ _ _ _ (by omega) (by omega),hn,cJ]
 exact((kK hp).cells (S:=S)).2 _ (by rw[hn];exact Nat.mod_lt _ E3)
theorem rz {P:Program}{base:Nat}{S:St}(h:SR base S){s0:aq}{next:Nat}(db:ml S s0.next next){t:TypeId}{len:Nat}{parts jB:List (Nat×Value)}{v:Value}{s' :aq}(hp:PR S parts jB)(hb:aU P s0 t len parts=some (v,s')):
  rq P base S (Instr.buildSlice t len jB.toArray) v s0 s' next:=by
 unfold aU at hb
 split at hb
 ·rename_i e hu
  split at hb
  ·rename_i n z hn hz
   split at hb
   ·rename_i hc
    simp only[Bool.and_eq_true,Nat.ble_eq,Nat.beq_eq] at hc
    obtain⟨⟨hle,pH⟩,E9⟩:=hc
    split at hb
    ·rename_i l hl
     have nG:(bS z.cells.toList len).length=len*n:=by rw[dV,E9]
     obtain⟨l',h1,h2⟩:=E7 (fun i=>some (i*n,n)) (fun i=>some (i*n,n)) (fun _=>rfl) parts jB _ ((Array.range (len*n)).map (z.cells[·%z.cells.size]!)) l hp
      ⟨by rw[nG];simp,fun p hp=>vd pH E9 len (len*n) (Nat.le_refl _) p (by rw[nG] at hp;exact hp)⟩ hl
     have nA:l.length=l'.size:=by have:=h2.1;simpa using this
     have agS:l'.size=len*n:=by
      have:∀(ps:List (Nat×Value)) (cs:List Value) (l:List Value),iM (fun i=>some (i*n,n)) cs ps=some l->l.length=cs.length:=by
       intro ps
       induction ps with
       |nil=>intro cs l h;simp only[iM] at h;obtain rfl:=Option.some.inj h;rfl
       |cons x r ih=>
        intro cs l h
        obtain⟨i,v⟩:=x
        simp only[iM] at h
        split at h
        ·split at h
         ·rename_i m hm
          rw[ih m l h];exact(uf _ _ _ _ hm).1
         ·cases h
        ·cases h
      rw[<-nA,this _ _ _ hl,nG]
     obtain⟨b,k0,T,k1,k2,k3,k4⟩:=nN h db hb l' e (0,0) (S.w.alloc (.cells l' e)) len ⟨rfl,rfl,rfl,rfl⟩ (.inl rfl) (by omega) h2.2 (Nat.le_refl _) (by omega)
     refine⟨b,k0,T,_,k1,?_,k3,k4⟩
     rw[k2]
     have agT:¬(16777216<len*n):=by omega
     by_cases h0:len*n=0
     ·have hr:Array.range (len*n)= #[]:=by rw[h0];rfl
      rw[hr] at h1
      simp only[Array.map_empty] at h1
      simp[Instr.buildSlice,run_underlying hu,run_sizeOf hn,h0]
      rw[show Array.range 0= #[] from rfl]
      simp[h1,newRow]
     ·have Uv:¬len*n>2^24:=by omega
      simp only[Instr.buildSlice,Sem.run_bind,run_underlying hu,Result.andThen_ok,run_sizeOf hn,if_neg Uv,Sem.run_pure,if_neg h0,dU hz]
      rw[h1]
      simp[newRow]
    ·cases hb
   ·cases hb
  ·cases hb
 ·cases hb
theorem tN {P:Program}{base:Nat}{S:St}(h:SR base S){s0:aq}{next:Nat}(db:ml S s0.next next){t:TypeId}{x y x' y' v:Value}{s' :aq}(hx:VR S x x')(hy:VR S y y')(hb:eu P s0 t x y=some (v,s')):
  rq P base S (Instr.makeSlice t x' y') v s0 s' next:=by
 unfold eu at hb
 split at hb
 ·rename_i e k l k2 c hu
  cases hx;cases hy
  split at hb
  ·rename_i n z lX hn hz yg
   split at hb
   ·rename_i hc
    simp only[Bool.and_eq_true,Nat.ble_eq,Nat.beq_eq] at hc
    obtain⟨⟨⟨⟨hZ,oT⟩,va⟩,pH⟩,E9⟩:=hc
    obtain⟨i,hi,hiz⟩:=u5 hz
    have his:i.size=n:=by obtain⟨i2,EX,h3⟩:=u4 hn;rw[hi] at EX;obtain rfl:=Option.some.inj EX;exact h3
    have XM:i.bytes=lX:=by obtain⟨i2,EX,h3⟩:=ou yg;rw[hi] at EX;obtain rfl:=Option.some.inj EX;exact h3
    have gD:=run_make (P:=P) S.w t e i z hu hi hiz k k2 (Int.ofNat l) (Int.ofNat c) (Int.natCast_nonneg _) (Int.ofNat_le.2 hZ) (by rw[XM];exact(show((lX*c:Nat):Int)<=((281474976710656:Nat):Int) from Int.ofNat_le.2 (by omega))) (show((c:Nat):Int)<=((9223372036854775807:Nat):Int) from Int.ofNat_le.2 (by omega))
    have nG:(bS z.cells.toList l).length=l*n:=by rw[dV,E9]
    have Uw:l*n<=c*n:=Nat.mul_le_mul_right _ hZ
    obtain⟨b,k0,T,k1,XN,k3,k4⟩:=nN h db hb (madeCells z.cells (c*n)) e (0,0) (S.w.alloc (.cells (madeCells z.cells (c*n)) e)) c ⟨rfl,rfl,rfl,rfl⟩ (.inl rfl) (by rw[nG,size_madeCells];exact Uw)
     (fun p hp=>vd pH E9 l (c*n) Uw p (by rw[nG] at hp;exact hp)) hZ (by rw[size_madeCells];exact Nat.le_refl _)
    refine⟨b,k0,T,_,k1,?_,k3,k4⟩
    rw[XN,gD,his]
    rfl
   ·cases hb
  ·cases hb
 ·cases hb
end Go.Cl
namespace Go.Cl
open Go.RowKit
theorem GY (s:ByteArray):s.extract 0 s.size=s:=by
 apply wU
 rw[ByteArray.data_extract,Array.toList_extract]
 simp only[List.extract,List.drop_zero,Nat.sub_zero]
 rw[List.take_of_length_le (by rw[<-size_data];exact Nat.le_refl _)]
theorem Ac {P:Program}{base:Nat}{S:St}(h:SR base S){z n:Nat}{y y' :Value}{new:List Value}(hy:VR S y y')(hs:dJ S.s z y=some (n,new)):
  ∃new',eX S new new' /\new.length=n*z/\∀W:World,W.heap=S.w.heap->(Builtin.lenOf y').run P W= .ok n W/\(Builtin.firstCells z n y').run P W= .ok new'.toArray W:=by
 unfold dJ at hs
 split at hs
 ·injection hs with hs;injection hs with e1 e2;subst e1;subst e2
  cases hy
  exact⟨[],eX.nil,by simp,fun W _=>by simp[Builtin.lenOf,Builtin.firstCells]⟩
 ·rename_i i off m c
  cases hy with
  |slice _ _ _ _ a cap h0 hz hr=>
  split at hs
  ·injection hs with hs;injection hs with e1 e2;subst e1;subst e2
   exact⟨[],eX.nil,by simp,fun W _=>by simp[Builtin.lenOf,Builtin.firstCells,loadCells,loadCellsFrom]⟩
  ·rename_i m
   split at hs
   ·rename_i l hl
    injection hs with hs;injection hs with e1 e2;subst e1;subst e2
    obtain⟨b,hb,fy,_,_,Uw,CK,iN⟩:=h.cells hl
    obtain⟨⟨b',qV,_,E6⟩,_⟩:=hr (by omega)
    rw[hb] at qV;obtain rfl:=Option.some.inj qV
    obtain rfl:=E6 fy.1
    refine⟨_,CK,Uw,fun W hW=>⟨by simp[Builtin.lenOf],?_⟩⟩
    have hc:∀k o,W.cell? ⟨k,o,none⟩=S.w.cell? ⟨k,o,none⟩:=fun k o=>World.cell?_of_block (by rw[hW])
    have:=run_loadCells P W (S.e.loc i c).1 ((S.e.loc i c).2+off) _ (fun p hp=>by rw[hc];exact iN p hp)
    simp only[Builtin.firstCells]
    rw[this]
    congr 2
    simp only[wR,hc]
   ·cases hs
 ·rename_i b
  cases hy
  split at hs
  ·rename_i hz
   obtain rfl:z=1:=by simpa [Nat.beq_eq] using hz
   injection hs with hs;injection hs with e1 e2;subst e1;subst e2
   refine⟨ofBytes b.data.toList,tM _,by simp[ofBytes],fun W _=> ?_⟩
   rw[<-size_data]
   refine⟨by simp[Builtin.lenOf],?_⟩
   simp only[Builtin.firstCells,GY,Sem.run_pure]
   congr 1
   rw[<-Array.toList_inj]
   simp[ofBytes]
  ·cases hs
 ·cases hs
section
variable {P:Program} {w:World} {ts:Array TypeId} {zS:Array Value} {st xt e ty:TypeId} {xd:TypeDesc} {z lX n oz ve:Nat} {zv:Value} {bs:Option Addr} {y:Value} {new:List Value}
def Src (P:Program)(w w2:World)(e:TypeId)(z:Nat)(xd:TypeDesc)(y:Value)(n:Nat)(new:List Value):Prop:=
 (((∃e2,xd= .slice e2)\/xd= .string)/\(Builtin.lenOf y).run P w= .ok n w/\(Builtin.firstCells z n y).run P w2= .ok new.toArray w2)\/
 (∃k kk i zv,xd= .int k/\y= .int kk n/\P.info? e=some i/\n*i.bytes<=140737488355328/\n<=140737488355328/\cE P e=some zv/\zv.cells.size=z/\0<z/\new=(Builtin.zeroCells zv.cells n).toList)
theorem wrap_small {n:Nat}(h:n<=140737488355328):IntKind.i64.wrap (n:Int)=n:=by
 have e1:IntKind.i64.bits=64:=rfl
 have e2:IntKind.i64.signed=true:=rfl
 simp only[IntKind.wrap,e1,e2,Bool.true_and]
 simp
 omega
set_option maxHeartbeats 1000000 in
theorem qu (h0:ts[0]?=some st)(h1:ts[1]?=some xt)(a0:zS[0]?=some (.slice bs oz ve))(a1:zS[1]?=some y)(hu:P.underlying st=some (.slice e))(hx:P.underlying xt=some xd)
  (hz:bq P e=some z) (Fa:Src P w w e z xd y n new) (dh:oz+n<=ve) (hn:n=0) (ir:new=[]):
  (Builtin.append_ ts ty zS).run P w= .ok (.slice bs oz ve) w:=by
 subst hn;subst ir
 have hr:oz<=ve:=by omega
 rcases Fa with ⟨OB,hlen,XO⟩|⟨k,kk,i,zv,rfl,rfl,hi,jv,eR,qW,I3,XP,ir⟩
 ·cases bs with
  |none=>rcases OB with ⟨e2,rfl⟩|rfl<;>simp[Builtin.append_,h0,h1,a0,a1,run_underlying hu,run_underlying hx,run_sizeOf hz,hlen,hr,XO]
  |some a=>rcases OB with ⟨e2,rfl⟩|rfl<;>simp[Builtin.append_,h0,h1,a0,a1,run_underlying hu,run_underlying hx,run_sizeOf hz,hlen,hr,XO,storeCells]
 ·have hw:IntKind.i64.wrap 0=0:=wrap_small (n:=0) (by omega)
  have R3:∀W:World,(typeInfo e).run P W= .ok i W:=fun W=>by simp[typeInfo,hi]
  cases bs with
  |none=>simp[Builtin.append_,h0,h1,a0,a1,run_underlying hu,run_underlying hx,run_sizeOf hz,hr,asInt,asIntOf,hw,R3]
  |some a=>simp[Builtin.append_,h0,h1,a0,a1,run_underlying hu,run_underlying hx,run_sizeOf hz,hr,asInt,asIntOf,hw,R3,storeCells]
set_option maxHeartbeats 1000000 in
theorem tO {a:Addr}{w' :World}(h0:ts[0]?=some st)(h1:ts[1]?=some xt)(a0:zS[0]?=some (.slice (some a) oz ve))(a1:zS[1]?=some y)(hu:P.underlying st=some (.slice e))(hx:P.underlying xt=some xd)
  (hz:bq P e=some z) (Fa:Src P w w e z xd y n new) (E3:0<n) (dh:oz+n<=ve) (aA:(storeCells (a.add (oz*z)) new).run P w= .ok () w'):
  (Builtin.append_ ts ty zS).run P w= .ok (.slice (some a) (oz+n) ve) w' :=by
 rcases Fa with ⟨OB,hlen,XO⟩|⟨k,kk,i,zv,rfl,rfl,hi,jv,eR,qW,I3,XP,ir⟩
 ·rcases OB with ⟨e2,rfl⟩|rfl<;>simp[Builtin.append_,h0,h1,a0,a1,run_underlying hu,run_underlying hx,run_sizeOf hz,hlen,dh,XO,aA]
 ·have hw:=wrap_small eR
  have R3:∀W:World,(typeInfo e).run P W= .ok i W:=fun W=>by simp[typeInfo,hi]
  have VN:¬(n:Int)<0:=by omega
  have CN:¬(281474976710656<(n:Int)*(i.bytes:Int)):=by
   have:((n*i.bytes:Nat):Int)=(n:Int)*(i.bytes:Int):=by push_cast;rfl
   omega
  have hnz:¬n*z=0:=by have:=Nat.mul_pos E3 XP;omega
  subst ir
  simp[Builtin.append_,h0,h1,a0,a1,run_underlying hu,run_underlying hx,run_sizeOf hz,dh,aA,asInt,asIntOf,hw,R3,VN,CN,hnz,dU qW]
set_option maxHeartbeats 1000000 in
theorem oB {old:Array Value}(h0:ts[0]?=some st)(h1:ts[1]?=some xt)(a0:zS[0]?=some (.slice bs oz ve))(a1:zS[1]?=some y)(hu:P.underlying st=some (.slice e))(hx:P.underlying xt=some xd)
  (hz:bq P e=some z) (XQ:eW P e=some lX) (qW:cE P e=some zv) (Fa:Src P w w.drew e z xd y n new) (E3:0<n)
  (dh:¬oz+n<=ve) (hold:(Builtin.firstCells z oz (.slice bs oz ve)).run P w.drew= .ok old w.drew) (wX:oz+n<=140737488355328) (C2:(oz+n)*lX<=140737488355328):
  (Builtin.append_ ts ty zS).run P w= .ok (.slice (some ⟨w.heap.size,0,none⟩) (oz+n) (grownCap w (oz+n) ve e))
   (w.drew.alloc (.cells (old++new.toArray++Builtin.zeroCells zv.cells (grownCap w (oz+n) ve e-(oz+n))) e)):=by
 obtain⟨i,hi,rfl⟩:=ou XQ
 have h63:¬(9223372036854775807<((oz:Int)+(n:Int))):=by omega
 have tw:Builtin.nextslicecap (oz+n) ve*i.bytes<=281474976710656:=growslice_fits (by omega) (by omega)
 have CN:¬(281474976710656<Builtin.nextslicecap (oz+n) ve*i.bytes):=by omega
 have R3:∀W:World,(typeInfo e).run P W= .ok i W:=fun W=>by simp[typeInfo,hi]
 have Fb:∀(W:World) (k:Nat),(askRoom k).run P W= .ok () W:=fun W k=>by
  unfold askRoom
  split
  ·rfl
  ·rfl
 rcases Fa with ⟨OB,hlen,XO⟩|⟨k,kk,i2,zv2,rfl,rfl,EX,jv,eR,Yy,I3,XP,ir⟩
 ·rcases OB with ⟨e2,rfl⟩|rfl<;>simp[Builtin.append_,h0,h1,a0,a1,run_underlying hu,run_underlying hx,run_sizeOf hz,hlen,dh,XO,hold,R3,h63,CN,dU qW,Question.forced,Fb,newRow,grownCap]
 ·rw[qW] at Yy
  obtain rfl:=Option.some.inj Yy
  rw[hi] at EX
  obtain rfl:=Option.some.inj EX
  have hw:=wrap_small eR
  have VN:¬(n:Int)<0:=by omega
  have ace:¬(281474976710656<(n:Int)*(i.bytes:Int)):=by
   have:((n*i.bytes:Nat):Int)=(n:Int)*(i.bytes:Int):=by push_cast;rfl
   omega
  have hnz:¬n*z=0:=by have:=Nat.mul_pos E3 XP;omega
  subst ir
  simp[Builtin.append_,h0,h1,a0,a1,run_underlying hu,run_underlying hx,run_sizeOf hz,dh,hold,R3,h63,CN,dU qW,Question.forced,Fb,newRow,grownCap,asInt,asIntOf,hw,VN,ace,hnz]
end
theorem SG {P:Program}{base:Nat}{S:St}(h:SR base S){e:TypeId}{z n lX:Nat}{zv:Value}{xd:TypeDesc}{y y' :Value}{new:List Value}(hz:bq P e=some z)(yg:eW P e=some lX)(qW:cE P e=some zv)
  (Gw:(match xd with| .slice _=>true| .string=>true| .int _=>true|_=>false)=true) (hy:VR S y y') (hs:EU S.s z lX zv xd y=some (n,new)):
  ∃new',eX S new new' /\new.length=n*z/\∀W W2:World,W.heap=S.w.heap->W2.heap=S.w.heap->Src P W W2 e z xd y' n new' :=by
 cases xd<;>try (cases Gw;done)
 case int k=>
  simp only[EU] at hs
  split at hs
  case h_2=>cases hs
  rename_i kk m
  split at hs
  case isFalse=>cases hs
  rename_i hc
  simp only[Bool.and_eq_true,Nat.ble_eq,Nat.beq_eq,Nat.blt_eq] at hc
  obtain⟨⟨⟨⟨jv,eR⟩,pH⟩,E9⟩,XP⟩:=hc
  injection hs with hs;injection hs with e1 e2;subst e1;subst e2
  cases hy
  obtain⟨i,hi,XM⟩:=ou yg
  have I3:zv.cells.size=z:=by simpa using E9
  refine⟨(Builtin.zeroCells zv.cells m).toList,⟨by rw[dV,E9];simp[Builtin.zeroCells,I3],fun p hp=> ?_⟩,by rw[dV,E9],fun W W2 _ _=> .inr ⟨k,kk,i,zv,rfl,rfl,hi,by rw[XM];exact jv,eR,qW,I3,XP,rfl⟩⟩
  rw[dV,E9] at hp
  exact vd (S:=S) pH E9 m (m*zv.cells.size) (by rw[I3];exact Nat.le_refl _) p hp
 case slice e2=>
  obtain⟨new',h1,h2,h3⟩:=Ac (P:=P) h hy (by simpa [EU] using hs)
  exact⟨new',h1,h2,fun W W2 hW VO=> .inl ⟨.inl ⟨e2,rfl⟩,(h3 W hW).1,(h3 W2 VO).2⟩⟩
 case string=>
  obtain⟨new',h1,h2,h3⟩:=Ac (P:=P) h hy (by simpa [EU] using hs)
  exact⟨new',h1,h2,fun W W2 hW VO=> .inl ⟨.inr rfl,(h3 W hW).1,(h3 W2 VO).2⟩⟩
theorem vf {base:Nat}{S:St}(h:SR base S){i off c len z:Nat}{old:List Value}(hc:S.s.dm i off c (len*z)=some old):dJ S.s z (.slice (some ⟨i,off,none⟩) len c)=some (len,old):=by
 cases len with
 |zero=>
  obtain⟨_,_,_,_,_,hl,_⟩:=h.cells hc
  have:old=[]:=List.eq_nil_of_length_eq_zero (by simpa using hl)
  simp[dJ,this]
 |succ m=>simp[dJ,hc]
theorem Ad (z:Array Value)(n:Nat):(Builtin.zeroCells z n).size=n*z.size:=by simp[Builtin.zeroCells]
theorem Ae {old new:List Value}{zv:Value}{z len n cap:Nat}(ho:old.length=len*z)(hn:new.length=n*z)(hz:zv.cells.toList.length=z)(oS:len+n<=cap):
  (old.toArray++new.toArray++Builtin.zeroCells zv.cells (cap-(len+n))).size=cap*z:=by
 simp only[Array.size_append,List.size_toArray,Ad]
 have:zv.cells.size=z:=by simpa using hz
 rw[this,ho,hn,<-Nat.add_mul,<-Nat.add_mul]
 congr 1
 omega
theorem Af {old new:List Value}{zs:Array Value}(p:Nat)(h:p<old.length+new.length):(old.toArray++new.toArray++zs).toList.getD p undef=(old++new).getD p undef:=by
 simp only[Array.toList_append]
 rw[eJ _ _ _ (by simpa using h)]
set_option maxHeartbeats 1000000 in
theorem Jp {P:Program}{base:Nat}{S:St}(h:SR base S){st xt ty:TypeId}{x y x' y' v:Value}{s' :aq}(hx:VR S x x')(hy:VR S y y')(ha:gl P S.s st xt x y=some (v,s')){ts:Array TypeId}{zS:Array Value}
  (h0:ts[0]?=some st) (h1:ts[1]?=some xt) (a0:zS[0]?=some x') (a1:zS[1]?=some y'):jA P base S (Builtin.append_ ts ty zS) v s' :=by
 unfold gl at ha
 split at ha
 case h_2=>cases ha
 rename_i e xd hu VP
 split at ha
 case h_1=>cases ha
 rename_i Gw
 split at ha
 case h_2=>cases ha
 rename_i z lX zv hz yg qW
 split at ha
 case h_2=>cases ha
 rename_i n new Fa
 obtain⟨new',Ph,I1,gD⟩:=SG (P:=P) h hz yg qW Gw hy Fa
 have Ag:new'.length=n*z:=by rw[<-Ph.1];exact I1
 have Lh:=gD S.w S.w rfl rfl
 have UB:=gD S.w S.w.drew rfl rfl
 split at ha
 case h_2=>cases ha
 rename_i a len c
 split at ha
 case isFalse=>cases ha
 rename_i jg
 simp only[Bool.and_eq_true,Nat.ble_eq,Nat.blt_eq,Nat.beq_eq] at jg
 obtain⟨⟨⟨⟨C2,wX⟩,UC⟩,VQ⟩,mf⟩:=jg
 have Yz:=Ph.aO VQ
 cases n with
 |zero=>
  simp only at ha
  injection ha with ha;injection ha with e1 e2;subst e1;subst e2
  have sK:new' =[]:=List.eq_nil_of_length_eq_zero (by rw[Ag];simp)
  have GU:=hx
  cases hx with
  |gP=>exact⟨S,_,rfl,qu h0 h1 a0 a1 hu VP hz Lh (Nat.le_refl _) rfl sK,GU,Good.refl h⟩
  |slice i off _ _ a cap hle _ _=>exact⟨S,_,rfl,qu h0 h1 a0 a1 hu VP hz Lh hle rfl sK,GU,Good.refl h⟩
 |succ m=>
  simp only at ha
  have kX:0<m+1:=Nat.succ_pos _
  generalize m+1=n at*
  have fresh:∀(bs:Option Addr),zS[0]?=some (.slice bs 0 0)->aX S.s new n z=some (v,s')->jA P base S (Builtin.append_ ts ty zS) v s' :=by
   intro bs hb hn
   have hold:(Builtin.firstCells z 0 (.slice bs 0 0)).run P S.w.drew= .ok #[] S.w.drew:=by cases bs<;>simp[Builtin.firstCells,loadCells,loadCellsFrom]
   have YA:(0+n)*lX<=140737488355328:=Nat.le_trans (Nat.mul_le_mul_right _ (by omega)) C2
   have hr:=oB (ty:=ty) h0 h1 hb a1 hu VP hz yg qW UB kX (by omega) hold (by omega) YA
   have Lg:=grownCap_ge S.w (0+n) 0 e
   have cJ:=Ae (old:=[]) (new:=new') (zv:=zv) (z:=z) (len:=0) (n:=n) (cap:=grownCap S.w (0+n) 0 e) (by simp) Ag mf Lg
   obtain⟨T,k1,k2,k3,k4⟩:=ru h hn ([].toArray++new'.toArray++Builtin.zeroCells zv.cells (grownCap S.w (0+n) 0 e-(0+n))) e (0,0)
    (S.w.drew.alloc (.cells ([].toArray++new'.toArray++Builtin.zeroCells zv.cells (grownCap S.w (0+n) 0 e-(0+n))) e)) (grownCap S.w (0+n) 0 e) ⟨rfl,rfl,rfl,rfl⟩ (.inl rfl)
    (by rw[cJ,I1];exact Nat.mul_le_mul_right _ (by omega)) (fun p hp=>by rw[Af p (by simp;rw[Ag];omega),List.nil_append];exact Ph.2 p hp) (by omega) (by rw[cJ];exact Nat.le_refl _)
   rw[Nat.zero_add] at hr
   refine⟨T,_,k1,?_,k3,k4⟩
   rw[k2,hr]
   simp
  split at ha
  ·
   split at ha
   ·cases hx;exact fresh none a0 ha
   ·cases ha
  ·rename_i i off
   cases hx with
   |slice _ _ _ _ a1' cap hle sJ hr=>
   split at ha
   ·split at ha
    ·rename_i pT
     obtain rfl:len=0:=by simpa [Nat.beq_eq] using pT
     obtain rfl:=sJ rfl
     exact fresh (some a1') a0 ha
    ·cases ha
   ·rename_i c0
    simp only[Nat.succ_eq_add_one] at ha hr sJ
    split at ha
    case h_2=>cases ha
    rename_i b hb
    split at ha
    case isFalse=>cases ha
    rename_i va
    simp only[Bool.and_eq_true,Nat.ble_eq,Nat.beq_eq] at va
    obtain⟨⟨kI,gC⟩,MN⟩:=va
    split at ha
    ·
     rename_i XR
     simp only[Bool.and_eq_true,Nat.beq_eq] at XR
     obtain⟨⟨CV,rfl⟩,Li⟩:=XR
     injection ha with ha;injection ha with e1 e2;subst e1;subst e2
     have fy:Live b (c0+1):=⟨gC,Nat.le_of_eq CV⟩
     have abg:0<n*z:=Nat.mul_pos kX UC
     by_cases dh:len+n<=cap
     ·obtain⟨⟨b',qV,_,E6⟩,oS⟩:=hr (by omega)
      rw[hb] at qV;obtain rfl:=Option.some.inj qV
      obtain rfl:=E6 fy.1
      obtain⟨arr,E,fr,hk,tw⟩:=oS b hb gC
      obtain⟨_,⟨VS,E2,fr2,kY,MR⟩,_⟩:=h.own i b hb kI _ fy
      have rh:=hk
      simp only at rh
      rw[rh] at kY
      injection kY with kY;injection kY with q1 q2 q3
      subst q1;subst q2;subst q3
      simp only[Nat.add_zero] at tw
      rw[MN] at tw
      have hmul:(len+n)*z<=cap*z:=Nat.mul_le_mul_right _ dh
      rw[Nat.add_mul] at hmul
      have UD:(S.e.loc i (c0+1)).2+b.cells.length+new'.length<=arr.size:=by rw[Ag,<-Li];omega
      have hg:=Good.O5 h hb kI fy CV Ph rh UD
      have aA:=j0 P (S.e.loc i (c0+1)).1 ((S.e.loc i (c0+1)).2+0+len*z) new' S.w 0 arr E fr rh MR (by omega) Yz
      rw[show(S.e.loc i (c0+1)).2+0+len*z+0=(S.e.loc i (c0+1)).2+b.cells.length by omega] at aA
      have Pj:=tO (ty:=ty) h0 h1 a0 a1 hu VP hz Lh kX dh (by rw[Addr.add_lit];exact aA)
      refine⟨_,_,rfl,Pj,.slice _ _ _ _ _ _ (by omega) (fun q=>by omega) (fun _=>⟨⟨{b with cells:=b.cells++new},aq.cg _ _ _ (by have:=h.lt hb;have:=h.room;omega),Nat.le_refl _,fun _=> ?_⟩,fun b2 eR _=> ?_⟩),hg⟩
      ·simp only[true_and,List.length_append]
       rw[if_pos (by rw[I1];omega)]
      ·rw[aq.cg _ _ _ (by have:=h.lt hb;have:=h.room;omega)] at eR
       obtain rfl:=Option.some.inj eR
       obtain⟨jT,q1,q2,_⟩:=iq new' S.w _ _ arr E fr rh UD
       exact⟨jT,E,fr,q1,by rw[q2];simp only[Nat.add_zero];rw[MN];exact tw⟩
     ·have lK:S.s.dm i 0 (c0+1) (len*z)=some b.cells:=by
       simp only[aq.dm,hb]
       rw[if_pos (by simp only[Bool.and_eq_true,Nat.ble_eq,Nat.blt_eq];exact⟨⟨gC,by omega⟩,by omega⟩),uY,q9,Li]
       simp
      obtain⟨GZ,YB,OC,Pk⟩:=Ac (P:=P) h (VR.slice i 0 len (c0+1) a1' cap hle sJ hr) (vf h lK)
      have Pl:GZ.length=len*z:=by rw[<-YB.1];exact OC
      have yh:=oB (ty:=ty) h0 h1 a0 a1 hu VP hz yg qW UB kX dh (Pk S.w.drew rfl).2 wX C2
      have Lg:=grownCap_ge S.w (len+n) cap e
      have cJ:=Ae (old:=GZ) (new:=new') (zv:=zv) (z:=z) (len:=len) (n:=n) (cap:=grownCap S.w (len+n) cap e) Pl Ag mf Lg
      have hg:=Good.SA (new:=new) (W:=S.w.drew.alloc (.cells (GZ.toArray++new'.toArray++Builtin.zeroCells zv.cells (grownCap S.w (len+n) cap e-(len+n))) e)) h hb kI CV ⟨rfl,rfl,rfl,rfl⟩ (.inl rfl)
       (by rw[cJ,I1,<-Li,<-Nat.add_mul];exact Nat.mul_le_mul_right _ Lg) (fun p hp=>by
        rw[Af p (by rw[Pl,Ag,Li,<-I1];exact hp)]
        exact(YB.append Ph).2 p (by rw[List.length_append];exact hp))
      refine⟨_,_,rfl,yh,.slice _ _ _ _ _ _ Lg (fun q=>by omega) (fun _=>⟨⟨{b with cells:=b.cells++new},aq.cg _ _ _ (by have:=h.lt hb;have:=h.room;omega),Nat.le_refl _,fun _=> ?_⟩,fun b2 eR _=> ?_⟩),hg⟩
      ·simp only[true_and,List.length_append]
       rw[if_pos (by rw[I1];omega)]
      ·rw[aq.cg _ _ _ (by have:=h.lt hb;have:=h.room;omega)] at eR
       obtain rfl:=Option.some.inj eR
       refine⟨_,e,(0,0),heap_alloc_new S.w.drew _,?_⟩
       simp only
       rw[cJ,MN,Nat.zero_add]
       exact Nat.le_refl _
    ·
     split at ha
     case h_2=>cases ha
     rename_i old lK
     obtain⟨b2,eR,fy,_,_,OC,_⟩:=h.cells lK
     rw[hb] at eR;obtain rfl:=Option.some.inj eR
     obtain⟨GZ,YB,_,Pk⟩:=Ac (P:=P) h (VR.slice i off len (c0+1) a1' cap hle sJ hr) (vf h lK)
     have Pl:GZ.length=len*z:=by rw[<-YB.1];exact OC
     have yi:=Good.kill h hb
     generalize hS1:(⟨S.s.put i (.dL (Cl.kill b)),S.e,S.w⟩:St)=S1 at yi
     have e1s:S1.s=S.s.put i (.dL (Cl.kill b)):=by rw[<-hS1]
     have e1e:S1.e=S.e:=by rw[<-hS1]
     have YC:S1.w=S.w:=by rw[<-hS1]
     have UE:=(YB.append Ph).mono yi.ext
     rw[<-e1s] at ha
     by_cases dh:len+n<=cap
     ·obtain⟨⟨b',qV,_,E6⟩,oS⟩:=hr (by omega)
      rw[hb] at qV;obtain rfl:=Option.some.inj qV
      obtain rfl:=E6 fy.1
      obtain⟨arr,E,fr,hk,tw⟩:=oS b hb gC
      obtain⟨yj,⟨VS,E2,fr2,kY,MR⟩,hex,_⟩:=h.own i b hb kI _ fy
      have rh:=hk
      simp only at rh tw
      rw[rh] at kY
      injection kY with kY;injection kY with q1 q2 q3
      subst q1;subst q2;subst q3
      rw[MN] at tw
      have hmul:(len+n)*z<=cap*z:=Nat.mul_le_mul_right _ dh
      rw[Nat.add_mul] at hmul
      unfold aX at ha
      split at ha
      case isFalse=>cases ha
      rename_i hrm
      injection ha with ha;injection ha with e1 e2;subst e1;subst e2
      have cD:∀j bj c',S1.s.bK j=some bj->Live bj c' ->(S1.e.loc j c').1≠(S.e.loc i (c0+1)).1:=by
       intro j bj c' qL hO heq
       rw[e1e] at heq
       rw[e1s] at qL
       by_cases fZ:j=i
       ·subst fZ
        rw[aq.cg _ _ _ (by have:=h.lt hb;have:=h.room;omega)] at qL
        obtain rfl:=Option.some.inj qL
        have q1:=hO.1;have q2:=hO.2;simp only[Cl.kill] at q1 q2;omega
       ·simp only[aq.bK,aq.a8 _ _ _ _ (Ne.symm fZ)] at qL
        exact fZ (hex j bj (by simpa [aq.bK] using qL) c' hO heq)
      have mP:=h.cells lK
      obtain⟨b3,Ah,_,_,_,_,hvc,Yp⟩:=mP
      have hg:=Good.reuse yi.sr hrm (k:=(S.e.loc i (c0+1)).1) (o:=(S.e.loc i (c0+1)).2+off) (arr:=arr) (E:=E) (fr:=fr) (by rw[YC];exact rh) MR yj cD z (old:=old) (new:=new) (new' :=new') (fun p hp=>by
        rw[OC] at hp
        obtain⟨u,R4⟩:=Yp p hp
        have:=hvc.2 p (by omega)
        rw[wS _ _ _ _ _ hp,R4] at this
        exact⟨u,by rw[YC];exact R4,this.mono yi.ext⟩) (Ph.mono yi.ext) (by rw[OC,Ag];omega)
      have aA:=j0 P (S.e.loc i (c0+1)).1 ((S.e.loc i (c0+1)).2+off+len*z) new' S.w 0 arr E fr rh MR (by rw[Ag];omega) Yz
      rw[Nat.add_zero] at aA
      have Pj:=tO (ty:=ty) h0 h1 a0 a1 hu VP hz Lh kX dh (by rw[Addr.add_lit];exact aA)
      have aP:=uZ hrm
      have jY:∀(bb:iC),(S1.s.new (.dL bb)).bK S1.s.next=some bb:=fun bb=>by simp only[aq.new,aq.bK,Tr.bu _ _ _ _ (deep (show 0<16000001 by omega))]
      rw[YC,OC] at hg
      refine⟨_,_,rfl,Pj,.slice _ _ _ _ _ _ dh (fun q=>by omega) (fun _=>⟨⟨_,jY _,Nat.le_refl _,fun _=>by simp⟩,fun b4 VT _=> ?_⟩),yi.trans hg⟩
      rw[jY] at VT
      obtain rfl:=Option.some.inj VT
      obtain⟨jT,q1,q2,_⟩:=iq new' S.w _ ((S.e.loc i (c0+1)).2+off+len*z) arr E fr rh (by rw[Ag];omega)
      exact⟨jT,E,fr,q1,by rw[q2];exact tw⟩
     ·have yh:=oB (ty:=ty) h0 h1 a0 a1 hu VP hz yg qW UB kX dh (Pk S.w.drew rfl).2 wX C2
      have Lg:=grownCap_ge S.w (len+n) cap e
      have cJ:=Ae (old:=GZ) (new:=new') (zv:=zv) (z:=z) (len:=len) (n:=n) (cap:=grownCap S.w (len+n) cap e) Pl Ag mf Lg
      obtain⟨T,k1,k2,k3,k4⟩:=ru yi.sr ha (GZ.toArray++new'.toArray++Builtin.zeroCells zv.cells (grownCap S.w (len+n) cap e-(len+n))) e (0,0)
       (S.w.drew.alloc (.cells (GZ.toArray++new'.toArray++Builtin.zeroCells zv.cells (grownCap S.w (len+n) cap e-(len+n))) e)) (grownCap S.w (len+n) cap e) (by rw[YC];exact⟨rfl,rfl,rfl,rfl⟩) (.inl rfl)
       (by rw[cJ,List.length_append,OC,I1,<-Nat.add_mul];exact Nat.mul_le_mul_right _ Lg) (fun p hp=>by
        rw[List.length_append] at hp
        rw[Af p (by rw[Pl,Ag,<-OC,<-I1];exact hp)]
        exact UE.2 p (by rw[List.length_append];exact hp)) Lg (by rw[cJ];exact Nat.le_refl _)
      rw[YC] at k3
      exact⟨T,_,k1,by rw[k2];exact yh,k3,yi.trans k4⟩
  ·cases ha
end Go.Cl
namespace Go.Cl
open Go.RowKit
theorem ER.length {S:St}:∀{l:List (Value×Value)} {l' :List MapEntry},ER S l l' ->l'.length=l.length
 |[],[],_=>rfl
 |(_,_)::_,_::_,h=>by simp[ER.length h.2.2]
 |[],_::_,h=>h.elim
 |_::_,[],h=>h.elim
theorem mQ {P:Program}{w:World}{r:Nat}{es:Array MapEntry}{qK:Nat}(h:w.heap[r]?=some (.map es qK)):(getObj r).run P w= .ok (.map es qK) w:=by
 simp only[getObj,Sem.run,h]
theorem SH {P:Program}{base:Nat}{S:St}(h:SR base S){t ty:TypeId}{x x' v:Value}(hx:VR S x x')(hl:aV P S.s t x=some v){ts:Array TypeId}{zS:Array Value}(h0:ts[0]?=some t)(a0:zS[0]?=some x'):
  Reads P S (Builtin.len_ ts ty zS) v:=by
 unfold aV at hl
 split at hl
 ·rename_i b hu
  cases hx
  obtain rfl:=Option.some.inj hl
  rw[<-size_data b]
  exact⟨_,by simp[Builtin.len_,h0,a0,run_underlying hu,goInt],.int _ _⟩
 ·rename_i n e hu
  obtain rfl:=Option.some.inj hl
  exact⟨_,by simp[Builtin.len_,h0,a0,run_underlying hu,goInt],.int _ _⟩
 ·rename_i e a n c hu
  obtain rfl:=Option.some.inj hl
  cases hx<;>exact⟨_,by simp[Builtin.len_,h0,a0,run_underlying hu,goInt],.int _ _⟩
 ·rename_i k e hu
  cases hx
  obtain rfl:=Option.some.inj hl
  exact⟨_,by simp[Builtin.len_,h0,a0,run_underlying hu,goInt],.int _ _⟩
 ·rename_i k e r hu
  cases hx
  split at hl
  ·rename_i es he
   obtain rfl:=Option.some.inj hl
   obtain⟨_,fY,qK,h1,h2⟩:=h.map r es he
   have hlen:=h2.length
   refine⟨_,?_,.int _ _⟩
   simp only[Array.length_toList] at hlen
   simp[Builtin.len_,h0,a0,run_underlying hu,mQ h1,goInt,hlen]
  ·cases hl
 ·cases hl
theorem SI {P:Program}{S:St}{x y x' y' v:Value}(hx:VR S x x')(hy:VR S y y')(h:Sx x y=some v):Reads P S (Builtin.min2 x' y') v:=by
 unfold Sx at h
 split at h
 ·cases hx;cases hy
  obtain rfl:=Option.some.inj h
  exact⟨_,by simp[Builtin.min2],.int _ _⟩
 ·cases h
theorem SJ {P:Program}{S:St}{x y x' y' v:Value}(hx:VR S x x')(hy:VR S y y')(h:Sy x y=some v):Reads P S (Builtin.max2 x' y') v:=by
 unfold Sy at h
 split at h
 ·cases hx;cases hy
  obtain rfl:=Option.some.inj h
  exact⟨_,by simp[Builtin.max2],.int _ _⟩
 ·cases h
theorem G1 {P:Program}{S:St}(g:Value->Value->Option Value)(g' :Value->Value->Sem Value)(hg:∀{x y x' y' v:Value},VR S x x' ->VR S y y' ->g x y=some v->Reads P S (g' x' y') v):
  ∀{l l' :List Value} {x x' v:Value},VR S x x' ->eX S l l' ->Dz g x l=some v->Reads P S (l'.foldlM g' x') v:=by
 intro l
 induction l with
 |nil=>intro l' x x' v hx hl h;rw[hl.ju];simp only[Dz] at h;obtain rfl:=Option.some.inj h;exact⟨_,by simp,hx⟩
 |cons y l ih=>
  intro l' x x' v hx hl h
  obtain⟨y',r',rfl,h1,h2⟩:=hl.cons_inv
  simp only[Dz] at h
  split at h
  ·rename_i u hu
   obtain⟨u',k1,k2⟩:=hg hx h1 hu
   obtain⟨v',k3,k4⟩:=ih k2 h2 h
   exact⟨v',by simp[List.foldlM_cons,k1,k3],k4⟩
  ·cases h
theorem Pm (a b:ByteArray):(a==b)=(a.data.toList==b.data.toList):=by
 show(a.data==b.data)=(a.data.toList==b.data.toList)
 by_cases h:a.data=b.data
 ·rw[h];simp
 ·have h2:¬a.data.toList=b.data.toList:=fun e=>h (Array.toList_inj.1 e)
  rw[beq_eq_false_iff_ne.2 h,beq_eq_false_iff_ne.2 h2]
theorem G2 (a:ByteArray):(a==a)=true:=by rw[Pm];simp
theorem vg {P:Program}{t:TypeId}{a b:Value}{r:Bool}(h:yd P t a b=some r):∃d,P.underlying t=some d/\Instr.sameNow d a b=some r/\(r=true->a=b)/\(∀n,r=true->Instr.sameBits n b a=true):=by
 unfold yd at h
 split at h
 ·rename_i k0 k x k' y hu
  split at h
  ·rename_i hk
   subst hk
   obtain rfl:=Option.some.inj h
   refine⟨_,hu,by simp[Instr.sameNow],fun e=> ?_,fun n e=> ?_⟩
   ·simp at e;rw[e]
   ·simp at e;cases n<;>simp[Instr.sameBits,e]
  ·cases h
 ·rename_i x y hu
  obtain rfl:=Option.some.inj h
  refine⟨_,hu,by simp only[Instr.sameNow,Pm],fun e=> ?_,fun n e=> ?_⟩
  ·rw[wU (eq_of_beq e)]
  ·have:=wU (eq_of_beq e)
   subst this
   cases n<;>simp[Instr.sameBits,G2]
 ·cases h
theorem Ai {P:Program}{S:St}{t:TypeId}{k:Value}{d:TypeDesc}(hd:P.underlying t=some d):∀{es:List (Value×Value)} {fY:List MapEntry} {r:Option Value} (i:Nat),ER S es fY->zV P t k es=some r->
  (r=none/\Instr.findNow d k fY i=some none)\/∃v v' j,r=some v/\Instr.findNow d k fY i=some (some (j,v'))/\VR S v v'
 |[],[],r,i,_,h=>by simp only[zV] at h;obtain rfl:=Option.some.inj h;exact .inl ⟨rfl,rfl⟩
 |(k1,v1)::es,e::fY,r,i,he,h=>by
  obtain⟨h1,h2,h3⟩:=he
  simp only[zV] at h
  split at h
  ·rename_i hk
   obtain rfl:=Option.some.inj h
   obtain⟨d',Pn,hs,_⟩:=vg hk
   rw[hd] at Pn;obtain rfl:=Option.some.inj Pn
   exact .inr ⟨v1,e.val,i,rfl,by simp only[Instr.findNow,h1,hs],h2⟩
  ·rename_i hk
   obtain⟨d',Pn,hs,_⟩:=vg hk
   rw[hd] at Pn;obtain rfl:=Option.some.inj Pn
   have:=Ai hd (i+1) h3 h
   simp only[Instr.findNow,h1,hs]
   exact this
  ·cases h
 |[],_::_,_,_,he,_=>he.elim
 |_::_,[],_,_,he,_=>he.elim
theorem run_findKey {P:Program}{w:World}{t:TypeId}{d:TypeDesc}{k:Value}{es:List MapEntry}{r:Option (Nat×Value)}(hd:P.underlying t=some d)(h:Instr.findNow d k es 0=some r):(Instr.findKey t k es).run P w= .ok r w:=by
 simp[Instr.findKey,run_underlying hd,h]
theorem Aj {P:Program}{w:World}{t:TypeId}{k:Value}(h:js P t k=true)(e:Bool)(n:Nat):(Instr.checkKey e (n+1) t k).run P w= .ok () w:=by
 unfold js at h
 split at h
 ·rename_i hu;simp[Instr.checkKey,run_underlying hu]
 ·rename_i hu;simp[Instr.checkKey,run_underlying hu]
 ·cases h
theorem vh {P:Program}{t:TypeId}{k:Value}(h:js P t k=true):∃d,P.underlying t=some d:=by
 unfold js at h
 split at h
 ·exact⟨_,‹_›⟩
 ·exact⟨_,‹_›⟩
 ·cases h
theorem Ak {P:Program}{S:St}{t:TypeId}{k k' :Value}(h:js P t k=true)(hk:VR S k k'):k' =k:=by
 unfold js at h
 split at h
 ·cases hk;rfl
 ·cases hk;rfl
 ·cases h
theorem Jq {P:Program}{base:Nat}{S:St}(h:SR base S){t:TypeId}{m k m' k' v:Value}{ok:Bool}(hm:VR S m m')(hk:VR S k k')(hl:mi P S.s t m k ok=some v):Reads P S (Instr.lookup t m' k' ok) v:=by
 unfold mi at hl
 split at hl
 case h_2=>cases hl
 rename_i kt et hu
 split at hl
 case h_2=>cases hl
 rename_i z hz rh
 obtain rfl:=Ak rh hk
 obtain⟨d,hd⟩:=vh rh
 split at hl
 case isFalse=>cases hl
 rename_i pH
 have Gx:∀(e:Bool),(Instr.checkKey e 10000 kt k').run P S.w= .ok () S.w:=fun e=>Aj rh e 9999
 have main:∀(fY:List MapEntry) (r:Option (Nat×Value)) (rv:Option Value) (arr:Array MapEntry),arr.toList=fY->Instr.findNow d k' fY 0=some r->((rv=none/\r=none)\/∃u u' j,rv=some u/\r=some (j,u')/\VR S u u')->
   (match rv with|some v=>some (if ok then Value.tuple #[v,.bool true] else v)|none=>some (if ok then Value.tuple #[z,.bool false] else z))=some v->
   ((m' = .map none/\arr= #[])\/∃r qK,m' = .map (some r)/\S.w.heap[r]?=some (.map arr qK))->Reads P S (Instr.lookup t m' k' ok) v:=by
  intro fY r rv arr VF hf ach hv gq
  have hfk:(Instr.findKey kt k' arr.toList).run P S.w= .ok r S.w:=run_findKey hd (by rw[VF];exact hf)
  rcases ach with ⟨rfl,rfl⟩|⟨u,u',j,rfl,rfl,G3⟩
  ·simp only at hv
   obtain rfl:=Option.some.inj hv
   refine⟨if ok then .tuple #[z,.bool false] else z,?_,?_⟩
   ·rcases gq with ⟨rfl,rfl⟩|⟨r,qK,rfl,hr⟩
    ·simp only[Instr.lookup,Sem.run_bind,run_underlying hu,Result.andThen_ok,Gx,hfk,dU hz,Sem.run_pure]
    ·simp only[Instr.lookup,Sem.run_bind,run_underlying hu,Result.andThen_ok,mQ hr,Gx,hfk,dU hz,Sem.run_pure]
   ·cases ok
    ·exact kK pH
    ·exact eX.tuple (l:=[z,.bool false]) (l' :=[z,.bool false]) (eX.cons (kK pH) (eX.cons (.bool _) eX.nil))
  ·simp only at hv
   obtain rfl:=Option.some.inj hv
   refine⟨if ok then .tuple #[u',.bool true] else u',?_,?_⟩
   ·rcases gq with ⟨rfl,rfl⟩|⟨r,qK,rfl,hr⟩
    ·simp only[Instr.lookup,Sem.run_bind,run_underlying hu,Result.andThen_ok,Gx,hfk,Sem.run_pure]
    ·simp only[Instr.lookup,Sem.run_bind,run_underlying hu,Result.andThen_ok,mQ hr,Gx,hfk,Sem.run_pure]
   ·cases ok
    ·exact G3
    ·exact eX.tuple (l:=[u,.bool true]) (l' :=[u',.bool true]) (eX.cons G3 (eX.cons (.bool _) eX.nil))
 split at hl
 ·rename_i v0 qv
  split at qv
  ·cases qv
  ·rename_i r
   cases hm
   split at qv
   ·rename_i es he
    obtain⟨_,fY,qK,h1,h2⟩:=h.map r es he
    rcases Ai hd 0 h2 qv with ⟨e,_⟩|⟨u,u',j,e,hf,hvr⟩
    ·cases e
    ·exact main fY.toList _ (some v0) fY rfl hf (.inr ⟨u,u',j,e,rfl,hvr⟩) hl (.inr ⟨_,qK,rfl,h1⟩)
   ·cases qv
  ·cases qv
 ·rename_i qv
  split at qv
  ·cases hm
   exact main [] none none #[] rfl rfl (.inl ⟨rfl,rfl⟩) hl (.inl ⟨rfl,rfl⟩)
  ·rename_i r
   cases hm
   split at qv
   ·rename_i es he
    obtain⟨_,fY,qK,h1,h2⟩:=h.map r es he
    rcases Ai hd 0 h2 qv with ⟨_,hf⟩|⟨u,u',j,e,_,_⟩
    ·exact main fY.toList none none fY rfl hf (.inl ⟨rfl,rfl⟩) hl (.inr ⟨_,qK,rfl,h1⟩)
    ·cases e
   ·cases qv
  ·cases qv
 ·cases hl
theorem Lj {P:Program}{S:St}{t:TypeId}{k v v' :Value}{d:TypeDesc}(hd:P.underlying t=some d)(hv:VR S v v'):∀{es l:List (Value×Value)} {fY:List MapEntry} (i:Nat),ER S es fY->Jc P t k v es=some l->
  (Instr.findNow d k fY i=some none/\∀born,ER S l (fY++[{key:=k,val:=v',born}]))\/
  ∃j u e,Instr.findNow d k fY i=some (some (i+j,u))/\fY[j]?=some e/\(∀n,Instr.sameBits n e.key k=true)/\ER S l (fY.modify j fun e=>{e with key:=k,val:=v' })
 |[],l,[],i,_,h=>by
  simp only[Jc] at h
  obtain rfl:=Option.some.inj h
  exact .inl ⟨rfl,fun born=>⟨rfl,hv,trivial⟩⟩
 |(k1,v1)::es,l,e::fY,i,he,h=>by
  obtain⟨h1,h2,h3⟩:=he
  simp only[Jc] at h
  split at h
  ·rename_i hk
   obtain rfl:=Option.some.inj h
   obtain⟨d',Pn,hs,heq,XS⟩:=vg hk
   rw[hd] at Pn;obtain rfl:=Option.some.inj Pn
   refine .inr ⟨0,e.val,e,by simp only[Instr.findNow,h1,hs,Nat.add_zero],rfl,fun n=>by rw[h1];exact XS n rfl,?_⟩
   simp only[List.modify_zero_cons]
   exact⟨heq rfl,hv,h3⟩
  ·rename_i hk
   obtain⟨d',Pn,hs,heq,XS⟩:=vg hk
   rw[hd] at Pn;obtain rfl:=Option.some.inj Pn
   split at h
   ·rename_i l2 oP
    obtain rfl:=Option.some.inj h
    rcases Lj hd hv (i+1) h3 oP with ⟨q1,q2⟩|⟨j,u,e2,q1,q2,q3,q4⟩
    ·exact .inl ⟨by simp only[Instr.findNow,h1,hs];exact q1,fun born=>⟨h1,h2,q2 born⟩⟩
    ·refine .inr ⟨j+1,u,e2,by simp only[Instr.findNow,h1,hs];rw[q1];congr 3;omega,by simpa using q2,q3,?_⟩
     simp only[List.modify_succ_cons]
     exact⟨h1,h2,q4⟩
   ·cases h
  ·cases h
 |[],_,_::_,_,he,_=>he.elim
 |_::_,_,[],_,he,_=>he.elim
def Ll (P:Program)(base:Nat)(S:St)(m:Sem Unit)(s' :aq):Prop:=∃T,T.s=s' /\m.run P S.w= .ok () T.w/\Good base S T
theorem Al {P:Program}{w:World}{r:Nat}{es:Array MapEntry}{qK:Nat}(h:w.heap[r]?=some (.map es qK))(o:Obj):(setObj r o).run P w= .ok () {w with heap:=w.heap.setIfInBounds r o}:=by
 simp only[setObj,Sem.run,h]
theorem yk {base:Nat}{S:St}(h:SR base S){r:Nat}{es l:List (Value×Value)}(he:S.s.dR r=some es){fY es2:Array MapEntry}{qK clk2:Nat}(h1:S.w.heap[S.e.mp r]?=some (.map fY qK))(h2:ER S l es2.toList):
  Good base S ⟨S.s.put r (.map l),S.e,{S.w with heap:=S.w.heap.setIfInBounds (S.e.mp r) (.map es2 clk2)}⟩:=by
 have aP:=eH h1
 have hb:S.s.bK r=none:=by
  cases hq:S.s.bK r with
  |none=>rfl
  |some b=>exact(jN hq he).elim
 refine SR.DA h r S.s.next l S.e.mp _ (h.mlt he) (Nat.le_refl _) h.room (.inl (h.mlt he)) hb (fun _ _=>rfl) (fun _ _=>rfl) (fun k hk _=>by simp only;rw[Array.getElem?_setIfInBounds_ne (Ne.symm hk)]) ?_ (h.map r es he).1 ?_ ?_ ?_
 ·intro arr E fr hk;rw[h1] at hk;cases hk
 ·exact⟨es2,clk2,by simp only;rw[Array.getElem?_setIfInBounds_self_of_lt aP],h2⟩
 ·intro r' acj hr hq e
  exact hr (h.EV r' r acj es hq he e)
 ·exact⟨rfl,rfl,rfl,by simp,fun k hk=>by simp only;rw[Array.getElem?_setIfInBounds_ne (by have:=(h.map r es he).1;omega)]⟩
theorem C3 {P:Program}{base:Nat}{S:St}(h:SR base S){t:TypeId}{m k v m' k' v' :Value}{s' :aq}(hm:VR S m m')(hk:VR S k k')(hv:VR S v v')(hu:fX P S.s t m k v=some s'):Ll P base S (Instr.mapUpdate t m' k' v') s' :=by
 unfold fX at hu
 split at hu
 case h_2=>cases hu
 rename_i kt et r hut
 cases hm
 split at hu
 case h_2=>cases hu
 rename_i es he rh
 obtain rfl:=Ak rh hk
 obtain⟨d,hd⟩:=vh rh
 have Gx:∀(e:Bool),(Instr.checkKey e 10000 kt k').run P S.w= .ok () S.w:=fun e=>Aj rh e 9999
 split at hu
 case h_2=>cases hu
 rename_i l hl
 obtain rfl:=Option.some.inj hu
 obtain⟨_,fY,qK,h1,h2⟩:=h.map r es he
 rcases Lj hd hv 0 h2 hl with ⟨q1,q2⟩|⟨j,u,e,q1,q2,q3,q4⟩
 ·refine⟨_,rfl,?_,yk h he h1 (es2:=fY.push {key:=k',val:=v',born:=qK}) (clk2:=qK+1) (by rw[Array.toList_push];exact q2 qK)⟩
  simp only[Instr.mapUpdate,Sem.run_bind,run_underlying hut,Result.andThen_ok,mQ h1,Gx,run_findKey hd q1,Al h1]
 ·refine⟨_,rfl,?_,yk h he h1 (es2:=fY.modify j fun e=>{e with key:=k',val:=v' }) (clk2:=qK) (by rw[Array.toList_modify];exact q4)⟩
  rw[Nat.zero_add] at q1
  have ack:((fY[j]?).map (·.key)).getD k' =e.key:=by
   have:fY[j]?=some e:=by rw[<-Array.getElem?_toList];exact q2
   simp[this]
  have YD:(Instr.keyThatStays e.key k').run P S.w= .ok k' S.w:=by simp[Instr.keyThatStays,q3]
  simp only[Instr.mapUpdate,Sem.run_bind,run_underlying hut,Result.andThen_ok,mQ h1,Gx,run_findKey hd q1,ack,YD,Al h1]
theorem Am {P:Program}{base:Nat}{S:St}(h:SR base S){i off c:Nat}{a1:Addr}(hr:tG S i off c a1){vs Le:List Value}(hv:eX S vs Le){s' :aq}(hs:S.s.storeAt i off c vs=some s'):Ll P base S (storeCells a1 Le) s' :=by
 unfold aq.storeAt at hs
 split at hs
 case h_2=>cases hs
 rename_i b hb
 split at hs
 case isFalse=>cases hs
 rename_i hc
 simp only[Bool.and_eq_true,Nat.ble_eq,Nat.beq_eq] at hc
 obtain⟨⟨⟨kI,gC⟩,CV⟩,dE⟩:=hc
 split at hs
 ·cases hs
 rename_i qN
 split at hs
 case h_2=>cases hs
 rename_i l hl
 obtain rfl:=Option.some.inj hs
 have fy:Live b c:=⟨gC,by omega⟩
 obtain rfl:=hr.addr hb fy
 have VU:=hv.aO dE
 obtain⟨hg,arr,E,fr,h1,h2,h3⟩:=Good.store h hb kI fy CV hl hv (by simp)
 refine⟨_,rfl,?_,hg⟩
 have:=j0 P (S.e.loc i c).1 ((S.e.loc i c).2+off) Le S.w 0 arr E fr h1 h2 (by omega) VU
 exact this
theorem MS {P:Program}{S:St}{y y' y2:Value}{d k:Nat}(hy:VR S y y')(hc:pK d y=some (k,y2)):
  ∃y2' m,VR S y2 y2' /\(∀W:World,(Builtin.lenOf y').run P W= .ok m W)/\Nat.min m d=k/\∀z,Builtin.firstCells z k y' =Builtin.firstCells z k y2' :=by
 unfold pK at hc
 split at hc
 ·rename_i a n c
  injection hc with hc;injection hc with e1 e2;subst e1;subst e2
  cases hy with
  |gP=>exact⟨_,0,by rw[Nat.zero_min];exact .gP,fun W=>by simp[Builtin.lenOf],rfl,fun z=>rfl⟩
  |slice i off _ _ a' cap h0 hz hr=>exact⟨.slice (some a') (min n d) cap,n,.slice i off _ c a' cap (by omega) hz hr,fun W=>by simp[Builtin.lenOf],rfl,fun z=>rfl⟩
 ·rename_i b
  injection hc with hc;injection hc with e1 e2;subst e1;subst e2
  cases hy
  refine⟨_,b.data.toList.length,.string _,fun W=>by rw[<-size_data];simp[Builtin.lenOf],rfl,fun z=> ?_⟩
  simp only[Builtin.firstCells]
  congr 2
  rw[<-Array.toList_inj]
  simp[List.take_take]
 ·cases hc
theorem MT {P:Program}{base:Nat}{S:St}(h:SR base S){t ty:TypeId}{x x' v:Value}{s' :aq}(hx:VR S x x')(ha:mJ P S.s t x=some (v,s')){ts:Array TypeId}{zS:Array Value}
  (h0:ts[0]?=some t) (a0:zS[0]?=some x'):jA P base S (Builtin.clear_ ts ty zS) v s' :=by
 unfold mJ at ha
 split at ha
 ·rename_i e n c hu
  cases hx
  injection ha with ha;injection ha with e1 e2;subst e1;subst e2
  exact⟨S,_,rfl,by simp only[Builtin.clear_,h0,a0,Sem.run_bind,run_underlying hu,Result.andThen_ok];rfl,VR.q8 S,Good.refl h⟩
 ·rename_i e i off n c hu
  cases hx with
  |slice _ _ _ _ a cap hZ hz hr=>
  split at ha
  ·injection ha with ha;injection ha with e1 e2;subst e1;subst e2
   exact⟨S,_,rfl,by simp only[Builtin.clear_,h0,a0,Sem.run_bind,run_underlying hu,Result.andThen_ok];rfl,VR.q8 S,Good.refl h⟩
  ·rename_i m
   split at ha
   case h_2=>cases ha
   rename_i z zv cJ qW
   split at ha
   case isFalse=>cases ha
   rename_i hc
   simp only[Bool.and_eq_true,Nat.beq_eq,Nat.blt_eq] at hc
   obtain⟨⟨pH,E9⟩,UC⟩:=hc
   split at ha
   case h_2=>cases ha
   rename_i s1 aA
   injection ha with ha;injection ha with e1 e2;subst e1;subst e2
   have oS:0<cap:=by omega
   have I3:zv.cells.size=z:=by simpa using E9
   have Ph:eX S (bS zv.cells.toList (m+1)) (Builtin.zeroCells zv.cells (m+1)).toList:=by
    refine⟨by rw[dV,E9];simp[Builtin.zeroCells,I3],fun p hp=> ?_⟩
    rw[dV,E9] at hp
    have:=vd (S:=S) pH E9 (m+1) ((m+1)*zv.cells.size) (by rw[I3];exact Nat.le_refl _) p hp
    exact this
   obtain⟨T,hT,Jr,hg⟩:=Am (P:=P) h (hr oS).1 Ph aA
   refine⟨T,_,hT,?_,VR.q8 T,hg⟩
   simp only[Builtin.clear_,h0,a0,Sem.run_bind,run_underlying hu,Result.andThen_ok,dU qW,Jr]
   rfl
 ·cases ha
theorem Po {P:Program}{base:Nat}{S:St}(h:SR base S){dT ty:TypeId}{x y x' y' v:Value}{s' :aq}(hx:VR S x x')(hy:VR S y y')(ha:lY P S.s dT x y=some (v,s')){ts:Array TypeId}{zS:Array Value}
  (h0:ts[0]?=some dT) (a0:zS[0]?=some x') (a1:zS[1]?=some y'):jA P base S (Builtin.copy_ ts ty zS) v s' :=by
 unfold lY at ha
 split at ha
 case h_2=>cases ha
 rename_i e a Sw c hu
 split at ha
 case h_2=>cases ha
 rename_i z k y2 hz dA
 obtain⟨y2',m,pQ,hlen,Fe,Ff⟩:=MS (P:=P) hy dA
 split at ha
 ·injection ha with ha;injection ha with e1 e2;subst e1;subst e2
  have hf:(Builtin.firstCells z 0 y2').run P S.w= .ok #[] S.w:=by
   cases pQ with
   |gP=>simp[Builtin.firstCells]
   |slice=>simp[Builtin.firstCells,loadCells,loadCellsFrom]
   |string=>simp[Builtin.firstCells]
   |_=>exfalso;unfold pK at dA;split at dA<;>simp at dA
  have UF:Nat.min m Sw=0:=Fe
  refine⟨S,.int .i64 0,rfl,?_,.int _ _,Good.refl h⟩
  cases hx with
  |gP=>simp only[Builtin.copy_,h0,a0,a1,Sem.run_bind,run_underlying hu,Result.andThen_ok,hlen,UF,run_sizeOf hz,Ff,hf];simp[goInt]
  |slice=>simp only[Builtin.copy_,h0,a0,a1,Sem.run_bind,run_underlying hu,Result.andThen_ok,hlen,UF,run_sizeOf hz,Ff,hf];simp[storeCells,goInt]
 ·rename_i k
  split at ha
  case h_2=>cases ha
  rename_i k2 new i off hs
  split at ha
  case h_2=>cases ha
  rename_i t hk aA
  have hk' :k2=k+1:=Nat.eq_of_beq_eq_true hk
  subst hk'
  injection ha with ha;injection ha with e1 e2;subst e1;subst e2
  obtain⟨new',Ph,_,gD⟩:=Ac (P:=P) h pQ hs
  cases hx with
  |slice _ _ _ _ a' cap h0' pR hr=>
  have oS:0<cap:=by have:k+1<=Sw:=by rw[<-Nat.succ_eq_add_one,<-Fe];exact Nat.min_le_right _ _
                    omega
  obtain⟨T,hT,Jr,hg⟩:=Am (P:=P) h (hr oS).1 Ph aA
  refine⟨T,.int .i64 (k+1),hT,?_,.int _ _,hg⟩
  simp only[Builtin.copy_,h0,a0,a1,Sem.run_bind,run_underlying hu,Result.andThen_ok,hlen,Fe,run_sizeOf hz,Ff,(gD S.w rfl).2,Jr]
  simp[goInt]
end Go.Cl
namespace Go.Cl
open Go.RowKit
theorem Lm {P:Program}{w w' :World}{s:Sem Value}{v:Value}(h:s.run P w= .ok v w'):(do pure (Next.value (<-s)):Sem Next).run P w= .ok (.value v) w' :=by
 simp[h]
theorem YE {P:Program}{w w' :World}{s:Sem Unit}(h:s.run P w= .ok () w'):(do s;pure Next.skip:Sem Next).run P w= .ok .skip w' :=by
 simp[h]
def Pp (P:Program)(S:St)(a:Act)(o:Oper)(s:aq)(r:Option AR):Prop:=
 ∀x,r=some x->∃v,x= .val v s/\∃v',VR S v v' /\(execOp a.eval o).run P S.w= .ok (.value v') S.w
theorem fe {P:Program}{S:St}{a:Act}{o:Oper}{m:Sem Value}{r:Option Value}(he:execOp a.eval o=(do pure (Next.value (<-m))))(h:∀v,r=some v->Reads P S m v):Pp P S a o S.s (oo S.s r):=by
 intro x hx
 cases r with
 |none=>simp[oo] at hx
 |some v=>
  simp only[oo] at hx
  obtain rfl:=Option.some.inj hx
  obtain⟨v',h1,h2⟩:=h v rfl
  exact⟨v,rfl,v',h2,by rw[he];exact Lm h1⟩
theorem dn {P:Program}{S:St}{a:Act}{o:Oper}:Pp P S a o S.s none:=fun x hx=>by cases hx
theorem gH {α:Type}{a:Array α}{x:α}{r:List α}(h:a.toList=x::r):a[0]?=some x:=by rw[<-Array.getElem?_toList,h];rfl
theorem rA {α:Type}{a:Array α}{x y:α}{r:List α}(h:a.toList=x::y::r):a[1]?=some y:=by rw[<-Array.getElem?_toList,h];rfl
theorem DG {P:Program}{base:Nat}{S:St}(h:SR base S){f:aR}{a:Act}(hf:FR S f a){o:Oper}(hq:aI P o=true):Pp P S a o S.s (cy P o f S.s):=by
 obtain⟨dst,op,type,pos,after,guard⟩:=o
 cases op<;>try (simp[aI] at hq;done)
 case move x=>
  refine fe (m:=pure (a.eval x)) (by simp[execOp]) (fun v hv=>⟨_,by simp,bI hf hv⟩)
 case assign x=>
  refine fe (m:=pure (a.eval x)) (by simp[execOp]) (fun v hv=>⟨_,by simp,bI hf hv⟩)
 case pick c x y=>
  intro r hr
  simp only[cy] at hr
  split at hr
  ·rename_i t u v h1 h2 h3
   obtain rfl:=Option.some.inj hr
   have hc:=bI hf h1
   have hx:=bI hf h2
   have hy:=bI hf h3
   generalize GW:a.eval c=cv at hc
   cases hc
   refine⟨_,rfl,if t then a.eval x else a.eval y,by cases t<;>assumption,?_⟩
   simp[execOp,GW,asBool]
  ·cases hr
 case build t ps=>
  simp only[cy]
  split
  ·rename_i l hl
   refine fe (m:=Instr.build t (ps.map fun(i,x)=>(i,a.eval x))) rfl (fun v hv=> ?_)
   have:=MP (P:=P) (wW hf hl) hv
   have e:(ps.map fun(x:Nat×Operand)=>(x.1,a.eval x.2))=(ps.toList.map fun x=>(x.1,a.eval x.2)).toArray:=by rw[<-Array.toList_inj];simp
   rw[e];exact this
  ·exact dn
 case load t x=>
  simp only[cy]
  split
  ·rename_i u hu
   exact fe rfl (fun v hv=>GM h (bI hf hu) hv)
  ·exact dn
 case nilCheck x=>
  intro r hr
  simp only[cy] at hr
  split at hr
  ·rename_i p hp
   obtain rfl:=Option.some.inj hr
   have hx:=bI hf hp
   refine⟨_,rfl,a.eval x,hx,?_⟩
   generalize GW:a.eval x=cv at hx
   cases hx<;>simp[execOp,GW]
  ·rename_i g zS bs hp
   obtain rfl:=Option.some.inj hr
   have hx:=bI hf hp
   refine⟨_,rfl,a.eval x,hx,?_⟩
   generalize GW:a.eval x=cv at hx
   cases hx
   simp[execOp,GW]
  ·cases hr
 case binOp op t x y yt=>
  simp only[cy]
  split
  ·rename_i u v hu hv
   exact fe rfl (fun r hr=>SD (bI hf hu) (bI hf hv) hr)
  ·exact dn
 case unOp op t x=>
  simp only[cy]
  split
  ·rename_i u hu
   exact fe rfl (fun r hr=>VJ (bI hf hu) hr)
  ·exact dn
 case convert s d x=>
  simp only[cy]
  split
  ·rename_i u hu
   intro r hr
   cases hc:gG P S.s s d u with
   |none=>rw[hc] at hr;simp[lZ] at hr
   |some p=>
    obtain⟨v,s'⟩:=p
    rw[hc] at hr
    simp only[lZ] at hr
    obtain rfl:=Option.some.inj hr
    have YF:ry (P.underlying d)=false:=by
     simp only[aI] at hq
     unfold ry
     cases hd:P.underlying d with
     |none=>rfl
     |some e=>rw[hd] at hq;cases e<;>first|rfl|cases hq
    obtain⟨rfl,v',h1,h2⟩:=Jn h (bI hf hu) hc YF
    exact⟨v,rfl,v',h2,Lm h1⟩
  ·exact dn
 case makeFunc fn zS bs=>
  intro r hr
  cases fn<;>simp only[cy] at hr<;>try (cases hr;done)
  rename_i g
  split at hr
  ·rename_i l m h1 h2
   obtain rfl:=Option.some.inj hr
   have hl:=pN hf h1
   have hm:=pN hf h2
   refine⟨_,rfl,.func (.func g) (zS.map a.eval) (bs.map a.eval),?_,by simp[execOp,Instr.makeFunc]⟩
   refine .func g _ _ _ _ (by simpa using hl.1) (by simpa using hm.1) (fun i hi=> ?_) (fun i hi=> ?_)
   ·simpa using hl.2 i (by simpa using hi)
   ·simpa using hm.2 i (by simpa using hi)
  ·cases hr
 case makeInterface t x=>
  intro r hr
  simp only[cy] at hr
  split at hr
  ·cases hr
  ·rename_i d v OB hd hv
   obtain rfl:=Option.some.inj hr
   refine⟨_,rfl,.iface t (a.eval x),.iface t _ _ (bI hf hv),?_⟩
   cases d<;>first
    |exact absurd rfl (OB _)
    |simp[execOp,Instr.makeInterface,run_underlying hd]
  ·cases hr
 case slice t x lo hi mx=>
  simp only[cy]
  split
  ·rename_i u l h' m h1 h2 h3 h4
   refine fe rfl (fun r hr=>MM h (bI hf h1) ?_ ?_ ?_ hr)
   ·rcases E4 hf h2 with ⟨q1,q2⟩|⟨v,v',q1,q2,q3⟩
    ·exact .inl ⟨q1,q2⟩
    ·exact .inr ⟨v,v',q1,q2,q3⟩
   ·rcases E4 hf h3 with ⟨q1,q2⟩|⟨v,v',q1,q2,q3⟩
    ·exact .inl ⟨q1,q2⟩
    ·exact .inr ⟨v,v',q1,q2,q3⟩
   ·rcases E4 hf h4 with ⟨q1,q2⟩|⟨v,v',q1,q2,q3⟩
    ·exact .inl ⟨q1,q2⟩
    ·exact .inr ⟨v,v',q1,q2,q3⟩
  ·exact dn
 case fieldAddr t x i=>
  simp only[cy]
  split
  ·rename_i u hu
   exact fe rfl (fun r hr=>C1 (bI hf hu) hr)
  ·exact dn
 case field t x i=>
  simp only[cy]
  split
  ·rename_i u hu
   exact fe rfl (fun r hr=>MK (bI hf hu) hr)
  ·exact dn
 case indexAddr t x y=>
  simp only[cy]
  split
  ·rename_i u v hu hv
   exact fe rfl (fun r hr=>C0 (bI hf hu) (bI hf hv) hr)
  ·exact dn
 case index t x y=>
  simp only[cy]
  split
  ·rename_i u v hu hv
   exact fe rfl (fun r hr=>ML (bI hf hu) (bI hf hv) hr)
  ·exact dn
 case lookup t x y ok=>
  simp only[cy]
  split
  ·rename_i u v hu hv
   exact fe rfl (fun r hr=>Jq h (bI hf hu) (bI hf hv) hr)
  ·exact dn
 case extract x i=>
  simp only[cy]
  split
  ·rename_i u hu
   exact fe rfl (fun r hr=>GS (bI hf hu) hr)
  ·exact dn
 case call c=>
  obtain⟨callee,args,ts⟩:=c
  simp only[cy]
  split
  case h_2=>exact dn
  rename_i l hl
  have CK:=pN hf hl
  cases callee with
  |value x=>simp[aI] at hq
  |invoke x m=>simp[aI] at hq
  |builtin b=>
   simp only
   cases b<;>try (simp[aI] at hq;done)
   case len=>
    cases ht:ts.toList with
    |nil=>exact dn
    |cons t tr=>
     cases l with
     |nil=>exact dn
     |cons x xr=>
      obtain⟨x',r',e,YG,_⟩:=CK.cons_inv
      refine fe (m:=Builtin.len_ ts type (args.map a.eval)) rfl (fun v hv=>SH h YG hv (gH ht) ?_)
      exact gH (by rw[Array.toList_map];exact e)
   case min=>
    cases l with
    |nil=>exact dn
    |cons x xr=>
     obtain⟨x',r',e,YG,zg⟩:=CK.cons_inv
     refine fe (m:=Builtin.min_ ts type (args.map a.eval)) rfl (fun v hv=> ?_)
     obtain⟨v',k1,k2⟩:=G1 (P:=P) Sx Builtin.min2 SI YG zg hv
     exact⟨v',by simp only[Builtin.min_,Array.toList_map,e];exact k1,k2⟩
   case max=>
    cases l with
    |nil=>exact dn
    |cons x xr=>
     obtain⟨x',r',e,YG,zg⟩:=CK.cons_inv
     refine fe (m:=Builtin.max_ ts type (args.map a.eval)) rfl (fun v hv=> ?_)
     obtain⟨v',k1,k2⟩:=G1 (P:=P) Sy Builtin.max2 SJ YG zg hv
     exact⟨v',by simp only[Builtin.max_,Array.toList_map,e];exact k1,k2⟩
theorem oD {s:aq}{cs:List Value}{len lW:Nat}{r:Value×aq}(h:aX s cs len lW=some r):s.room=true:=by
 unfold aX at h
 split at h
 ·assumption
 ·cases h
theorem yl {s:aq}{cs:List Value}{lW:Nat}{r:Value×aq}(h:fw s cs lW=some r):s.room=true:=by
 unfold fw at h
 split at h
 ·assumption
 ·cases h
theorem C4 {P:Program}{s:aq}{t:TypeId}{n:Nat}{ps:List (Nat×Value)}{r:Value×aq}(h:aU P s t n ps=some r):s.room=true:=by
 unfold aU at h
 split at h
 ·split at h
  ·split at h
   ·split at h
    ·exact oD h
    ·cases h
   ·cases h
  ·cases h
 ·cases h
theorem Fg {P:Program}{s:aq}{t:TypeId}{x y:Value}{r:Value×aq}(h:eu P s t x y=some r):s.room=true:=by
 unfold eu at h
 split at h
 ·split at h
  ·split at h
   ·exact oD h
   ·cases h
  ·cases h
 ·cases h
theorem Fh {P:Program}{s:aq}{a b:TypeId}{x:Value}{r:Value×aq}(h:gG P s a b x=some r)(ht:jf P a b=true):s.room=true:=by
 unfold jf at ht
 split at ht
 case h_2=>cases ht
 rename_i e0 vb SE
 unfold gG at h
 split at h
 ·rename_i hs hd;rw[SE] at hd;cases hd
 ·rename_i hs hd;rw[SE] at hd;cases hd
 ·split at h
  ·exact oD h
  ·cases h
 ·rename_i hs hd;rw[vb] at hs;cases hs
 ·rename_i hs hd;rw[SE] at hd;cases hd
 ·rename_i hs hd;rw[SE] at hd;cases hd
 ·cases h
def Js (P:Program)(base:Nat)(S:St)(a:Act)(o:Oper):AR->Prop
 | .val v s' =>∃T v',T.s=s' /\VR T v v' /\Good base S T/\((execOp a.eval o).run P S.w= .ok (.value v') T.w\/((execOp a.eval o).run P S.w= .ok .skip T.w/\v' =undef))
 | .call g args=>∃args' :Array Value,eX S args args'.toList/\execOp a.eval o=callFunc g args'
theorem ll {P:Program}{base:Nat}{S:St}{a:Act}{o:Oper}{m:Sem Value}{r:Option (Value×aq)}(he:execOp a.eval o=(do pure (Next.value (<-m))))(h:∀v s',r=some (v,s')->jA P base S m v s'):
  ∀x,lZ r=some x->Js P base S a o x:=by
 intro x hx
 cases r with
 |none=>simp[lZ] at hx
 |some p=>
  obtain⟨v,s'⟩:=p
  simp only[lZ] at hx
  obtain rfl:=Option.some.inj hx
  obtain⟨T,v',h1,h2,h3,h4⟩:=h v s' rfl
  exact⟨T,v',h1,h3,h4,.inl (by rw[he];exact Lm h2)⟩
theorem DH {P:Program}{base:Nat}{S:St}{a:Act}{o:Oper}{m:Sem Unit}{r:Option aq}(he:execOp a.eval o=(do m;pure Next.skip))(h:∀s',r=some s' ->Ll P base S m s'):
  ∀x,CT r=some x->Js P base S a o x:=by
 intro x hx
 cases r with
 |none=>simp[CT] at hx
 |some s' =>
  simp only[CT] at hx
  obtain rfl:=Option.some.inj hx
  obtain⟨T,h1,h2,h3⟩:=h s' rfl
  exact⟨T,undef,h1,VR.q8 T,h3,.inr ⟨by rw[he];exact YE h2,rfl⟩⟩
theorem MU {P:Program}{base:Nat}{S:St}(h:SR base S){t:TypeId}{a v a' v' :Value}{s' :aq}(ha:VR S a a')(hv:VR S v v')(hs:fi P S.s t a v=some s'):Ll P base S (Instr.storeAt t a' v') s' :=by
 unfold fi at hs
 split at hs
 ·rename_i i off c hn
  obtain⟨a1,rfl,hr⟩:=ha.pO
  split at hs
  ·rename_i hlen
   obtain rfl:=Option.some.inj hs
   have cT:v.cells.toList.length=0:=by simpa [Nat.beq_eq] using hlen
   have GW:=hv.cells
   have cJ:v'.cells.size=0:=by have:=GW.1;rw[cT] at this;simpa using this.symm
   have qN:v'.cells.toList=[]:=by simpa using cJ
   refine⟨S,rfl,?_,Good.refl h⟩
   simp[Instr.storeAt,Instr.sureAddr,storeVar,run_sizeOf hn,cJ]
   rw[qN]
   rfl
  ·cases hs
 ·rename_i i off c n cD hn
  obtain⟨a1,rfl,hr⟩:=ha.pO
  split at hs
  ·rename_i hlen
   have cT:v.cells.toList.length=n:=by simpa [Nat.beq_eq] using hlen
   unfold aq.storeAt at hs
   split at hs
   ·rename_i b hb
    split at hs
    ·rename_i hc
     simp only[Bool.and_eq_true,Nat.ble_eq,Nat.beq_eq] at hc
     obtain⟨⟨⟨kI,gC⟩,CV⟩,dE⟩:=hc
     split at hs
     ·cases hs
     rename_i qN
     split at hs
     ·rename_i l hl
      obtain rfl:=Option.some.inj hs
      have fy:Live b c:=⟨gC,by omega⟩
      obtain rfl:=hr.addr hb fy
      have GW:=hv.cells
      have cJ:v'.cells.size=n:=by have:=GW.1;simp at this cT;omega
      have VU:=GW.aO dE
      obtain⟨hg,arr,E,fr,h1,h2,h3⟩:=Good.store h hb kI fy CV hl GW (by rw[qN];simp)
      refine⟨_,rfl,?_,hg⟩
      have:=j0 P (S.e.loc i c).1 ((S.e.loc i c).2+off) v'.cells.toList S.w 0 arr E fr h1 h2 (by omega) VU
      simp[Instr.storeAt,Instr.sureAddr,storeVar,run_sizeOf hn,cJ,this]
     ·cases hs
    ·cases hs
   ·cases hs
  ·cases hs
 ·cases hs
theorem Fi {P:Program}{base:Nat}{S:St}(h:SR base S){f:aR}{a:Act}(hf:FR S f a){o:Oper}:∀x,cy P o f S.s=some x->Js P base S a o x:=by
 by_cases hq:aI P o=true
 ·intro x hx
  obtain⟨v,rfl,v',h1,h2⟩:=DG h hf hq x hx
  exact⟨S,v',rfl,h1,Good.refl h,.inl h2⟩
 obtain⟨dst,op,type,pos,after,guard⟩:=o
 cases op<;>try (simp[aI] at hq;done)
 all_goals try (intro x hx;simp[cy] at hx;done)
 case alloc e=>
  simp only[cy]
  intro x hx
  split at hx
  ·rename_i z hz
   split at hx
   ·rename_i hp
    exact ll rfl (fun v s' hv=>(GV h (ml.self h (yl hv)) hz hp hv).E5) x hx
   ·cases hx
  ·cases hx
 case box e y=>
  simp only[cy]
  intro x hx
  split at hx
  ·rename_i u hu
   exact ll rfl (fun v s' hv=>(Pc h (ml.self h (yl hv)) (bI hf hu) hv).E5) x hx
  ·cases hx
 case buildSlice t n ps=>
  simp only[cy]
  intro x hx
  split at hx
  ·rename_i l hl
   refine ll (m:=Instr.buildSlice t n (ps.map fun(i,x)=>(i,a.eval x))) rfl (fun v s' hv=> ?_) x hx
   have:=(rz (P:=P) h (ml.self h (C4 hv)) (wW hf hl) hv).E5
   have e:(ps.map fun(x:Nat×Operand)=>(x.1,a.eval x.2))=(ps.toList.map fun x=>(x.1,a.eval x.2)).toArray:=by rw[<-Array.toList_inj];simp
   rw[e];exact this
  ·cases hx
 case store t y z=>
  simp only[cy]
  intro x hx
  split at hx
  ·rename_i u v hu hv
   exact DH rfl (fun s' hs=>MU h (bI hf hu) (bI hf hv) hs) x hx
  ·cases hx
 case convert s d y=>
  simp only[cy]
  intro x hx
  split at hx
  ·rename_i u hu
   refine ll rfl (fun v s' hv=> ?_) x hx
   cases uj:jf P s d with
   |true=>exact(yf h (ml.self h (Fh hv uj)) (bI hf hu) hv uj).E5
   |false=>
    refine Jo h (bI hf hu) hv ?_ uj
    simp only[aI] at hq
    unfold ry
    cases hd:P.underlying d with
    |none=>rw[hd] at hq;exact absurd rfl hq
    |some e=>rw[hd] at hq;cases e<;>first|rfl|exact absurd rfl hq
  ·cases hx
 case makeMap t r=>
  cases r with
  |some _=>intro x hx;simp[cy] at hx
  |none=>
   simp only[cy]
   intro x hx
   split at hx
   ·rename_i hr
    obtain rfl:=Option.some.inj hx
    have hg:=Good.VI h hr
    have aP:=uZ hr
    refine⟨_,.map (some S.w.heap.size),rfl,?_,hg,.inl (by simp[execOp,Instr.makeMap,newObj,Sem.run])⟩
    have:=VR.map (S:=⟨S.s.new (.map []),⟨S.e.loc,fun r=>if r=S.s.next then S.w.heap.size else S.e.mp r⟩,S.w.alloc (.map #[] 0)⟩) S.s.next ⟨[],by simp only[aq.new,aq.dR,Tr.bu _ _ _ _ (deep (show 0<16000001 by omega))]⟩
    simpa using this
   ·cases hx
 case makeSlice t y z=>
  simp only[cy]
  intro x hx
  split at hx
  ·rename_i u v hu hv
   exact ll rfl (fun r s' hr=>(tN h (ml.self h (Fg hr)) (bI hf hu) (bI hf hv) hr).E5) x hx
  ·cases hx
 case mapUpdate t y z u=>
  simp only[cy]
  intro x hx
  split at hx
  ·rename_i m k v h1 h2 h3
   exact DH rfl (fun s' hs=>C3 h (bI hf h1) (bI hf h2) (bI hf h3) hs) x hx
  ·cases hx
 case call c=>
  obtain⟨callee,args,ts⟩:=c
  simp only[cy]
  intro x hx
  split at hx
  case h_2=>cases hx
  rename_i l hl
  have CK:=pN hf hl
  cases callee with
  |invoke y m=>cases hx
  |value y=>
   simp only at hx
   split at hx
   ·rename_i g zS bs hy
    obtain rfl:=Option.some.inj hx
    obtain⟨Lb,Lc,e,h1,h2⟩:=(bI hf hy).O7
    refine⟨Lb++args.map a.eval++Lc,?_,?_⟩
    ·simp only[Array.toList_append,Array.toList_map]
     exact(h1.append CK).append h2
    ·simp[execOp,resolve,e,Deferred.ofValue,invoke]
   ·cases hx
  |builtin b=>
   simp only at hx
   cases b<;>try (simp[aI] at hq;done)
   all_goals try (simp[im] at hx;done)
   case append=>
    cases ht:ts.toList with
    |nil=>rw[ht] at hx;cases hx
    |cons t tr=>
     cases tr with
     |nil=>rw[ht] at hx;cases hx
     |cons t2 tr2=>
      cases l with
      |nil=>rw[ht] at hx;cases hx
      |cons y yr=>
       cases yr with
       |nil=>rw[ht] at hx;cases hx
       |cons z zr=>
        rw[ht] at hx
        obtain⟨y',r',e,OD,zg⟩:=CK.cons_inv
        obtain⟨z',r2',e2,pR,_⟩:=zg.cons_inv
        rw[e2] at e
        refine ll (m:=Builtin.append_ ts type (args.map a.eval)) rfl (fun v s' hv=>Jp h OD pR hv (gH ht) (rA ht) ?_ ?_) x hx
        ·exact gH (by rw[Array.toList_map];exact e)
        ·exact rA (by rw[Array.toList_map];exact e)
   case clear=>
    cases ht:ts.toList with
    |nil=>rw[ht] at hx;cases hx
    |cons t tr=>
     cases l with
     |nil=>rw[ht] at hx;cases hx
     |cons y yr=>
      rw[ht] at hx
      obtain⟨y',r',e,OD,_⟩:=CK.cons_inv
      refine ll (m:=Builtin.clear_ ts type (args.map a.eval)) rfl (fun v s' hv=>MT h OD hv (gH ht) ?_) x hx
      exact gH (by rw[Array.toList_map];exact e)
   case copy=>
    cases ht:ts.toList with
    |nil=>rw[ht] at hx;cases hx
    |cons t tr=>
     cases l with
     |nil=>rw[ht] at hx;cases hx
     |cons y yr=>
      cases yr with
      |nil=>rw[ht] at hx;cases hx
      |cons z zr=>
       rw[ht] at hx
       obtain⟨y',r',e,OD,zg⟩:=CK.cons_inv
       obtain⟨z',r2',e2,pR,_⟩:=zg.cons_inv
       rw[e2] at e
       refine ll (m:=Builtin.copy_ ts type (args.map a.eval)) rfl (fun v s' hv=>Po h OD pR hv (gH ht) ?_ ?_) x hx
       ·exact gH (by rw[Array.toList_map];exact e)
       ·exact rA (by rw[Array.toList_map];exact e)
end Go.Cl
