/-
 The clean machine, first part: what it is, and that it is true to the model, operation by operation.
-/
import GoSem.Step
import Derived.Orders
import Derived.Below
import Derived.WalkKit
import Derived.Deep.QuietTactic
import Derived.WalkSpells
import Derived.WalkLawsBesides
import Derived.Laws.StructEq
namespace Go.Cl
inductive Tr (α:Type) where
 |nil
 |node (v:Option α) (l r:Tr α)
def Tr.val {α:Type}:Tr α->Option α
 | .nil=>none
 | .node v _ _=>v
def Tr.left {α:Type}:Tr α->Tr α
 | .nil=> .nil
 | .node _ l _=>l
def Tr.right {α:Type}:Tr α->Tr α
 | .nil=> .nil
 | .node _ _ r=>r
def Tr.get {α:Type}:Tr α->Nat->Option α
 | .nil,_=>none
 | .node v l r,i=>
  match i with
  |0=>v
  |k+1=>
   match k%2 with
   |0=>l.get (k/2)
   |_+1=>r.get (k/2)
def Tr.set {α:Type}:Nat->Tr α->Nat->α->Tr α
 |0,t,_,_=>t
 |f+1,t,i,u=>
  match i with
  |0=> .node (some u) t.left t.right
  |k+1=>
   match k%2 with
   |0=> .node t.val (Tr.set f t.left (k/2) u) t.right
   |_+1=> .node t.val t.left (Tr.set f t.right (k/2) u)
def depth (i:Nat):Nat:=Nat.log2 (i+1)+1
structure jE where
 cells:List Value
 low:Nat
 own:Bool
 mf:Nat
inductive AO where
 |dK (b:jE)
 |map (es:List (Value×Value))
structure aq where
 heap:Tr AO
 next:Nat
structure aT where
 Zd:Tr Value
 n:Nat
def aq.bA (s:aq)(i:Nat):Option jE:=
 match s.heap.get i with
 |some (.dK b)=>some b
 |_=>none
def aq.dp (s:aq)(i:Nat):Option (List (Value×Value)):=
 match s.heap.get i with
 |some (.map es)=>some es
 |_=>none
def aq.put (s:aq)(i:Nat)(o:AO):aq:=⟨Tr.set (depth i) s.heap i o,s.next⟩
def aq.new (s:aq)(o:AO):aq:=⟨Tr.set (depth s.next) s.heap s.next o,s.next+1⟩
def aq.room (_:aq):Bool:=true
def aT.get (f:aT)(t:Nat):Value:=
 match f.Zd.get t with
 |some v=>v
 |none=>undef
def aT.put (f:aT)(t:Nat)(v:Value):aT:=⟨Tr.set (depth t) f.Zd t v,f.n⟩
def gS:Value->Bool
 | .bool _| .int _ _| .string _| .pointer none| .slice none 0 0| .map none| .nilFunc| .nilIface=>true
 |_=>false
def bP:Value->Bool
 | .agg cs=>cs.toList.all gS
 | .tuple cs=>cs.toList.all gS
 |v=>gS v
def aO (f:aT):Operand->Option Value
 | .tmp t=>if Nat.blt t f.n then some (f.get t) else none
 | .const v=>if bP v then some v else none
 | .global _=>none
 | .func g=>some (.func (.func g) #[] #[])
def ad (f:aT):List Operand->Option (List Value)
 |[]=>some []
 |x::r=>
  match aO f x with
  |some v=>
   match ad f r with
   |some vs=>some (v::vs)
   |none=>none
  |none=>none
def takeN:Nat->List Value->Option (List Value)
 |0,_=>some []
 |_+1,[]=>none
 |n+1,v::r=>
  match takeN n r with
  |some l=>some (v::l)
  |none=>none
def yO:Nat->List Value->List Value
 |0,l=>l
 |_+1,[]=>[]
 |n+1,_::r=>yO n r
def setAt:List Value->Nat->List Value->Option (List Value)
 |l,_,[]=>some l
 |[],_,_::_=>none
 |c::r,n+1,vs=>
  match setAt r n vs with
  |some l=>some (c::l)
  |none=>none
 |_::r,0,v::vs=>
  match setAt r 0 vs with
  |some l=>some (v::l)
  |none=>none
def aJ:Value->Bool
 | .agg _| .tuple _=>false
 |_=>true
def aq.de (s:aq)(i off c n:Nat):Option (List Value):=
 match s.bA i with
 |some b=>
  if Nat.ble b.low c&&Nat.ble c (b.cells.length+1)&&Nat.blt (off+n) c then takeN n (yO off b.cells) else none
 |none=>none
def aq.storeAt (s:aq)(i off c:Nat)(vs:List Value):Option aq:=
 match s.bA i with
 |some b=>
  if b.own&&Nat.ble b.low c&&Nat.beq c (b.cells.length+1)&&vs.all aJ then
   match vs with
   |[]=>none
   |_::_=>
   match setAt b.cells off vs with
   |some l=>some (s.put i (.dK {b with cells:=l,low:=c}))
   |none=>none
  else none
 |none=>none
def bY (P:Program)(t:TypeId):Option Bool:=
 match P.underlying t with
 |some (.struct _)|some (.array _ _)=>some true
 |some _=>some false
 |none=>none
def aW (P:Program)(t:TypeId):Option Nat:=
 match P.info? t with
 |some i=>some i.size
 |none=>none
def bW (P:Program)(t:TypeId):Option Value:=
 match P.info? t with
 |some i=>i.zero
 |none=>none
def fe (P:Program)(t:TypeId):Option Nat:=
 match P.info? t with
 |some i=>some i.bytes
 |none=>none
def Ol (P:Program)(t:TypeId)(cs:List Value)(off:Nat):Option Value:=
 match bY P t,aW P t with
 |some true,some n=>
  match takeN n (yO off cs) with
  |some l=>some (.agg l.toArray)
  |none=>none
 |some false,_=>
  match yO off cs with
  |v::_=>some v
  |[]=>none
 |_,_=>none
def aR (P:Program)(s:aq)(t:TypeId)(a:Value):Option Value:=
 match a with
 | .pointer (some ⟨i,off,some c⟩)=>
  match bY P t,aW P t with
  |some true,some n=>
   match s.de i off c n with
   |some l=>some (.agg l.toArray)
   |none=>none
  |some false,_=>
   match s.de i off c 1 with
   |some (v::_)=>some v
   |_=>none
  |_,_=>none
 |_=>none
def dE (P:Program)(s:aq)(t:TypeId)(a v:Value):Option aq:=
 match a,aW P t with
 | .pointer (some ⟨_,_,some _⟩),some 0=>if Nat.beq v.cells.toList.length 0 then some s else none
 | .pointer (some ⟨i,off,some c⟩),some n=>
  if Nat.beq v.cells.toList.length n then s.storeAt i off c v.cells.toList else none
 |_,_=>none
def eR (s:aq)(cs:List Value)(mf:Nat):Option (Value×aq):=
 if s.room then some (.pointer (some ⟨s.next,0,some (cs.length+1)⟩),s.new (.dK ⟨cs,1,true,mf⟩)) else none
def aZ (s:aq)(cs:List Value)(len mf:Nat):Option (Value×aq):=
 if s.room then some (.slice (some ⟨s.next,0,none⟩) len (cs.length+1),s.new (.dK ⟨cs,1,true,mf⟩)) else none
def bw (z:List Value):Nat->List Value
 |0=>[]
 |n+1=>z++bw z n
def iM (op:BinOp)(k:IntKind)(x y:Int):Option Value:=
 match op with
 | .add=>some (.int k (k.wrap (x+y)))
 | .sub=>some (.int k (k.wrap (x-y)))
 | .mul=>some (.int k (k.wrap (x*y)))
 | .quo=>if y=0 then none else some (.int k (k.wrap (x.tdiv y)))
 | .rem=>if y=0 then none else some (.int k (x.tmod y))
 | .and=>some (.int k (k.wrap (BitVec.ofInt k.bits x&&&BitVec.ofInt k.bits y).toNat))
 | .or=>some (.int k (k.wrap (BitVec.ofInt k.bits x|||BitVec.ofInt k.bits y).toNat))
 | .xor=>some (.int k (k.wrap (BitVec.ofInt k.bits x^^^BitVec.ofInt k.bits y).toNat))
 | .andNot=>some (.int k (k.wrap (BitVec.ofInt k.bits x&&& ~~~BitVec.ofInt k.bits y).toNat))
 | .eql=>some (.bool (x==y))
 | .neq=>some (.bool (x !=y))
 | .lss=>some (.bool (x<y))
 | .leq=>some (.bool (x<=y))
 | .gtr=>some (.bool (x>y))
 | .geq=>some (.bool (x>=y))
 |_=>none
def te (op:BinOp)(k:IntKind)(x y:Int):Option Value:=
 if y<0 then none else
 match op with
 | .shl=>some (.int k (k.wrap (x*2^(min y.toNat k.bits))))
 | .shr=>some (.int k (x.fdiv (2^(min y.toNat k.bits))))
 |_=>none
def Om (op:BinOp)(x y:ByteArray):Option Value:=
 match op with
 | .add=>if Nat.ble (x.data.toList.length+y.data.toList.length) 4294967296 then some (.string ⟨(x.data.toList++y.data.toList).toArray⟩) else none
 | .eql=>some (.bool (x.data.toList==y.data.toList))
 | .neq=>some (.bool (!(x.data.toList==y.data.toList)))
 | .lss=>some (.bool (Op.bytesLess x.data.toList y.data.toList))
 | .leq=>some (.bool (Op.bytesLess x.data.toList y.data.toList||x.data.toList==y.data.toList))
 | .gtr=>some (.bool (!(Op.bytesLess x.data.toList y.data.toList||x.data.toList==y.data.toList)))
 | .geq=>some (.bool (!(Op.bytesLess x.data.toList y.data.toList)))
 |_=>none
def qI (P:Program)(t:TypeId)(x y:Value):Option Bool:=
 match P.underlying t,x,y with
 |some .bool,.bool a,.bool b=>some (a==b)
 |some (.pointer _),.pointer none,.pointer b=>some b.isNone
 |some (.pointer _),.pointer (some _),.pointer none=>some false
 |some (.slice _),.slice none _ _,.slice b _ _=>some b.isNone
 |some (.slice _),.slice (some _) _ _,.slice none _ _=>some false
 |some (.map _ _),.map none,.map b=>some b.isNone
 |some (.map _ _),.map (some _),.map none=>some false
 |some (.func _ _ _),.nilFunc,.nilFunc=>some true
 |some (.func _ _ _),.nilFunc,.func _ _ _=>some false
 |some (.func _ _ _),.func _ _ _,.nilFunc=>some false
 |_,_,_=>none
def fH:List Value->List Value->Option Bool
 |[],[]=>some true
 | .int k a::r,.int k' b::q=>
  match (if k=k' then true else false),fH r q with
  |true,some t=>some (a==b&&t)
  |_,_=>none
 |_,_=>none
def tf (P:Program):List Field->Nat->Bool
 |[],_=>true
 |f::r,i=>
  (match P.underlying f.type with
   |some (.int _)=>f.name != "_" &&Nat.beq f.offset i
   |_=>false)&&tf P r (i+1)
def At:Value->Value->Option Bool
 | .int k a,.int k' b=>if k=k' then some (a==b) else none
 | .string a,.string b=>some (a.toList==b.toList)
 |_,_=>none
def iN:List Value->List Value->Option Bool
 |[],[]=>some true
 |x::r,y::q=>
  match At x y,iN r q with
  |some a,some t=>some (a&&t)
  |_,_=>none
 |_,_=>none
def pX (P:Program):List Field->List Value->Nat->Bool
 |[],_,_=>true
 |_::_,[],_=>false
 |f::r,x::q,i=>
  (match P.underlying f.type,x with
   |some (.int _),.int _ _=>f.name != "_" &&Nat.beq f.offset i
   |some .string,.string _=>f.name != "_" &&Nat.beq f.offset i
   |_,_=>false)&&pX P r q (i+1)
def AS (P:Program)(t:TypeId)(xs ys:Array Value):Option Bool:=
 match P.underlying t with
 |some (.array n e)=>
  match P.underlying e,aW P e with
  |some (.int _),some 1=>if Nat.beq xs.toList.length n&&Nat.beq ys.toList.length n&& !P.eqGuardType P.depth t then fH xs.toList ys.toList else none
  |_,_=>none
 |some (.struct fs)=>if Nat.beq xs.toList.length fs.toList.length&&Nat.beq ys.toList.length fs.toList.length&& !P.eqGuardType P.depth t&& !P.stoodInHeld t then(if tf P fs.toList 0 then fH xs.toList ys.toList else if pX P fs.toList xs.toList 0 then iN xs.toList ys.toList else none) else none
 |_=>none
def cI (P:Program)(op:BinOp)(t:TypeId)(x y:Value):Option Value:=
 match x,y with
 | .agg xs,.agg ys=>
  match op with
  | .eql=>
   match AS P t xs ys with
   |some b=>some (.bool b)
   |none=>none
  | .neq=>
   match AS P t xs ys with
   |some b=>some (.bool (!b))
   |none=>none
  |_=>none
 | .int k a,.int k' b=>
  match op with
  | .shl=>te .shl k a b
  | .shr=>te .shr k a b
  |_=>if k=k' then iM op k a b else none
 | .string a,.string b=>Om op a b
 |_,_=>
  match op with
  | .eql=>
   match qI P t x y with
   |some b=>some (.bool b)
   |none=>none
  | .neq=>
   match qI P t x y with
   |some b=>some (.bool (!b))
   |none=>none
  |_=>none
def Ze (op:UnOp)(x:Value):Option Value:=
 match op,x with
 | .neg,.int k n=>iM .sub k 0 n
 | .xor,.int k n=>iM .xor k (if k.signed then-1 else k.max) n
 | .not,.bool b=>some (.bool (!b))
 |_,_=>none
def toByte:Value->Option UInt8
 | .int .u8 n=>some (UInt8.ofNat n.toNat)
 |_=>none
def nM:List Value->Option (List UInt8)
 |[]=>some []
 |v::r=>
  match toByte v with
  |some b=>
   match nM r with
   |some l=>some (b::l)
   |none=>none
  |none=>none
def ofBytes (l:List UInt8):List Value:=l.map fun b=> .int .u8 b.toNat
def DU (P:Program)(t:TypeId):Bool:=
 match P.underlying t with
 |some (.int .u8)=>true
 |_=>false
def fW (P:Program)(s:aq)(src dst:TypeId)(x:Value):Option (Value×aq):=
 match P.underlying src,P.underlying dst,x with
 |some _,some (.int k),.int _ n=>some (.int k (k.wrap n),s)
 |some _,some .string,.string b=>some (.string b,s)
 |some .string,some (.slice e),.string b=>
  if DU P e&&Nat.ble b.data.toList.length 9223372036854775807 then aZ s (ofBytes b.data.toList) b.data.toList.length 1 else none
 |some (.slice _),some (.slice e),.slice (some ⟨i,_,none⟩) len c=>
  match len with
  |0=>none
  |_+1=>
   match s.bA i with
   |some b=>if Nat.beq src dst&&DU P e&&b.own&&Nat.ble b.low c&&Nat.ble c (b.cells.length+1) then some (x,s.put i (.dK b)) else none
   |none=>none
 |some (.slice e),some .string,.slice none _ _=>if DU P e then some (.string ⟨#[]⟩,s) else none
 |some (.slice e),some .string,.slice (some ⟨i,off,none⟩) len c=>
  if DU P e then
   match len with
   |0=>some (.string ⟨#[]⟩,s)
   |_+1=>
    match s.de i off c len with
    |some l=>
     match nM l with
     |some bs=>some (.string ⟨bs.toArray⟩,s)
     |none=>none
    |none=>none
  else none
 |_,_,_=>none
def gU:Option Value->Nat->Option Nat
 |none,d=>some d
 |some (.int _ (.ofNat n)),_=>some n
 |some _,_=>none
def jT (s:aq)(i c z:Nat):Bool:=
 match c with
 |0=>true
 |_+1=>
  match s.bA i with
  |some b=>Nat.beq b.mf z
  |none=>false
def du (P:Program)(s:aq)(t:TypeId)(x:Value)(lo hi mx:Option Value):Option Value:=
 match P.underlying t,x with
 |some .string,.string b=>
  match mx,gU lo 0,gU hi b.data.toList.length with
  |none,some l,some h=>if Nat.ble l h&&Nat.ble h b.data.toList.length then some (.string ⟨((b.data.toList.take h).drop l).toArray⟩) else none
  |_,_,_=>none
 |some (.slice e),.slice a len c=>
  match gU lo 0,gU hi len,aW P e with
  |some l,some h,some z=>
   if Nat.ble l h&&Nat.ble h len then
    match mx with
    |none=>
     match a with
     |none=>some (.slice none 0 0)
     |some ⟨i,off,none⟩=>if jT s i c z then some (.slice (some ⟨i,off+l*z,none⟩) (h-l) c) else none
     |_=>none
    |some m=>
     match gU (some m) 0,hi with
     |some m,some _=>
      if Nat.ble h m&&Nat.ble m len then
       match a with
       |none=>some (.slice none 0 0)
       |some ⟨i,off,none⟩=>if jT s i c z then some (.slice (some ⟨i,off+l*z,none⟩) (h-l) (if Nat.beq l m then 0 else c)) else none
       |_=>none
      else none
     |_,_=>none
   else none
  |_,_,_=>none
 |some (.array n e),.pointer (some ⟨i,off,some c⟩)=>
  match gU lo 0,gU hi n,aW P e,s.bA i,mx with
  |some l,some h,some z,some b,none=>
   if Nat.ble l h&&Nat.ble h n&&Nat.ble b.low c&&Nat.ble c (b.cells.length+1)&&Nat.blt (off+n*z) c&&Nat.beq b.mf z&&Nat.blt 0 z then some (.slice (some ⟨i,off+l*z,none⟩) (h-l) c) else none
  |_,_,_,_,_=>none
 |_,_=>none
def bQ (P:Program)(t:TypeId)(x ix:Value):Option Value:=
 match P.underlying t,x,ix with
 |some (.slice e),.slice (some ⟨i,off,none⟩) len c,.int _ (.ofNat n)=>
  match aW P e with
  |some z=>if Nat.blt n len then some (.pointer (some ⟨i,off+n*z,some c⟩)) else none
  |none=>none
 |some (.array len e),.pointer (some ⟨i,off,some c⟩),.int _ (.ofNat n)=>
  match aW P e with
  |some z=>if Nat.blt n len then some (.pointer (some ⟨i,off+n*z,some c⟩)) else none
  |none=>none
 |_,_,_=>none
def rC (P:Program)(t:TypeId)(x ix:Value):Option Value:=
 match P.underlying t,x,ix with
 |some .string,.string b,.int _ (.ofNat n)=>
  match (b.data.toList.drop n) with
  |c::_=>some (.int .u8 c.toNat)
  |[]=>none
 |some (.array len e),.agg cs,.int _ (.ofNat n)=>
  match aW P e with
  |some z=>if Nat.blt n len then Ol P e cs.toList (n*z) else none
  |none=>none
 |_,_,_=>none
def ay (P:Program)(t:TypeId)(x:Value)(f:Nat):Option Value:=
 match P.underlying t,x with
 |some (.struct fs),.pointer (some ⟨i,off,some c⟩)=>
  match fs[f]? with
  |some fd=>
   match aW P fd.type with
   |some (_+1)=>some (.pointer (some ⟨i,off+fd.offset,some c⟩))
   |_=>none
  |none=>none
 |_,_=>none
def AU (P:Program)(t:TypeId)(x:Value)(f:Nat):Option Value:=
 match P.underlying t,x with
 |some (.struct fs),.agg cs=>
  match fs[f]? with
  |some fd=>Ol P fd.type cs.toList fd.offset
  |none=>none
 |_,_=>none
def ba (x:Value)(i:Nat):Option Value:=
 match x with
 | .tuple vs=>vs[i]?
 |_=>none
def fI (place:Nat->Option (Nat×Nat)):List Value->List (Nat×Value)->Option (List Value)
 |cs,[]=>some cs
 |cs,(i,v)::r=>
  match place i with
  |some (off,size)=>
   if Nat.beq v.cells.toList.length size&&Nat.ble (off+size) cs.length then
    match setAt cs off v.cells.toList with
    |some l=>fI place l r
    |none=>none
   else none
  |none=>none
def placeOf (P:Program)(fs:Array Field)(i:Nat):Option (Nat×Nat):=
 match fs[i]? with
 |some f=>
  match aW P f.type with
  |some z=>some (f.offset,z)
  |none=>none
 |none=>none
def cE (P:Program)(t:TypeId)(parts:List (Nat×Value)):Option Value:=
 match P.underlying t,bW P t with
 |some (.struct fs),some z=>
  if bP z&&fs.toList.all (fun f=>(aW P f.type).isSome) then
   match fI (placeOf P fs) z.cells.toList parts with
   |some l=>some (.agg l.toArray)
   |none=>none
  else none
 |some (.array _ e),some z=>
  match aW P e with
  |some n=>
   if bP z then
    match fI (fun i=>some (i*n,n)) z.cells.toList parts with
    |some l=>some (.agg l.toArray)
    |none=>none
   else none
  |none=>none
 |_,_=>none
def aL (P:Program)(s:aq)(t:TypeId)(len:Nat)(parts:List (Nat×Value)):Option (Value×aq):=
 match P.underlying t with
 |some (.slice e)=>
  match aW P e,bW P e with
  |some n,some z=>
   if Nat.ble (len*n) 65536&&bP z&&Nat.beq z.cells.toList.length n then
    match fI (fun i=>some (i*n,n)) (bw z.cells.toList len) parts with
    |some l=>aZ s l len n
    |none=>none
   else none
  |_,_=>none
 |_=>none
def eS (P:Program)(s:aq)(t:TypeId)(len cap:Value):Option (Value×aq):=
 match P.underlying t,len,cap with
 |some (.slice e),.int _ (.ofNat l),.int _ (.ofNat c)=>
  match aW P e,bW P e,fe P e with
  |some n,some z,some nN=>
   if Nat.ble l c&&Nat.ble c 4294967296&&Nat.ble (nN*c) 4294967296&&bP z&&Nat.beq z.cells.toList.length n then aZ s (bw z.cells.toList l) l n else none
  |_,_,_=>none
 |_,_,_=>none
def dH (s:aq)(z:Nat):Value->Option (Nat×List Value)
 | .slice none _ _=>some (0,[])
 | .slice (some ⟨i,off,none⟩) n c=>
  match n with
  |0=>some (0,[])
  |_+1=>
   match s.de i off c (n*z) with
   |some l=>some (n,l)
   |none=>none
 | .string b=>if Nat.beq z 1 then some (b.data.toList.length,ofBytes b.data.toList) else none
 |_=>none
def Hc (s:aq)(z nN:Nat)(zv:Value)(xd:TypeDesc)(y:Value):Option (Nat×List Value):=
 match xd with
 | .int _=>
  match y with
  | .int _ (.ofNat n)=>if Nat.ble (n*nN) 140737488355328&&Nat.ble n 140737488355328&&bP zv&&Nat.beq zv.cells.toList.length z&&Nat.blt 0 z then some (n,bw zv.cells.toList n) else none
  |_=>none
 |_=>dH s z y
def kill (b:jE):jE:={b with low:=b.low+b.cells.length+2}
def gD (P:Program)(s:aq)(ad6 ad7:TypeId)(x y:Value):Option (Value×aq):=
 match P.underlying ad6,P.underlying ad7 with
 |some (.slice e),some xd=>
  match (match xd with
   | .slice _=>true
   | .string=>true
   | .int _=>true
   |_=>false) with
  |false=>none
  |true=>
  match aW P e,fe P e,bW P e with
  |some z,some nN,some zv=>
   match Hc s z nN zv xd y with
   |some (n,new)=>
    match x with
    | .slice a len c=>
     if Nat.ble ((len+n)*nN) 140737488355328&&Nat.ble (len+n) 140737488355328&&Nat.blt 0 z&&new.all aJ&&Nat.beq zv.cells.toList.length z then
      match n with
      |0=>some (x,s)
      |_+1=>
       match a with
       |none=>if Nat.beq len 0&&Nat.beq c 0 then aZ s new n z else none
       |some ⟨i,off,none⟩=>
        match c with
        |0=>if Nat.beq len 0 then aZ s new n z else none
        |_+1=>
         match s.bA i with
         |some b=>
          if b.own&&Nat.ble b.low c&&Nat.beq b.mf z then
           if Nat.beq c (b.cells.length+1)&&Nat.beq off 0&&Nat.beq (len*z) b.cells.length then
            some (.slice a (len+n) ((b.cells++new).length+1),s.put i (.dK {b with cells:=b.cells++new}))
           else
            match s.de i off c (len*z) with
            |some old=>aZ (s.put i (.dK (kill b))) (old++new) (len+n) z
            |none=>none
          else none
         |none=>none
       |_=>none
     else none
    |_=>none
   |none=>none
  |_,_,_=>none
 |_,_=>none
def pY (k:Nat):Value->Option (Nat×Value)
 | .slice a n c=>some (min n k,.slice a (min n k) c)
 | .string b=>some (min b.data.toList.length k,.string ⟨(b.data.toList.take k).toArray⟩)
 |_=>none
def mh (P:Program)(s:aq)(dT:TypeId)(x y:Value):Option (Value×aq):=
 match P.underlying dT,x with
 |some (.slice e),.slice a WY c=>
  match aW P e,pY WY y with
  |some z,some (k,y2)=>
   match k with
   |0=>some (.int .i64 0,s)
   |_+1=>
    match dH s z y2,a with
    |some (k2,new),some ⟨i,off,none⟩=>
     match Nat.beq k2 k,s.storeAt i off c new with
     |true,some t=>some (.int .i64 k,t)
     |_,_=>none
    |_,_=>none
  |_,_=>none
 |_,_=>none
def mV (P:Program)(s:aq)(t:TypeId)(x:Value):Option (Value×aq):=
 match P.underlying t,x with
 |some (.slice _),.slice none _ _=>some (undef,s)
 |some (.slice e),.slice (some ⟨i,off,none⟩) n c=>
  match n with
  |0=>some (undef,s)
  |m+1=>
   match aW P e,bW P e with
   |some z,some zv=>
    if bP zv&&Nat.beq zv.cells.toList.length z&&Nat.blt 0 z then
     match s.storeAt i off c (bw zv.cells.toList (m+1)) with
     |some s' =>some (undef,s')
     |none=>none
    else none
   |_,_=>none
 |_,_=>none
def bh (P:Program)(s:aq)(t:TypeId)(x:Value):Option Value:=
 match P.underlying t,x with
 |some .string,.string b=>some (.int .i64 b.data.toList.length)
 |some (.array n _),_=>some (.int .i64 n)
 |some (.slice _),.slice _ n _=>some (.int .i64 n)
 |some (.map _ _),.map none=>some (.int .i64 0)
 |some (.map _ _),.map (some r)=>
  match s.dp r with
  |some es=>some (.int .i64 es.length)
  |none=>none
 |_,_=>none
def WZ:Value->Value->Option Value
 | .int k x,.int _ y=>some (.int k (if y<x then y else x))
 |_,_=>none
def W0:Value->Value->Option Value
 | .int k x,.int _ y=>some (.int k (if y>x then y else x))
 |_,_=>none
def EO (g:Value->Value->Option Value):Value->List Value->Option Value
 |x,[]=>some x
 |x,y::r=>
  match g x y with
  |some v=>EO g v r
  |none=>none
def yP (P:Program)(t:TypeId)(a b:Value):Option Bool:=
 match P.underlying t,a,b with
 |some (.int _),.int k x,.int k' y=>if k=k' then some (x==y) else none
 |some .string,.string x,.string y=>some (x.data.toList==y.data.toList)
 |_,_,_=>none
def AV (P:Program)(t:TypeId)(k:Value):List (Value×Value)->Option (Option Value)
 |[]=>some none
 |(k',v)::r=>
  match yP P t k k' with
  |some true=>some (some v)
  |some false=>AV P t k r
  |none=>none
def LU (P:Program)(t:TypeId)(k v:Value):List (Value×Value)->Option (List (Value×Value))
 |[]=>some [(k,v)]
 |(k',v')::r=>
  match yP P t k k' with
  |some true=>some ((k',v)::r)
  |some false=>
   match LU P t k v r with
   |some l=>some ((k',v')::l)
   |none=>none
  |none=>none
def jn (P:Program)(t:TypeId)(k:Value):Bool:=
 match P.underlying t,k with
 |some (.int _),.int _ _=>true
 |some .string,.string _=>true
 |_,_=>false
def mo (P:Program)(s:aq)(t:TypeId)(m k:Value)(ok:Bool):Option Value:=
 match P.underlying t with
 |some (.map kt et)=>
  match bW P et,jn P kt k with
  |some z,true=>
   if bP z then
    match (match m with
     | .map none=>some none
     | .map (some r)=>
      match s.dp r with
      |some es=>AV P kt k es
      |none=>none
     |_=>none) with
    |some (some v)=>some (if ok then .tuple #[v,.bool true] else v)
    |some none=>some (if ok then .tuple #[z,.bool false] else z)
    |none=>none
   else none
  |_,_=>none
 |_=>none
def fy (P:Program)(s:aq)(t:TypeId)(m k v:Value):Option aq:=
 match P.underlying t,m with
 |some (.map kt _),.map (some r)=>
  match s.dp r,jn P kt k with
  |some es,true=>
   match LU P kt k v es with
   |some l=>some (s.put r (.map l))
   |none=>none
  |_,_=>none
 |_,_=>none
def AW (P:Program)(t:TypeId):Nat:=
 match P.underlying t with
 |some (.array _ e)=>
  match aW P e with
  |some z=>z
  |none=>0
 |_=>0
inductive AR where
 |val (v:Value) (s:aq)
 |call (f:FuncId) (args:List Value)
def oW (s:aq):Option Value->Option AR
 |some v=>some (.val v s)
 |none=>none
def nO:Option (Value×aq)->Option AR
 |some (v,s)=>some (.val v s)
 |none=>none
def AY:Option aq->Option AR
 |some s=>some (.val undef s)
 |none=>none
def ae (f:aT):List (Nat×Operand)->Option (List (Nat×Value))
 |[]=>some []
 |(i,x)::r=>
  match aO f x,ae f r with
  |some v,some l=>some ((i,v)::l)
  |_,_=>none
def ai (f:aT):Option Operand->Option (Option Value)
 |none=>some none
 |some x=>
  match aO f x with
  |some v=>some (some v)
  |none=>none
def iP (P:Program)(s:aq)(b:Builtin)(ts:List TypeId)(args:List Value):Option AR:=
 match b,ts,args with
 | .len,t::_,x::_=>oW s (bh P s t x)
 | .append,t::u::_,x::y::_=>nO (gD P s t u x y)
 | .copy,t::_,x::y::_=>nO (mh P s t x y)
 | .clear,t::_,x::_=>nO (mV P s t x)
 | .min,_,x::r=>oW s (EO WZ x r)
 | .max,_,x::r=>oW s (EO W0 x r)
 |_,_,_=>none
def cM (P:Program)(o:Oper)(f:aT)(s:aq):Option AR:=
 match o.op with
 | .move x=>oW s (aO f x)
 | .assign x=>oW s (aO f x)
 | .pick c a b=>
  match aO f c,aO f a,aO f b with
  |some (.bool t),some u,some v=>some (.val (if t then u else v) s)
  |_,_,_=>none
 | .alloc e=>
  match bW P e with
  |some z=>if bP z then nO (eR s z.cells.toList (AW P e)) else none
  |none=>none
 | .box e x=>
  match aO f x with
  |some v=>nO (eR s v.cells.toList (AW P e))
  |none=>none
 | .build t ps=>
  match ae f ps.toList with
  |some l=>oW s (cE P t l)
  |none=>none
 | .buildSlice t n ps=>
  match ae f ps.toList with
  |some l=>nO (aL P s t n l)
  |none=>none
 | .load t x=>
  match aO f x with
  |some a=>oW s (aR P s t a)
  |none=>none
 | .store t x y=>
  match aO f x,aO f y with
  |some a,some v=>AY (dE P s t a v)
  |_,_=>none
 | .nilCheck x=>
  match aO f x with
  |some (.pointer (some a))=>some (.val (.pointer (some a)) s)
  |some (.func (.func g) arv bs)=>some (.val (.func (.func g) arv bs) s)
  |_=>none
 | .binOp op t x y _=>
  match aO f x,aO f y with
  |some u,some v=>oW s (cI P op t u v)
  |_,_=>none
 | .unOp op _ x=>
  match aO f x with
  |some u=>oW s (Ze op u)
  |none=>none
 | .convert a b x=>
  match aO f x with
  |some u=>nO (fW P s a b u)
  |none=>none
 | .makeFunc (.func g) arv bs=>
  match ad f arv.toList,ad f bs.toList with
  |some l,some m=>some (.val (.func (.func g) l.toArray m.toArray) s)
  |_,_=>none
 | .makeInterface t x=>
  match P.underlying t,aO f x with
  |some (.interface _),_=>none
  |some _,some v=>some (.val (.iface t v) s)
  |_,_=>none
 | .makeMap _ none=>if s.room then some (.val (.map (some s.next)) (s.new (.map []))) else none
 | .makeSlice t x y=>
  match aO f x,aO f y with
  |some u,some v=>nO (eS P s t u v)
  |_,_=>none
 | .slice t x lo hi mx=>
  match aO f x,ai f lo,ai f hi,ai f mx with
  |some u,some l,some h,some m=>oW s (du P s t u l h m)
  |_,_,_,_=>none
 | .fieldAddr t x i=>
  match aO f x with
  |some u=>oW s (ay P t u i)
  |none=>none
 | .field t x i=>
  match aO f x with
  |some u=>oW s (AU P t u i)
  |none=>none
 | .indexAddr t x y=>
  match aO f x,aO f y with
  |some u,some v=>oW s (bQ P t u v)
  |_,_=>none
 | .index t x y=>
  match aO f x,aO f y with
  |some u,some v=>oW s (rC P t u v)
  |_,_=>none
 | .lookup t x y ok=>
  match aO f x,aO f y with
  |some u,some v=>oW s (mo P s t u v ok)
  |_,_=>none
 | .mapUpdate t x y z=>
  match aO f x,aO f y,aO f z with
  |some m,some k,some v=>AY (fy P s t m k v)
  |_,_,_=>none
 | .extract x i=>
  match aO f x with
  |some u=>oW s (ba u i)
  |none=>none
 | .call c=>
  match ad f c.args.toList with
  |some args=>
   match c.callee with
   | .builtin b=>iP P s b c.argTypes.toList args
   | .value x=>
    match aO f x with
    |some (.func (.func g) arv bs)=>some (.call g (arv.toList++args++bs.toList))
    |_=>none
   |_=>none
  |none=>none
 |_=>none
def aM (P:Program)(o:Oper):Bool:=
 match o.op with
 | .move _| .assign _| .pick _ _ _| .build _ _| .load _ _| .nilCheck _| .binOp _ _ _ _ _| .unOp _ _ _| .makeFunc _ _ _| .makeInterface _ _
 | .slice _ _ _ _ _| .fieldAddr _ _ _| .field _ _ _| .indexAddr _ _ _| .index _ _ _| .lookup _ _ _ _| .extract _ _=>true
 | .convert _ b _=>
  match P.underlying b with
  |some (.slice _)=>false
  |_=>true
 | .call c=>
  match c.callee with
  | .builtin .len| .builtin .min| .builtin .max=>true
  |_=>false
 |_=>false
def iQ (P:Program)(src dst:TypeId):Bool:=
 match P.underlying src,P.underlying dst with
 |some .string,some (.slice _)=>true
 |_,_=>false
def aK (P:Program)(o:Oper):Bool:=
 match o.op with
 | .alloc _| .box _ _| .buildSlice _ _ _| .makeSlice _ _ _=>true
 | .convert a b _=>iQ P a b
 |_=>false
def bd (P:Program)(o:Oper):Bool:= !aM P o&& !aK P o
inductive AX where
 |normal
 |exit (id:Nat)
 |ret
abbrev Out:=Option (AX×aT×aq)
def pZ (ops:List Oper)(f:aT)(j:Nat):Option Bool:=
 match ops.drop j with
 |o::_=>
  match o.dst with
  |some d=>
   if Nat.blt d f.n then
    match f.get d with
    | .bool b=>some b
    |_=>none
   else none
  |none=>none
 |[]=>none
def cK (ops:List Oper)(o:Oper)(f:aT):Bool:=
 match o.guard with
 |none=>true
 |some (j,want)=>
  match pZ ops f j with
  |some b=>b==want
  |none=>false
def kr (f:aT)(d:Option Tmp)(v:Value):Option aT:=
 match d with
 |some t=>if Nat.blt t f.n then some (f.put t v) else none
 |none=>some f
def fJ (P:Program)(call:FuncId->List Value->aq->Option (Value×aq))(all:List Oper):List Oper->aT->aq->Option (aT×aq)
 |[],f,s=>some (f,s)
 |o::r,f,s=>
  if cK all o f then
   match cM P o f s with
   |some (.val v s')=>
    match kr f o.dst v with
    |some f' =>fJ P call all r f' s'
    |none=>none
   |some (.call g args)=>
    match call g args s with
    |some (v,s')=>
     match kr f o.dst v with
     |some f' =>fJ P call all r f' s'
     |none=>none
    |none=>none
   |none=>none
  else
   match kr f o.dst undef with
   |some f' =>fJ P call all r f' s
   |none=>none
def cW:List Nat->Nat->Nat
 |[],_=>0
 |x::_,0=>x
 |_::r,n+1=>cW r n
def p5 (acc:List Nat):List Edge->Nat->Nat
 |[],m=>m
 |e::r,m=>p5 acc r (if Region.binds .any e then m|||2^e.on|||cW acc e.on else m)
def cq:List Oper->List Nat->List Nat
 |[],acc=>acc
 |o::r,acc=>cq r (acc++[p5 acc o.after.toList 0])
def xE (ops:List Oper)(o:Oper):List Nat:=
 (o.op.operands.toList.filterMap fun| .tmp t=>some t|_=>none)++
 (match o.guard with
  |some (j,_)=>
   match ops.drop j with
   |p::_=>p.dst.toList
   |[]=>[]
  |none=>[])
def Qe (l:List Nat)(d:Option Tmp):Bool:=
 match d with
 |some t=>l.any (Nat.beq t)
 |none=>false
def mq (P:Program)(ops:List Oper)(x y:Oper):Bool:=
 bd P x&&bd P y||Qe (xE ops y) x.dst||Qe (xE ops x) y.dst||Qe x.dst.toList y.dst
def rD (P:Program)(ops:List Oper):Bool:=
 let ms:=cq ops []
 ops.zipIdx.all fun y=>
  (y.1.after.toList.all fun e=> !Region.binds .any e||Nat.blt e.on y.2)&&
  ops.zipIdx.all fun x=> !(Nat.blt x.2 y.2&&mq P ops x.1 y.1)||Nat.testBit (cW ms y.2) x.2
inductive Ev where
 |skip
 |quiet (v:Value)
 |made (v:Value) (id:Nat) (b:jE)
 |DV (v:Value) (s:aq)
def Ev.val:Ev->Value
 | .skip=>undef
 | .quiet v=>v
 | .made v _ _=>v
 | .DV v _=>v
def fill (p:Nat->Bool):aq->List (Nat×Nat×jE)->aq
 |s,[]=>s
 |s,(j,id,b)::r=>
  match p j,s.heap.get id with
  |true,none=>fill p (s.put id (.dK b)) r
  |_,_=>fill p s r
def dL (P:Program)(call:FuncId->List Value->aq->Option (Value×aq))(all:List Oper)(m id:Nat)(arv:List (Nat×Nat×jE))(o:Oper)(f:aT)(T:aq):Option Ev:=
 match cK all o f with
 |false=>some .skip
 |true=>
  match aM P o,aK P o with
  |true,_=>
   match cM P o f (fill (Nat.testBit m) T arv) with
   |some (.val v _)=>some (.quiet v)
   |_=>none
  |false,true=>
   match cM P o f ⟨.nil,id⟩ with
   |some (.val v s1)=>
    match s1.bA id with
    |some b=>some (.made v id b)
    |none=>none
   |_=>none
  |false,false=>
   match cM P o f (fill (Nat.testBit m) T arv) with
   |some (.val v s1)=>some (.DV v s1)
   |some (.call g args)=>
    match call g args (fill (Nat.testBit m) T arv) with
    |some (v,s1)=>some (.DV v s1)
    |none=>none
   |none=>none
def cG (P:Program)(call:FuncId->List Value->aq->Option (Value×aq))(all:List Oper):List Nat->List Oper->Nat->Nat->aT->aq->List (Nat×Nat×jE)->Option (List Ev)
 |m::ms,o::r,i,id,f,T,arv=>
  match dL P call all m id arv o f T with
  |some e=>
   match kr f o.dst e.val with
   |some f' =>
    match cG P call all ms r (i+1) (if aK P o then id+1 else id) f' (match e with| .DV _ s=>s|_=>T) (match e with| .made _ d b=>arv++[(i,d,b)]|_=>arv) with
    |some es=>some (e::es)
    |none=>none
   |none=>none
  |none=>none
 |_,_,_,_,_,_,_=>some []
def madeOf:List Ev->Nat->List (Nat×Nat×jE)
 |[],_=>[]
 | .made _ id b::r,i=>(i,id,b)::madeOf r (i+1)
 |_::r,i=>madeOf r (i+1)
def aF (P:Program):List Oper->List Ev->aq->List aq
 |o::r,e::es,T=>
  match e with
  | .DV _ s=>T::aF P r es s
  |_=>if bd P o then T::aF P r es T else aF P r es T
 |_,_,T=>[T]
def cL:List Oper->List Ev->aT->aT
 |o::r,e::es,f=>
  match kr f o.dst e.val with
  |some f' =>cL r es f'
  |none=>f
 |_,_,f=>f
def countP (p:Nat->Bool)(P:Program):List Oper->Nat->Nat
 |[],_=>0
 |o::r,i=>if bd P o&&p i then countP p P r (i+1)+1 else countP p P r (i+1)
def cN:Value->Value->Bool
 | .bool a,.bool b=>a==b
 | .int k a,.int k' b=>(if k=k' then true else false)&&a==b
 | .string a,.string b=>a.data.toList==b.data.toList
 | .pointer a,.pointer b=>if a=b then true else false
 | .slice a n c,.slice b m d=>(if a=b then true else false)&&Nat.beq n m&&Nat.beq c d
 | .map a,.map b=>if a=b then true else false
 | .nilFunc,.nilFunc=>true
 | .nilIface,.nilIface=>true
 |_,_=>false
def fK:List Value->List Value->Bool
 |[],[]=>true
 |a::r,b::q=>cN a b&&fK r q
 |_,_=>false
def AZ:Value->Value->Bool
 | .agg a,.agg b=>fK a.toList b.toList
 |a,b=>cN a b
def rE:List Value->List Value->Bool
 |[],[]=>true
 |a::r,b::q=>AZ a b&&rE r q
 |_,_=>false
def cf:Value->Value->Bool
 | .agg a,.agg b=>fK a.toList b.toList
 | .tuple a,.tuple b=>rE a.toList b.toList
 | .func (.func g) arv bs,.func (.func g') On Oo=>Nat.beq g g' &&fK arv.toList On.toList&&fK bs.toList Oo.toList
 |a,b=>cN a b
def sameAt (P:Program)(m:Nat)(arv:List (Nat×Nat×jE))(o:Oper)(f:aT)(v:Value):List aq->Bool
 |[]=>true
 |T::r=>
  match cM P o f (fill (Nat.testBit m) T arv) with
  |some (.val u _)=>cf v u&&sameAt P m arv o f v r
  |_=>false
def cr (P:Program)(all:List Oper)(ms:List Nat)(arv:List (Nat×Nat×jE))(oX:List aq):List Nat->List Oper->List Ev->Nat->aT->Bool
 |m::mr,o::r,e::es,i,f=>
  (match e with
   | .quiet v=>sameAt P m arv o f v ((oX.take (countP (fun j=> !Nat.testBit (cW ms j) i) P all 0+1)).drop (countP (Nat.testBit m) P all 0))
   |_=>true)&&
  match kr f o.dst e.val with
  |some f' =>cr P all ms arv oX mr r es (i+1) f'
  |none=>false
 |_,_,_,_,_=>true
def aP (P:Program):List Oper->Nat
 |[]=>0
 |o::r=>if aK P o then aP P r+1 else aP P r
def fj (P:Program)(call:FuncId->List Value->aq->Option (Value×aq))(ops:List Oper)(f:aT)(s:aq):Option (aT×aq):=
 match Nat.ble 0 16000000 with
 |false=>none
 |true=>
  match cG P call ops (cq ops []) ops 0 s.next f ⟨s.heap,s.next+aP P ops⟩ [] with
  |some es=>
   match cr P ops (cq ops []) (madeOf es 0) (aF P ops es ⟨s.heap,s.next+aP P ops⟩) (cq ops []) ops es 0 f with
   |true=>some (cL ops es f,fill (fun _=>true) ((aF P ops es ⟨s.heap,s.next+aP P ops⟩).getLastD s) (madeOf es 0))
   |false=>none
  |none=>none
def cy (P:Program)(f:aT)(s:aq):List ResultVar->Option (List Value)
 |[]=>some []
 | .tmp t::r=>
  if Nat.blt t f.n then
   match cy P f s r with
   |some l=>some (f.get t::l)
   |none=>none
  else none
 | .cell a t::r=>
  if Nat.blt a f.n then
   match aR P s t (f.get a),cy P f s r with
   |some v,some l=>some (v::l)
   |_,_=>none
  else none
def oneOf:List Value->Value
 |[v]=>v
 |l=> .tuple l.toArray
def A0:Tr Value->Nat->List Value->Tr Value
 |t,_,[]=>t
 |t,i,v::r=>A0 (Tr.set (depth i) t i v) (i+1) r
def mW (fn:Func)(args:List Value):aT:=⟨A0 .nil 0 args,args.length+(fn.ntmps-args.length)⟩
abbrev Prim:=List Value->aq->Option (Value×aq)
abbrev az:=List (Nat×Prim)
def az.at (l:az)(g:Nat):Option Prim:=
 match l with
 |[]=>none
 |(h,p)::r=>if Nat.beq h g then some p else az.at r g
def dP (P:Program)(lib:az)(exec:Code->aT->aq->Out)(g:FuncId)(args:List Value)(s:aq):Option (Value×aq):=
 match lib.at g with
 |some p=>p args s
 |none=>
 match P.funcs[g]? with
 |some fn=>
  match fn.body,Nat.ble (args.length+(fn.ntmps-args.length)) 16000000 with
  |some c,true=>
   match exec c (mW fn args) s with
   |some (.normal,f,s')=>
    match cy P f s' fn.results.toList with
    |some l=>some (oneOf l,s')
    |none=>none
   |some (.ret,f,s')=>
    match cy P f s' fn.results.toList with
    |some l=>some (oneOf l,s')
    |none=>none
   |_=>none
  |_,_=>none
 |none=>none
def step (P:Program)(lib:az)(exec:Code->aT->aq->Out)(c:Code)(f:aT)(s:aq):Out:=
 match c with
 | .skip=>some (.normal,f,s)
 | .label _=>some (.normal,f,s)
 | .region _ ops d=>
  match (match d with
   |false=>fJ P (dP P lib exec) ops.toList ops.toList f s
   |true=>fj P (dP P lib exec) ops.toList f s) with
  |some (f',s')=>some (.normal,f',s')
  |none=>none
 | .seq a b=>
  match exec a f s with
  |some (.normal,f',s')=>exec b f' s'
  |r=>r
 | .cond x a b=>
  match aO f x with
  |some (.bool t)=>
   match t with
   |true=>exec a f s
   |false=>exec b f s
  |_=>none
 | .block id a=>
  match exec a f s with
  |some (.exit j,f',s')=>if Nat.beq j id then some (.normal,f',s') else some (.exit j,f',s')
  |r=>r
 | .loop a=>
  match exec a f s with
  |some (.normal,f',s')=>exec (.loop a) f' s'
  |r=>r
 | .exit id=>some (.exit id,f,s)
 | .scope a=>exec a f s
 | .ret=>some (.ret,f,s)
 |_=>none
def exec (P:Program)(lib:az):Nat->Code->aT->aq->Out
 |0=>fun _ _ _=>none
 |n+1=>step P lib (exec P lib n)
def gV (P:Program)(lib:az)(n:Nat)(g:FuncId)(args:List Value)(s:aq):Option (Value×aq):=dP P lib (exec P lib n) g args s
def codeOk (P:Program):Code->Bool
 | .region _ ops true=>rD P ops.toList
 | .seq a b=>codeOk P a&&codeOk P b
 | .cond _ a b=>codeOk P a&&codeOk P b
 | .block _ a=>codeOk P a
 | .loop a=>codeOk P a
 | .scope a=>codeOk P a
 |_=>true
def Qf (P:Program)(lib:az)(g:Nat)(fn:Func):Bool:=
 (fn.name != "runtime.NumGoroutine")&&
 ((lib.at g).isSome||match fn.body with
   |some c=>codeOk P c
   |none=>true)
def A1 (P:Program)(lib:az):Bool:=
 P.follows .mixedOrders&&(P.funcs.toList.zipIdx.all fun x=>Qf P lib x.2 x.1)
def aq.empty:aq:=⟨.nil,0⟩
def rF:Option (Value×aq)->Bool
 |some (.bool b,_)=>b
 |_=>false
end Go.Cl
namespace Go.Cl
open Go.RowKit
theorem Tr.get_eq {α:Type}(t:Tr α)(i:Nat):t.get i=match i with
  |0=>t.val
  |k+1=>match k%2 with
   |0=>t.left.get (k/2)
   |_+1=>t.right.get (k/2):=by
 cases t with
 |nil=>cases i with
  |zero=>rfl
  |succ k=>simp only[Tr.get,Tr.left,Tr.right];split<;>rfl
 |node v l r=>cases i with
  |zero=>rfl
  |succ k=>rcases Nat.mod_two_eq_zero_or_one k with h|h<;>simp only[Tr.get,Tr.left,Tr.right,h]
theorem Tr.vx {α:Type}(t:Tr α):t.get 0=t.val:=by rw[Tr.get_eq]
theorem Tr.mX {α:Type}(t:Tr α)(k:Nat):t.get (k+1)=match k%2 with
   |0=>t.left.get (k/2)
   |_+1=>t.right.get (k/2):=by rw[Tr.get_eq]
theorem Tr.bp {α:Type}:∀(f:Nat) (t:Tr α) (i:Nat) (u:α),i+1<2^f->(Tr.set f t i u).get i=some u:=by
 intro f
 induction f with
 |zero=>intro t i u h;simp at h
 |succ f ih=>
  intro t i u h
  cases i with
  |zero=>rfl
  |succ k=>
   have hk:k/2+1<2^f:=by rw[Nat.pow_succ] at h;omega
   rw[Tr.mX]
   rcases Nat.mod_two_eq_zero_or_one k with hm|hm
   ·simp only[Tr.set,hm,Tr.left];exact ih _ _ _ hk
   ·simp only[Tr.set,hm,Tr.right];exact ih _ _ _ hk
theorem Tr.bZ {α:Type}:∀(f:Nat) (t:Tr α) (i j:Nat) (u:α),i≠j->(Tr.set f t i u).get j=t.get j:=by
 intro f
 induction f with
 |zero=>intro t i j u h;rfl
 |succ f ih=>
  intro t i j u h
  cases i with
  |zero=>
   cases j with
   |zero=>exact absurd rfl h
   |succ m=>rw[Tr.mX,Tr.mX];simp only[Tr.set,Tr.left,Tr.right]
  |succ k=>
   rcases Nat.mod_two_eq_zero_or_one k with hm|hm
   ·simp only[Tr.set,hm]
    cases j with
    |zero=>rw[Tr.vx,Tr.vx];rfl
    |succ m=>
     rw[Tr.mX,Tr.mX]
     rcases Nat.mod_two_eq_zero_or_one m with hn|hn
     ·simp only[hn,Tr.left];exact ih _ _ _ _ (by omega)
     ·simp only[hn,Tr.right]
   ·simp only[Tr.set,hm]
    cases j with
    |zero=>rw[Tr.vx,Tr.vx];rfl
    |succ m=>
     rw[Tr.mX,Tr.mX]
     rcases Nat.mod_two_eq_zero_or_one m with hn|hn
     ·simp only[hn,Tr.left]
     ·simp only[hn,Tr.right];exact ih _ _ _ _ (by omega)
theorem deep {i:Nat}(_:0<16000001):i+1<2^depth i:=by unfold depth;exact Nat.lt_log2_self
theorem aq.b9 (s:aq)(i:Nat)(b:jE)(h:0<16000001):(s.put i (.dK b)).bA i=some b:=by
 simp only[aq.bA,aq.put,Tr.bp _ s.heap i _ (deep h)]
theorem aq.bD (s:aq)(i j:Nat)(o:AO)(h:i≠j):(s.put i o).heap.get j=s.heap.get j:=by
 simp only[aq.put,Tr.bZ _ s.heap i j o h]
structure Emb where
 loc:Nat->Nat->Nat×Nat
 mp:Nat->Nat
structure St where
 s:aq
 e:Emb
 w:World
def tK (S:St)(i off c:Nat)(a:Addr):Prop:=
 ∃b,S.s.bA i=some b/\c<=b.cells.length+1/\(b.low<=c->a=⟨(S.e.loc i c).1,(S.e.loc i c).2+off,none⟩)
def IU (S:St)(i c:Nat)(a:Addr)(cap:Nat):Prop:=
 ∀b,S.s.bA i=some b->b.low<=c->∃(arr:Array Value) (E:TypeId) (fr:Nat×Nat),S.w.heap[a.block]?=some (.cells arr E fr)/\a.off+cap*b.mf<=arr.size
inductive VR (S:St):Value->Value->Prop
 |bool (b:Bool):VR S (.bool b) (.bool b)
 |int (k:IntKind) (n:Int):VR S (.int k n) (.int k n)
 |string (x:ByteArray):VR S (.string x) (.string x)
 |LV:VR S (.pointer none) (.pointer none)
 |ptr (i off c:Nat) (a:Addr) (h:tK S i off c a):VR S (.pointer (some ⟨i,off,some c⟩)) (.pointer (some a))
 |gq:VR S (.slice none 0 0) (.slice none 0 0)
 |slice (i off len c:Nat) (a:Addr) (cap:Nat) (h0:len<=cap) (hz:c=0->cap=0) (h:0<cap->tK S i off c a/\IU S i c a cap):
  VR S (.slice (some ⟨i,off,none⟩) len c) (.slice (some a) len cap)
 |LW:VR S (.map none) (.map none)
 |map (r:Nat) (h:∃es,S.s.dp r=some es):VR S (.map (some r)) (.map (some (S.e.mp r)))
 |nilFunc:VR S .nilFunc .nilFunc
 |nilIface:VR S .nilIface .nilIface
 |func (g:FuncId) (arv bs On Oo:Array Value) (ha:arv.toList.length=On.toList.length) (hb:bs.toList.length=Oo.toList.length)
  (h1:∀i,i<arv.toList.length->VR S (arv.toList.getD i undef) (On.toList.getD i undef)) (h2:∀i,i<bs.toList.length->VR S (bs.toList.getD i undef) (Oo.toList.getD i undef)):
  VR S (.func (.func g) arv bs) (.func (.func g) On Oo)
 |agg (cs iE:Array Value) (h1:cs.toList.length=iE.toList.length) (h2:∀i,i<cs.toList.length->VR S (cs.toList.getD i undef) (iE.toList.getD i undef)):VR S (.agg cs) (.agg iE)
 |unk (n:Int):VR S (.chan none) (.int .u8 n)
 |raw (b o:Nat):VR S (.pointer (some ⟨b,o,none⟩)) (.pointer (some ⟨b,o,none⟩))
 |iface (t:TypeId) (v v' :Value) (h:VR S v v'):VR S (.iface t v) (.iface t v')
 |tuple (cs iE:Array Value) (h1:cs.toList.length=iE.toList.length) (h2:∀i,i<cs.toList.length->VR S (cs.toList.getD i undef) (iE.toList.getD i undef)):VR S (.tuple cs) (.tuple iE)
def er (S:St)(l l' :List Value):Prop:=l.length=l'.length/\∀i,i<l.length->VR S (l.getD i undef) (l'.getD i undef)
theorem VR.rG (S:St):VR S undef undef:=VR.tuple #[] #[] rfl (fun i h=>by simp at h)
theorem er.nil {S:St}:er S [] []:=⟨rfl,fun i h=>by simp at h⟩
theorem er.cons {S:St}{v v' :Value}{l l' :List Value}(h:VR S v v')(hl:er S l l'):er S (v::l) (v' ::l'):=by
 refine⟨by simp[hl.1],fun i hi=> ?_⟩
 cases i with
 |zero=>simpa using h
 |succ k=>simpa using hl.2 k (by simpa using hi)
theorem er.cons_inv {S:St}{v:Value}{l l' :List Value}(h:er S (v::l) l'):∃v' r',l' =v' ::r' /\VR S v v' /\er S l r' :=by
 cases l' with
 |nil=>have:=h.1;simp at this
 |cons v' r' =>
  refine⟨v',r',rfl,by simpa using h.2 0 (by simp),by simpa using h.1,fun i hi=>by simpa using h.2 (i+1) (by simpa using hi)⟩
theorem er.jq {S:St}{l' :List Value}(h:er S [] l'):l' =[]:=by
 have:=h.1
 cases l' with
 |nil=>rfl
 |cons _ _=>simp at this
theorem er.append {S:St}{l l' m m' :List Value}(h:er S l l')(hm:er S m m'):er S (l++m) (l' ++m'):=by
 induction l generalizing l' with
 |nil=>rw[h.jq];exact hm
 |cons v l ih=>
  obtain⟨v',r',rfl,h1,h2⟩:=h.cons_inv
  exact er.cons h1 (ih h2)
theorem er.toList {S:St}{cs iE:Array Value}(h:er S cs.toList iE.toList):VR S (.agg cs) (.agg iE):= .agg _ _ h.1 h.2
theorem er.agg {S:St}{l l' :List Value}(h:er S l l'):VR S (.agg l.toArray) (.agg l'.toArray):= .agg _ _ (by simpa using h.1) (by simpa using h.2)
theorem er.tuple {S:St}{l l' :List Value}(h:er S l l'):VR S (.tuple l.toArray) (.tuple l'.toArray):= .tuple _ _ (by simpa using h.1) (by simpa using h.2)
structure Ext (S T:St):Prop where
 dK:∀i b,S.s.bA i=some b->∃b',T.s.bA i=some b' /\b.cells.length<=b'.cells.length/\b.low<=b'.low/\b'.mf=b.mf/\∀c,c<=b.cells.length+1->b'.low<=c->T.e.loc i c=S.e.loc i c
 map:∀r es,S.s.dp r=some es->(∃fz,T.s.dp r=some fz)/\T.e.mp r=S.e.mp r
 arr:∀(k:Nat) (arr:Array Value) (E:TypeId) (fr:Nat×Nat),S.w.heap[k]?=some (.cells arr E fr)->∃(jP:Array Value) (LX:Nat×Nat),T.w.heap[k]?=some (.cells jP E LX)/\jP.size=arr.size
theorem Ext.refl (S:St):Ext S S:=
 ⟨fun _ b h=>⟨b,h,Nat.le_refl _,Nat.le_refl _,rfl,fun _ _ _=>rfl⟩,fun _ es h=>⟨⟨es,h⟩,rfl⟩,fun _ arr _ fr h=>⟨arr,fr,h,rfl⟩⟩
theorem Ext.trans {S T U:St}(h:Ext S T)(k:Ext T U):Ext S U:=by
 refine⟨fun i b hb=> ?_,fun r es hr=> ?_,fun n arr E fr hn=> ?_⟩
 ·obtain⟨b1,h1,h2,h3,h4,h5⟩:=h.dK i b hb
  obtain⟨b2,k1,k2,k3,k4,k5⟩:=k.dK i b1 h1
  exact⟨b2,k1,by omega,by omega,by rw[k4,h4],fun c hc hl=>(k5 c (by omega) hl).trans (h5 c hc (by omega))⟩
 ·obtain⟨⟨IE,h1⟩,h2⟩:=h.map r es hr
  obtain⟨h3,h4⟩:=k.map r IE h1
  exact⟨h3,h4.trans h2⟩
 ·obtain⟨a1,f1,h1,h2⟩:=h.arr n arr E fr hn
  obtain⟨a2,f2,k1,k2⟩:=k.arr n a1 E f1 h1
  exact⟨a2,f2,k1,k2.trans h2⟩
theorem tK.mono {S T:St}(h:Ext S T){i off c:Nat}{a:Addr}(hr:tK S i off c a):tK T i off c a:=by
 obtain⟨b,hb,hc,hl⟩:=hr
 obtain⟨b',h1,h2,h3,_,h5⟩:=h.dK i b hb
 exact⟨b',h1,by omega,fun iS=>by rw[h5 c hc iS];exact hl (by omega)⟩
theorem IU.mono {S T:St}(h:Ext S T){i c:Nat}{a:Addr}{cap:Nat}(hs:∃b,S.s.bA i=some b)(hr:IU S i c a cap):IU T i c a cap:=by
 intro b' oT W1
 obtain⟨b,hb⟩:=hs
 obtain⟨b1,h1,h2,h3,h4,_⟩:=h.dK i b hb
 rw[oT] at h1
 obtain rfl:=Option.some.inj h1
 obtain⟨arr,E,fr,ha,b6⟩:=hr b hb (by omega)
 obtain⟨jP,LX,ha',SP⟩:=h.arr _ _ _ _ ha
 exact⟨jP,E,LX,ha',by rw[h4,SP];exact b6⟩
theorem VR.mono {S T:St}(h:Ext S T){v v' :Value}(hv:VR S v v'):VR T v v' :=by
 induction hv with
 |bool b=>exact .bool b
 |int k n=>exact .int k n
 |string x=>exact .string x
 |LV=>exact .LV
 |ptr i off c a hr=>exact .ptr i off c a (hr.mono h)
 |gq=>exact .gq
 |slice i off len c a cap h0 hz hr=>
  refine .slice i off len c a cap h0 hz fun hc=> ?_
  obtain⟨ou,gr⟩:=hr hc
  exact⟨ou.mono h,gr.mono h (by obtain⟨b,hb,_⟩:=ou;exact⟨b,hb⟩)⟩
 |LW=>exact .LW
 |map r hr=>
  obtain⟨es,Au⟩:=hr
  obtain⟨h1,h2⟩:=h.map r es Au
  rw[<-h2]
  exact .map r h1
 |nilFunc=>exact .nilFunc
 |nilIface=>exact .nilIface
 |func g arv bs On Oo ha hb _ _ ih1 ih2=>exact .func g arv bs On Oo ha hb ih1 ih2
 |agg cs iE h1 _ ih=>exact .agg cs iE h1 ih
 |unk n=>exact .unk n
 |raw b o=>exact .raw b o
 |iface t v v' _ ih=>exact .iface t v v' ih
 |tuple cs iE h1 _ ih=>exact .tuple cs iE h1 ih
theorem er.mono {S T:St}(h:Ext S T){l l' :List Value}(hv:er S l l'):er T l l' :=⟨hv.1,fun i hi=>(hv.2 i hi).mono h⟩
def ER (S:St):List (Value×Value)->List MapEntry->Prop
 |[],[]=>True
 |(k,v)::r,e::r' =>e.key=k/\VR S v e.val/\ER S r r'
 |_,_=>False
theorem ER.mono {S T:St}(h:Ext S T):∀{l:List (Value×Value)} {l' :List MapEntry},ER S l l' ->ER T l l'
 |[],[],_=>trivial
 |(_,_)::_,_::_,hv=>⟨hv.1,hv.2.1.mono h,ER.mono h hv.2.2⟩
 |[],_::_,hv=>hv
 |_::_,[],hv=>hv
def Live (b:jE)(c:Nat):Prop:=b.low<=c/\c<=b.cells.length+1
structure SR (base:Nat) (S:St):Prop where
 room:0<=16000000
 bound:∀i o,S.s.heap.get i=some o->i<S.s.next
 low:∀i b,S.s.bA i=some b->1<=b.low
 cell:∀i b,S.s.bA i=some b->∀c,Live b c->∀p,p+1<c->∃v,S.w.cell? ⟨(S.e.loc i c).1,(S.e.loc i c).2+p,none⟩=some v/\VR S (b.cells.getD p undef) v
 own:∀i b,S.s.bA i=some b->b.own=true->∀c,Live b c->
  base<=(S.e.loc i c).1/\(∃(arr:Array Value) (E:TypeId) (fr:Nat×Nat),S.w.heap[(S.e.loc i c).1]?=some (.cells arr E fr)/\(fr.1=fr.2\/arr.size<=fr.1))/\
  (∀j b',S.s.bA j=some b' ->∀c',Live b' c' ->(S.e.loc j c').1=(S.e.loc i c).1->j=i)/\
  ∀c',Live b c' ->(S.e.loc i c').1=(S.e.loc i c).1->S.e.loc i c' =S.e.loc i c
 map:∀r es,S.s.dp r=some es->base<=S.e.mp r/\∃(fz:Array MapEntry) (qY:Nat),S.w.heap[S.e.mp r]?=some (.map fz qY)/\ER S es fz.toList
 Hd:∀r r' es fz,S.s.dp r=some es->S.s.dp r' =some fz->S.e.mp r=S.e.mp r' ->r=r'
 size:base<=S.w.heap.size
 He:∀i b,S.s.bA i=some b->∀c,Live b c->(S.e.loc i c).1<S.w.heap.size
structure Good (base:Nat) (S T:St):Prop where
 sr:SR base T
 ext:Ext S T
 below:Below base S.w T.w
theorem Good.refl {base:Nat}{S:St}(h:SR base S):Good base S S:=⟨h,Ext.refl S,Below.refl _ _⟩
theorem Good.trans {base:Nat}{S T U:St}(h:Good base S T)(k:Good base T U):Good base S U:=⟨k.sr,h.ext.trans k.ext,h.below.trans k.below⟩
theorem SR.lt {base:Nat}{S:St}(h:SR base S){i:Nat}{b:jE}(hb:S.s.bA i=some b):i<S.s.next:=by
 unfold aq.bA at hb
 split at hb
 ·exact h.bound i _ ‹_›
 ·cases hb
theorem SR.mlt {base:Nat}{S:St}(h:SR base S){i:Nat}{b:List (Value×Value)}(hb:S.s.dp i=some b):i<S.s.next:=by
 unfold aq.dp at hb
 split at hb
 ·exact h.bound i _ ‹_›
 ·cases hb
theorem jF {s:aq}{i:Nat}{b:jE}{es:List (Value×Value)}(hb:s.bA i=some b)(he:s.dp i=some es):False:=by
 unfold aq.bA at hb
 unfold aq.dp at he
 split at hb
 ·rename_i h;rw[h] at he;cases he
 ·cases hb
theorem SR.change {base:Nat}{S:St}(h:SR base S)(i L next:Nat)(b' :jE)(jU:Nat->Nat->Nat×Nat)(w' :World)
  (hi:i<next) (hn:S.s.next<=next) (hr:0<=16000000) (IF:i<S.s.next\/i+1=next)
  (aiz:∀es,S.s.dp i≠some es)
  (ad9:1<=b'.low)
  (hold:∀b,S.s.bA i=some b->b.cells.length<=b'.cells.length/\b.low<=b'.low/\b'.mf=b.mf/\∀c,c<=b.cells.length+1->b'.low<=c->jU i c=S.e.loc i c)
  (ow:∀j,j≠i->jU j=S.e.loc j)
  (hw:∀k,k≠L->k<S.w.heap.size->w'.heap[k]?=S.w.heap[k]?)
  (hL:∀j bj c,j≠i->S.s.bA j=some bj->Live bj c->(S.e.loc j c).1≠L)
  (hLm:∀r es,S.s.dp r=some es->S.e.mp r≠L)
  (aiA:∀c,Live b' c->(jU i c).1<w'.heap.size)
  (iz:∀c,Live b' c->∀p,p+1<c->∃v,w'.cell? ⟨(jU i c).1,(jU i c).2+p,none⟩=some v/\VR S (b'.cells.getD p undef) v)
  (ky:b'.own=true->∀c,Live b' c->base<=(jU i c).1/\(∃(arr:Array Value) (E:TypeId) (fr:Nat×Nat),w'.heap[(jU i c).1]?=some (.cells arr E fr)/\(fr.1=fr.2\/arr.size<=fr.1))/\
   (∀j bj,j≠i->S.s.bA j=some bj->∀c',Live bj c' ->(S.e.loc j c').1≠(jU i c).1)/\
   ∀c',Live b' c' ->(jU i c').1=(jU i c).1->jU i c' =jU i c)
  (LZ:∀j bj,j≠i->S.s.bA j=some bj->bj.own=true->∀c',Live bj c' ->∀c,Live b' c->(jU i c).1≠(S.e.loc j c').1)
  (aaC:∀(arr:Array Value) (E:TypeId) (fr:Nat×Nat),S.w.heap[L]?=some (.cells arr E fr)->∃(jP:Array Value) (LX:Nat×Nat),w'.heap[L]?=some (.cells jP E LX)/\jP.size=arr.size)
  (mY:Below base S.w w') (b6:S.w.heap.size<=w'.heap.size):
  Good base S ⟨⟨Tr.set (depth i) S.s.heap i (.dK b'),next⟩,⟨jU,S.e.mp⟩,w'⟩:=by
 have jV:∀j,j≠i->(Tr.set (depth i) S.s.heap i (.dK b')).get j=S.s.heap.get j:=fun j hj=>Tr.bZ _ _ _ _ _ (Ne.symm hj)
 have IV:(Tr.set (depth i) S.s.heap i (.dK b')).get i=some (.dK b'):=Tr.bp _ _ _ _ (deep (by omega))
 have gF:(⟨Tr.set (depth i) S.s.heap i (.dK b'),next⟩:aq).bA i=some b' :=by simp only[aq.bA,IV]
 have nI:∀j,j≠i->(⟨Tr.set (depth i) S.s.heap i (.dK b'),next⟩:aq).bA j=S.s.bA j:=fun j hj=>by simp only[aq.bA,jV j hj]
 have SA:∀j,j≠i->(⟨Tr.set (depth i) S.s.heap i (.dK b'),next⟩:aq).dp j=S.s.dp j:=fun j hj=>by simp only[aq.dp,jV j hj]
 have hmi:(⟨Tr.set (depth i) S.s.heap i (.dK b'),next⟩:aq).dp i=none:=by simp only[aq.dp,IV]
 have aea:∀(k:Nat) (arr:Array Value) (E:TypeId) (fr:Nat×Nat),S.w.heap[k]?=some (.cells arr E fr)->∃(jP:Array Value) (LX:Nat×Nat),w'.heap[k]?=some (.cells jP E LX)/\jP.size=arr.size:=by
  intro k arr E fr hk
  by_cases hkL:k=L
  ·subst hkL;exact aaC arr E fr hk
  ·have bc:k<S.w.heap.size:=by
    rcases Nat.lt_or_ge k S.w.heap.size with h' |h'
    ·exact h'
    ·rw[Array.getElem?_eq_none h'] at hk;cases hk
   exact⟨arr,fr,by rw[hw k hkL bc];exact hk,rfl⟩
 have lK:Ext S ⟨⟨Tr.set (depth i) S.s.heap i (.dK b'),next⟩,⟨jU,S.e.mp⟩,w'⟩:=by
  refine⟨fun j b hb=> ?_,fun r es he=> ?_,aea⟩
  ·by_cases hj:j=i
   ·subst hj
    obtain⟨h1,h2,h3,h4⟩:=hold b hb
    exact⟨b',gF,h1,h2,h3,h4⟩
   ·exact⟨b,by rw[<-hb];exact nI j hj,Nat.le_refl _,Nat.le_refl _,rfl,fun c _ _=>by show jU j c=_;rw[ow j hj]⟩
  ·have DW:r≠i:=fun e=>aiz es (e▸he)
   exact⟨⟨es,by rw[<-he];exact SA r DW⟩,rfl⟩
 refine⟨⟨hr,?_,?_,?_,?_,?_,?_,Nat.le_trans h.size mY.size,?_⟩,lK,mY⟩
 ·intro j o hj
  by_cases gz:j=i
  ·show j<next;omega
  ·have Ww:(Tr.set (depth i) S.s.heap i (.dK b')).get j=some o:=hj
   rw[jV j gz] at Ww
   have:=h.bound j o Ww
   show j<next;omega
 ·intro j b hb
  by_cases gz:j=i
  ·subst gz;rw[gF] at hb;obtain rfl:=Option.some.inj hb;exact ad9
  ·rw[nI j gz] at hb;exact h.low j b hb
 ·intro j b hb c hc p hp
  by_cases gz:j=i
  ·subst gz
   rw[gF] at hb;obtain rfl:=Option.some.inj hb
   obtain⟨v,h1,h2⟩:=iz c hc p hp
   exact⟨v,h1,h2.mono lK⟩
  ·rw[nI j gz] at hb
   obtain⟨v,h1,h2⟩:=h.cell j b hb c hc p hp
   refine⟨v,?_,h2.mono lK⟩
   show w'.cell? ⟨(jU j c).1,(jU j c).2+p,none⟩=some v
   rw[ow j gz,<-h1]
   exact World.cell?_of_block (hw _ (hL j b c gz hb hc) (h.He j b hb c hc))
 ·intro j b hb Ly c hc
  by_cases gz:j=i
  ·subst gz
   rw[gF] at hb;obtain rfl:=Option.some.inj hb
   obtain⟨h1,h2,h3,h5⟩:=ky Ly c hc
   refine⟨h1,h2,fun k bk hk c' gG hEq=> ?_,h5⟩
   by_cases hkj:k=j
   ·exact hkj
   ·rw[nI k hkj] at hk
    exact absurd (by have:(jU k c').1=(jU j c).1:=hEq;rwa [ow k hkj] at this) (h3 k bk hkj hk c' gG)
  ·rw[nI j gz] at hb
   obtain⟨h1,⟨arr,E,fr,h2,Zf⟩,h3,h5⟩:=h.own j b hb Ly c hc
   have ck:=hL j b c gz hb hc
   have bc:(S.e.loc j c).1<S.w.heap.size:=by
    rcases Nat.lt_or_ge (S.e.loc j c).1 S.w.heap.size with h' |h'
    ·exact h'
    ·rw[Array.getElem?_eq_none h'] at h2;cases h2
   refine⟨by show base<=(jU j c).1;rw[ow j gz];exact h1,⟨arr,E,fr,?_,Zf⟩,fun k bk hk c' gG hEq=> ?_,by show∀c',Live b c' ->(jU j c').1=(jU j c).1->jU j c' =jU j c;rw[ow j gz];exact h5⟩
   ·show w'.heap[(jU j c).1]?=_
    rw[ow j gz,hw _ ck bc];exact h2
   ·have A3:(jU k c').1=(jU j c).1:=hEq
    rw[ow j gz] at A3
    by_cases SQ:k=i
    ·subst SQ
     rw[gF] at hk;obtain rfl:=Option.some.inj hk
     exact absurd A3 (LZ j b gz hb Ly c hc c' gG)
    ·rw[nI k SQ] at hk
     rw[ow k SQ] at A3
     exact h3 k bk hk c' gG A3
 ·intro r es he
  have DW:r≠i:=fun e=>by subst e;rw[hmi] at he;cases he
  rw[SA r DW] at he
  obtain⟨h1,fz,qY,h2,h3⟩:=h.map r es he
  have bc:S.e.mp r<S.w.heap.size:=by
   rcases Nat.lt_or_ge (S.e.mp r) S.w.heap.size with h' |h'
   ·exact h'
   ·rw[Array.getElem?_eq_none h'] at h2;cases h2
  exact⟨h1,fz,qY,by show w'.heap[S.e.mp r]?=_;rw[hw _ (hLm r es he) bc];exact h2,h3.mono lK⟩
 ·intro r r' es fz he Ad hEq
  have DW:r≠i:=fun e=>by subst e;rw[hmi] at he;cases he
  have Hf:r' ≠i:=fun e=>by subst e;rw[hmi] at Ad;cases Ad
  rw[SA r DW] at he
  rw[SA r' Hf] at Ad
  exact h.Hd r r' es fz he Ad hEq
 ·intro j b hb c hc
  by_cases gz:j=i
  ·subst gz
   rw[gF] at hb;obtain rfl:=Option.some.inj hb
   exact aiA c hc
  ·rw[nI j gz] at hb
   show(jU j c).1<w'.heap.size
   rw[ow j gz]
   exact Nat.lt_of_lt_of_le (h.He j b hb c hc) b6
end Go.Cl
namespace Go.Cl
open Go.RowKit
theorem vy:∀(n:Nat) (l:List Value),takeN n l=if n<=l.length then some (l.take n) else none:=by
 intro n
 induction n with
 |zero=>intro l;simp[takeN]
 |succ n ih=>
  intro l
  cases l with
  |nil=>simp[takeN]
  |cons v r=>
   simp only[takeN,ih,List.length_cons,Nat.add_le_add_iff_right,List.take_succ_cons]
   by_cases h:n<=r.length<;>simp[h]
theorem rH:∀(n:Nat) (l:List Value),yO n l=l.drop n:=by
 intro n
 induction n with
 |zero=>intro l;cases l<;>simp[yO]
 |succ n ih=>intro l;cases l with
  |nil=>simp[yO]
  |cons v r=>simp[yO,ih]
theorem uu:∀(l:List Value) (off:Nat) (vs r:List Value),setAt l off vs=some r->
  r.length=l.length/\(vs=[]\/off+vs.length<=l.length)/\∀p,r.getD p undef=if off<=p/\p<off+vs.length then vs.getD (p-off) undef else l.getD p undef:=by
 intro l
 induction l with
 |nil=>
  intro off vs r h
  cases vs with
  |nil=>simp only[setAt] at h;obtain rfl:=Option.some.inj h;exact⟨rfl,.inl rfl,fun p=>by rw[if_neg (by simp)]⟩
  |cons v vs=>simp[setAt] at h
 |cons c l ih=>
  intro off vs r h
  cases vs with
  |nil=>simp only[setAt] at h;obtain rfl:=Option.some.inj h;exact⟨rfl,.inl rfl,fun p=>by rw[if_neg (by simp)]⟩
  |cons v vs=>
   cases off with
   |zero=>
    simp only[setAt] at h
    split at h
    ·rename_i m hm
     obtain rfl:=Option.some.inj h
     obtain⟨h1,h2,h3⟩:=ih 0 vs m hm
     refine⟨by simp[h1],.inr ?_,fun p=> ?_⟩
     ·rcases h2 with rfl|h2
      ·simp
      ·simp;omega
     ·cases p with
      |zero=>simp
      |succ p=>
       have:=h3 p
       simp only[Nat.zero_le,true_and,Nat.zero_add,Nat.sub_zero,List.getD_cons_succ,List.length_cons,Nat.add_lt_add_iff_right] at this|-
       exact this
    ·cases h
   |succ n=>
    simp only[setAt] at h
    split at h
    ·rename_i m hm
     obtain rfl:=Option.some.inj h
     obtain⟨h1,h2,h3⟩:=ih n (v::vs) m hm
     refine⟨by simp[h1],.inr ?_,fun p=> ?_⟩
     ·rcases h2 with h2|h2
      ·cases h2
      ·simp at h2|-;omega
     ·cases p with
      |zero=>rw[if_neg (by omega)];simp
      |succ p=>
       have:=h3 p
       simp only[List.getD_cons_succ]
       rw[this]
       by_cases hc:n<=p/\p<n+(v::vs).length
       ·rw[if_pos hc,if_pos (by omega),show p+1-(n+1)=p-n by omega]
       ·rw[if_neg hc,if_neg (by omega)]
    ·cases h
def xF (w:World)(k o n:Nat):List Value:=(List.range n).map fun p=>(w.cell? ⟨k,o+p,none⟩).getD undef
theorem IW (w:World)(k o n:Nat):(xF w k o n).length=n:=by simp[xF]
theorem xG (w:World)(k o n p:Nat)(h:p<n):(xF w k o n).getD p undef=(w.cell? ⟨k,o+p,none⟩).getD undef:=by
 simp[xF,List.getD_eq_getElem?_getD,h]
theorem Qg (w:World)(k o n:Nat):xF w k o (n+1)=(w.cell? ⟨k,o,none⟩).getD undef::xF w k (o+1) n:=by
 simp only[xF,List.range_succ_eq_map,List.map_cons,List.map_map,Nat.add_zero]
 congr 1
 apply List.map_congr_left
 intro p _
 simp only[Function.comp,Nat.succ_eq_add_one]
 rw[show o+(p+1)=o+1+p by omega]
theorem run_loadCellsFrom (P:Program)(w:World)(k o:Nat):∀(n i:Nat) (acc:Array Value),(∀p,p<n->∃v,w.cell? ⟨k,o+i+p,none⟩=some v)->
  (loadCellsFrom ⟨k,o,none⟩ i n acc).run P w= .ok (acc++(xF w k (o+i) n).toArray) w:=by
 intro n
 induction n with
 |zero=>intro i acc _;simp[loadCellsFrom,xF]
 |succ n ih=>
  intro i acc h
  obtain⟨v,hv⟩:=h 0 (by omega)
  simp only[Nat.add_zero] at hv
  have:=ih (i+1) (acc.push v) (fun p hp=>by have:=h (p+1) (by omega);rwa [show o+i+(p+1)=o+(i+1)+p by omega] at this)
  simp only[loadCellsFrom,Sem.run_bind,run_load,Addr.add_lit,hv,Result.andThen_ok,this,Qg,Option.getD_some]
  congr 1
  rw[<-Array.toList_inj]
  simp[Nat.add_assoc]
theorem run_loadCells (P:Program)(w:World)(k o n:Nat)(h:∀p,p<n->∃v,w.cell? ⟨k,o+p,none⟩=some v):
  (loadCells ⟨k,o,none⟩ n).run P w= .ok (xF w k o n).toArray w:=by
 have:=run_loadCellsFrom P w k o n 0 #[] (by simpa using h)
 simpa [loadCells] using this
def setCells (w:World)(k o:Nat):List Value->World
 |[]=>w
 |v::r=>setCells (w.setCell ⟨k,o,none⟩ v) k (o+1) r
theorem tL (w:World)(k o:Nat)(v:Value)(arr:Array Value)(E:TypeId)(fr:Nat×Nat)(h:w.heap[k]?=some (.cells arr E fr)):
  (w.setCell ⟨k,o,none⟩ v).heap[k]?=some (.cells (arr.setIfInBounds o v) E fr):=by
 simp only[World.setCell,Array.getElem?_modify,if_true,h]
 rfl
theorem bX (w:World)(k o:Nat)(arr:Array Value)(E:TypeId)(fr:Nat×Nat)(h:w.heap[k]?=some (.cells arr E fr)):
  w.cell? ⟨k,o,none⟩=arr[o]?:=by simp[World.cell?,h]
theorem tM {w:World}{k o:Nat}{v:Value}(h:w.cell? ⟨k,o,none⟩=some v):∃(arr:Array Value) (E:TypeId) (fr:Nat×Nat),w.heap[k]?=some (.cells arr E fr)/\arr[o]?=some v:=by
 unfold World.cell? at h
 split at h
 ·rename_i c E fr hk
  exact⟨c,E,fr,hk,by simpa using h⟩
 ·cases h
theorem dQ {w:World}{k:Nat}{o:Obj}(h:w.heap[k]?=some o):k<w.heap.size:=by
 rcases Nat.lt_or_ge k w.heap.size with h' |h'
 ·exact h'
 ·rw[Array.getElem?_eq_none h'] at h;cases h
theorem fA:∀(vs:List Value) (w:World) (k o:Nat),(setCells w k o vs).heap.size=w.heap.size
 |[],_,_,_=>rfl
 |v::r,w,k,o=>by rw[setCells,fA r];simp
theorem jG:∀(vs:List Value) (w:World) (k o j:Nat),j≠k->(setCells w k o vs).heap[j]?=w.heap[j]?
 |[],_,_,_,_,_=>rfl
 |v::r,w,k,o,j,h=>by rw[setCells,jG r _ _ _ _ h];exact Below.heap_setCell _ _ _ _ h
theorem jW:∀(vs:List Value) (w:World) (k o B:Nat),B<=k->Below B w (setCells w k o vs)
 |[],w,_,_,B,_=>Below.refl B w
 |v::r,w,k,o,B,h=>((Below.refl B w).setCell (p:=⟨k,o,none⟩) h v).trans (jW r _ k (o+1) B h)
theorem gW:∀(vs:List Value) (w:World) (k o:Nat) (arr:Array Value) (E:TypeId) (fr:Nat×Nat),w.heap[k]?=some (.cells arr E fr)->o+vs.length<=arr.size->
  ∃jP,(setCells w k o vs).heap[k]?=some (.cells jP E fr)/\jP.size=arr.size/\∀p,jP[p]?=if o<=p/\p<o+vs.length then some (vs.getD (p-o) undef) else arr[p]?:=by
 intro vs
 induction vs with
 |nil=>intro w k o arr E fr h _;exact⟨arr,h,rfl,fun p=>by rw[if_neg (by simp)]⟩
 |cons v r ih=>
  intro w k o arr E fr h hle
  simp only[List.length_cons] at hle
  obtain⟨jP,h1,h2,h3⟩:=ih (w.setCell ⟨k,o,none⟩ v) k (o+1) _ E fr (tL w k o v arr E fr h) (by simp;omega)
  refine⟨jP,h1,by simpa using h2,fun p=> ?_⟩
  rw[h3 p]
  by_cases hp:o+1<=p/\p<o+1+r.length
  ·rw[if_pos hp,if_pos (by simp;omega),show p-o=(p-(o+1))+1 by omega,List.getD_cons_succ]
  ·rw[if_neg hp]
   by_cases hpo:p=o
   ·subst hpo
    rw[if_pos (by simp),Array.getElem?_setIfInBounds_self_of_lt (by omega),Nat.sub_self,List.getD_cons_zero]
   ·rw[if_neg (by simp;omega),Array.getElem?_setIfInBounds_ne (by omega)]
theorem A4 {v:Value}(h:aJ v=true):v.oneCell' =true:=by cases v<;>simp_all[aJ,Value.oneCell']
theorem jX (P:Program)(k o:Nat):∀(vs:List Value) (w:World) (i:Nat) (arr:Array Value) (E:TypeId) (fr:Nat×Nat),w.heap[k]?=some (.cells arr E fr)->
  (fr.1=fr.2\/arr.size<=fr.1)->o+i+vs.length<=arr.size->(∀v∈vs,aJ v=true)->(storeCells ⟨k,o,none⟩ vs i).run P w= .ok () (setCells w k (o+i) vs):=by
 intro vs
 induction vs with
 |nil=>intro w i arr E fr _ _ _ _;simp[storeCells,setCells]
 |cons v r ih=>
  intro w i arr E fr h oz hle dF
  simp only[List.length_cons] at hle
  have hc:w.cell? ⟨k,o+i,none⟩=some arr[o+i]:=by rw[bX w k _ arr E fr h];simp
  have hfz:w.frozen? ⟨k,o+i,none⟩=false:=by
   simp only[World.frozen?,h]
   rcases oz with h1|h1
   ·rw[Bool.and_eq_false_iff];simp;omega
   ·rw[Bool.and_eq_false_iff];simp;omega
  have aD:(store ⟨k,o+i,none⟩ v).run P w= .ok () (w.setCell ⟨k,o+i,none⟩ v):=by
   rw[run_store P w _ v .plain (A4 (dF v (by simp)))]
   simp[hc,hfz]
  have:=ih (w.setCell ⟨k,o+i,none⟩ v) (i+1) _ E fr (tL w k (o+i) v arr E fr h) (by simpa using oz) (by simp;omega) (fun u hu=>dF u (by simp[hu]))
  simp only[storeCells,Sem.run_bind,Addr.add_lit,aD,Result.andThen_ok,this,setCells,Nat.add_assoc]
theorem VR.aJ {S:St}{v v' :Value}(h:VR S v v'):aJ v=aJ v' :=by cases h<;>rfl
theorem er.aJ {S:St}{l l' :List Value}(h:er S l l')(dF:l.all aJ=true):∀v∈l',aJ v=true:=by
 induction l generalizing l' with
 |nil=>rw[h.jq];simp
 |cons v l ih=>
  obtain⟨v',r',rfl,h1,h2⟩:=h.cons_inv
  simp only[List.all_cons,Bool.and_eq_true] at dF
  intro u hu
  rcases List.mem_cons.1 hu with rfl|hu
  ·rw[<-h1.aJ];exact dF.1
  ·exact ih h2 dF.2 u hu
theorem VR.cells {S:St}{v v' :Value}(h:VR S v v'):er S v.cells.toList v'.cells.toList:=by
 cases h with
 |agg cs iE h1 h2=>exact⟨h1,h2⟩
 |raw b o=>exact er.cons (.raw b o) er.nil
 |unk n=>exact er.cons (.unk n) er.nil
 |iface t v v' h=>exact er.cons (.iface t v v' h) er.nil
 |_=>exact er.cons (by first|assumption|(constructor<;>assumption)|constructor) er.nil
theorem W3 {b:jE}{c n:Nat}(h:(Nat.ble b.low c&&Nat.ble c (b.cells.length+1)&&Nat.blt n c)=true):Live b c/\n<c:=by
 simp only[Bool.and_eq_true,Nat.ble_eq,Nat.blt_eq] at h
 exact⟨⟨h.1.1,h.1.2⟩,h.2⟩
theorem A5 (l:List Value)(o n p:Nat)(h:p<n):((l.drop o).take n).getD p undef=l.getD (o+p) undef:=by
 simp[List.getD_eq_getElem?_getD,h]
theorem SR.cells {base:Nat}{S:St}(h:SR base S){i off c n:Nat}{l:List Value}(hc:S.s.de i off c n=some l):
  ∃b,S.s.bA i=some b/\Live b c/\off+n<c/\l=(b.cells.drop off).take n/\l.length=n/\er S l (xF S.w (S.e.loc i c).1 ((S.e.loc i c).2+off) n)/\
   ∀p,p<n->∃v,S.w.cell? ⟨(S.e.loc i c).1,(S.e.loc i c).2+off+p,none⟩=some v:=by
 unfold aq.de at hc
 split at hc
 ·rename_i b hb
  split at hc
  ·rename_i gX
   obtain⟨eT,bc⟩:=W3 gX
   rw[vy,rH] at hc
   split at hc
   ·rename_i hn
    obtain rfl:=Option.some.inj hc
    have xH:((b.cells.drop off).take n).length=n:=by rw[List.length_take];omega
    have iz:∀p,p<n->∃v,S.w.cell? ⟨(S.e.loc i c).1,(S.e.loc i c).2+off+p,none⟩=some v/\VR S (b.cells.getD (off+p) undef) v:=fun p hp=>by
     have:=h.cell i b hb c eT (off+p) (by omega)
     rwa [<-Nat.add_assoc] at this
    refine⟨b,hb,eT,bc,rfl,xH,⟨by rw[xH,IW],fun p hp=> ?_⟩,fun p hp=>(iz p hp).imp fun _ h=>h.1⟩
    rw[xH] at hp
    obtain⟨v,h1,h2⟩:=iz p hp
    rw[xG _ _ _ _ _ hp,h1,A5 _ _ _ _ hp]
    exact h2
   ·cases hc
  ·cases hc
 ·cases hc
theorem vz {s:aq}(_:s.room=true):0<16000000:=by omega
theorem SR.fresh {base:Nat}{S:St}(h:SR base S):S.s.bA S.s.next=none/\S.s.dp S.s.next=none:=by
 constructor
 ·cases hb:S.s.bA S.s.next with
  |none=>rfl
  |some b=>have:=h.lt hb;omega
 ·cases hb:S.s.dp S.s.next with
  |none=>rfl
  |some b=>have:=h.mlt hb;omega
theorem SR.Oq {base:Nat}{S:St}(h:SR base S){r:Nat}{es:List (Value×Value)}(hr:S.s.dp r=some es):S.e.mp r<S.w.heap.size:=by
 obtain⟨_,fz,qY,h1,_⟩:=h.map r es hr
 exact dQ h1
structure kz (w w' :World) (o:Obj):Prop where
 heap:w'.heap=w.heap.push o
 os:w'.os=w.os
 tape:w'.tape=w.tape
 output:w'.output=w.output
theorem kz.old {w w' :World}{o:Obj}(h:kz w w' o)(k:Nat)(hk:k<w.heap.size):w'.heap[k]?=w.heap[k]?:=by
 rw[h.heap,Array.getElem?_push,if_neg (by omega)]
theorem kz.new {w w' :World}{o:Obj}(h:kz w w' o):w'.heap[w.heap.size]?=some o:=by
 rw[h.heap,Array.getElem?_push,if_pos rfl]
theorem kz.size {w w' :World}{o:Obj}(h:kz w w' o):w'.heap.size=w.heap.size+1:=by rw[h.heap];simp
theorem kz.below {w w' :World}{o:Obj}{B:Nat}(h:kz w w' o)(hB:B<=w.heap.size):Below B w w' :=
 ⟨h.os,h.tape,h.output,by rw[h.size];omega,fun k hk=>h.old k (by omega)⟩
structure mu (S:St) (id next:Nat):Prop where
 free:S.s.heap.get id=none
 lt:id<next
 le:S.s.next<=next
 room:0<=16000000
 known:id<S.s.next\/id+1=next
theorem mu.dK {S:St}{id next:Nat}(h:mu S id next):S.s.bA id=none:=by simp only[aq.bA,h.free]
theorem mu.map {S:St}{id next:Nat}(h:mu S id next):S.s.dp id=none:=by simp only[aq.dp,h.free]
theorem mu.self {base:Nat}{S:St}(h:SR base S)(hr:S.s.room=true):mu S S.s.next (S.s.next+1):=by
 have bc:=vz hr
 refine⟨?_,by omega,by omega,by omega,.inr rfl⟩
 cases hg:S.s.heap.get S.s.next with
 |none=>rfl
 |some o=>have:=h.bound _ _ hg;omega
def St.rI (S:St)(id next:Nat)(b:jE)(W:World):St:=⟨⟨Tr.set (depth id) S.s.heap id (.dK b),next⟩,⟨fun j c=>if j=id then(S.w.heap.size,0) else S.e.loc j c,S.e.mp⟩,W⟩
theorem Good.SS {base:Nat}{S:St}(h:SR base S){id next:Nat}(eI:mu S id next)(cs:List Value)(mf:Nat)(arr:Array Value)(E:TypeId)(fr:Nat×Nat)(W:World)
  (hW:kz S.w W (.cells arr E fr)) (oz:fr.1=fr.2\/arr.size<=fr.1) (hle:cs.length<=arr.size) (hv:∀p,p<cs.length->VR S (cs.getD p undef) (arr.toList.getD p undef)):
  Good base S (S.rI id next ⟨cs,1,true,mf⟩ W):=by
 refine SR.change h id S.w.heap.size next ⟨cs,1,true,mf⟩ _ W eI.lt eI.le eI.room eI.known (fun es he=>by rw[eI.map] at he;cases he) (Nat.le_refl _)
  (fun b hb=>by rw[eI.dK] at hb;cases hb) (fun j hj=>by funext c;rw[if_neg hj]) (fun k _ hk=>hW.old k hk)
  (fun j bj c _ hj hc=>Nat.ne_of_lt (h.He j bj hj c hc)) (fun r es he=>Nat.ne_of_lt (h.Oq he)) (fun c _=>by simp only[if_true];rw[hW.size];omega) ?_ ?_ ?_ ?_
  (hW.below h.size) (by rw[hW.size];omega)
 ·intro c hc p hp
  simp only[if_true,Nat.zero_add]
  have oY:p<cs.length:=by have:=hc.2;simp only at this;omega
  have SU:p<arr.size:=by omega
  refine⟨arr.toList.getD p undef,?_,hv p oY⟩
  rw[bX W _ _ arr E fr hW.new]
  simp[List.getD_eq_getElem?_getD,SU]
 ·intro _ c _
  simp only[if_true]
  exact⟨h.size,⟨arr,E,fr,hW.new,oz⟩,fun j bj _ hj c' gG=>Nat.ne_of_lt (h.He j bj hj c' gG),by intros;first|rfl|trivial⟩
 ·intro j bj _ hj _ c' gG c _
  simp only[if_true]
  exact fun e=>absurd (h.He j bj hj c' gG) (by omega)
 ·intro arr E fr hk
  exact absurd (dQ hk) (by omega)
theorem St.A6 {S:St}{id next:Nat}(eI:mu S id next)(b:jE)(W:World):(S.rI id next b W).s.bA id=some b:=by
 simp only[St.rI,aq.bA,Tr.bp _ _ _ _ (deep (show 0<16000001 by have:=eI.lt;have:=eI.room;omega))]
theorem St.A7 {S:St}{id next:Nat}(eI:mu S id next)(b:jE)(W:World)(off c:Nat)(hc:c<=b.cells.length+1):tK (S.rI id next b W) id off c ⟨S.w.heap.size,off,none⟩:=
 ⟨b,St.A6 eI b W,hc,fun _=>by simp[St.rI]⟩
theorem St.L0 {S:St}{id next:Nat}(eI:mu S id next)(b:jE)(W:World)(o c cap:Nat)(arr:Array Value)(E:TypeId)(fr:Nat×Nat)(hW:kz S.w W (.cells arr E fr))(oZ:o+cap*b.mf<=arr.size):
  IU (S.rI id next b W) id c ⟨S.w.heap.size,o,none⟩ cap:=by
 intro b' oT _
 rw[St.A6 eI b W] at oT
 obtain rfl:=Option.some.inj oT
 exact⟨arr,E,fr,hW.new,oZ⟩
theorem Good.store {base:Nat}{S:St}(h:SR base S){i off c:Nat}{b:jE}(hb:S.s.bA i=some b)(ho:b.own=true)(hc:Live b c)(DX:c=b.cells.length+1){vs Ot l:List Value}
  (hl:setAt b.cells off vs=some l) (hv:er S vs Ot) (ck:vs≠[]):
  Good base S ⟨S.s.put i (.dK {b with cells:=l,low:=c}),S.e,setCells S.w (S.e.loc i c).1 ((S.e.loc i c).2+off) Ot⟩/\
  ∃(arr:Array Value) (E:TypeId) (fr:Nat×Nat),S.w.heap[(S.e.loc i c).1]?=some (.cells arr E fr)/\(fr.1=fr.2\/arr.size<=fr.1)/\(S.e.loc i c).2+off+Ot.length<=arr.size:=by
 obtain⟨xH,L1,jV⟩:=uu _ _ _ _ hl
 have anY:off+vs.length<=b.cells.length:=L1.resolve_left ck
 have Hg:Ot.length=vs.length:=hv.1.symm
 obtain⟨tE,⟨arr,E,fr,fx,nJ⟩,xx,_⟩:=h.own i b hb ho c hc
 have Hh:0<vs.length:=List.length_pos_iff.2 ck
 have kA:(S.e.loc i c).2+off+Ot.length<=arr.size:=by
  obtain⟨v,h1,_⟩:=h.cell i b hb c hc (off+vs.length-1) (by omega)
  rw[bX _ _ _ _ _ _ fx] at h1
  have:=(Array.getElem?_eq_some_iff.1 h1).1
  omega
 obtain⟨jP,Ou,W4,ha3⟩:=gW Ot S.w _ _ arr E fr fx kA
 refine⟨?_,arr,E,fr,fx,nJ,kA⟩
 have A8:∀c',Live {b with cells:=l,low:=c} c' ->c' =c:=fun c' gG=>by
  have h1:=gG.1;have h2:=gG.2;simp only[xH] at h1 h2;omega
 refine SR.change h i (S.e.loc i c).1 S.s.next {b with cells:=l,low:=c} S.e.loc _ (h.lt hb) (Nat.le_refl _) h.room (.inl (h.lt hb)) (fun es he=>jF hb he) (by show 1<=c;omega) ?_ (fun _ _=>rfl)
  (fun k hk _=>jG _ _ _ _ _ hk) (fun j bj c' hj qZ gG e=>hj (xx j bj qZ c' gG e)) ?_ ?_ ?_ ?_ ?_ ?_ (jW _ _ _ _ _ tE) (by rw[fA];exact Nat.le_refl _)
 ·intro b0 uv
  rw[hb] at uv;obtain rfl:=Option.some.inj uv
  exact⟨by simp[xH],hc.1,rfl,fun _ _ _=>rfl⟩
 ·intro r es he e
  obtain⟨_,fz,qY,h2,_⟩:=h.map r es he
  rw[e,fx] at h2;cases h2
 ·intro c' gG;rw[A8 c' gG,fA];exact h.He i b hb c hc
 ·intro c' gG p hp
  obtain rfl:=A8 c' gG
  simp only
  rw[bX _ _ _ _ _ _ Ou,ha3,jV p]
  by_cases rJ:off<=p/\p<off+vs.length
  ·rw[if_pos rJ,if_pos (by omega),show(S.e.loc i c').2+p-((S.e.loc i c').2+off)=p-off by omega]
   exact⟨_,rfl,hv.2 (p-off) (by omega)⟩
  ·rw[if_neg rJ,if_neg (by omega),<-bX _ _ _ _ _ _ fx]
   exact h.cell i b hb c' hc p hp
 ·intro _ c' gG
  obtain rfl:=A8 c' gG
  exact⟨tE,⟨jP,E,fr,Ou,by rw[W4];exact nJ⟩,fun j bj hj qZ c1 iT e=>hj (xx j bj qZ c1 iT e),fun c1 iT _=>by rw[A8 c1 iT]⟩
 ·intro j bj hj qZ Ly c1 iT c' gG e
  obtain rfl:=A8 c' gG
  exact hj (xx j bj qZ c1 iT e.symm)
 ·intro Qh E0 fr0 hk
  rw[fx] at hk
  injection hk with hk;injection hk with e1 e2 e3
  subst e1;subst e2
  exact⟨jP,fr,Ou,W4⟩
end Go.Cl
namespace Go.Cl
open Go.RowKit
theorem dR (l m:List Value)(p:Nat)(h:p<l.length):(l++m).getD p undef=l.getD p undef:=by
 simp[List.getD_eq_getElem?_getD,List.getElem?_append,h]
theorem jY (l m:List Value)(p:Nat)(h:l.length<=p):(l++m).getD p undef=m.getD (p-l.length) undef:=by
 simp[List.getD_eq_getElem?_getD,List.getElem?_append,Nat.not_lt.2 h]
theorem Good.SV {base:Nat}{S:St}(h:SR base S){i c:Nat}{b:jE}(hb:S.s.bA i=some b)(ho:b.own=true)(hc:Live b c)(DX:c=b.cells.length+1){new new' :List Value}
  (hv:er S new new') {arr:Array Value} {E:TypeId} {fr:Nat×Nat} (ha:S.w.heap[(S.e.loc i c).1]?=some (.cells arr E fr)) (kA:(S.e.loc i c).2+b.cells.length+new'.length<=arr.size):
  Good base S ⟨S.s.put i (.dK {b with cells:=b.cells++new}),⟨fun j c' =>if j=i/\c<c' then S.e.loc i c else S.e.loc j c',S.e.mp⟩,setCells S.w (S.e.loc i c).1 ((S.e.loc i c).2+b.cells.length) new'⟩:=by
 obtain⟨tE,⟨Qh,E0,fr0,fx,nJ⟩,xx,Zg⟩:=h.own i b hb ho c hc
 rw[ha] at fx
 injection fx with fx;injection fx with e1 e2 e3
 subst e1;subst e2;subst e3
 have Hg:new'.length=new.length:=hv.1.symm
 obtain⟨jP,Ou,W4,ha3⟩:=gW new' S.w _ _ arr E fr ha kA
 have ow:∀c',(if i=i/\c<c' then S.e.loc i c else S.e.loc i c')=if c<c' then S.e.loc i c else S.e.loc i c' :=fun c' =>by simp
 have ky:∀c',Live {b with cells:=b.cells++new} c' ->¬c<c' ->Live b c' :=fun c' gG bc=>⟨gG.1,by omega⟩
 refine SR.change h i (S.e.loc i c).1 S.s.next {b with cells:=b.cells++new} _ _ (h.lt hb) (Nat.le_refl _) h.room (.inl (h.lt hb)) (fun es he=>jF hb he) (h.low i b hb) ?_
  (fun j hj=>by funext c';rw[if_neg (by simp[hj])]) (fun k hk _=>jG _ _ _ _ _ hk) (fun j bj c' hj qZ gG e=>hj (xx j bj qZ c' gG e)) ?_ ?_ ?_ ?_ ?_ ?_ (jW _ _ _ _ _ tE)
  (by rw[fA];exact Nat.le_refl _)
 ·intro b0 uv
  rw[hb] at uv;obtain rfl:=Option.some.inj uv
  exact⟨by simp,Nat.le_refl _,rfl,fun c' gG _=>by rw[if_neg (by omega)]⟩
 ·intro r es he e
  obtain⟨_,fz,qY,h2,_⟩:=h.map r es he
  rw[e,ha] at h2;cases h2
 ·intro c' gG
  rw[ow,fA]
  by_cases bc:c<c'
  ·rw[if_pos bc];exact h.He i b hb c hc
  ·rw[if_neg bc];exact h.He i b hb c' (ky c' gG bc)
 ·intro c' gG p hp
  have oY:p<b.cells.length+new.length:=by have:=gG.2;simp only[List.length_append] at this;omega
  simp only[true_and]
  by_cases bc:c<c'
  ·rw[if_pos bc,bX _ _ _ _ _ _ Ou,ha3]
   by_cases rJ:p<b.cells.length
   ·rw[if_neg (by omega),dR _ _ _ rJ,<-bX _ _ _ _ _ _ ha]
    exact h.cell i b hb c hc p (by omega)
   ·rw[if_pos (by omega),jY _ _ _ (by omega),show(S.e.loc i c).2+p-((S.e.loc i c).2+b.cells.length)=p-b.cells.length by omega]
    exact⟨_,rfl,hv.2 (p-b.cells.length) (by omega)⟩
  ·rw[if_neg bc]
   have IG:=ky c' gG bc
   have rJ:p<b.cells.length:=by omega
   obtain⟨v,h1,h2⟩:=h.cell i b hb c' IG p hp
   rw[dR _ _ _ rJ]
   refine⟨v,?_,h2⟩
   by_cases hcc:c' =c
   ·subst hcc
    rw[bX _ _ _ _ _ _ Ou,ha3,if_neg (by omega),<-bX _ _ _ _ _ _ ha];exact h1
   ·by_cases nI:(S.e.loc i c').1=(S.e.loc i c).1
    ·have vA:=Zg c' IG nI
     rw[vA] at h1|-
     rw[bX _ _ _ _ _ _ Ou,ha3,if_neg (by omega),<-bX _ _ _ _ _ _ ha];exact h1
    ·rw[<-h1];exact World.cell?_of_block (jG _ _ _ _ _ nI)
 ·intro _ c' gG
  rw[ow]
  by_cases bc:c<c'
  ·rw[if_pos bc]
   refine⟨tE,⟨jP,E,fr,Ou,by rw[W4];exact nJ⟩,fun j bj hj qZ c1 iT e=>hj (xx j bj qZ c1 iT e),fun c1 iT=> ?_⟩
   rw[ow]
   by_cases uw:c<c1
   ·rw[if_pos uw];exact fun _=>rfl
   ·rw[if_neg uw];exact Zg c1 (ky c1 iT uw)
  ·rw[if_neg bc]
   obtain⟨h1,⟨L2,E1,fr1,h2,h3⟩,h4,h5⟩:=h.own i b hb ho c' (ky c' gG bc)
   refine⟨h1,?_,fun j bj hj qZ c1 iT e=>hj (h4 j bj qZ c1 iT e),fun c1 iT=> ?_⟩
   case refine_2=>
    rw[ow]
    by_cases uw:c<c1
    ·rw[if_pos uw];exact h5 c hc
    ·rw[if_neg uw];exact h5 c1 (ky c1 iT uw)
   by_cases nI:(S.e.loc i c').1=(S.e.loc i c).1
   ·rw[nI,ha] at h2
    injection h2 with h2;injection h2 with e1 e2 e3
    subst e1;subst e2;subst e3
    exact⟨jP,E,fr,by rw[nI];exact Ou,by rw[W4];exact h3⟩
   ·exact⟨L2,E1,fr1,by rw[jG _ _ _ _ _ nI];exact h2,h3⟩
 ·intro j bj hj qZ Ly c1 iT c' gG e
  rw[ow] at e
  by_cases bc:c<c'
  ·rw[if_pos bc] at e;exact hj (xx j bj qZ c1 iT e.symm)
  ·rw[if_neg bc] at e
   exact hj ((h.own i b hb ho c' (ky c' gG bc)).2.2.1 j bj qZ c1 iT e.symm)
 ·intro Qh E0 fr0 hk
  rw[ha] at hk
  injection hk with hk;injection hk with e1 e2 e3
  subst e1;subst e2
  exact⟨jP,fr,Ou,W4⟩
theorem Good.W5 {base:Nat}{S:St}(h:SR base S){i c:Nat}{b:jE}(hb:S.s.bA i=some b)(ho:b.own=true)(DX:c=b.cells.length+1){new:List Value}
  {arr:Array Value} {E:TypeId} {fr:Nat×Nat} {W:World} (hW:kz S.w W (.cells arr E fr)) (oz:fr.1=fr.2\/arr.size<=fr.1) (hle:b.cells.length+new.length<=arr.size)
  (hv:∀p,p<b.cells.length+new.length->VR S ((b.cells++new).getD p undef) (arr.toList.getD p undef)):
  Good base S ⟨S.s.put i (.dK {b with cells:=b.cells++new}),⟨fun j c' =>if j=i/\c<c' then(S.w.heap.size,0) else S.e.loc j c',S.e.mp⟩,W⟩:=by
 have ow:∀c',(if i=i/\c<c' then(S.w.heap.size,0) else S.e.loc i c')=if c<c' then(S.w.heap.size,0) else S.e.loc i c' :=fun c' =>by simp
 have ky:∀c',Live {b with cells:=b.cells++new} c' ->¬c<c' ->Live b c' :=fun c' gG bc=>⟨gG.1,by omega⟩
 refine SR.change h i S.w.heap.size S.s.next {b with cells:=b.cells++new} _ _ (h.lt hb) (Nat.le_refl _) h.room (.inl (h.lt hb)) (fun es he=>jF hb he) (h.low i b hb) ?_
  (fun j hj=>by funext c';rw[if_neg (by simp[hj])]) (fun k _ hk=>hW.old k hk) (fun j bj c' _ qZ gG=>Nat.ne_of_lt (h.He j bj qZ c' gG)) (fun r es he=>Nat.ne_of_lt (h.Oq he)) ?_ ?_ ?_ ?_ ?_
  (hW.below h.size) (by rw[hW.size];omega)
 ·intro b0 uv
  rw[hb] at uv;obtain rfl:=Option.some.inj uv
  exact⟨by simp,Nat.le_refl _,rfl,fun c' gG _=>by rw[if_neg (by omega)]⟩
 ·intro c' gG
  rw[ow,hW.size]
  by_cases bc:c<c'
  ·rw[if_pos bc];exact Nat.lt_succ_self _
  ·rw[if_neg bc];exact Nat.lt_succ_of_lt (h.He i b hb c' (ky c' gG bc))
 ·intro c' gG p hp
  have oY:p<b.cells.length+new.length:=by have:=gG.2;simp only[List.length_append] at this;omega
  simp only[true_and]
  by_cases bc:c<c'
  ·rw[if_pos bc]
   refine⟨arr.toList.getD p undef,?_,hv p oY⟩
   have SU:p<arr.size:=by omega
   rw[bX W _ _ arr E fr hW.new]
   simp[List.getD_eq_getElem?_getD,SU]
  ·rw[if_neg bc]
   have IG:=ky c' gG bc
   obtain⟨v,h1,h2⟩:=h.cell i b hb c' IG p hp
   rw[dR _ _ _ (by omega)]
   exact⟨v,by rw[<-h1];exact World.cell?_of_block (hW.old _ (h.He i b hb c' IG)),h2⟩
 ·intro _ c' gG
  rw[ow]
  by_cases bc:c<c'
  ·rw[if_pos bc]
   refine⟨h.size,⟨arr,E,fr,hW.new,oz⟩,fun j bj _ qZ c1 iT=>Nat.ne_of_lt (h.He j bj qZ c1 iT),fun c1 iT=> ?_⟩
   rw[ow]
   by_cases uw:c<c1
   ·rw[if_pos uw];exact fun _=>rfl
   ·rw[if_neg uw];exact fun e=>absurd e (Nat.ne_of_lt (h.He i b hb c1 (ky c1 iT uw)))
  ·rw[if_neg bc]
   obtain⟨h1,⟨L2,E1,fr1,h2,h3⟩,h4,h5⟩:=h.own i b hb ho c' (ky c' gG bc)
   refine⟨h1,⟨L2,E1,fr1,by rw[hW.old _ (dQ h2)];exact h2,h3⟩,fun j bj hj qZ c1 iT e=>hj (h4 j bj qZ c1 iT e),fun c1 iT=> ?_⟩
   rw[ow]
   by_cases uw:c<c1
   ·rw[if_pos uw];exact fun e=>absurd e (Ne.symm (Nat.ne_of_lt (dQ h2)))
   ·rw[if_neg uw];exact h5 c1 (ky c1 iT uw)
 ·intro j bj hj qZ Ly c1 iT c' gG e
  rw[ow] at e
  by_cases bc:c<c'
  ·rw[if_pos bc] at e;exact absurd e.symm (Nat.ne_of_lt (h.He j bj qZ c1 iT))
  ·rw[if_neg bc] at e
   exact hj ((h.own i b hb ho c' (ky c' gG bc)).2.2.1 j bj qZ c1 iT e.symm)
 ·intro Qh E0 fr0 hk
  exact absurd (dQ hk) (by omega)
theorem Good.kill {base:Nat}{S:St}(h:SR base S){i:Nat}{b:jE}(hb:S.s.bA i=some b):Good base S ⟨S.s.put i (.dK (Cl.kill b)),S.e,S.w⟩:=by
 have Ov:∀c,¬Live (Cl.kill b) c:=fun c hc=>by have h1:=hc.1;have h2:=hc.2;simp only[Cl.kill] at h1 h2;omega
 refine SR.change h i S.w.heap.size S.s.next (Cl.kill b) S.e.loc S.w (h.lt hb) (Nat.le_refl _) h.room (.inl (h.lt hb)) (fun es he=>jF hb he) (by simp[Cl.kill]) ?_ (fun _ _=>rfl) (fun _ _ _=>rfl)
  (fun j bj c' _ qZ gG=>Nat.ne_of_lt (h.He j bj qZ c' gG)) (fun r es he=>Nat.ne_of_lt (h.Oq he)) (fun c hc=>absurd hc (Ov c)) (fun c hc=>absurd hc (Ov c)) (fun _ c hc=>absurd hc (Ov c))
  (fun _ _ _ _ _ _ _ c hc=>absurd hc (Ov c)) (fun arr E fr hk=>absurd (dQ hk) (by omega)) (Below.refl _ _) (Nat.le_refl _)
 intro b0 uv
 rw[hb] at uv;obtain rfl:=Option.some.inj uv
 exact⟨Nat.le_refl _,by simp only[Cl.kill];omega,rfl,fun _ _ _=>rfl⟩
theorem Good.reuse {base:Nat}{S:St}(h:SR base S)(cY:S.s.room=true){k o:Nat}{arr:Array Value}{E:TypeId}{fr:Nat×Nat}(hk:S.w.heap[k]?=some (.cells arr E fr))(oz:fr.1=fr.2\/arr.size<=fr.1)
  (hb:base<=k) (hex:∀j bj c',S.s.bA j=some bj->Live bj c' ->(S.e.loc j c').1≠k) (mf:Nat) {old new new' :List Value} (hold:∀p,p<old.length->∃v,S.w.cell? ⟨k,o+p,none⟩=some v/\VR S (old.getD p undef) v)
  (hv:er S new new') (kA:o+old.length+new'.length<=arr.size):
  Good base S ⟨S.s.new (.dK ⟨old++new,1,true,mf⟩),⟨fun j c=>if j=S.s.next then(k,o) else S.e.loc j c,S.e.mp⟩,setCells S.w k (o+old.length) new'⟩:=by
 have bc:=vz cY
 obtain⟨A9,Hi⟩:=h.fresh
 have Hg:new'.length=new.length:=hv.1.symm
 obtain⟨jP,Ou,W4,ha3⟩:=gW new' S.w k (o+old.length) arr E fr hk kA
 refine SR.change h S.s.next k (S.s.next+1) ⟨old++new,1,true,mf⟩ _ _ (by omega) (by omega) (by omega) (.inr rfl) (fun es he=>by rw[Hi] at he;cases he) (Nat.le_refl _)
  (fun b hb=>by rw[A9] at hb;cases hb) (fun j hj=>by funext c;rw[if_neg hj]) (fun j hj _=>jG _ _ _ _ _ hj) (fun j bj c _ hj hc=>hex j bj c hj hc) ?_
  (fun c _=>by simp only[if_true];rw[fA];exact dQ hk) ?_ ?_ ?_ ?_ (jW _ _ _ _ _ hb) (by rw[fA];exact Nat.le_refl _)
 ·intro r es he e
  obtain⟨_,fz,qY,h2,_⟩:=h.map r es he
  rw[e,hk] at h2;cases h2
 ·intro c hc p hp
  have oY:p<old.length+new.length:=by have:=hc.2;simp only[List.length_append] at this;omega
  simp only[if_true]
  rw[bX _ _ _ _ _ _ Ou,ha3]
  by_cases rJ:p<old.length
  ·rw[if_neg (by omega),dR _ _ _ rJ,<-bX _ _ _ _ _ _ hk]
   exact hold p rJ
  ·rw[if_pos (by omega),jY _ _ _ (by omega),show o+p-(o+old.length)=p-old.length by omega]
   exact⟨_,rfl,hv.2 (p-old.length) (by omega)⟩
 ·intro _ c _
  simp only[if_true]
  exact⟨hb,⟨jP,E,fr,Ou,by rw[W4];exact oz⟩,fun j bj _ hj c' gG=>hex j bj c' hj gG,by intros;first|rfl|trivial⟩
 ·intro j bj _ hj _ c' gG c _ e
  simp only[if_true] at e
  exact hex j bj c' hj gG e.symm
 ·intro Qh E0 fr0 SB
  rw[hk] at SB
  injection SB with SB;injection SB with e1 e2 e3
  subst e1;subst e2
  exact⟨jP,fr,Ou,W4⟩
theorem SR.EP {base:Nat}{S:St}(h:SR base S)(i next:Nat)(es2:List (Value×Value))(Qi:Nat->Nat)(w' :World)
  (hi:i<next) (hn:S.s.next<=next) (hr:0<=16000000) (IF:i<S.s.next\/i+1=next) (nI:S.s.bA i=none)
  (hold:∀es,S.s.dp i=some es->Qi i=S.e.mp i) (SA:∀r,r≠i->Qi r=S.e.mp r)
  (hw:∀k,k≠Qi i->k<S.w.heap.size->w'.heap[k]?=S.w.heap[k]?) (hM:∀(arr:Array Value) (E:TypeId) (fr:Nat×Nat),S.w.heap[Qi i]?≠some (.cells arr E fr)) (hb:base<=Qi i)
  (aec:∃(fz:Array MapEntry) (qY:Nat),w'.heap[Qi i]?=some (.map fz qY)/\ER S es2 fz.toList)
  (aaF:∀r es,r≠i->S.s.dp r=some es->S.e.mp r≠Qi i) (mY:Below base S.w w'):
  Good base S ⟨⟨Tr.set (depth i) S.s.heap i (.map es2),next⟩,⟨S.e.loc,Qi⟩,w'⟩:=by
 have jV:∀j,j≠i->(Tr.set (depth i) S.s.heap i (.map es2)).get j=S.s.heap.get j:=fun j hj=>Tr.bZ _ _ _ _ _ (Ne.symm hj)
 have IV:(Tr.set (depth i) S.s.heap i (.map es2)).get i=some (.map es2):=Tr.bp _ _ _ _ (deep (by omega))
 have gF:(⟨Tr.set (depth i) S.s.heap i (.map es2),next⟩:aq).dp i=some es2:=by simp only[aq.dp,IV]
 have nP:∀j,(⟨Tr.set (depth i) S.s.heap i (.map es2),next⟩:aq).bA j=S.s.bA j:=fun j=>by
  by_cases hj:j=i
  ·subst hj;rw[nI];simp only[aq.bA,IV]
  ·simp only[aq.bA,jV j hj]
 have hmm:∀j,j≠i->(⟨Tr.set (depth i) S.s.heap i (.map es2),next⟩:aq).dp j=S.s.dp j:=fun j hj=>by simp only[aq.dp,jV j hj]
 have SW:∀(k:Nat) (arr:Array Value) (E:TypeId) (fr:Nat×Nat),S.w.heap[k]?=some (.cells arr E fr)->w'.heap[k]?=some (.cells arr E fr):=fun k arr E fr hk=>by
  rw[hw k (fun e=>hM arr E fr (e▸hk)) (dQ hk)];exact hk
 have lK:Ext S ⟨⟨Tr.set (depth i) S.s.heap i (.map es2),next⟩,⟨S.e.loc,Qi⟩,w'⟩:=by
  refine⟨fun j b hb=>⟨b,by rw[<-hb];exact nP j,Nat.le_refl _,Nat.le_refl _,rfl,fun _ _ _=>rfl⟩,fun r es he=> ?_,fun k arr E fr hk=>⟨arr,fr,SW k arr E fr hk,rfl⟩⟩
  by_cases DW:r=i
  ·subst DW;exact⟨⟨es2,gF⟩,hold es he⟩
  ·exact⟨⟨es,by rw[<-he];exact hmm r DW⟩,SA r DW⟩
 refine⟨⟨hr,?_,?_,?_,?_,?_,?_,Nat.le_trans h.size mY.size,?_⟩,lK,mY⟩
 ·intro j o hj
  by_cases gz:j=i
  ·show j<next;omega
  ·have Ww:(Tr.set (depth i) S.s.heap i (.map es2)).get j=some o:=hj
   rw[jV j gz] at Ww
   have:=h.bound j o Ww
   show j<next
   omega
 ·intro j b hb;rw[nP] at hb;exact h.low j b hb
 ·intro j b hb c hc p hp
  rw[nP] at hb
  obtain⟨v,h1,h2⟩:=h.cell j b hb c hc p hp
  obtain⟨arr,E,fr,h3,h4⟩:=tM h1
  exact⟨v,by rw[bX _ _ _ _ _ _ (SW _ _ _ _ h3)];exact h4,h2.mono lK⟩
 ·intro j b hb Ly c hc
  rw[nP] at hb
  obtain⟨h1,⟨arr,E,fr,h2,h3⟩,h4,h5⟩:=h.own j b hb Ly c hc
  exact⟨h1,⟨arr,E,fr,SW _ _ _ _ h2,h3⟩,fun k bk hk c' gG e=>by rw[nP] at hk;exact h4 k bk hk c' gG e,h5⟩
 ·intro r es he
  by_cases DW:r=i
  ·subst DW
   rw[gF] at he;obtain rfl:=Option.some.inj he
   obtain⟨fz,qY,h1,h2⟩:=aec
   exact⟨hb,fz,qY,h1,h2.mono lK⟩
  ·rw[hmm r DW] at he
   obtain⟨h1,fz,qY,h2,h3⟩:=h.map r es he
   refine⟨by show base<=Qi r;rw[SA r DW];exact h1,fz,qY,?_,h3.mono lK⟩
   show w'.heap[Qi r]?=_
   rw[SA r DW,hw _ (aaF r es DW he) (dQ h2)];exact h2
 ·intro r r' es fz he Ad hEq
  have A3:Qi r=Qi r' :=hEq
  by_cases DW:r=i
  ·by_cases Hf:r' =i
   ·omega
   ·rw[hmm r' Hf] at Ad
    subst DW
    rw[SA r' Hf] at A3
    exact absurd A3.symm (aaF r' fz Hf Ad)
  ·rw[hmm r DW] at he
   by_cases Hf:r' =i
   ·subst Hf
    rw[SA r DW] at A3
    exact absurd A3 (aaF r es DW he)
   ·rw[hmm r' Hf] at Ad
    rw[SA r DW,SA r' Hf] at A3
    exact h.Hd r r' es fz he Ad A3
 ·intro j b hb c hc
  rw[nP] at hb
  exact Nat.lt_of_lt_of_le (h.He j b hb c hc) mY.size
theorem Good.aaG {base:Nat}{S:St}(h:SR base S)(cY:S.s.room=true):
  Good base S ⟨S.s.new (.map []),⟨S.e.loc,fun r=>if r=S.s.next then S.w.heap.size else S.e.mp r⟩,S.w.alloc (.map #[] 0)⟩:=by
 have bc:=vz cY
 obtain⟨A9,Hi⟩:=h.fresh
 refine SR.EP h S.s.next (S.s.next+1) [] _ _ (by omega) (by omega) (by omega) (.inr rfl) A9 (fun es he=>by rw[Hi] at he;cases he) (fun r hr=>by rw[if_neg hr]) (fun k _ hk=>Below.heap_alloc _ _ _ hk) ?_
  (by simp only[if_true];exact h.size) ?_ ?_ ((Below.refl _ _).alloc h.size _)
 ·intro arr E fr hk
  simp only[if_true] at hk
  exact absurd (dQ hk) (by omega)
 ·simp only[if_true]
  exact⟨#[],0,heap_alloc_new S.w _,trivial⟩
 ·intro r es _ he
  simp only[if_true]
  exact Nat.ne_of_lt (h.Oq he)
end Go.Cl
namespace Go.Cl
open Go.RowKit
theorem ES {S:St}{v:Value}(h:gS v=true):VR S v v:=by
 unfold gS at h
 split at h
 ·exact .bool _
 ·exact .int _ _
 ·exact .string _
 ·exact .LV
 ·exact .gq
 ·exact .LW
 ·exact .nilFunc
 ·exact .nilIface
 ·cases h
theorem ET {S:St}{l:List Value}(h:l.all gS=true):er S l l:=by
 induction l with
 |nil=>exact er.nil
 |cons v l ih=>
  simp only[List.all_cons,Bool.and_eq_true] at h
  exact er.cons (ES h.1) (ih h.2)
theorem kB {S:St}{v:Value}(h:bP v=true):VR S v v:=by
 unfold bP at h
 split at h
 ·exact er.toList (ET h)
 ·have:=ET (S:=S) h;exact .tuple _ _ this.1 this.2
 ·exact ES h
structure FR (S:St) (f:aT) (a:Act):Prop where
 n:f.n=a.tmps.size
 small:f.n<=16000000
 get:∀t,t<f.n->VR S (f.get t) (a.tmps.getD t undef)
theorem FR.mono {S T:St}(h:Ext S T){f:aT}{a:Act}(hf:FR S f a):FR T f a:=⟨hf.n,hf.small,fun t ht=>(hf.get t ht).mono h⟩
theorem bt {S:St}{f:aT}{a:Act}(hf:FR S f a){x:Operand}{v:Value}(h:aO f x=some v):VR S v (a.eval x):=by
 cases x with
 |tmp t=>
  simp only[aO] at h
  split at h
  ·rename_i ht;obtain rfl:=Option.some.inj h;exact hf.get t (by simpa [Nat.blt_eq] using ht)
  ·cases h
 |const c=>
  simp only[aO] at h
  split at h
  ·rename_i ht;obtain rfl:=Option.some.inj h;exact kB ht
  ·cases h
 |global g=>simp[aO] at h
 |func g=>
  simp only[aO] at h
  obtain rfl:=Option.some.inj h
  exact .func g #[] #[] #[] #[] rfl rfl (fun i hi=>by simp at hi) (fun i hi=>by simp at hi)
theorem p8 {S:St}{f:aT}{a:Act}(hf:FR S f a):∀{xs:List Operand} {l:List Value},ad f xs=some l->er S l (xs.map a.eval):=by
 intro xs
 induction xs with
 |nil=>intro l h;simp only[ad] at h;obtain rfl:=Option.some.inj h;exact er.nil
 |cons x xs ih=>
  intro l h
  simp only[ad] at h
  split at h
  ·rename_i v hv
   split at h
   ·rename_i vs hvs;obtain rfl:=Option.some.inj h;exact er.cons (bt hf hv) (ih hvs)
   ·cases h
  ·cases h
theorem Hj {S:St}{f:aT}{a:Act}(hf:FR S f a){x:Option Operand}{o:Option Value}(h:ai f x=some o):
  (o=none/\x.map a.eval=none)\/∃v v',o=some v/\x.map a.eval=some v' /\VR S v v' :=by
 cases x with
 |none=>simp only[ai] at h;obtain rfl:=Option.some.inj h;exact .inl ⟨rfl,rfl⟩
 |some x=>
  simp only[ai] at h
  split at h
  ·rename_i v hv;obtain rfl:=Option.some.inj h;exact .inr ⟨v,_,rfl,rfl,bt hf hv⟩
  ·cases h
theorem gy {P:Program}{t:TypeId}{b:Bool}(h:bY P t=some b)(w:World):(isAgg t).run P w= .ok b w:=by
 unfold bY at h
 split at h
 ·rename_i fs hu;obtain rfl:=Option.some.inj h;simp[isAgg,run_underlying hu]
 ·rename_i n e hu;obtain rfl:=Option.some.inj h;simp[isAgg,run_underlying hu]
 ·rename_i d h1 h2 hu
  obtain rfl:=Option.some.inj h
  simp only[isAgg,Sem.run_bind,run_underlying hu,Result.andThen_ok]
  cases d<;>first|rfl|(exact absurd hu (h1 _))|(exact absurd hu (h2 _ _))
 ·cases h
theorem vB {P:Program}{t:TypeId}{n:Nat}(h:aW P t=some n):∃i,P.info? t=some i/\i.size=n:=by
 unfold aW at h
 split at h
 ·rename_i i hi;exact⟨i,hi,Option.some.inj h⟩
 ·cases h
theorem run_sizeOf {P:Program}{t:TypeId}{n:Nat}(h:aW P t=some n)(w:World):(sizeOf t).run P w= .ok n w:=by
 obtain⟨i,hi,rfl⟩:=vB h
 simp[sizeOf,typeInfo,hi]
theorem vC {P:Program}{t:TypeId}{z:Value}(h:bW P t=some z):∃i,P.info? t=some i/\i.zero=some z:=by
 unfold bW at h
 split at h
 ·rename_i i hi;exact⟨i,hi,h⟩
 ·cases h
theorem dq {P:Program}{t:TypeId}{z:Value}(h:bW P t=some z)(w:World):(zeroValue t).run P w= .ok z w:=by
 obtain⟨i,hi,hz⟩:=vC h
 simp[zeroValue,typeInfo,hi,hz]
theorem oA {P:Program}{t:TypeId}{n:Nat}(h:fe P t=some n):∃i,P.info? t=some i/\i.bytes=n:=by
 unfold fe at h
 split at h
 ·rename_i i hi;exact⟨i,hi,Option.some.inj h⟩
 ·cases h
theorem vD {P:Program}{t:TypeId}(h:DU P t=true):P.underlying t=some (.int .u8):=by
 unfold DU at h
 split at h
 ·assumption
 ·cases h
def Reads (P:Program)(S:St)(m:Sem Value)(v:Value):Prop:=∃v',m.run P S.w= .ok v' S.w/\VR S v v'
theorem VR.p9 {S:St}{i off c:Nat}{v:Value}(h:VR S (.pointer (some ⟨i,off,some c⟩)) v):∃a,v= .pointer (some a)/\tK S i off c a:=by
 cases h with|ptr _ _ _ a hr=>exact⟨a,rfl,hr⟩
theorem VR.Av {S:St}{cs:Array Value}{v:Value}(h:VR S (.agg cs) v):∃iE,v= .agg iE/\er S cs.toList iE.toList:=by
 cases h with|agg _ iE h1 h2=>exact⟨iE,rfl,h1,h2⟩
theorem VR.Qj {S:St}{cs:Array Value}{v:Value}(h:VR S (.tuple cs) v):∃iE,v= .tuple iE/\er S cs.toList iE.toList:=by
 cases h with|tuple _ iE h1 h2=>exact⟨iE,rfl,h1,h2⟩
theorem VR.SX {S:St}{g:FuncId}{arv bs:Array Value}{v:Value}(h:VR S (.func (.func g) arv bs) v):∃On Oo,v= .func (.func g) On Oo/\er S arv.toList On.toList/\er S bs.toList Oo.toList:=by
 cases h with|func _ _ _ On Oo ha hb h1 h2=>exact⟨On,Oo,rfl,⟨ha,h1⟩,hb,h2⟩
theorem tK.addr {S:St}{i off c:Nat}{a:Addr}(h:tK S i off c a){b:jE}(hb:S.s.bA i=some b)(hc:Live b c):a=⟨(S.e.loc i c).1,(S.e.loc i c).2+off,none⟩:=by
 obtain⟨b',oT,_,hl⟩:=h
 rw[hb] at oT;obtain rfl:=Option.some.inj oT
 exact hl hc.1
theorem IX {P:Program}{base:Nat}{S:St}(h:SR base S){t:TypeId}{a a' v:Value}(ha:VR S a a')(hl:aR P S.s t a=some v):Reads P S (Instr.loadAt t a') v:=by
 unfold aR at hl
 split at hl
 ·rename_i i off c
  obtain⟨a1,rfl,hr⟩:=ha.p9
  split at hl
  ·rename_i n nK b6
   split at hl
   ·rename_i l hc
    obtain rfl:=Option.some.inj hl
    obtain⟨b,hb,eT,_,_,yQ,Hg,iz⟩:=h.cells hc
    obtain rfl:=hr.addr hb eT
    refine⟨.agg (xF S.w (S.e.loc i c).1 ((S.e.loc i c).2+off) n).toArray,?_,er.agg Hg⟩
    simp[Instr.loadAt,Instr.sureAddr,loadVar,gy nK,run_sizeOf b6,run_loadCells P S.w _ _ n iz]
   ·cases hl
  ·rename_i nK
   split at hl
   ·rename_i v0 r0 hc
    obtain rfl:=Option.some.inj hl
    obtain⟨b,hb,eT,_,_,yQ,Hg,iz⟩:=h.cells hc
    obtain rfl:=hr.addr hb eT
    obtain⟨u,hu⟩:=iz 0 (by omega)
    have h0:=Hg.2 0 (by simp)
    rw[xG _ _ _ _ _ (by omega),hu] at h0
    simp only[Nat.add_zero] at hu
    refine⟨u,?_,by simpa using h0⟩
    simp[Instr.loadAt,Instr.sureAddr,loadVar,gy nK,hu]
   ·cases hl
  ·cases hl
 ·cases hl
theorem SY {P:Program}{S:St}{op:BinOp}{k:IntKind}{x y:Int}{v:Value}{t:TypeId}{ox oy:Operand}(h:iM op k x y=some v)(hs:op≠ .shl)(Ba:op≠ .shr):
  Reads P S (do eqGuard op t ox oy (.int k x) (.int k y);binOp op t (.int k x) (.int k y)) v:=by
 cases op<;>simp only[iM] at h<;>first
  |exact absurd rfl hs
  |exact absurd rfl Ba
  |(obtain rfl:=Option.some.inj h;refine⟨_,?_,by first|exact .int _ _|exact .bool _⟩;simp[go_sem,Op.intArith,Op.intBits];done)
  |(split at h
    ·cases h
    ·rename_i hy;obtain rfl:=Option.some.inj h;refine⟨_,?_,.int _ _⟩;simp[go_sem,Op.intDiv,hy])
theorem Bb {P:Program}{S:St}{op:BinOp}{k k' :IntKind}{x y:Int}{v:Value}{t:TypeId}{ox oy:Operand}(h:te op k x y=some v):
  Reads P S (do eqGuard op t ox oy (.int k x) (.int k' y);binOp op t (.int k x) (.int k' y)) v:=by
 unfold te at h
 split at h
 ·cases h
 ·rename_i hy
  cases op<;>simp only at h<;>first
   |(cases h;done)
   |(obtain rfl:=Option.some.inj h;refine⟨_,?_,.int _ _⟩;simp[eqGuard_shl,eqGuard_shr,binOp_shl,binOp_shr,Op.shift,hy])
theorem size_data (x:ByteArray):x.size=x.data.toList.length:=by rw[Array.length_toList];rfl
theorem xI {x y:ByteArray}(h:x.data.toList=y.data.toList):x=y:=by
 cases x;cases y;simp only at h;congr 1;exact Array.toList_inj.1 h
theorem Qk (x y:ByteArray):x++y=⟨(x.data.toList++y.data.toList).toArray⟩:=by
 apply xI
 rw[ByteArray.data_append,Array.toList_append]
theorem SZ {P:Program}{S:St}{op:BinOp}{x y:ByteArray}{v:Value}{t:TypeId}{ox oy:Operand}(h:Om op x y=some v):
  Reads P S (do eqGuard op t ox oy (.string x) (.string y);binOp op t (.string x) (.string y)) v:=by
 have hb:∀op,binOp op t (.string x) (.string y)=Op.stringOp op x y:=fun op=>by cases op<;>rfl
 simp only[eqGuard_at_string,hb]
 cases op<;>simp only[Om] at h<;>first
  |(cases h;done)
  |(split at h
    ·rename_i hle
     obtain rfl:=Option.some.inj h
     refine⟨_,?_,.string _⟩
     have aee:x.size+y.size<=4294967296:=by rw[size_data,size_data];simpa [Nat.ble_eq] using hle
     have hn:¬((9223372036854775807:Int)<(x.size:Int)+(y.size:Int)):=by omega
     simp[Op.stringOp,hn,Qk]
    ·cases h)
  |(obtain rfl:=Option.some.inj h;refine⟨_,?_,.bool _⟩;simp[Op.stringOp,ByteArray.toList_eq])
theorem Ql {P:Program}{S:St}{t:TypeId}{x y x' y' :Value}{b:Bool}(d:Nat)(hx:VR S x x')(hy:VR S y y')(h:qI P t x y=some b):(Op.equalIn (d+1) t x' y').run P S.w= .ok b S.w:=by
 unfold qI at h
 split at h
 ·rename_i a1 a2 hu;cases hx;cases hy;obtain rfl:=Option.some.inj h;simp[Op.equalIn,run_underlying hu]
 ·rename_i e q hu;cases hx;obtain rfl:=Option.some.inj h;cases hy<;>simp[Op.equalIn,run_underlying hu]
 ·rename_i e q hu;obtain rfl:=Option.some.inj h;cases hx<;>(cases hy;simp[Op.equalIn,run_underlying hu])
 ·rename_i e n c q m d hu;obtain rfl:=Option.some.inj h;cases hx;cases hy<;>simp[Op.equalIn,run_underlying hu]
 ·rename_i e q n c m d hu;obtain rfl:=Option.some.inj h;cases hx;cases hy;simp[Op.equalIn,run_underlying hu]
 ·rename_i e1 e2 q hu;obtain rfl:=Option.some.inj h;cases hx;cases hy<;>simp[Op.equalIn,run_underlying hu]
 ·rename_i e1 e2 q hu;obtain rfl:=Option.some.inj h;cases hx;cases hy;simp[Op.equalIn,run_underlying hu]
 ·rename_i hu;obtain rfl:=Option.some.inj h;cases hx;cases hy;simp[Op.equalIn,run_underlying hu]
 ·rename_i hu;obtain rfl:=Option.some.inj h;cases hx;cases hy;simp[Op.equalIn,run_underlying hu]
 ·rename_i hu;obtain rfl:=Option.some.inj h;cases hx;cases hy;simp[Op.equalIn,run_underlying hu]
 ·cases h
theorem S2 {P:Program}{S:St}{t:TypeId}{x y x' y' :Value}{b:Bool}(hx:VR S x x')(hy:VR S y y')(h:qI P t x y=some b):(Op.equal t x' y').run P S.w= .ok b S.w:=
 Ql 9999 hx hy h
def kW:Value->Bool
 | .bool _| .pointer _| .slice _ _ _| .map _| .nilFunc| .func _ _ _=>true
 |_=>false
theorem L3 {P:Program}{t:TypeId}{x y:Value}{b:Bool}(h:qI P t x y=some b):kW x=true:=by
 unfold qI at h
 split at h<;>first|rfl|(cases h;done)
theorem Ae (op:BinOp)(t:TypeId)(ox oy:Operand)(x y:Value)(h:kW x=true):eqGuard op t ox oy x y=pure ():=by
 cases x<;>first|(simp[kW] at h;done)|(cases op<;>rfl)
theorem VR.kind {S:St}{v v' :Value}(h:VR S v v'):kW v=kW v' :=by cases h<;>rfl
theorem DY (t:TypeId)(x y:Value)(h:kW x=true):binOp .eql t x y=(do pure (.bool (<-Op.equal t x y))):=by
 cases x<;>first|(simp[kW] at h;done)|(cases y<;>rfl)
theorem DZ (t:TypeId)(x y:Value)(h:kW x=true):binOp .neq t x y=(do pure (.bool (!(<-Op.equal t x y)))):=by
 cases x<;>first|(simp[kW] at h;done)|(cases y<;>rfl)
theorem W6 {P:Program}{S:St}{op:BinOp}{t:TypeId}{x y x' y' v:Value}{ox oy:Operand}(hx:VR S x x')(hy:VR S y y')
  (h:(match op with
   | .eql=>match qI P t x y with|some b=>some (.bool b)|none=>none
   | .neq=>match qI P t x y with|some b=>some (.bool (!b))|none=>none
   |_=>none)=some v):Reads P S (do eqGuard op t ox oy x' y';binOp op t x' y') v:=by
 cases op<;>simp only at h<;>first
  |(cases h;done)
  |(split at h
    ·rename_i b hb
     obtain rfl:=Option.some.inj h
     have hk:kW x' =true:=by rw[<-hx.kind];exact L3 hb
     refine⟨_,?_,.bool _⟩
     simp[Ae _ _ _ _ _ _ hk,DY _ _ _ hk,DZ _ _ _ hk,S2 hx hy hb]
    ·cases h)
theorem ux {S:St}:∀{xs ys IY IZ:List Value} {b:Bool},fH xs ys=some b->er S xs IY->er S ys IZ->fH IY IZ=some b
 |[],[],IY,IZ,b,h,hx,hy=>by rw[hx.jq,hy.jq];exact h
 |x::r,y::q,IY,IZ,b,h,hx,hy=>by
  obtain⟨x',r',rfl,lM,kv⟩:=hx.cons_inv
  obtain⟨y',q',rfl,LD,vE⟩:=hy.cons_inv
  unfold fH at h
  split at h
  ·rename_i Bc Qm;cases Bc
  ·rename_i k a r0 k' b0 q0 Bc Qm
   injection Bc with e1 e2;injection Qm with e3 e4
   subst e1;subst e2;subst e3;subst e4
   cases lM;cases LD
   split at h
   ·rename_i t hk ht
    have:=ux ht kv vE
    unfold fH
    simp only[hk,this]
    exact h
   ·cases h
  ·cases h
 |[],y::q,_,_,b,h,_,_=>by simp[fH] at h
 |x::r,[],_,_,b,h,_,_=>by simp[fH] at h
theorem I0 {P:Program}{e:TypeId}{k' :IntKind}(he:P.underlying e=some (.int k'))(nK:bY P e=some false)(w:World)(d:Nat)(xs ys:Array Value):∀(len i:Nat) (b:Bool),fH (xs.toList.drop i) (ys.toList.drop i)=some b->xs.size=i+len->ys.size=i+len->
  (forIn (List.range' i len 1) ((none:Option Bool),()) fun i __s=>do
   let a<-part e xs (i*1)
   let c<-part e ys (i*1)
   let r<-Op.equalIn (d+1) e a c
   if(!r)=true then pure (ForInStep.done (some false,())) else pure (ForInStep.yield (none,()))).run P w= .ok (if b then none else some false,()) w:=by
 intro len
 induction len with
 |zero=>
  intro i b h hx hy
  rw[List.drop_eq_nil_of_le (by simp;omega),List.drop_eq_nil_of_le (by simp;omega)] at h
  simp only[fH] at h
  obtain rfl:=Option.some.inj h
  simp
 |succ len ih=>
  intro i b h hx hy
  have W7:i<xs.toList.length:=by simp;omega
  have Hk:i<ys.toList.length:=by simp;omega
  rw[List.drop_eq_getElem_cons W7,List.drop_eq_getElem_cons Hk] at h
  unfold fH at h
  split at h
  ·rename_i Bc _;cases Bc
  ·rename_i k a r0 k2 b0 q0 Bc Qm
   injection Bc with e1 e2;injection Qm with e3 e4
   subst e2;subst e4
   split at h
   case h_2=>cases h
   rename_i t hk ht
   have rK:k=k2:=by split at hk;assumption;cases hk
   subst rK
   obtain rfl:=Option.some.inj h
   have Zh:(part e xs (i*1)).run P w= .ok (.int k a) w:=by
    have:xs[i]?=some (.int k a):=by rw[<-Array.getElem?_toList,List.getElem?_eq_getElem W7,e1]
    simp[part,gy nK,this]
   have Zi:(part e ys (i*1)).run P w= .ok (.int k b0) w:=by
    have:ys[i]?=some (.int k b0):=by rw[<-Array.getElem?_toList,List.getElem?_eq_getElem Hk,e3]
    simp[part,gy nK,this]
   have heq:(Op.equalIn (d+1) e (.int k a) (.int k b0)).run P w= .ok (a==b0) w:=by simp[Op.equalIn,run_underlying he]
   rw[List.range'_succ,List.forIn_cons]
   simp only[Sem.run_bind,Zh,Zi,heq,Result.andThen_ok]
   cases Hl:(a==b0) with
   |false=>simp
   |true=>
    simp only[Bool.not_true,Bool.false_eq_true,if_false,Sem.run_pure,Result.andThen_ok,Bool.true_and]
    exact ih (i+1) t ht (by omega) (by omega)
  ·cases h
theorem xJ {P:Program}(w:World)(d:Nat){n:Nat}{t e:TypeId}{k:IntKind}{xs ys:Array Value}{b:Bool}(hu:P.underlying t=some (.array n e))(b6:aW P e=some 1)(D0:P.underlying e=some (.int k))(nK:bY P e=some false)
  (h:fH (xs.toList.drop 0) (ys.toList.drop 0)=some b) (hx:xs.size=0+n) (hy:ys.size=0+n):(Op.equalIn (d+1+1) t (.agg xs) (.agg ys)).run P w= .ok b w:=by
 rw[Op.equalIn]
 simp only[Sem.run_bind,run_underlying hu,Result.andThen_ok,run_sizeOf b6]
 rw[Std.Legacy.Range.forIn_eq_forIn_range']
 have:=I0 D0 nK w d xs ys n 0 b h hx hy
 have hr:List.range' [:n].start [:n].size [:n].step=List.range' 0 n 1:=by simp[Std.Legacy.Range.size]
 rw[hr,this]
 cases b<;>simp
theorem tN {P:Program}(w:World)(d:Nat){xs ys:Array Value}:∀(fs:List Field) (i:Nat) (b:Bool),tf P fs i=true->fH (xs.toList.drop i) (ys.toList.drop i)=some b->xs.size=i+fs.length->ys.size=i+fs.length->
  (Op.eqFields (d+1) xs ys fs).run P w= .ok b w
 |[],i,b,_,h,hx,hy=>by
  rw[List.drop_eq_nil_of_le (by simp at hx;simp;omega),List.drop_eq_nil_of_le (by simp at hy;simp;omega)] at h
  simp only[fH] at h
  obtain rfl:=Option.some.inj h
  simp[Op.eqFields]
 |f::r,i,b,hf,h,hx,hy=>by
  have W7:i<xs.toList.length:=by simp at hx;simp;omega
  have Hk:i<ys.toList.length:=by simp at hy;simp;omega
  rw[List.drop_eq_getElem_cons W7,List.drop_eq_getElem_cons Hk] at h
  unfold tf at hf
  rw[Bool.and_eq_true] at hf
  obtain⟨A9,Hi⟩:=hf
  split at A9
  case h_2=>cases A9
  rename_i k' D0
  simp only[Bool.and_eq_true,Nat.beq_eq] at A9
  obtain⟨Be,eZ⟩:=A9
  have L4:f.name≠ "_" :=by simpa using Be
  have nK:bY P f.type=some false:=by unfold bY;rw[D0]
  unfold fH at h
  split at h
  ·rename_i Bc _;cases Bc
  ·rename_i k a r0 k2 b0 q0 Bc Qm
   injection Bc with e1 e2;injection Qm with e3 e4
   subst e2;subst e4
   split at h
   case h_2=>cases h
   rename_i t hk ht
   have rK:k=k2:=by split at hk;assumption;cases hk
   subst rK
   obtain rfl:=Option.some.inj h
   have Zh:(part f.type xs f.offset).run P w= .ok (.int k a) w:=by
    have:xs[i]?=some (.int k a):=by rw[<-Array.getElem?_toList,List.getElem?_eq_getElem W7,e1]
    simp[part,gy nK,eZ,this]
   have Zi:(part f.type ys f.offset).run P w= .ok (.int k b0) w:=by
    have:ys[i]?=some (.int k b0):=by rw[<-Array.getElem?_toList,List.getElem?_eq_getElem Hk,e3]
    simp[part,gy nK,eZ,this]
   have heq:(Op.equalIn (d+1) f.type (.int k a) (.int k b0)).run P w= .ok (a==b0) w:=by simp[Op.equalIn,run_underlying D0]
   rw[Op.eqFields,if_pos L4]
   simp only[Sem.run_bind,Zh,Zi,heq,Result.andThen_ok]
   cases Hl:(a==b0) with
   |false=>simp
   |true=>
    simp only[Bool.not_true,Bool.false_eq_true,if_false,Bool.true_and]
    exact tN w d r (i+1) t Hi ht (by simp at hx;omega) (by simp at hy;omega)
  ·cases h
theorem rL {x y:Value}{b:Bool}(h:At x y=some b):(∃k a c,x= .int k a/\y= .int k c/\b=(a==c))\/(∃a c,x= .string a/\y= .string c/\b=(a.toList==c.toList)):=by
 unfold At at h
 split at h
 ·rename_i k a k' c
  split at h
  ·rename_i hk
   subst hk
   exact .inl ⟨k,a,c,rfl,rfl,(Option.some.inj h).symm⟩
  ·cases h
 ·rename_i a c
  exact .inr ⟨a,c,rfl,rfl,(Option.some.inj h).symm⟩
 ·cases h
theorem tO {x y:Value}{r q:List Value}{b:Bool}(h:iN (x::r) (y::q)=some b):∃a t,At x y=some a/\iN r q=some t/\b=(a&&t):=by
 simp only[iN] at h
 split at h
 ·rename_i a t h1 h2
  exact⟨a,t,h1,h2,(Option.some.inj h).symm⟩
 ·cases h
theorem yR {S:St}:∀{xs ys IY IZ:List Value} {b:Bool},iN xs ys=some b->er S xs IY->er S ys IZ->IY=xs/\IZ=ys
 |[],[],IY,IZ,b,h,hx,hy=>⟨hx.jq,hy.jq⟩
 |x::r,y::q,IY,IZ,b,h,hx,hy=>by
  obtain⟨x',r',rfl,lM,kv⟩:=hx.cons_inv
  obtain⟨y',q',rfl,LD,vE⟩:=hy.cons_inv
  obtain⟨a,t,h1,h2,_⟩:=tO h
  obtain⟨e1,e2⟩:=yR h2 kv vE
  rw[e1,e2]
  rcases rL h1 with ⟨k,a,c,rfl,rfl,_⟩|⟨a,c,rfl,rfl,_⟩
  ·cases lM;cases LD;exact⟨rfl,rfl⟩
  ·cases lM;cases LD;exact⟨rfl,rfl⟩
 |[],y::q,_,_,b,h,_,_=>by simp[iN] at h
 |x::r,[],_,_,b,h,_,_=>by simp[iN] at h
theorem rM {P:Program}(w:World)(d:Nat){xs ys:Array Value}:∀(fs:List Field) (i:Nat) (b:Bool),pX P fs (xs.toList.drop i) i=true->iN (xs.toList.drop i) (ys.toList.drop i)=some b->xs.size=i+fs.length->ys.size=i+fs.length->
  (Op.eqFields (d+1) xs ys fs).run P w= .ok b w
 |[],i,b,_,h,hx,hy=>by
  rw[List.drop_eq_nil_of_le (by simp at hx;simp;omega),List.drop_eq_nil_of_le (by simp at hy;simp;omega)] at h
  simp only[iN] at h
  obtain rfl:=Option.some.inj h
  simp[Op.eqFields]
 |f::r,i,b,hf,h,hx,hy=>by
  have W7:i<xs.toList.length:=by simp at hx;simp;omega
  have Hk:i<ys.toList.length:=by simp at hy;simp;omega
  rw[List.drop_eq_getElem_cons W7,List.drop_eq_getElem_cons Hk] at h
  rw[List.drop_eq_getElem_cons W7] at hf
  simp only[pX] at hf
  rw[Bool.and_eq_true] at hf
  obtain⟨A9,Hi⟩:=hf
  obtain⟨a,t,h1,h2,rfl⟩:=tO h
  have key:f.name≠ "_" /\(part f.type xs f.offset).run P w= .ok xs.toList[i] w/\(part f.type ys f.offset).run P w= .ok ys.toList[i] w/\(Op.equalIn (d+1) f.type xs.toList[i] ys.toList[i]).run P w= .ok a w:=by
   have Zh:∀(nK:bY P f.type=some false) (eZ:f.offset=i),(part f.type xs f.offset).run P w= .ok xs.toList[i] w:=fun nK eZ=>by
    have:xs[i]?=some xs.toList[i]:=by rw[<-Array.getElem?_toList,List.getElem?_eq_getElem W7]
    simp only[part,Sem.run_bind,gy nK,eZ,this,Result.andThen_ok]
    simp
   have Zi:∀(nK:bY P f.type=some false) (eZ:f.offset=i),(part f.type ys f.offset).run P w= .ok ys.toList[i] w:=fun nK eZ=>by
    have:ys[i]?=some ys.toList[i]:=by rw[<-Array.getElem?_toList,List.getElem?_eq_getElem Hk]
    simp only[part,Sem.run_bind,gy nK,eZ,this,Result.andThen_ok]
    simp
   split at A9
   ·rename_i k' k0 n0 D0 Wx
    simp only[Bool.and_eq_true,Nat.beq_eq] at A9
    obtain⟨Be,eZ⟩:=A9
    have nK:bY P f.type=some false:=by unfold bY;rw[D0]
    refine⟨by simpa using Be,Zh nK eZ,Zi nK eZ,?_⟩
    rcases rL h1 with ⟨k,a1,c1,e1,e2,rfl⟩|⟨a1,c1,e1,e2,rfl⟩
    ·rw[e1,e2];exact run_equalIn_int w d f.type k k' a1 c1 D0
    ·rw[Wx] at e1;cases e1
   ·rename_i k0 D0 Wx
    simp only[Bool.and_eq_true,Nat.beq_eq] at A9
    obtain⟨Be,eZ⟩:=A9
    have nK:bY P f.type=some false:=by unfold bY;rw[D0]
    refine⟨by simpa using Be,Zh nK eZ,Zi nK eZ,?_⟩
    rcases rL h1 with ⟨k,a1,c1,e1,e2,rfl⟩|⟨a1,c1,e1,e2,rfl⟩
    ·rw[Wx] at e1;cases e1
    ·rw[e1,e2];exact run_equalIn_string w d f.type a1 c1 D0
   ·cases A9
  obtain⟨L4,Zh,Zi,heq⟩:=key
  rw[Op.eqFields,if_pos L4]
  simp only[Sem.run_bind,Zh,Zi,heq,Result.andThen_ok]
  cases a with
  |false=>simp
  |true=>
   simp only[Bool.not_true,Bool.false_eq_true,if_false,Bool.true_and]
   exact rM w d r (i+1) t Hi h2 (by simp at hx;omega) (by simp at hy;omega)
theorem EU {P:Program}{S:St}{op:BinOp}{t:TypeId}{xs ys IY IZ:Array Value}{b:Bool}{ox oy:Operand}(hx:er S xs.toList IY.toList)(hy:er S ys.toList IZ.toList)(h:AS P t xs ys=some b):
  (eqGuard op t ox oy (.agg IY) (.agg IZ)).run P S.w= .ok () S.w/\(Op.equalIn 10000 t (.agg IY) (.agg IZ)).run P S.w= .ok b S.w:=by
 unfold AS at h
 split at h
 case h_3=>cases h
 case h_2=>
  rename_i fs hu
  split at h
  case isFalse=>cases h
  rename_i hc
  simp only[Bool.and_eq_true,Nat.beq_eq,Bool.not_eq_true'] at hc
  obtain⟨⟨⟨vq,L5⟩,hg⟩,aD⟩:=hc
  have vt:IY.size=0+fs.toList.length:=by have:=hx.1;simp at this vq;simp;omega
  have hys:IZ.size=0+fs.toList.length:=by have:=hy.1;simp at this L5;simp;omega
  have hfo:P.fieldsOf t=fs:=by simp[Program.fieldsOf,hu]
  refine⟨by cases op<;>simp[eqGuard,hg],?_⟩
  have:=run_equalIn_struct (P:=P) S.w 9999 t IY IZ (by rw[hfo];exact hu) aD
  split at h
  ·rename_i hfi
   have h2:=ux h hx hy
   rw[hfo,tN S.w 9998 fs.toList 0 b hfi (by simpa using h2) vt hys] at this
   exact this
  ·split at h
   case isFalse=>cases h
   rename_i hfi
   obtain⟨e1,e2⟩:=yR h hx hy
   rw[hfo,rM S.w 9998 fs.toList 0 b (by rw[e1];simpa using hfi) (by rw[e1,e2];simpa using h) vt hys] at this
   exact this
 rename_i n e hu
 split at h
 case h_2=>cases h
 rename_i k D0 b6
 split at h
 case isFalse=>cases h
 rename_i hc
 simp only[Bool.and_eq_true,Nat.beq_eq,Bool.not_eq_true'] at hc
 obtain⟨⟨vq,L5⟩,hg⟩:=hc
 have nK:bY P e=some false:=by unfold bY;rw[D0]
 have h2:=ux h hx hy
 have vt:IY.size=n:=by have:=hx.1;simp at this vq;omega
 have hys:IZ.size=n:=by have:=hy.1;simp at this L5;omega
 constructor
 ·cases op<;>simp[eqGuard,hg]
 ·exact xJ S.w 9998 hu b6 D0 nK (by simpa using h2) (by omega) (by omega)
theorem W8 {P:Program}{S:St}{op:BinOp}{t:TypeId}{x y x' y' v:Value}{ox oy:Operand}(hx:VR S x x')(hy:VR S y y')(h:cI P op t x y=some v):
  Reads P S (do eqGuard op t ox oy x' y';binOp op t x' y') v:=by
 unfold cI at h
 split at h
 ·rename_i xs ys
  obtain⟨IY,rfl,hxv⟩:=hx.Av
  obtain⟨IZ,rfl,hyv⟩:=hy.Av
  split at h
  ·split at h
   ·rename_i b hb
    obtain rfl:=Option.some.inj h
    obtain⟨h1,h2⟩:=EU (op:= .eql) (ox:=ox) (oy:=oy) hxv hyv hb
    exact⟨_,by simp only[Sem.run_bind,h1,Result.andThen_ok,run_eql_struct,h2],.bool _⟩
   ·cases h
  ·split at h
   ·rename_i b hb
    obtain rfl:=Option.some.inj h
    obtain⟨h1,h2⟩:=EU (op:= .neq) (ox:=ox) (oy:=oy) hxv hyv hb
    exact⟨_,by simp only[Sem.run_bind,h1,Result.andThen_ok,run_neq_struct,h2],.bool _⟩
   ·cases h
  ·cases h
 ·rename_i k a k' b
  cases hx;cases hy
  split at h
  ·exact Bb h
  ·exact Bb h
  ·rename_i h1 h2
   split at h
   ·rename_i hk;subst hk;exact SY h (fun e=>h1 e) (fun e=>h2 e)
   ·cases h
 ·cases hx;cases hy;exact SZ h
 ·exact W6 hx hy h
theorem aaI {P:Program}{S:St}{op:UnOp}{x x' v:Value}(hx:VR S x x')(h:Ze op x=some v):Reads P S (Op.unary op x') v:=by
 unfold Ze at h
 split at h
 ·cases hx;simp only[iM] at h;obtain rfl:=Option.some.inj h;exact⟨_,by simp[Op.unary,Op.intArith],.int _ _⟩
 ·cases hx;simp only[iM] at h;obtain rfl:=Option.some.inj h;exact⟨_,by simp[Op.unary,Op.intBits],.int _ _⟩
 ·cases hx;obtain rfl:=Option.some.inj h;exact⟨_,by simp[Op.unary],.bool _⟩
 ·cases h
theorem D2 {P:Program}{S:St}{t:TypeId}{x ix x' ix' v:Value}(hx:VR S x x')(hi:VR S ix ix')(h:bQ P t x ix=some v):Reads P S (Instr.indexAt t x' ix') v:=by
 unfold bQ at h
 split at h
 ·rename_i e i off len c k n hu
  cases hi
  cases hx with
  |slice _ _ _ _ a cap h0 hz hr=>
  split at h
  ·rename_i z uy
   split at h
   ·rename_i bc
    obtain rfl:=Option.some.inj h
    have S3:n<len:=by simpa [Nat.blt_eq] using bc
    obtain⟨⟨b,hb,hc,hl⟩,_⟩:=hr (by omega)
    refine⟨.pointer (some (a.add (n*z))),?_,.ptr _ _ _ _ ⟨b,hb,hc,fun iS=> ?_⟩⟩
    ·have xK:((Int.ofNat n)<(len:Int)):=by simp only[Int.ofNat_eq_natCast];omega
     have h02:(0:Int)<=Int.ofNat n:=by simp
     simp[Instr.indexAt,run_underlying hu,asIntOf,run_sizeOf uy]
     omega
    ·rw[hl iS,Addr.add_lit,Nat.add_assoc]
   ·cases h
  ·cases h
 ·rename_i len e i off c k n hu
  cases hi
  obtain⟨a,rfl,b,hb,hc,hl⟩:=hx.p9
  split at h
  ·rename_i z uy
   split at h
   ·rename_i bc
    obtain rfl:=Option.some.inj h
    have S3:n<len:=by simpa [Nat.blt_eq] using bc
    refine⟨.pointer (some (a.add (n*z))),?_,.ptr _ _ _ _ ⟨b,hb,hc,fun iS=> ?_⟩⟩
    ·simp[Instr.indexAt,run_underlying hu,asIntOf,run_sizeOf uy,Instr.sureAddr]
     omega
    ·rw[hl iS,Addr.add_lit,Nat.add_assoc]
   ·cases h
  ·cases h
 ·cases h
theorem D3 {P:Program}{S:St}{t:TypeId}{x x' v:Value}{f:Nat}(hx:VR S x x')(h:ay P t x f=some v):Reads P S (Instr.fieldAt t x' f) v:=by
 unfold ay at h
 split at h
 ·rename_i fs i off c hu
  obtain⟨a,rfl,b,hb,hc,hl⟩:=hx.p9
  split at h
  ·rename_i fd hf
   split at h
   ·rename_i z uy
    obtain rfl:=Option.some.inj h
    refine⟨.pointer (some (a.add fd.offset)),?_,.ptr _ _ _ _ ⟨b,hb,hc,fun iS=> ?_⟩⟩
    ·simp[Instr.fieldAt,run_underlying hu,hf,Instr.sureAddr,fieldPlace,run_sizeOf uy]
    ·rw[hl iS,Addr.add_lit,Nat.add_assoc]
   ·cases h
  ·cases h
 ·cases h
theorem I1 {P:Program}{S:St}{t:TypeId}{cs iE:Array Value}{off:Nat}{v:Value}(hv:er S cs.toList iE.toList)(h:Ol P t cs.toList off=some v):Reads P S (part t iE off) v:=by
 unfold Ol at h
 split at h
 ·rename_i n nK b6
  rw[vy,rH] at h
  split at h
  ·rename_i l hl
   split at hl
   ·rename_i hn
    obtain rfl:=Option.some.inj hl
    obtain rfl:=Option.some.inj h
    refine⟨.agg (iE.extract off (off+n)),by simp[part,gy nK,run_sizeOf b6],?_⟩
    have hlen:=hv.1
    refine .agg _ _ (by simp;simp at hlen;omega) (fun i hi=> ?_)
    simp only[List.length_take,List.length_drop] at hi
    have vF:i<n:=by simp at hi;omega
    have:=hv.2 (off+i) (by simp at hn|-;omega)
    simp only[List.getD_eq_getElem?_getD,Array.getElem?_toList] at this|-
    simp only[List.getElem?_take,vF,if_true,List.getElem?_drop,Array.getElem?_toList,Array.getElem?_extract]
    rw[if_pos (by simp at hn hlen;omega)]
    exact this
   ·cases hl
  ·cases h
 ·rename_i nK
  rw[rH] at h
  split at h
  ·rename_i v0 r hd
   obtain rfl:=Option.some.inj h
   have eZ:off<cs.toList.length:=by
    rcases Nat.lt_or_ge off cs.toList.length with h' |h'
    ·exact h'
    ·rw[List.drop_eq_nil_of_le h'] at hd;cases hd
   have h0:cs.toList.getD off undef=v0:=by
    have:=congrArg (fun l=>l.getD 0 undef) hd
    simpa [List.getD_eq_getElem?_getD,List.getElem?_drop] using this
   have aeh:off<iE.size:=by have:=hv.1;simp at this eZ;omega
   have:=hv.2 off eZ
   rw[h0] at this
   refine⟨iE.toList.getD off undef,?_,this⟩
   simp[part,gy nK,List.getD_eq_getElem?_getD,aeh]
  ·cases h
 ·cases h
theorem Qn {P:Program}{S:St}{t:TypeId}{x x' v:Value}{f:Nat}(hx:VR S x x')(h:AU P t x f=some v):Reads P S (Instr.field t x' f) v:=by
 unfold AU at h
 split at h
 ·rename_i fs cs hu
  obtain⟨iE,rfl,Af⟩:=hx.Av
  split at h
  ·rename_i fd hf
   obtain⟨v',h1,h2⟩:=I1 (P:=P) Af h
   exact⟨v',by simp[Instr.field,run_underlying hu,hf,asAgg,h1],h2⟩
  ·cases h
 ·cases h
theorem Qo {P:Program}{S:St}{t:TypeId}{x ix x' ix' v:Value}(hx:VR S x x')(hi:VR S ix ix')(h:rC P t x ix=some v):Reads P S (Instr.index t x' ix') v:=by
 unfold rC at h
 split at h
 ·rename_i bs k n hu
  cases hi;cases hx
  split at h
  ·rename_i c r hd
   obtain rfl:=Option.some.inj h
   have hn:n<bs.data.toList.length:=by
    rcases Nat.lt_or_ge n bs.data.toList.length with h' |h'
    ·exact h'
    ·rw[List.drop_eq_nil_of_le h'] at hd;cases hd
   have h0:bs[n]?=some c:=by
    have:=congrArg (fun l=>l[0]?) hd
    simp only[List.getElem?_drop,Nat.add_zero,List.getElem?_cons_zero] at this
    have bc:n<bs.size:=by rw[size_data];exact hn
    rw[getElem?_pos bs n bc]
    rw[List.getElem?_eq_getElem hn] at this
    rw[<-Option.some.inj this,Array.getElem_toList]
    rfl
   refine⟨_,?_,.int _ _⟩
   simp[Instr.index,run_underlying hu,asIntOf,h0]
  ·cases h
 ·rename_i len e cs k n hu
  cases hi
  obtain⟨iE,rfl,Af⟩:=hx.Av
  split at h
  ·rename_i z uy
   split at h
   ·rename_i bc
    have S3:n<len:=by simpa [Nat.blt_eq] using bc
    obtain⟨v',h1,h2⟩:=I1 (P:=P) Af h
    refine⟨v',?_,h2⟩
    simp[Instr.index,run_underlying hu,asIntOf,run_sizeOf uy,h1]
    omega
   ·cases h
  ·cases h
 ·cases h
theorem I2 {P:Program}{S:St}{x x' v:Value}{i:Nat}(hx:VR S x x')(h:ba x i=some v):Reads P S (Instr.extract x' i) v:=by
 unfold ba at h
 split at h
 ·rename_i vs
  obtain⟨Ot,rfl,hvs⟩:=hx.Qj
  have hi:i<vs.size:=by
   rcases Nat.lt_or_ge i vs.size with h' |h'
   ·exact h'
   ·rw[Array.getElem?_eq_none h'] at h;cases h
  have vF:i<Ot.size:=by have:=hvs.1;simp at this;omega
  have:=hvs.2 i (by simpa using hi)
  simp only[List.getD_eq_getElem?_getD,Array.getElem?_toList,h] at this
  refine⟨Ot[i],by simp[Instr.extract,vF],by simpa [vF] using this⟩
 ·cases h
end Go.Cl
namespace Go.Cl
open Go.RowKit
def OV (S:St)(o o' :Option Value):Prop:=(o=none/\o' =none)\/∃v v',o=some v/\o' =some v' /\VR S v v'
theorem rN {S:St}{o o' :Option Value}{d n:Nat}(hv:OV S o o')(h:gU o d=some n):(o=none/\o' =none/\n=d)\/∃k,o=some (.int k n)/\o' =some (.int k n):=by
 unfold gU at h
 split at h
 ·rcases hv with ⟨_,h2⟩|⟨v,v',h1,_,_⟩
  ·exact .inl ⟨rfl,h2,(Option.some.inj h).symm⟩
  ·cases h1
 ·rename_i k m
  rcases hv with ⟨h1,_⟩|⟨v,v',h1,h2,h3⟩
  ·cases h1
  ·obtain rfl:=Option.some.inj h1
   cases h3
   obtain rfl:=Option.some.inj h
   exact .inr ⟨k,rfl,h2⟩
 ·cases h
theorem run_sliceBound {P:Program}(w:World)(k:IntKind)(n y:Nat)(code:BoundsCode)(h:n<=y):(Instr.sliceBound (.int k n) y code).run P w= .ok n w:=by
 simp[Instr.sliceBound,asIntOf]
 omega
theorem il {P:Program}{S:St}(w:World)(isS:Bool)(len cap:Nat){lo hi Zj vF:Option Value}{l h:Nat}(ra:OV S lo Zj)(SC:OV S hi vF)(h1:gU lo 0=some l)(h2:gU hi len=some h)(hlh:l<=h)(hh:h<=cap):
  (Instr.sliceBounds isS len cap Zj vF none).run P w= .ok (l,h,cap) w:=by
 rcases rN ra h1 with ⟨_,rfl,rfl⟩|⟨k1,_,rfl⟩<;>rcases rN SC h2 with ⟨_,rfl,rfl⟩|⟨k2,_,rfl⟩<;>
  simp[Instr.sliceBounds,run_sliceBound,hlh,hh]
theorem o5 {P:Program}{S:St}(w:World)(isS:Bool)(len cap:Nat){lo hi mx Zj vF mx' :Option Value}{l h m:Nat}(ra:OV S lo Zj)(SC:OV S hi vF)(Wy:OV S mx mx')(h1:gU lo 0=some l)(h2:gU hi len=some h)
  (h3:gU mx 0=some m) (hmn:mx≠none) (L1:hi≠none) (hlh:l<=h) (hhm:h<=m) (hm:m<=cap):
  (Instr.sliceBounds isS len cap Zj vF mx').run P w= .ok (l,h,m) w:=by
 rcases rN Wy h3 with ⟨e,_,_⟩|⟨k3,_,rfl⟩
 ·exact absurd e hmn
 ·rcases rN SC h2 with ⟨e,_,_⟩|⟨k2,_,rfl⟩
  ·exact absurd e L1
  ·rcases rN ra h1 with ⟨_,rfl,rfl⟩|⟨k1,_,rfl⟩<;>simp[Instr.sliceBounds,run_sliceBound,hlh,hhm,hm]
theorem S4 {s:aq}{i c z:Nat}(h:jT s i c z=true):c=0\/∃b,s.bA i=some b/\b.mf=z:=by
 unfold jT at h
 split at h
 ·exact .inl rfl
 ·split at h
  ·rename_i b hb;exact .inr ⟨b,hb,by simpa [Nat.beq_eq] using h⟩
  ·cases h
theorem VR.sub {S:St}{i off len c:Nat}{a:Addr}{cap:Nat}(hv:VR S (.slice (some ⟨i,off,none⟩) len c) (.slice (some a) len cap)){l h m z:Nat}(hlh:l<=h)(hhm:h<=m)(hm:m<=cap)(hz:jT S.s i c z=true)(c' :Nat)(gG:c' =c\/(c' =0/\m=l)):
  VR S (.slice (some ⟨i,off+l*z,none⟩) (h-l) c') (.slice (some (if m=l then a else a.add (l*z))) (h-l) (m-l)):=by
 cases hv with
 |slice _ _ _ _ _ _ h0 vu hr=>
 refine .slice _ _ _ _ _ _ (by omega) (fun e=> ?_) (fun Hh=> ?_)
 ·rcases gG with rfl|⟨_,h2⟩
  ·have:=vu e;omega
  ·omega
 ·have ck:¬m=l:=by omega
  obtain rfl:c' =c:=by rcases gG with h' |⟨_,h'⟩<;>omega
  rw[if_neg ck]
  obtain⟨⟨b,hb,IG,hl⟩,oZ⟩:=hr (by omega)
  refine⟨⟨b,hb,IG,fun iS=>by rw[hl iS,Addr.add_lit,Nat.add_assoc]⟩,fun b' oT iS=> ?_⟩
  rw[hb] at oT;obtain rfl:=Option.some.inj oT
  obtain⟨arr,E,fr,h1,h2⟩:=oZ b hb iS
  have hzz:b.mf=z:=by
   rcases S4 hz with rfl|⟨b2,dB,h3⟩
   ·have:=vu rfl;omega
   ·rw[hb] at dB;obtain rfl:=Option.some.inj dB;exact h3
  have ha:=hl iS
  rw[ha] at h1 h2|-
  rw[Addr.add_lit]
  refine⟨arr,E,fr,h1,?_⟩
  simp only at h2|-
  rw[hzz] at h2|-
  have:l*z+(m-l)*z<=cap*z:=by rw[<-Nat.add_mul];exact Nat.mul_le_mul_right _ (by omega)
  omega
theorem Qp {P:Program}{base:Nat}{S:St}(hs:SR base S){t:TypeId}{x x' v:Value}{lo hi mx Zj vF mx' :Option Value}(hx:VR S x x')(ra:OV S lo Zj)(SC:OV S hi vF)(Wy:OV S mx mx')(h:du P S.s t x lo hi mx=some v):
  Reads P S (Instr.sliceAt t x' Zj vF mx') v:=by
 unfold du at h
 split at h
 ·rename_i b hu
  cases hx
  split at h
  ·rename_i l hh h1 h2
   rcases Wy with ⟨_,rfl⟩|⟨_,_,e,_,_⟩
   case inr=>cases e
   split at h
   ·rename_i hc
    simp only[Bool.and_eq_true,Nat.ble_eq] at hc
    obtain rfl:=Option.some.inj h
    have b6:=size_data b
    have hb:=il (P:=P) S.w false b.size b.size ra SC h1 (by rw[b6];exact h2) hc.1 (by rw[b6];exact hc.2)
    refine⟨_,?_,.string _⟩
    simp only[Instr.sliceAt,Instr.slice,Sem.run_bind,run_underlying hu,Result.andThen_ok,hb,Option.isSome_none,Bool.false_eq_true,if_false,Sem.run_pure]
    congr 2
    apply xI
    rw[ByteArray.data_extract,Array.toList_extract]
    simp only[List.extract,List.drop_take]
   ·cases h
  ·cases h
 ·rename_i e a len c hu
  split at h
  ·rename_i l hh z h1 h2 hz
   split at h
   ·rename_i hc
    simp only[Bool.and_eq_true,Nat.ble_eq] at hc
    split at h
    ·
     rcases Wy with ⟨_,rfl⟩|⟨_,_,e,_,_⟩
     case inr=>cases e
     split at h
     ·obtain rfl:=Option.some.inj h
      cases hx
      have hb:=il (P:=P) S.w true 0 0 ra SC h1 h2 hc.1 hc.2
      obtain rfl:hh=0:=by omega
      obtain rfl:l=0:=by omega
      refine⟨_,?_,.gq⟩
      simp[Instr.sliceAt,Instr.slice,run_underlying hu,hb,run_sizeOf hz]
     ·rename_i i off
      split at h
      ·rename_i Au
       obtain rfl:=Option.some.inj h
       have Aw:=hx
       cases hx with
       |slice _ _ _ _ a1 cap h0 vu hr=>
       have hb:=il (P:=P) S.w true len cap ra SC h1 h2 hc.1 (by omega)
       refine⟨_,?_,Aw.sub hc.1 (by omega:hh<=cap) (Nat.le_refl _) Au c (.inl rfl)⟩
       simp[Instr.sliceAt,Instr.slice,run_underlying hu,hb,run_sizeOf hz]
       split<;>rfl
      ·cases h
     ·cases h
    ·rename_i m
     split at h
     ·rename_i m' hv hm
      split at h
      ·rename_i lI
       simp only[Bool.and_eq_true,Nat.ble_eq] at lI
       split at h
       ·obtain rfl:=Option.some.inj h
        cases hx
        have hb:=o5 (P:=P) S.w true 0 0 ra SC Wy h1 h2 hm (by simp) (by simp) hc.1 lI.1 lI.2
        obtain rfl:hh=0:=by omega
        obtain rfl:l=0:=by omega
        obtain rfl:m' =0:=by omega
        refine⟨_,?_,.gq⟩
        simp[Instr.sliceAt,Instr.slice,run_underlying hu,hb,run_sizeOf hz]
       ·rename_i i off
        split at h
        ·rename_i Au
         obtain rfl:=Option.some.inj h
         have Aw:=hx
         cases hx with
         |slice _ _ _ _ a1 cap h0 vu hr=>
         have hb:=o5 (P:=P) S.w true len cap ra SC Wy h1 h2 hm (by simp) (by simp) hc.1 lI.1 (by omega)
         refine⟨_,?_,Aw.sub hc.1 lI.1 (by omega) Au _ ?_⟩
         ·simp[Instr.sliceAt,Instr.slice,run_underlying hu,hb,run_sizeOf hz]
          split<;>rfl
         ·by_cases hlm:l=m'
          ·rw[if_pos (by simp[hlm])];exact .inr ⟨rfl,hlm.symm⟩
          ·rw[if_neg (by simp[hlm])];exact .inl rfl
        ·cases h
       ·cases h
      ·cases h
     ·cases h
   ·cases h
  ·cases h
 ·rename_i n e i off c hu
  split at h
  ·rename_i l hh z b h1 h2 hz hb
   rcases Wy with ⟨_,rfl⟩|⟨_,_,e,_,_⟩
   case inr=>cases e
   split at h
   ·rename_i hc
    simp only[Bool.and_eq_true,Nat.ble_eq,Nat.blt_eq,Nat.beq_eq] at hc
    obtain⟨⟨⟨⟨⟨⟨iT,lI⟩,iS⟩,hle⟩,bc⟩,Qq⟩,vu⟩:=hc
    obtain rfl:=Option.some.inj h
    obtain⟨a1,rfl,hr⟩:=hx.p9
    have eT:Live b c:=⟨iS,hle⟩
    obtain rfl:=hr.addr hb eT
    have hbd:=il (P:=P) S.w false n n ra SC h1 h2 iT lI
    refine⟨.slice (some (if n=l then⟨(S.e.loc i c).1,(S.e.loc i c).2+off,none⟩ else(⟨(S.e.loc i c).1,(S.e.loc i c).2+off,none⟩:Addr).add (l*z))) (hh-l) (n-l),?_,?_⟩
    ·simp[Instr.sliceAt,run_underlying hu,Instr.sureAddr,hbd,run_sizeOf hz]
    ·refine .slice _ _ _ _ _ _ (by omega) (fun e=>by omega) (fun Hh=> ?_)
     have I3:¬n=l:=by omega
     rw[if_neg I3,Addr.add_lit]
     refine⟨⟨b,hb,hle,fun _=>by rw[Nat.add_assoc]⟩,fun b2 dB _=> ?_⟩
     rw[hb] at dB;obtain rfl:=Option.some.inj dB
     have hnz:0<n*z:=Nat.mul_pos (by omega) vu
     obtain⟨v,hv,_⟩:=hs.cell i b hb c eT (off+n*z-1) (by omega)
     obtain⟨arr,E,fr,hk,ha⟩:=tM hv
     have xK:=(Array.getElem?_eq_some_iff.1 ha).1
     refine⟨arr,E,fr,hk,?_⟩
     simp only
     rw[Qq]
     have:l*z+(n-l)*z=n*z:=by rw[<-Nat.add_mul];congr 1;omega
     omega
   ·cases h
  ·cases h
 ·cases h
end Go.Cl
namespace Go.Cl
open Go.RowKit
def mZ (P:Program)(base:Nat)(S:St)(m:Sem Value)(v:Value)(s' :aq):Prop:=
 ∃T v',T.s=s' /\m.run P S.w= .ok v' T.w/\VR T v v' /\Good base S T
theorem Reads.Hm {P:Program}{base:Nat}{S:St}{m:Sem Value}{v:Value}(h:SR base S)(hr:Reads P S m v):mZ P base S m v S.s:=by
 obtain⟨v',h1,h2⟩:=hr
 exact⟨S,v',rfl,h1,h2,Good.refl h⟩
def rO (P:Program)(base:Nat)(S:St)(m:Sem Value)(v:Value)(s0 s' :aq)(next:Nat):Prop:=
 ∃b,s' =s0.new (.dK b)/\∃T v',T.s=⟨Tr.set (depth s0.next) S.s.heap s0.next (.dK b),next⟩/\m.run P S.w= .ok v' T.w/\VR T v v' /\Good base S T
theorem rO.Hm {P:Program}{base:Nat}{S:St}{m:Sem Value}{v:Value}{s' :aq}(h:rO P base S m v S.s s' (S.s.next+1)):mZ P base S m v s' :=by
 obtain⟨b,rfl,T,v',h1,h2,h3,h4⟩:=h
 exact⟨T,v',h1,h2,h3,h4⟩
theorem nQ {base:Nat}{S:St}(h:SR base S){s0:aq}{next:Nat}(eI:mu S s0.next next){cs:List Value}{len mf:Nat}{v:Value}{s' :aq}(hn:aZ s0 cs len mf=some (v,s'))(arr:Array Value)(E:TypeId)(fr:Nat×Nat)(W:World)(cap:Nat)
  (hW:kz S.w W (.cells arr E fr)) (oz:fr.1=fr.2\/arr.size<=fr.1) (hle:cs.length<=arr.size) (hv:∀p,p<cs.length->VR S (cs.getD p undef) (arr.toList.getD p undef)) (oZ:len<=cap) (lI:cap*mf<=arr.size):
  ∃b,s' =s0.new (.dK b)/\∃T,T.s=⟨Tr.set (depth s0.next) S.s.heap s0.next (.dK b),next⟩/\T.w=W/\VR T v (.slice (some ⟨S.w.heap.size,0,none⟩) len cap)/\Good base S T:=by
 unfold aZ at hn
 split at hn
 ·injection hn with hn;injection hn with e1 e2
  subst e1;subst e2
  exact⟨⟨cs,1,true,mf⟩,rfl,S.rI s0.next next ⟨cs,1,true,mf⟩ W,rfl,rfl,.slice _ _ _ _ _ _ oZ (fun e=>by omega) (fun _=>⟨St.A7 eI _ W 0 _ (Nat.le_refl _),St.L0 eI _ W 0 _ cap arr E fr hW (by simpa using lI)⟩),
   Good.SS h eI cs mf arr E fr W hW oz hle hv⟩
 ·cases hn
theorem rP {base:Nat}{S:St}(h:SR base S){cs:List Value}{len mf:Nat}{v:Value}{s' :aq}(hn:aZ S.s cs len mf=some (v,s'))(arr:Array Value)(E:TypeId)(fr:Nat×Nat)(W:World)(cap:Nat)
  (hW:kz S.w W (.cells arr E fr)) (oz:fr.1=fr.2\/arr.size<=fr.1) (hle:cs.length<=arr.size) (hv:∀p,p<cs.length->VR S (cs.getD p undef) (arr.toList.getD p undef)) (oZ:len<=cap) (lI:cap*mf<=arr.size):
  ∃T,T.s=s' /\T.w=W/\VR T v (.slice (some ⟨S.w.heap.size,0,none⟩) len cap)/\Good base S T:=by
 have cY:S.s.room=true:=by
  unfold aZ at hn
  split at hn
  ·assumption
  ·cases hn
 obtain⟨b,rfl,T,h1,h2,h3,h4⟩:=nQ h (mu.self h cY) hn arr E fr W cap hW oz hle hv oZ lI
 exact⟨T,h1,h2,h3,h4⟩
theorem EV {base:Nat}{S:St}(h:SR base S){s0:aq}{next:Nat}(eI:mu S s0.next next){cs:List Value}{mf:Nat}{v:Value}{s' :aq}(hn:eR s0 cs mf=some (v,s'))(arr:Array Value)(E:TypeId)
  (hv:er S cs arr.toList):∃b,s' =s0.new (.dK b)/\∃T,T.s=⟨Tr.set (depth s0.next) S.s.heap s0.next (.dK b),next⟩/\T.w=S.w.alloc (.cells arr E)/\VR T v (.pointer (some ⟨S.w.heap.size,0,none⟩))/\Good base S T:=by
 unfold eR at hn
 split at hn
 ·injection hn with hn;injection hn with e1 e2
  subst e1;subst e2
  have hl:=hv.1
  exact⟨⟨cs,1,true,mf⟩,rfl,S.rI s0.next next ⟨cs,1,true,mf⟩ _,rfl,rfl,.ptr _ _ _ _ (St.A7 eI _ _ 0 _ (Nat.le_refl _)),
   Good.SS h eI cs mf arr E (0,0) _ ⟨rfl,rfl,rfl,rfl⟩ (.inl rfl) (by simp at hl;omega) hv.2⟩
 ·cases hn
theorem Bf {P:Program}(w:World)(t:TypeId)(v:Value):(newVar t v).run P w= .ok ⟨w.heap.size,0,none⟩ (w.alloc (.cells v.cells t)):=by simp[newVar,newRow]
theorem I4 {P:Program}{base:Nat}{S:St}(h:SR base S){s0:aq}{next:Nat}(eI:mu S s0.next next){e:TypeId}{z v:Value}{mf:Nat}{s' :aq}(hz:bW P e=some z)(hp:bP z=true)(hn:eR s0 z.cells.toList mf=some (v,s')):
  rO P base S (Instr.alloc e true (.tuple #[])) v s0 s' next:=by
 obtain⟨b,h0,T,h1,h2,h3,h4⟩:=EV h eI hn z.cells e (kB hp).cells
 exact⟨b,h0,T,_,h1,by rw[h2];simp[Instr.alloc,dq hz,Bf],h3,h4⟩
theorem S5 {P:Program}{base:Nat}{S:St}(h:SR base S){s0:aq}{next:Nat}(eI:mu S s0.next next){e:TypeId}{x x' v:Value}{mf:Nat}{s' :aq}(hx:VR S x x')(hn:eR s0 x.cells.toList mf=some (v,s')):rO P base S (Instr.box e x') v s0 s' next:=by
 obtain⟨b,h0,T,h1,h2,h3,h4⟩:=EV h eI hn x'.cells e hx.cells
 exact⟨b,h0,T,_,h1,by rw[h2];simp[Instr.box,Bf],h3,h4⟩
theorem Good.freeze {base:Nat}{S:St}(h:SR base S){i c:Nat}{b:jE}(hb:S.s.bA i=some b)(ho:b.own=true)(hc:Live b c){arr:Array Value}{E:TypeId}{fr:Nat×Nat}
  (ha:S.w.heap[(S.e.loc i c).1]?=some (.cells arr E fr)):
  Good base S ⟨S.s.put i (.dK b),S.e,S.w.freeze ⟨(S.e.loc i c).1,arr.size,none⟩ 1⟩:=by
 obtain⟨tE,⟨Qh,E0,fr0,fx,nJ⟩,xx,Zg⟩:=h.own i b hb ho c hc
 rw[ha] at fx
 injection fx with fx;injection fx with e1 e2 e3
 subst e1;subst e2;subst e3
 have ck:∀k,k≠(S.e.loc i c).1->(S.w.freeze ⟨(S.e.loc i c).1,arr.size,none⟩ 1).heap[k]?=S.w.heap[k]?:=fun k hk=>by
  unfold World.freeze
  rw[if_neg (by decide)]
  simp only[Array.getElem?_modify]
  rw[if_neg (by omega)]
 have gF:∃LX:Nat×Nat,(S.w.freeze ⟨(S.e.loc i c).1,arr.size,none⟩ 1).heap[(S.e.loc i c).1]?=some (.cells arr E LX)/\(LX.1=LX.2\/arr.size<=LX.1):=by
  unfold World.freeze
  rw[if_neg (by decide)]
  simp only[Array.getElem?_modify,if_true,ha,Option.map_some]
  refine⟨_,rfl,?_⟩
  by_cases oz:fr.1=fr.2
  ·rw[if_pos (by simp[oz])];exact .inr (Nat.le_refl _)
  ·rw[if_neg (by simp[oz])]
   refine .inr ?_
   have:arr.size<=fr.1:=nJ.resolve_left oz
   show arr.size<=min fr.1 arr.size
   omega
 obtain⟨LX,jZ,dg⟩:=gF
 have b6:(S.w.freeze ⟨(S.e.loc i c).1,arr.size,none⟩ 1).heap.size=S.w.heap.size:=by
  unfold World.freeze
  rw[if_neg (by decide)]
  simp
 have iz:∀k o,(S.w.freeze ⟨(S.e.loc i c).1,arr.size,none⟩ 1).cell? ⟨k,o,none⟩=S.w.cell? ⟨k,o,none⟩:=fun k o=>by
  by_cases hk:k=(S.e.loc i c).1
  ·subst hk;rw[bX _ _ _ _ _ _ jZ,bX _ _ _ _ _ _ ha]
  ·exact World.cell?_of_block (ck k hk)
 have mY:Below base S.w (S.w.freeze ⟨(S.e.loc i c).1,arr.size,none⟩ 1):=by
  refine⟨?_,?_,?_,by rw[b6];exact Nat.le_refl _,fun k hk=>ck k (by omega)⟩<;>(unfold World.freeze;rw[if_neg (by decide)])
 refine SR.change h i (S.e.loc i c).1 S.s.next b S.e.loc _ (h.lt hb) (Nat.le_refl _) h.room (.inl (h.lt hb)) (fun es he=>jF hb he) (h.low i b hb) ?_ (fun _ _=>rfl)
  (fun k hk _=>ck k hk) (fun j bj c' hj qZ gG e=>hj (xx j bj qZ c' gG e)) ?_ (fun c' gG=>by rw[b6];exact h.He i b hb c' gG) ?_ ?_ ?_ ?_ mY (by rw[b6];exact Nat.le_refl _)
 ·intro b0 uv
  rw[hb] at uv;obtain rfl:=Option.some.inj uv
  exact⟨Nat.le_refl _,Nat.le_refl _,rfl,fun _ _ _=>rfl⟩
 ·intro r es he e
  obtain⟨_,fz,qY,h2,_⟩:=h.map r es he
  rw[e,ha] at h2;cases h2
 ·intro c' gG p hp
  rw[iz]
  exact h.cell i b hb c' gG p hp
 ·intro _ c' gG
  obtain⟨h1,⟨L2,E1,fr1,h2,h3⟩,h4,h5⟩:=h.own i b hb ho c' gG
  refine⟨h1,?_,fun j bj hj qZ c1 iT e=>hj (h4 j bj qZ c1 iT e),h5⟩
  by_cases hk:(S.e.loc i c').1=(S.e.loc i c).1
  ·rw[hk,ha] at h2
   injection h2 with h2;injection h2 with e1 e2 e3
   subst e1
   exact⟨arr,E,LX,by rw[hk];exact jZ,dg⟩
  ·exact⟨L2,E1,fr1,by rw[ck _ hk];exact h2,h3⟩
 ·intro j bj hj qZ Ly c1 iT c' gG e
  exact hj ((h.own i b hb ho c' gG).2.2.1 j bj qZ c1 iT e.symm)
 ·intro Qh E0 fr0 hk
  rw[ha] at hk
  injection hk with hk;injection hk with e1 e2 e3
  subst e1;subst e2
  exact⟨arr,LX,jZ,rfl⟩
theorem L6 {S:St}:∀{l l' :List Value} {bs:List UInt8},er S l l' ->nM l=some bs->∃ns:List Int,l' =ns.map (Value.int .u8)/\bs=ns.map (fun n=>UInt8.ofNat n.toNat):=by
 intro l
 induction l with
 |nil=>intro l' bs hv h;simp only[nM] at h;obtain rfl:=Option.some.inj h;exact⟨[],hv.jq,rfl⟩
 |cons v l ih=>
  intro l' bs hv h
  obtain⟨v',r',rfl,h1,h2⟩:=hv.cons_inv
  simp only[nM] at h
  split at h
  ·rename_i b hb
   split at h
   ·rename_i m hm
    obtain rfl:=Option.some.inj h
    obtain⟨ns,h3,h4⟩:=ih h2 hm
    unfold toByte at hb
    split at hb
    ·rename_i n
     cases h1
     obtain rfl:=Option.some.inj hb
     exact⟨n::ns,by simp[h3],by simp[h4]⟩
    ·cases hb
   ·cases h
  ·cases h
theorem tP {S:St}(l:List UInt8):er S (ofBytes l) (ofBytes l):=by
 induction l with
 |nil=>exact er.nil
 |cons b l ih=>exact er.cons (.int _ _) ih
def rQ:Option TypeDesc->Bool
 |some (.slice _)=>true
 |_=>false
theorem L7 {P:Program}{base:Nat}{S:St}(h:SR base S){src dst:TypeId}{x x' v:Value}{s' :aq}(hx:VR S x x')(hc:fW P S.s src dst x=some (v,s'))(hq:rQ (P.underlying dst)=false):
  s' =S.s/\Reads P S (convert src dst x') v:=by
 unfold fW at hc
 split at hc
 ·rename_i d1 k k2 n hs hd
  injection hc with hc;injection hc with e1 e2;subst e1;subst e2
  cases hx
  exact⟨rfl,_,by simp[convert,run_underlying hs,run_underlying hd,Conv.intToInt],.int _ _⟩
 ·rename_i d1 b hs hd
  injection hc with hc;injection hc with e1 e2;subst e1;subst e2
  cases hx
  exact⟨rfl,_,by simp[convert,run_underlying hs,run_underlying hd],.string _⟩
 ·rename_i e b hs hd;rw[hd] at hq;cases hq
 ·rename_i e1 e2 i off len c hs hd;rw[hd] at hq;cases hq
 ·rename_i e n c hs hd
  split at hc
  ·rename_i hu
   injection hc with hc;injection hc with e1 e2;subst e1;subst e2
   cases hx
   refine⟨rfl,_,?_,.string _⟩
   rw[run_convert_bytes_string _ _ _ _ _ _ _ hs (vD hu) hd]
   simp[Conv.bytesToString]
   rfl
  ·cases hc
 ·rename_i e i off len c hs hd
  split at hc
  ·rename_i hu
   cases hx with
   |slice _ _ _ _ a cap h0 hz hr=>
   split at hc
   ·injection hc with hc;injection hc with e1 e2;subst e1;subst e2
    refine⟨rfl,_,?_,.string _⟩
    rw[run_convert_bytes_string _ _ _ _ _ _ _ hs (vD hu) hd,run_bytesToString S.w a 0 cap [] (by simp[loadCells,loadCellsFrom])]
    rfl
   ·rename_i m
    split at hc
    ·rename_i l hl
     split at hc
     ·rename_i bs m8
      injection hc with hc;injection hc with e1 e2;subst e1;subst e2
      obtain⟨b,hb,eT,_,_,yQ,Hg,iz⟩:=h.cells hl
      obtain⟨⟨b',oT,_,Hn⟩,_⟩:=hr (by omega)
      rw[hb] at oT;obtain rfl:=Option.some.inj oT
      obtain rfl:=Hn eT.1
      obtain⟨ns,h1,h2⟩:=L6 Hg m8
      refine⟨rfl,_,?_,.string _⟩
      have iF:=run_loadCells P S.w _ _ _ iz
      rw[h1] at iF
      rw[run_convert_bytes_string _ _ _ _ _ _ _ hs (vD hu) hd,run_bytesToString S.w _ _ cap ns iF,foldl_push_bytes,h2]
      congr 2
      apply xI
      rw[Array.toList_append]
      rfl
     ·cases hc
    ·cases hc
  ·cases hc
 ·cases hc
theorem yS {P:Program}{base:Nat}{S:St}(h:SR base S){s0:aq}{next:Nat}(eI:mu S s0.next next){src dst:TypeId}{x x' v:Value}{s' :aq}(hx:VR S x x')(hc:fW P s0 src dst x=some (v,s'))(hq:iQ P src dst=true):
  rO P base S (convert src dst x') v s0 s' next:=by
 unfold iQ at hq
 split at hq
 case h_2=>cases hq
 rename_i e0 oB S6
 unfold fW at hc
 split at hc
 ·rename_i hs hd;rw[S6] at hd;cases hd
 ·rename_i hs hd;rw[S6] at hd;cases hd
 ·rename_i e b hs hd
  split at hc
  ·rename_i hu
   simp only[Bool.and_eq_true,Nat.ble_eq] at hu
   cases hx
   have fT:=run_bytes_of_string (P:=P) S.w src dst e b hs hd (vD hu.1)
   have I5:=grownCap_ge S.w b.size 0 e
   have b6:(bytesRow b (grownCap S.w b.size 0 e)).size=grownCap S.w b.size 0 e:=by
    simp only[bytesRow,Array.size_append,Array.size_map,Array.size_replicate]
    have:b.data.size=b.size:=rfl
    omega
   have hlen:(ofBytes b.data.toList).length=b.size:=by simp only[ofBytes,List.length_map];exact(size_data b).symm
   obtain⟨bk,h0,T,h1,h2,h3,h4⟩:=nQ h eI hc (bytesRow b (grownCap S.w b.size 0 e)) e ((bytesRow b (grownCap S.w b.size 0 e)).size,(bytesRow b (grownCap S.w b.size 0 e)).size+1)
    (S.w.drew.alloc (.cells (bytesRow b (grownCap S.w b.size 0 e)) e ((bytesRow b (grownCap S.w b.size 0 e)).size,(bytesRow b (grownCap S.w b.size 0 e)).size+1))) (grownCap S.w b.size 0 e) ⟨rfl,rfl,rfl,rfl⟩ (.inr (Nat.le_refl _)) (by omega) (fun p hp=>by
     have hr:(bytesRow b (grownCap S.w b.size 0 e)).toList.getD p undef=(ofBytes b.data.toList).getD p undef:=by
      simp only[bytesRow,Array.toList_append,Array.toList_map]
      rw[dR _ _ _ (by rw[List.length_map];rw[hlen,size_data] at hp;exact hp)]
      rfl
     rw[hr]
     exact(tP (S:=S) b.data.toList).2 p hp) (by rw[<-size_data];exact I5) (by omega)
   rw[<-size_data] at h3
   exact⟨bk,h0,T,_,h1,by rw[h2];exact fT,h3,h4⟩
  ·cases hc
 ·rename_i hs hd;rw[oB] at hs;cases hs
 ·rename_i hs hd;rw[S6] at hd;cases hd
 ·rename_i hs hd;rw[S6] at hd;cases hd
 ·cases hc
theorem L8 {P:Program}{base:Nat}{S:St}(h:SR base S){src dst:TypeId}{x x' v:Value}{s' :aq}(hx:VR S x x')(hc:fW P S.s src dst x=some (v,s'))(hq:rQ (P.underlying dst)=true)(D4:iQ P src dst=false):
  mZ P base S (convert src dst x') v s' :=by
 unfold fW at hc
 split at hc
 ·rename_i d1 k k2 n hs hd;rw[hd] at hq;cases hq
 ·rename_i d1 b hs hd;rw[hd] at hq;cases hq
 ·rename_i e b hs hd;simp only[iQ,hs,hd] at D4;cases D4
 ·rename_i e1 e2 i off len c hs hd
  split at hc
  ·cases hc
  ·rename_i m
   split at hc
   ·rename_i b hb
    split at hc
    ·rename_i gX
     simp only[Bool.and_eq_true,Nat.ble_eq,Nat.beq_eq] at gX
     obtain⟨⟨⟨⟨hsd,hu⟩,ho⟩,iS⟩,hle⟩:=gX
     injection hc with hc;injection hc with e3 e4;subst e3;subst e4
     have Aw:=hx
     cases hx with
     |slice _ _ _ _ a cap h0 hz hr=>
     have eT:Live b c:=⟨iS,hle⟩
     obtain⟨tE,⟨arr,E,fr,fx,nJ⟩,xx,Zg⟩:=h.own i b hb ho c eT
     obtain⟨⟨b',oT,_,Hn⟩,_⟩:=hr (by omega)
     rw[hb] at oT;obtain rfl:=Option.some.inj oT
     obtain rfl:=Hn iS
     have hg:=Good.freeze h hb ho eT fx
     refine⟨_,_,rfl,?_,Aw.mono hg.ext,hg⟩
     have aaJ:S.w.shape? (S.e.loc i c).1=some (E,arr.size):=by simp[World.shape?,fx]
     subst hsd
     obtain rfl:e1=e2:=by rw[hs] at hd;injection hd with hd;injection hd
     simp[convert,run_underlying hs,run_underlying (vD hu),markStringish,aaJ]
    ·cases hc
   ·cases hc
 ·rename_i e n c hs hd;rw[hd] at hq;cases hq
 ·rename_i e i off len c hs hd;rw[hd] at hq;cases hq
 ·cases hc
theorem Qr:∀(vs:List Value) (k off:Nat) (cs:Array Value) (p:Nat),off+k+vs.length<=cs.size->
  ((vs.zipIdx k).foldl (fun(cs:Array Value) (x:Value×Nat)=>cs.setIfInBounds (off+x.2) x.1) cs).size=cs.size/\
  ((vs.zipIdx k).foldl (fun(cs:Array Value) (x:Value×Nat)=>cs.setIfInBounds (off+x.2) x.1) cs)[p]?=if off+k<=p/\p<off+k+vs.length then some (vs.getD (p-(off+k)) undef) else cs[p]?:=by
 intro vs
 induction vs with
 |nil=>intro k off cs p _;exact⟨rfl,by rw[if_neg (by simp)];rfl⟩
 |cons v r ih=>
  intro k off cs p h
  simp only[List.length_cons] at h
  simp only[List.zipIdx_cons,List.foldl_cons]
  obtain⟨h1,h2⟩:=ih (k+1) off (cs.setIfInBounds (off+k) v) p (by simp;omega)
  refine⟨by rw[h1];simp,?_⟩
  rw[h2]
  by_cases hp:off+(k+1)<=p/\p<off+(k+1)+r.length
  ·rw[if_pos hp,if_pos (by simp;omega),show p-(off+k)=(p-(off+(k+1)))+1 by omega,List.getD_cons_succ]
  ·rw[if_neg hp]
   by_cases hpo:p=off+k
   ·subst hpo
    rw[if_pos (by simp),Array.getElem?_setIfInBounds_self_of_lt (by omega),Nat.sub_self,List.getD_cons_zero]
   ·rw[if_neg (by simp;omega),Array.getElem?_setIfInBounds_ne (by omega)]
def PR (S:St):List (Nat×Value)->List (Nat×Value)->Prop
 |[],[]=>True
 |(i,v)::r,(j,u)::r' =>i=j/\VR S v u/\PR S r r'
 |_,_=>False
theorem Ho {S:St}(place S7:Nat->Option (Nat×Nat))(oY:∀i,place i=S7 i):∀(parts jy:List (Nat×Value)) (cs:List Value) (iE:Array Value) (l:List Value),
  PR S parts jy->er S cs iE.toList->fI place cs parts=some l->∃l',Instr.fill S7 iE jy=some l' /\er S l l'.toList:=by
 intro parts
 induction parts with
 |nil=>
  intro jy cs iE l hp hc h
  cases jy with
  |nil=>simp only[fI] at h;obtain rfl:=Option.some.inj h;exact⟨iE,rfl,hc⟩
  |cons _ _=>exact hp.elim
 |cons x r ih=>
  intro jy cs iE l hp hc h
  obtain⟨i,v⟩:=x
  cases jy with
  |nil=>exact hp.elim
  |cons y r' =>
   obtain⟨j,u⟩:=y
   obtain⟨rfl,hv,hr⟩:=hp
   simp only[fI] at h
   split at h
   ·rename_i off size Ow
    split at h
    ·rename_i b6
     simp only[Bool.and_eq_true,Nat.beq_eq,Nat.ble_eq] at b6
     obtain⟨SP,kA⟩:=b6
     split at h
     ·rename_i m hm
      obtain⟨h1,_,h3⟩:=uu _ _ _ _ hm
      have Bg:=hv.cells
      have hul:u.cells.size=size:=by have:=Bg.1;simp at this SP;omega
      have jH:iE.size=cs.length:=by have:=hc.1;simp at this;omega
      have Af:m.length=cs.length:=h1
      have hf:=fun p=>Qr u.cells.toList 0 off iE p (by simp;omega)
      have Wz:u.cells.zipIdx.foldl (fun cs x=>cs.setIfInBounds (off+x.2) x.1) iE=(u.cells.toList.zipIdx 0).foldl (fun cs x=>cs.setIfInBounds (off+x.2) x.1) iE:=by
       rw[show u.cells.zipIdx=(u.cells.toList.zipIdx 0).toArray by rw[<-Array.toList_inj];simp,List.foldl_toArray]
      generalize hF:(u.cells.toList.zipIdx 0).foldl (fun cs x=>cs.setIfInBounds (off+x.2) x.1) iE=F at hf Wz
      obtain⟨l',kX,jS⟩:=ih r' m F l hr (by
       have hF1:=(hf 0).1
       have Zk:F.toList.length=F.size:=Array.length_toList
       refine⟨by omega,fun p hp=> ?_⟩
       rw[h3 p]
       have hFp:F.toList.getD p undef=if off+0<=p/\p<off+0+u.cells.toList.length then u.cells.toList.getD (p-(off+0)) undef else iE.toList.getD p undef:=by
        rw[List.getD_eq_getElem?_getD,Array.getElem?_toList,(hf p).2]
        split
        ·rfl
        ·rw[List.getD_eq_getElem?_getD,Array.getElem?_toList]
       rw[hFp]
       by_cases S8:off<=p/\p<off+v.cells.toList.length
       ·rw[if_pos S8,if_pos (by rw[Array.length_toList,hul];rw[SP] at S8;omega)]
        exact Bg.2 (p-off) (by omega)
       ·rw[if_neg S8,if_neg (by rw[Array.length_toList,hul];rw[SP] at S8;omega)]
        exact hc.2 p (by omega)) h
      refine⟨l',?_,jS⟩
      simp only[Instr.fill]
      rw[<-oY i,Ow]
      simp only
      rw[if_neg (by simp;omega),Wz]
      exact kX
     ·cases h
    ·cases h
   ·cases h
theorem xL {S:St}{f:aT}{a:Act}(hf:FR S f a):∀{ps:List (Nat×Operand)} {l:List (Nat×Value)},ae f ps=some l->PR S l (ps.map fun x=>(x.1,a.eval x.2)):=by
 intro ps
 induction ps with
 |nil=>intro l h;simp only[ae] at h;obtain rfl:=Option.some.inj h;trivial
 |cons x ps ih=>
  intro l h
  obtain⟨i,x⟩:=x
  simp only[ae] at h
  split at h
  ·rename_i v r hv hr;obtain rfl:=Option.some.inj h;exact⟨rfl,bt hf hv,ih hr⟩
  ·cases h
theorem S9 {α β:Type}{P:Program}(w:World)(g:α->Sem β)(g' :α->β):∀(l:List α),(∀x∈l,(g x).run P w= .ok (g' x) w)->(l.mapM g).run P w= .ok (l.map g') w:=by
 intro l
 induction l with
 |nil=>intro _;simp
 |cons x l ih=>
  intro h
  simp[List.mapM_cons,h x (by simp),ih (fun y hy=>h y (by simp[hy]))]
theorem Qs {P:Program}{S:St}{t:TypeId}{parts jy:List (Nat×Value)}{v:Value}(hp:PR S parts jy)(h:cE P t parts=some v):Reads P S (Instr.build t jy.toArray) v:=by
 unfold cE at h
 split at h
 ·rename_i fs z hu hz
  split at h
  ·rename_i hc
   simp only[Bool.and_eq_true,List.all_eq_true] at hc
   split at h
   ·rename_i l hl
    obtain rfl:=Option.some.inj h
    let g' :Field->Nat×Nat:=fun f=>(f.offset,(aW P f.type).getD 0)
    have W9:(fs.mapM (fun f=>Prod.mk f.offset<$>sizeOf f.type):Sem (Array (Nat×Nat))).run P S.w= .ok (fs.map g') S.w:=by
     rw[Array.mapM_eq_mapM_toList]
     have:=S9 (P:=P) S.w (fun f:Field=>(Prod.mk f.offset<$>sizeOf f.type:Sem (Nat×Nat))) g' fs.toList (fun f hf=>by
      obtain⟨n,hn⟩:=Option.isSome_iff_exists.1 (hc.2 f hf)
      simp[run_sizeOf hn,g',hn])
     simp only[Sem.run_map,this,Result.andThen_ok]
     congr 1
     rw[<-Array.toList_inj];simp
    obtain⟨l',h1,h2⟩:=Ho (placeOf P fs) ((fs.map g')[·]?) (fun i=>by
     simp only[placeOf,Array.getElem?_map]
     cases hfi:fs[i]? with
     |none=>rfl
     |some f=>
      have o7:f∈fs.toList:=by
       have:=Array.mem_of_getElem? hfi
       simpa using this
      obtain⟨n,hn⟩:=Option.isSome_iff_exists.1 (hc.2 f o7)
      simp[hn,g']) parts jy _ z.cells l hp (kB hc.1).cells hl
    refine⟨.agg l',?_,.agg _ _ h2.1 h2.2⟩
    simp only[Array.getElem?_map] at h1
    simp[Instr.build,dq hz,run_underlying hu,W9,h1]
   ·cases h
  ·cases h
 ·rename_i n e z hu hz
  split at h
  ·rename_i sz hs
   split at h
   ·rename_i hc
    split at h
    ·rename_i l hl
     obtain rfl:=Option.some.inj h
     obtain⟨l',h1,h2⟩:=Ho (fun i=>some (i*sz,sz)) (fun i=>some (i*sz,sz)) (fun _=>rfl) parts jy _ z.cells l hp (kB hc).cells hl
     refine⟨.agg l',?_,.agg _ _ h2.1 h2.2⟩
     simp[Instr.build,dq hz,run_underlying hu,run_sizeOf hs,h1]
    ·cases h
   ·cases h
  ·cases h
 ·cases h
theorem dw (z:List Value):∀n,(bw z n).length=n*z.length
 |0=>by simp[bw]
 |n+1=>by rw[bw,List.length_append,dw z n,Nat.succ_mul];omega
theorem vG (z:List Value)(hz:0<z.length):∀n p,p<n*z.length->(bw z n).getD p undef=z.getD (p%z.length) undef
 |0,p,h=>by simp at h
 |n+1,p,h=>by
  rw[bw]
  by_cases hp:p<z.length
  ·rw[dR _ _ _ hp,Nat.mod_eq_of_lt hp]
  ·rw[jY _ _ _ (by omega),vG z hz n (p-z.length) (by rw[Nat.add_mul,Nat.one_mul] at h;omega),<-Nat.mod_eq_sub_mod (by omega)]
theorem Qt (z:Array Value)(n p:Nat)(h:p<n)(hz:0<z.size):((Array.range n).map (z[·%z.size]!)).toList.getD p undef=z.toList.getD (p%z.size) undef:=by
 have h2:p%z.size<z.size:=Nat.mod_lt _ hz
 simp[List.getD_eq_getElem?_getD,h,h2]
theorem vH {S:St}{z:Value}(hp:bP z=true){n:Nat}(hn:z.cells.toList.length=n)(len m:Nat)(hle:len*n<=m):∀p,p<len*n->VR S ((bw z.cells.toList len).getD p undef) (((Array.range m).map (z.cells[·%z.cells.size]!)).toList.getD p undef):=by
 intro p h
 have Hh:0<n:=by
  rcases Nat.eq_zero_or_pos n with h0|h0
  ·subst h0;simp at h
  ·exact h0
 have b6:z.cells.size=n:=by simpa using hn
 rw[vG _ (by omega) len p (by rw[hn];exact h),Qt _ _ _ (by omega) (by omega),hn,b6]
 exact((kB hp).cells (S:=S)).2 _ (by rw[hn];exact Nat.mod_lt _ Hh)
theorem rR {P:Program}{base:Nat}{S:St}(h:SR base S){s0:aq}{next:Nat}(eI:mu S s0.next next){t:TypeId}{len:Nat}{parts jy:List (Nat×Value)}{v:Value}{s' :aq}(hp:PR S parts jy)(hb:aL P s0 t len parts=some (v,s')):
  rO P base S (Instr.buildSlice t len jy.toArray) v s0 s' next:=by
 unfold aL at hb
 split at hb
 ·rename_i e hu
  split at hb
  ·rename_i n z hn hz
   split at hb
   ·rename_i hc
    simp only[Bool.and_eq_true,Nat.ble_eq,Nat.beq_eq] at hc
    obtain⟨⟨hle,oY⟩,LF⟩:=hc
    split at hb
    ·rename_i l hl
     have oC:(bw z.cells.toList len).length=len*n:=by rw[dw,LF]
     obtain⟨l',h1,h2⟩:=Ho (fun i=>some (i*n,n)) (fun i=>some (i*n,n)) (fun _=>rfl) parts jy _ ((Array.range (len*n)).map (z.cells[·%z.cells.size]!)) l hp
      ⟨by rw[oC];simp,fun p hp=>vH oY LF len (len*n) (Nat.le_refl _) p (by rw[oC] at hp;exact hp)⟩ hl
     have xH:l.length=l'.size:=by have:=h2.1;simpa using this
     have an1:l'.size=len*n:=by
      have:∀(ps:List (Nat×Value)) (cs:List Value) (l:List Value),fI (fun i=>some (i*n,n)) cs ps=some l->l.length=cs.length:=by
       intro ps
       induction ps with
       |nil=>intro cs l h;simp only[fI] at h;obtain rfl:=Option.some.inj h;rfl
       |cons x r ih=>
        intro cs l h
        obtain⟨i,v⟩:=x
        simp only[fI] at h
        split at h
        ·split at h
         ·rename_i m hm
          rw[ih m l h];exact(uu _ _ _ _ hm).1
         ·cases h
        ·cases h
      rw[<-xH,this _ _ _ hl,oC]
     obtain⟨b,k0,T,k1,k2,k3,k4⟩:=nQ h eI hb l' e (0,0) (S.w.alloc (.cells l' e)) len ⟨rfl,rfl,rfl,rfl⟩ (.inl rfl) (by omega) h2.2 (Nat.le_refl _) (by omega)
     refine⟨b,k0,T,_,k1,?_,k3,k4⟩
     rw[k2]
     have aiG:¬(16777216<len*n):=by omega
     by_cases h0:len*n=0
     ·have hr:Array.range (len*n)= #[]:=by rw[h0];rfl
      rw[hr] at h1
      simp only[Array.map_empty] at h1
      simp[Instr.buildSlice,run_underlying hu,run_sizeOf hn,h0]
      rw[show Array.range 0= #[] from rfl]
      simp[h1,newRow]
     ·have Zf:¬len*n>2^24:=by omega
      simp only[Instr.buildSlice,Sem.run_bind,run_underlying hu,Result.andThen_ok,run_sizeOf hn,if_neg Zf,Sem.run_pure,if_neg h0,dq hz]
      rw[h1]
      simp[newRow]
    ·cases hb
   ·cases hb
  ·cases hb
 ·cases hb
theorem tQ {P:Program}{base:Nat}{S:St}(h:SR base S){s0:aq}{next:Nat}(eI:mu S s0.next next){t:TypeId}{x y x' y' v:Value}{s' :aq}(hx:VR S x x')(hy:VR S y y')(hb:eS P s0 t x y=some (v,s')):
  rO P base S (Instr.makeSlice t x' y') v s0 s' next:=by
 unfold eS at hb
 split at hb
 ·rename_i e k l k2 c hu
  cases hx;cases hy
  split at hb
  ·rename_i n z nN hn hz rS
   split at hb
   ·rename_i hc
    simp only[Bool.and_eq_true,Nat.ble_eq,Nat.beq_eq] at hc
    obtain⟨⟨⟨⟨js,iT⟩,lI⟩,oY⟩,LF⟩:=hc
    obtain⟨i,hi,hiz⟩:=vC hz
    have his:i.size=n:=by obtain⟨i2,IF,h3⟩:=vB hn;rw[hi] at IF;obtain rfl:=Option.some.inj IF;exact h3
    have hib:i.bytes=nN:=by obtain⟨i2,IF,h3⟩:=oA rS;rw[hi] at IF;obtain rfl:=Option.some.inj IF;exact h3
    have fT:=run_make (P:=P) S.w t e i z hu hi hiz k k2 (Int.ofNat l) (Int.ofNat c) (Int.natCast_nonneg _) (Int.ofNat_le.2 js) (by rw[hib];exact(show((nN*c:Nat):Int)<=((281474976710656:Nat):Int) from Int.ofNat_le.2 (by omega))) (show((c:Nat):Int)<=((9223372036854775807:Nat):Int) from Int.ofNat_le.2 (by omega))
    have oC:(bw z.cells.toList l).length=l*n:=by rw[dw,LF]
    have yQ:l*n<=c*n:=Nat.mul_le_mul_right _ js
    obtain⟨b,k0,T,k1,IH,k3,k4⟩:=nQ h eI hb (madeCells z.cells (c*n)) e (0,0) (S.w.alloc (.cells (madeCells z.cells (c*n)) e)) c ⟨rfl,rfl,rfl,rfl⟩ (.inl rfl) (by rw[oC,size_madeCells];exact yQ)
     (fun p hp=>vH oY LF l (c*n) yQ p (by rw[oC] at hp;exact hp)) js (by rw[size_madeCells];exact Nat.le_refl _)
    refine⟨b,k0,T,_,k1,?_,k3,k4⟩
    rw[IH,fT,his]
    rfl
   ·cases hb
  ·cases hb
 ·cases hb
end Go.Cl
namespace Go.Cl
open Go.RowKit
theorem I6 (s:ByteArray):s.extract 0 s.size=s:=by
 apply xI
 rw[ByteArray.data_extract,Array.toList_extract]
 simp only[List.extract,List.drop_zero,Nat.sub_zero]
 rw[List.take_of_length_le (by rw[<-size_data];exact Nat.le_refl _)]
theorem Bh {P:Program}{base:Nat}{S:St}(h:SR base S){z n:Nat}{y y' :Value}{new:List Value}(hy:VR S y y')(hs:dH S.s z y=some (n,new)):
  ∃new',er S new new' /\new.length=n*z/\∀W:World,W.heap=S.w.heap->(Builtin.lenOf y').run P W= .ok n W/\(Builtin.firstCells z n y').run P W= .ok new'.toArray W:=by
 unfold dH at hs
 split at hs
 ·injection hs with hs;injection hs with e1 e2;subst e1;subst e2
  cases hy
  exact⟨[],er.nil,by simp,fun W _=>by simp[Builtin.lenOf,Builtin.firstCells]⟩
 ·rename_i i off m c
  cases hy with
  |slice _ _ _ _ a cap h0 hz hr=>
  split at hs
  ·injection hs with hs;injection hs with e1 e2;subst e1;subst e2
   exact⟨[],er.nil,by simp,fun W _=>by simp[Builtin.lenOf,Builtin.firstCells,loadCells,loadCellsFrom]⟩
  ·rename_i m
   split at hs
   ·rename_i l hl
    injection hs with hs;injection hs with e1 e2;subst e1;subst e2
    obtain⟨b,hb,eT,_,_,yQ,Hg,iz⟩:=h.cells hl
    obtain⟨⟨b',oT,_,Hn⟩,_⟩:=hr (by omega)
    rw[hb] at oT;obtain rfl:=Option.some.inj oT
    obtain rfl:=Hn eT.1
    refine⟨_,Hg,yQ,fun W hW=>⟨by simp[Builtin.lenOf],?_⟩⟩
    have hc:∀k o,W.cell? ⟨k,o,none⟩=S.w.cell? ⟨k,o,none⟩:=fun k o=>World.cell?_of_block (by rw[hW])
    have:=run_loadCells P W (S.e.loc i c).1 ((S.e.loc i c).2+off) _ (fun p hp=>by rw[hc];exact iz p hp)
    simp only[Builtin.firstCells]
    rw[this]
    congr 2
    simp only[xF,hc]
   ·cases hs
 ·rename_i b
  cases hy
  split at hs
  ·rename_i hz
   obtain rfl:z=1:=by simpa [Nat.beq_eq] using hz
   injection hs with hs;injection hs with e1 e2;subst e1;subst e2
   refine⟨ofBytes b.data.toList,tP _,by simp[ofBytes],fun W _=> ?_⟩
   rw[<-size_data]
   refine⟨by simp[Builtin.lenOf],?_⟩
   simp only[Builtin.firstCells,I6,Sem.run_pure]
   congr 1
   rw[<-Array.toList_inj]
   simp[ofBytes]
  ·cases hs
 ·cases hs
section
variable {P:Program} {w:World} {ts:Array TypeId} {arv:Array Value} {st xt e ty:TypeId} {xd:TypeDesc} {z nN n oD vI:Nat} {zv:Value} {bs:Option Addr} {y:Value} {new:List Value}
def Src (P:Program)(w w2:World)(e:TypeId)(z:Nat)(xd:TypeDesc)(y:Value)(n:Nat)(new:List Value):Prop:=
 (((∃e2,xd= .slice e2)\/xd= .string)/\(Builtin.lenOf y).run P w= .ok n w/\(Builtin.firstCells z n y).run P w2= .ok new.toArray w2)\/
 (∃k kk i zv,xd= .int k/\y= .int kk n/\P.info? e=some i/\n*i.bytes<=140737488355328/\n<=140737488355328/\bW P e=some zv/\zv.cells.size=z/\0<z/\new=(Builtin.zeroCells zv.cells n).toList)
theorem wrap_small {n:Nat}(h:n<=140737488355328):IntKind.i64.wrap (n:Int)=n:=by
 have e1:IntKind.i64.bits=64:=rfl
 have e2:IntKind.i64.signed=true:=rfl
 simp only[IntKind.wrap,e1,e2,Bool.true_and]
 simp
 omega
set_option maxHeartbeats 1000000 in
theorem qJ (h0:ts[0]?=some st)(h1:ts[1]?=some xt)(a0:arv[0]?=some (.slice bs oD vI))(a1:arv[1]?=some y)(hu:P.underlying st=some (.slice e))(hx:P.underlying xt=some xd)
  (hz:aW P e=some z) (Hp:Src P w w e z xd y n new) (cY:oD+n<=vI) (hn:n=0) (lN:new=[]):
  (Builtin.append_ ts ty arv).run P w= .ok (.slice bs oD vI) w:=by
 subst hn;subst lN
 have hr:oD<=vI:=by omega
 rcases Hp with ⟨SD,hlen,WA⟩|⟨k,kk,i,zv,rfl,rfl,hi,gu,dB,tR,LG,hzp,lN⟩
 ·cases bs with
  |none=>rcases SD with ⟨e2,rfl⟩|rfl<;>simp[Builtin.append_,h0,h1,a0,a1,run_underlying hu,run_underlying hx,run_sizeOf hz,hlen,hr,WA]
  |some a=>rcases SD with ⟨e2,rfl⟩|rfl<;>simp[Builtin.append_,h0,h1,a0,a1,run_underlying hu,run_underlying hx,run_sizeOf hz,hlen,hr,WA,storeCells]
 ·have hw:IntKind.i64.wrap 0=0:=wrap_small (n:=0) (by omega)
  have hti:∀W:World,(typeInfo e).run P W= .ok i W:=fun W=>by simp[typeInfo,hi]
  cases bs with
  |none=>simp[Builtin.append_,h0,h1,a0,a1,run_underlying hu,run_underlying hx,run_sizeOf hz,hr,asInt,asIntOf,hw,hti]
  |some a=>simp[Builtin.append_,h0,h1,a0,a1,run_underlying hu,run_underlying hx,run_sizeOf hz,hr,asInt,asIntOf,hw,hti,storeCells]
set_option maxHeartbeats 1000000 in
theorem tS {a:Addr}{w' :World}(h0:ts[0]?=some st)(h1:ts[1]?=some xt)(a0:arv[0]?=some (.slice (some a) oD vI))(a1:arv[1]?=some y)(hu:P.underlying st=some (.slice e))(hx:P.underlying xt=some xd)
  (hz:aW P e=some z) (Hp:Src P w w e z xd y n new) (Hh:0<n) (cY:oD+n<=vI) (aD:(storeCells (a.add (oD*z)) new).run P w= .ok () w'):
  (Builtin.append_ ts ty arv).run P w= .ok (.slice (some a) (oD+n) vI) w' :=by
 rcases Hp with ⟨SD,hlen,WA⟩|⟨k,kk,i,zv,rfl,rfl,hi,gu,dB,tR,LG,hzp,lN⟩
 ·rcases SD with ⟨e2,rfl⟩|rfl<;>simp[Builtin.append_,h0,h1,a0,a1,run_underlying hu,run_underlying hx,run_sizeOf hz,hlen,cY,WA,aD]
 ·have hw:=wrap_small dB
  have hti:∀W:World,(typeInfo e).run P W= .ok i W:=fun W=>by simp[typeInfo,hi]
  have Qu:¬(n:Int)<0:=by omega
  have tg:¬(281474976710656<(n:Int)*(i.bytes:Int)):=by
   have:((n*i.bytes:Nat):Int)=(n:Int)*(i.bytes:Int):=by push_cast;rfl
   omega
  have hnz:¬n*z=0:=by have:=Nat.mul_pos Hh hzp;omega
  subst lN
  simp[Builtin.append_,h0,h1,a0,a1,run_underlying hu,run_underlying hx,run_sizeOf hz,cY,aD,asInt,asIntOf,hw,hti,Qu,tg,hnz,dq tR]
set_option maxHeartbeats 1000000 in
theorem oE {old:Array Value}(h0:ts[0]?=some st)(h1:ts[1]?=some xt)(a0:arv[0]?=some (.slice bs oD vI))(a1:arv[1]?=some y)(hu:P.underlying st=some (.slice e))(hx:P.underlying xt=some xd)
  (hz:aW P e=some z) (hb8:fe P e=some nN) (tR:bW P e=some zv) (Hp:Src P w w.drew e z xd y n new) (Hh:0<n)
  (cY:¬oD+n<=vI) (hold:(Builtin.firstCells z oD (.slice bs oD vI)).run P w.drew= .ok old w.drew) (xM:oD+n<=140737488355328) (D5:(oD+n)*nN<=140737488355328):
  (Builtin.append_ ts ty arv).run P w= .ok (.slice (some ⟨w.heap.size,0,none⟩) (oD+n) (grownCap w (oD+n) vI e))
   (w.drew.alloc (.cells (old++new.toArray++Builtin.zeroCells zv.cells (grownCap w (oD+n) vI e-(oD+n))) e)):=by
 obtain⟨i,hi,rfl⟩:=oA hb8
 have h63:¬(9223372036854775807<((oD:Int)+(n:Int))):=by omega
 have kA:Builtin.nextslicecap (oD+n) vI*i.bytes<=281474976710656:=growslice_fits (by omega) (by omega)
 have tg:¬(281474976710656<Builtin.nextslicecap (oD+n) vI*i.bytes):=by omega
 have hti:∀W:World,(typeInfo e).run P W= .ok i W:=fun W=>by simp[typeInfo,hi]
 have Hq:∀(W:World) (k:Nat),(askRoom k).run P W= .ok () W:=fun W k=>by
  unfold askRoom
  split
  ·rfl
  ·rfl
 rcases Hp with ⟨SD,hlen,WA⟩|⟨k,kk,i2,zv2,rfl,rfl,IF,gu,dB,aek,LG,hzp,lN⟩
 ·rcases SD with ⟨e2,rfl⟩|rfl<;>simp[Builtin.append_,h0,h1,a0,a1,run_underlying hu,run_underlying hx,run_sizeOf hz,hlen,cY,WA,hold,hti,h63,tg,dq tR,Question.forced,Hq,newRow,grownCap]
 ·rw[tR] at aek
  obtain rfl:=Option.some.inj aek
  rw[hi] at IF
  obtain rfl:=Option.some.inj IF
  have hw:=wrap_small dB
  have Qu:¬(n:Int)<0:=by omega
  have aiI:¬(281474976710656<(n:Int)*(i.bytes:Int)):=by
   have:((n*i.bytes:Nat):Int)=(n:Int)*(i.bytes:Int):=by push_cast;rfl
   omega
  have hnz:¬n*z=0:=by have:=Nat.mul_pos Hh hzp;omega
  subst lN
  simp[Builtin.append_,h0,h1,a0,a1,run_underlying hu,run_underlying hx,run_sizeOf hz,cY,hold,hti,h63,tg,dq tR,Question.forced,Hq,newRow,grownCap,asInt,asIntOf,hw,Qu,aiI,hnz]
end
theorem Xa {P:Program}{base:Nat}{S:St}(h:SR base S){e:TypeId}{z n nN:Nat}{zv:Value}{xd:TypeDesc}{y y' :Value}{new:List Value}(hz:aW P e=some z)(rS:fe P e=some nN)(tR:bW P e=some zv)
  (Ox:(match xd with| .slice _=>true| .string=>true| .int _=>true|_=>false)=true) (hy:VR S y y') (hs:Hc S.s z nN zv xd y=some (n,new)):
  ∃new',er S new new' /\new.length=n*z/\∀W W2:World,W.heap=S.w.heap->W2.heap=S.w.heap->Src P W W2 e z xd y' n new' :=by
 cases xd<;>try (cases Ox;done)
 case int k=>
  simp only[Hc] at hs
  split at hs
  case h_2=>cases hs
  rename_i kk m
  split at hs
  case isFalse=>cases hs
  rename_i hc
  simp only[Bool.and_eq_true,Nat.ble_eq,Nat.beq_eq,Nat.blt_eq] at hc
  obtain⟨⟨⟨⟨gu,dB⟩,oY⟩,LF⟩,hzp⟩:=hc
  injection hs with hs;injection hs with e1 e2;subst e1;subst e2
  cases hy
  obtain⟨i,hi,hib⟩:=oA rS
  have LG:zv.cells.size=z:=by simpa using LF
  refine⟨(Builtin.zeroCells zv.cells m).toList,⟨by rw[dw,LF];simp[Builtin.zeroCells,LG],fun p hp=> ?_⟩,by rw[dw,LF],fun W W2 _ _=> .inr ⟨k,kk,i,zv,rfl,rfl,hi,by rw[hib];exact gu,dB,tR,LG,hzp,rfl⟩⟩
  rw[dw,LF] at hp
  exact vH (S:=S) oY LF m (m*zv.cells.size) (by rw[LG];exact Nat.le_refl _) p hp
 case slice e2=>
  obtain⟨new',h1,h2,h3⟩:=Bh (P:=P) h hy (by simpa [Hc] using hs)
  exact⟨new',h1,h2,fun W W2 hW hW2=> .inl ⟨.inl ⟨e2,rfl⟩,(h3 W hW).1,(h3 W2 hW2).2⟩⟩
 case string=>
  obtain⟨new',h1,h2,h3⟩:=Bh (P:=P) h hy (by simpa [Hc] using hs)
  exact⟨new',h1,h2,fun W W2 hW hW2=> .inl ⟨.inr rfl,(h3 W hW).1,(h3 W2 hW2).2⟩⟩
theorem vJ {base:Nat}{S:St}(h:SR base S){i off c len z:Nat}{old:List Value}(hc:S.s.de i off c (len*z)=some old):dH S.s z (.slice (some ⟨i,off,none⟩) len c)=some (len,old):=by
 cases len with
 |zero=>
  obtain⟨_,_,_,_,_,hl,_⟩:=h.cells hc
  have:old=[]:=List.eq_nil_of_length_eq_zero (by simpa using hl)
  simp[dH,this]
 |succ m=>simp[dH,hc]
theorem Bi (z:Array Value)(n:Nat):(Builtin.zeroCells z n).size=n*z.size:=by simp[Builtin.zeroCells]
theorem Bj {old new:List Value}{zv:Value}{z len n cap:Nat}(ho:old.length=len*z)(hn:new.length=n*z)(hz:zv.cells.toList.length=z)(oZ:len+n<=cap):
  (old.toArray++new.toArray++Builtin.zeroCells zv.cells (cap-(len+n))).size=cap*z:=by
 simp only[Array.size_append,List.size_toArray,Bi]
 have:zv.cells.size=z:=by simpa using hz
 rw[this,ho,hn,<-Nat.add_mul,<-Nat.add_mul]
 congr 1
 omega
theorem Bk {old new:List Value}{zs:Array Value}(p:Nat)(h:p<old.length+new.length):(old.toArray++new.toArray++zs).toList.getD p undef=(old++new).getD p undef:=by
 simp only[Array.toList_append]
 rw[dR _ _ _ (by simpa using h)]
set_option maxHeartbeats 1000000 in
theorem L9 {P:Program}{base:Nat}{S:St}(h:SR base S){st xt ty:TypeId}{x y x' y' v:Value}{s' :aq}(hx:VR S x x')(hy:VR S y y')(ha:gD P S.s st xt x y=some (v,s')){ts:Array TypeId}{arv:Array Value}
  (h0:ts[0]?=some st) (h1:ts[1]?=some xt) (a0:arv[0]?=some x') (a1:arv[1]?=some y'):mZ P base S (Builtin.append_ ts ty arv) v s' :=by
 unfold gD at ha
 split at ha
 case h_2=>cases ha
 rename_i e xd hu WB
 split at ha
 case h_1=>cases ha
 rename_i Ox
 split at ha
 case h_2=>cases ha
 rename_i z nN zv hz rS tR
 split at ha
 case h_2=>cases ha
 rename_i n new Hp
 obtain⟨new',Ta,I3,fT⟩:=Xa (P:=P) h hz rS tR Ox hy Hp
 have Bl:new'.length=n*z:=by rw[<-Ta.1];exact I3
 have LH:=fT S.w S.w rfl rfl
 have hsd:=fT S.w S.w.drew rfl rfl
 split at ha
 case h_2=>cases ha
 rename_i a len c
 split at ha
 case isFalse=>cases ha
 rename_i gX
 simp only[Bool.and_eq_true,Nat.ble_eq,Nat.blt_eq,Nat.beq_eq] at gX
 obtain⟨⟨⟨⟨D5,xM⟩,Zl⟩,aaO⟩,o8⟩:=gX
 have ael:=Ta.aJ aaO
 cases n with
 |zero=>
  simp only at ha
  injection ha with ha;injection ha with e1 e2;subst e1;subst e2
  have Oy:new' =[]:=List.eq_nil_of_length_eq_zero (by rw[Bl];simp)
  have Aw:=hx
  cases hx with
  |gq=>exact⟨S,_,rfl,qJ h0 h1 a0 a1 hu WB hz LH (Nat.le_refl _) rfl Oy,Aw,Good.refl h⟩
  |slice i off _ _ a cap hle _ _=>exact⟨S,_,rfl,qJ h0 h1 a0 a1 hu WB hz LH hle rfl Oy,Aw,Good.refl h⟩
 |succ m=>
  simp only at ha
  have iJ:0<m+1:=Nat.succ_pos _
  generalize m+1=n at*
  have fresh:∀(bs:Option Addr),arv[0]?=some (.slice bs 0 0)->aZ S.s new n z=some (v,s')->mZ P base S (Builtin.append_ ts ty arv) v s' :=by
   intro bs hb hn
   have hold:(Builtin.firstCells z 0 (.slice bs 0 0)).run P S.w.drew= .ok #[] S.w.drew:=by cases bs<;>simp[Builtin.firstCells,loadCells,loadCellsFrom]
   have aem:(0+n)*nN<=140737488355328:=Nat.le_trans (Nat.mul_le_mul_right _ (by omega)) D5
   have hr:=oE (ty:=ty) h0 h1 hb a1 hu WB hz rS tR hsd iJ (by omega) hold (by omega) aem
   have I5:=grownCap_ge S.w (0+n) 0 e
   have b6:=Bj (old:=[]) (new:=new') (zv:=zv) (z:=z) (len:=0) (n:=n) (cap:=grownCap S.w (0+n) 0 e) (by simp) Bl o8 I5
   obtain⟨T,k1,k2,k3,k4⟩:=rP h hn ([].toArray++new'.toArray++Builtin.zeroCells zv.cells (grownCap S.w (0+n) 0 e-(0+n))) e (0,0)
    (S.w.drew.alloc (.cells ([].toArray++new'.toArray++Builtin.zeroCells zv.cells (grownCap S.w (0+n) 0 e-(0+n))) e)) (grownCap S.w (0+n) 0 e) ⟨rfl,rfl,rfl,rfl⟩ (.inl rfl)
    (by rw[b6,I3];exact Nat.mul_le_mul_right _ (by omega)) (fun p hp=>by rw[Bk p (by simp;rw[Bl];omega),List.nil_append];exact Ta.2 p hp) (by omega) (by rw[b6];exact Nat.le_refl _)
   rw[Nat.zero_add] at hr
   refine⟨T,_,k1,?_,k3,k4⟩
   rw[k2,hr]
   simp
  split at ha
  ·
   split at ha
   ·cases hx;exact fresh none a0 ha
   ·cases ha
  ·rename_i i off
   cases hx with
   |slice _ _ _ _ a1' cap hle vu hr=>
   split at ha
   ·split at ha
    ·rename_i m9
     obtain rfl:len=0:=by simpa [Nat.beq_eq] using m9
     obtain rfl:=vu rfl
     exact fresh (some a1') a0 ha
    ·cases ha
   ·rename_i c0
    simp only[Nat.succ_eq_add_one] at ha hr vu
    split at ha
    case h_2=>cases ha
    rename_i b hb
    split at ha
    case isFalse=>cases ha
    rename_i lI
    simp only[Bool.and_eq_true,Nat.ble_eq,Nat.beq_eq] at lI
    obtain⟨⟨ky,iS⟩,Qq⟩:=lI
    split at ha
    ·
     rename_i xN
     simp only[Bool.and_eq_true,Nat.beq_eq] at xN
     obtain⟨⟨DX,rfl⟩,j5⟩:=xN
     injection ha with ha;injection ha with e1 e2;subst e1;subst e2
     have eT:Live b (c0+1):=⟨iS,Nat.le_of_eq DX⟩
     have ahv:0<n*z:=Nat.mul_pos iJ Zl
     by_cases cY:len+n<=cap
     ·obtain⟨⟨b',oT,_,Hn⟩,oZ⟩:=hr (by omega)
      rw[hb] at oT;obtain rfl:=Option.some.inj oT
      obtain rfl:=Hn eT.1
      obtain⟨arr,E,fr,hk,kA⟩:=oZ b hb iS
      obtain⟨_,⟨aaP,E2,fr2,mv,D6⟩,_⟩:=h.own i b hb ky _ eT
      have rK:=hk
      simp only at rK
      rw[rK] at mv
      injection mv with mv;injection mv with q1 q2 q3
      subst q1;subst q2;subst q3
      simp only[Nat.add_zero] at kA
      rw[Qq] at kA
      have hmul:(len+n)*z<=cap*z:=Nat.mul_le_mul_right _ cY
      rw[Nat.add_mul] at hmul
      have Zm:(S.e.loc i (c0+1)).2+b.cells.length+new'.length<=arr.size:=by rw[Bl,<-j5];omega
      have hg:=Good.SV h hb ky eT DX Ta rK Zm
      have aD:=jX P (S.e.loc i (c0+1)).1 ((S.e.loc i (c0+1)).2+0+len*z) new' S.w 0 arr E fr rK D6 (by omega) ael
      rw[show(S.e.loc i (c0+1)).2+0+len*z+0=(S.e.loc i (c0+1)).2+b.cells.length by omega] at aD
      have Tb:=tS (ty:=ty) h0 h1 a0 a1 hu WB hz LH iJ cY (by rw[Addr.add_lit];exact aD)
      refine⟨_,_,rfl,Tb,.slice _ _ _ _ _ _ (by omega) (fun q=>by omega) (fun _=>⟨⟨{b with cells:=b.cells++new},aq.b9 _ _ _ (by have:=h.lt hb;have:=h.room;omega),Nat.le_refl _,fun _=> ?_⟩,fun b2 dB _=> ?_⟩),hg⟩
      ·simp only[true_and,List.length_append]
       rw[if_pos (by rw[I3];omega)]
      ·rw[aq.b9 _ _ _ (by have:=h.lt hb;have:=h.room;omega)] at dB
       obtain rfl:=Option.some.inj dB
       obtain⟨jP,q1,q2,_⟩:=gW new' S.w _ _ arr E fr rK Zm
       exact⟨jP,E,fr,q1,by rw[q2];simp only[Nat.add_zero];rw[Qq];exact kA⟩
     ·have lO:S.s.de i 0 (c0+1) (len*z)=some b.cells:=by
       simp only[aq.de,hb]
       rw[if_pos (by simp only[Bool.and_eq_true,Nat.ble_eq,Nat.blt_eq];exact⟨⟨iS,by omega⟩,by omega⟩),vy,rH,j5]
       simp
      obtain⟨I7,hvo,EW,Tc⟩:=Bh (P:=P) h (VR.slice i 0 len (c0+1) a1' cap hle vu hr) (vJ h lO)
      have Td:I7.length=len*z:=by rw[<-hvo.1];exact EW
      have Ag:=oE (ty:=ty) h0 h1 a0 a1 hu WB hz rS tR hsd iJ cY (Tc S.w.drew rfl).2 xM D5
      have I5:=grownCap_ge S.w (len+n) cap e
      have b6:=Bj (old:=I7) (new:=new') (zv:=zv) (z:=z) (len:=len) (n:=n) (cap:=grownCap S.w (len+n) cap e) Td Bl o8 I5
      have hg:=Good.W5 (new:=new) (W:=S.w.drew.alloc (.cells (I7.toArray++new'.toArray++Builtin.zeroCells zv.cells (grownCap S.w (len+n) cap e-(len+n))) e)) h hb ky DX ⟨rfl,rfl,rfl,rfl⟩ (.inl rfl)
       (by rw[b6,I3,<-j5,<-Nat.add_mul];exact Nat.mul_le_mul_right _ I5) (fun p hp=>by
        rw[Bk p (by rw[Td,Bl,j5,<-I3];exact hp)]
        exact(hvo.append Ta).2 p (by rw[List.length_append];exact hp))
      refine⟨_,_,rfl,Ag,.slice _ _ _ _ _ _ I5 (fun q=>by omega) (fun _=>⟨⟨{b with cells:=b.cells++new},aq.b9 _ _ _ (by have:=h.lt hb;have:=h.room;omega),Nat.le_refl _,fun _=> ?_⟩,fun b2 dB _=> ?_⟩),hg⟩
      ·simp only[true_and,List.length_append]
       rw[if_pos (by rw[I3];omega)]
      ·rw[aq.b9 _ _ _ (by have:=h.lt hb;have:=h.room;omega)] at dB
       obtain rfl:=Option.some.inj dB
       refine⟨_,e,(0,0),heap_alloc_new S.w.drew _,?_⟩
       simp only
       rw[b6,Qq,Nat.zero_add]
       exact Nat.le_refl _
    ·
     split at ha
     case h_2=>cases ha
     rename_i old lO
     obtain⟨b2,dB,eT,_,_,EW,_⟩:=h.cells lO
     rw[hb] at dB;obtain rfl:=Option.some.inj dB
     obtain⟨I7,hvo,_,Tc⟩:=Bh (P:=P) h (VR.slice i off len (c0+1) a1' cap hle vu hr) (vJ h lO)
     have Td:I7.length=len*z:=by rw[<-hvo.1];exact EW
     have yT:=Good.kill h hb
     generalize hS1:(⟨S.s.put i (.dK (Cl.kill b)),S.e,S.w⟩:St)=S1 at yT
     have e1s:S1.s=S.s.put i (.dK (Cl.kill b)):=by rw[<-hS1]
     have e1e:S1.e=S.e:=by rw[<-hS1]
     have e1w:S1.w=S.w:=by rw[<-hS1]
     have hv1:=(hvo.append Ta).mono yT.ext
     rw[<-e1s] at ha
     by_cases cY:len+n<=cap
     ·obtain⟨⟨b',oT,_,Hn⟩,oZ⟩:=hr (by omega)
      rw[hb] at oT;obtain rfl:=Option.some.inj oT
      obtain rfl:=Hn eT.1
      obtain⟨arr,E,fr,hk,kA⟩:=oZ b hb iS
      obtain⟨yU,⟨aaP,E2,fr2,mv,D6⟩,hex,_⟩:=h.own i b hb ky _ eT
      have rK:=hk
      simp only at rK kA
      rw[rK] at mv
      injection mv with mv;injection mv with q1 q2 q3
      subst q1;subst q2;subst q3
      rw[Qq] at kA
      have hmul:(len+n)*z<=cap*z:=Nat.mul_le_mul_right _ cY
      rw[Nat.add_mul] at hmul
      unfold aZ at ha
      split at ha
      case isFalse=>cases ha
      rename_i hrm
      injection ha with ha;injection ha with e1 e2;subst e1;subst e2
      have ck:∀j bj c',S1.s.bA j=some bj->Live bj c' ->(S1.e.loc j c').1≠(S.e.loc i (c0+1)).1:=by
       intro j bj c' qZ gG heq
       rw[e1e] at heq
       rw[e1s] at qZ
       by_cases gz:j=i
       ·subst gz
        rw[aq.b9 _ _ _ (by have:=h.lt hb;have:=h.room;omega)] at qZ
        obtain rfl:=Option.some.inj qZ
        have q1:=gG.1;have q2:=gG.2;simp only[Cl.kill] at q1 q2;omega
       ·simp only[aq.bA,aq.bD _ _ _ _ (Ne.symm gz)] at qZ
        exact gz (hex j bj (by simpa [aq.bA] using qZ) c' gG heq)
      have jH:=h.cells lO
      obtain⟨b3,rz,_,_,_,_,hvc,hcc⟩:=jH
      have hg:=Good.reuse yT.sr hrm (k:=(S.e.loc i (c0+1)).1) (o:=(S.e.loc i (c0+1)).2+off) (arr:=arr) (E:=E) (fr:=fr) (by rw[e1w];exact rK) D6 yU ck z (old:=old) (new:=new) (new' :=new') (fun p hp=>by
        rw[EW] at hp
        obtain⟨u,hu'⟩:=hcc p hp
        have:=hvc.2 p (by omega)
        rw[xG _ _ _ _ _ hp,hu'] at this
        exact⟨u,by rw[e1w];exact hu',this.mono yT.ext⟩) (Ta.mono yT.ext) (by rw[EW,Bl];omega)
      have aD:=jX P (S.e.loc i (c0+1)).1 ((S.e.loc i (c0+1)).2+off+len*z) new' S.w 0 arr E fr rK D6 (by rw[Bl];omega) ael
      rw[Nat.add_zero] at aD
      have Tb:=tS (ty:=ty) h0 h1 a0 a1 hu WB hz LH iJ cY (by rw[Addr.add_lit];exact aD)
      have bc:=vz hrm
      have gF:∀(bb:jE),(S1.s.new (.dK bb)).bA S1.s.next=some bb:=fun bb=>by simp only[aq.new,aq.bA,Tr.bp _ _ _ _ (deep (show 0<16000001 by omega))]
      rw[e1w,EW] at hg
      refine⟨_,_,rfl,Tb,.slice _ _ _ _ _ _ cY (fun q=>by omega) (fun _=>⟨⟨_,gF _,Nat.le_refl _,fun _=>by simp⟩,fun b4 Qv _=> ?_⟩),yT.trans hg⟩
      rw[gF] at Qv
      obtain rfl:=Option.some.inj Qv
      obtain⟨jP,q1,q2,_⟩:=gW new' S.w _ ((S.e.loc i (c0+1)).2+off+len*z) arr E fr rK (by rw[Bl];omega)
      exact⟨jP,E,fr,q1,by rw[q2];exact kA⟩
     ·have Ag:=oE (ty:=ty) h0 h1 a0 a1 hu WB hz rS tR hsd iJ cY (Tc S.w.drew rfl).2 xM D5
      have I5:=grownCap_ge S.w (len+n) cap e
      have b6:=Bj (old:=I7) (new:=new') (zv:=zv) (z:=z) (len:=len) (n:=n) (cap:=grownCap S.w (len+n) cap e) Td Bl o8 I5
      obtain⟨T,k1,k2,k3,k4⟩:=rP yT.sr ha (I7.toArray++new'.toArray++Builtin.zeroCells zv.cells (grownCap S.w (len+n) cap e-(len+n))) e (0,0)
       (S.w.drew.alloc (.cells (I7.toArray++new'.toArray++Builtin.zeroCells zv.cells (grownCap S.w (len+n) cap e-(len+n))) e)) (grownCap S.w (len+n) cap e) (by rw[e1w];exact⟨rfl,rfl,rfl,rfl⟩) (.inl rfl)
       (by rw[b6,List.length_append,EW,I3,<-Nat.add_mul];exact Nat.mul_le_mul_right _ I5) (fun p hp=>by
        rw[List.length_append] at hp
        rw[Bk p (by rw[Td,Bl,<-EW,<-I3];exact hp)]
        exact hv1.2 p (by rw[List.length_append];exact hp)) I5 (by rw[b6];exact Nat.le_refl _)
      rw[e1w] at k3
      exact⟨T,_,k1,by rw[k2];exact Ag,k3,yT.trans k4⟩
  ·cases ha
end Go.Cl
namespace Go.Cl
open Go.RowKit
theorem ER.length {S:St}:∀{l:List (Value×Value)} {l' :List MapEntry},ER S l l' ->l'.length=l.length
 |[],[],_=>rfl
 |(_,_)::_,_::_,h=>by simp[ER.length h.2.2]
 |[],_::_,h=>h.elim
 |_::_,[],h=>h.elim
theorem na {P:Program}{w:World}{r:Nat}{es:Array MapEntry}{qY:Nat}(h:w.heap[r]?=some (.map es qY)):(getObj r).run P w= .ok (.map es qY) w:=by
 simp only[getObj,Sem.run,h]
theorem Xb {P:Program}{base:Nat}{S:St}(h:SR base S){t ty:TypeId}{x x' v:Value}(hx:VR S x x')(hl:bh P S.s t x=some v){ts:Array TypeId}{arv:Array Value}(h0:ts[0]?=some t)(a0:arv[0]?=some x'):
  Reads P S (Builtin.len_ ts ty arv) v:=by
 unfold bh at hl
 split at hl
 ·rename_i b hu
  cases hx
  obtain rfl:=Option.some.inj hl
  rw[<-size_data b]
  exact⟨_,by simp[Builtin.len_,h0,a0,run_underlying hu,goInt],.int _ _⟩
 ·rename_i n e hu
  obtain rfl:=Option.some.inj hl
  exact⟨_,by simp[Builtin.len_,h0,a0,run_underlying hu,goInt],.int _ _⟩
 ·rename_i e a n c hu
  obtain rfl:=Option.some.inj hl
  cases hx<;>exact⟨_,by simp[Builtin.len_,h0,a0,run_underlying hu,goInt],.int _ _⟩
 ·rename_i k e hu
  cases hx
  obtain rfl:=Option.some.inj hl
  exact⟨_,by simp[Builtin.len_,h0,a0,run_underlying hu,goInt],.int _ _⟩
 ·rename_i k e r hu
  cases hx
  split at hl
  ·rename_i es he
   obtain rfl:=Option.some.inj hl
   obtain⟨_,fz,qY,h1,h2⟩:=h.map r es he
   have hlen:=h2.length
   refine⟨_,?_,.int _ _⟩
   simp only[Array.length_toList] at hlen
   simp[Builtin.len_,h0,a0,run_underlying hu,na h1,goInt,hlen]
  ·cases hl
 ·cases hl
theorem Xc {P:Program}{S:St}{x y x' y' v:Value}(hx:VR S x x')(hy:VR S y y')(h:WZ x y=some v):Reads P S (Builtin.min2 x' y') v:=by
 unfold WZ at h
 split at h
 ·cases hx;cases hy
  obtain rfl:=Option.some.inj h
  exact⟨_,by simp[Builtin.min2],.int _ _⟩
 ·cases h
theorem Xd {P:Program}{S:St}{x y x' y' v:Value}(hx:VR S x x')(hy:VR S y y')(h:W0 x y=some v):Reads P S (Builtin.max2 x' y') v:=by
 unfold W0 at h
 split at h
 ·cases hx;cases hy
  obtain rfl:=Option.some.inj h
  exact⟨_,by simp[Builtin.max2],.int _ _⟩
 ·cases h
theorem I8 {P:Program}{S:St}(g:Value->Value->Option Value)(g' :Value->Value->Sem Value)(hg:∀{x y x' y' v:Value},VR S x x' ->VR S y y' ->g x y=some v->Reads P S (g' x' y') v):
  ∀{l l' :List Value} {x x' v:Value},VR S x x' ->er S l l' ->EO g x l=some v->Reads P S (l'.foldlM g' x') v:=by
 intro l
 induction l with
 |nil=>intro l' x x' v hx hl h;rw[hl.jq];simp only[EO] at h;obtain rfl:=Option.some.inj h;exact⟨_,by simp,hx⟩
 |cons y l ih=>
  intro l' x x' v hx hl h
  obtain⟨y',r',rfl,h1,h2⟩:=hl.cons_inv
  simp only[EO] at h
  split at h
  ·rename_i u hu
   obtain⟨u',k1,k2⟩:=hg hx h1 hu
   obtain⟨v',k3,k4⟩:=ih k2 h2 h
   exact⟨v',by simp[List.foldlM_cons,k1,k3],k4⟩
  ·cases h
theorem Te (a b:ByteArray):(a==b)=(a.data.toList==b.data.toList):=by
 show(a.data==b.data)=(a.data.toList==b.data.toList)
 by_cases h:a.data=b.data
 ·rw[h];simp
 ·have h2:¬a.data.toList=b.data.toList:=fun e=>h (Array.toList_inj.1 e)
  rw[beq_eq_false_iff_ne.2 h,beq_eq_false_iff_ne.2 h2]
theorem I9 (a:ByteArray):(a==a)=true:=by rw[Te];simp
theorem vK {P:Program}{t:TypeId}{a b:Value}{r:Bool}(h:yP P t a b=some r):∃d,P.underlying t=some d/\Instr.sameNow d a b=some r/\(r=true->a=b)/\(∀n,r=true->Instr.sameBits n b a=true):=by
 unfold yP at h
 split at h
 ·rename_i k0 k x k' y hu
  split at h
  ·rename_i hk
   subst hk
   obtain rfl:=Option.some.inj h
   refine⟨_,hu,by simp[Instr.sameNow],fun e=> ?_,fun n e=> ?_⟩
   ·simp at e;rw[e]
   ·simp at e;cases n<;>simp[Instr.sameBits,e]
  ·cases h
 ·rename_i x y hu
  obtain rfl:=Option.some.inj h
  refine⟨_,hu,by simp only[Instr.sameNow,Te],fun e=> ?_,fun n e=> ?_⟩
  ·rw[xI (eq_of_beq e)]
  ·have:=xI (eq_of_beq e)
   subst this
   cases n<;>simp[Instr.sameBits,I9]
 ·cases h
theorem Bm {P:Program}{S:St}{t:TypeId}{k:Value}{d:TypeDesc}(hd:P.underlying t=some d):∀{es:List (Value×Value)} {fz:List MapEntry} {r:Option Value} (i:Nat),ER S es fz->AV P t k es=some r->
  (r=none/\Instr.findNow d k fz i=some none)\/∃v v' j,r=some v/\Instr.findNow d k fz i=some (some (j,v'))/\VR S v v'
 |[],[],r,i,_,h=>by simp only[AV] at h;obtain rfl:=Option.some.inj h;exact .inl ⟨rfl,rfl⟩
 |(k1,v1)::es,e::fz,r,i,he,h=>by
  obtain⟨h1,h2,h3⟩:=he
  simp only[AV] at h
  split at h
  ·rename_i hk
   obtain rfl:=Option.some.inj h
   obtain⟨d',Tf,hs,_⟩:=vK hk
   rw[hd] at Tf;obtain rfl:=Option.some.inj Tf
   exact .inr ⟨v1,e.val,i,rfl,by simp only[Instr.findNow,h1,hs],h2⟩
  ·rename_i hk
   obtain⟨d',Tf,hs,_⟩:=vK hk
   rw[hd] at Tf;obtain rfl:=Option.some.inj Tf
   have:=Bm hd (i+1) h3 h
   simp only[Instr.findNow,h1,hs]
   exact this
  ·cases h
 |[],_::_,_,_,he,_=>he.elim
 |_::_,[],_,_,he,_=>he.elim
theorem run_findKey {P:Program}{w:World}{t:TypeId}{d:TypeDesc}{k:Value}{es:List MapEntry}{r:Option (Nat×Value)}(hd:P.underlying t=some d)(h:Instr.findNow d k es 0=some r):(Instr.findKey t k es).run P w= .ok r w:=by
 simp[Instr.findKey,run_underlying hd,h]
theorem Bn {P:Program}{w:World}{t:TypeId}{k:Value}(h:jn P t k=true)(e:Bool)(n:Nat):(Instr.checkKey e (n+1) t k).run P w= .ok () w:=by
 unfold jn at h
 split at h
 ·rename_i hu;simp[Instr.checkKey,run_underlying hu]
 ·rename_i hu;simp[Instr.checkKey,run_underlying hu]
 ·cases h
theorem vL {P:Program}{t:TypeId}{k:Value}(h:jn P t k=true):∃d,P.underlying t=some d:=by
 unfold jn at h
 split at h
 ·exact⟨_,‹_›⟩
 ·exact⟨_,‹_›⟩
 ·cases h
theorem Bo {P:Program}{S:St}{t:TypeId}{k k' :Value}(h:jn P t k=true)(hk:VR S k k'):k' =k:=by
 unfold jn at h
 split at h
 ·cases hk;rfl
 ·cases hk;rfl
 ·cases h
theorem Ma {P:Program}{base:Nat}{S:St}(h:SR base S){t:TypeId}{m k m' k' v:Value}{ok:Bool}(hm:VR S m m')(hk:VR S k k')(hl:mo P S.s t m k ok=some v):Reads P S (Instr.lookup t m' k' ok) v:=by
 unfold mo at hl
 split at hl
 case h_2=>cases hl
 rename_i kt et hu
 split at hl
 case h_2=>cases hl
 rename_i z hz rK
 obtain rfl:=Bo rK hk
 obtain⟨d,hd⟩:=vL rK
 split at hl
 case isFalse=>cases hl
 rename_i oY
 have SE:∀(e:Bool),(Instr.checkKey e 10000 kt k').run P S.w= .ok () S.w:=fun e=>Bn rK e 9999
 have main:∀(fz:List MapEntry) (r:Option (Nat×Value)) (rv:Option Value) (arr:Array MapEntry),arr.toList=fz->Instr.findNow d k' fz 0=some r->((rv=none/\r=none)\/∃u u' j,rv=some u/\r=some (j,u')/\VR S u u')->
   (match rv with|some v=>some (if ok then Value.tuple #[v,.bool true] else v)|none=>some (if ok then Value.tuple #[z,.bool false] else z))=some v->
   ((m' = .map none/\arr= #[])\/∃r qY,m' = .map (some r)/\S.w.heap[r]?=some (.map arr qY))->Reads P S (Instr.lookup t m' k' ok) v:=by
  intro fz r rv arr aaC hf aiL hv jV
  have hfk:(Instr.findKey kt k' arr.toList).run P S.w= .ok r S.w:=run_findKey hd (by rw[aaC];exact hf)
  rcases aiL with ⟨rfl,rfl⟩|⟨u,u',j,rfl,rfl,II⟩
  ·simp only at hv
   obtain rfl:=Option.some.inj hv
   refine⟨if ok then .tuple #[z,.bool false] else z,?_,?_⟩
   ·rcases jV with ⟨rfl,rfl⟩|⟨r,qY,rfl,hr⟩
    ·simp only[Instr.lookup,Sem.run_bind,run_underlying hu,Result.andThen_ok,SE,hfk,dq hz,Sem.run_pure]
    ·simp only[Instr.lookup,Sem.run_bind,run_underlying hu,Result.andThen_ok,na hr,SE,hfk,dq hz,Sem.run_pure]
   ·cases ok
    ·exact kB oY
    ·exact er.tuple (l:=[z,.bool false]) (l' :=[z,.bool false]) (er.cons (kB oY) (er.cons (.bool _) er.nil))
  ·simp only at hv
   obtain rfl:=Option.some.inj hv
   refine⟨if ok then .tuple #[u',.bool true] else u',?_,?_⟩
   ·rcases jV with ⟨rfl,rfl⟩|⟨r,qY,rfl,hr⟩
    ·simp only[Instr.lookup,Sem.run_bind,run_underlying hu,Result.andThen_ok,SE,hfk,Sem.run_pure]
    ·simp only[Instr.lookup,Sem.run_bind,run_underlying hu,Result.andThen_ok,na hr,SE,hfk,Sem.run_pure]
   ·cases ok
    ·exact II
    ·exact er.tuple (l:=[u,.bool true]) (l' :=[u',.bool true]) (er.cons II (er.cons (.bool _) er.nil))
 split at hl
 ·rename_i v0 qK
  split at qK
  ·cases qK
  ·rename_i r
   cases hm
   split at qK
   ·rename_i es he
    obtain⟨_,fz,qY,h1,h2⟩:=h.map r es he
    rcases Bm hd 0 h2 qK with ⟨e,_⟩|⟨u,u',j,e,hf,hvr⟩
    ·cases e
    ·exact main fz.toList _ (some v0) fz rfl hf (.inr ⟨u,u',j,e,rfl,hvr⟩) hl (.inr ⟨_,qY,rfl,h1⟩)
   ·cases qK
  ·cases qK
 ·rename_i qK
  split at qK
  ·cases hm
   exact main [] none none #[] rfl rfl (.inl ⟨rfl,rfl⟩) hl (.inl ⟨rfl,rfl⟩)
  ·rename_i r
   cases hm
   split at qK
   ·rename_i es he
    obtain⟨_,fz,qY,h1,h2⟩:=h.map r es he
    rcases Bm hd 0 h2 qK with ⟨_,hf⟩|⟨u,u',j,e,_,_⟩
    ·exact main fz.toList none none fz rfl hf (.inl ⟨rfl,rfl⟩) hl (.inr ⟨_,qY,rfl,h1⟩)
    ·cases e
   ·cases qK
  ·cases qK
 ·cases hl
theorem Oz {P:Program}{S:St}{t:TypeId}{k v v' :Value}{d:TypeDesc}(hd:P.underlying t=some d)(hv:VR S v v'):∀{es l:List (Value×Value)} {fz:List MapEntry} (i:Nat),ER S es fz->LU P t k v es=some l->
  (Instr.findNow d k fz i=some none/\∀born,ER S l (fz++[{key:=k,val:=v',born}]))\/
  ∃j u e,Instr.findNow d k fz i=some (some (i+j,u))/\fz[j]?=some e/\(∀n,Instr.sameBits n e.key k=true)/\ER S l (fz.modify j fun e=>{e with key:=k,val:=v' })
 |[],l,[],i,_,h=>by
  simp only[LU] at h
  obtain rfl:=Option.some.inj h
  exact .inl ⟨rfl,fun born=>⟨rfl,hv,trivial⟩⟩
 |(k1,v1)::es,l,e::fz,i,he,h=>by
  obtain⟨h1,h2,h3⟩:=he
  simp only[LU] at h
  split at h
  ·rename_i hk
   obtain rfl:=Option.some.inj h
   obtain⟨d',Tf,hs,heq,WC⟩:=vK hk
   rw[hd] at Tf;obtain rfl:=Option.some.inj Tf
   refine .inr ⟨0,e.val,e,by simp only[Instr.findNow,h1,hs,Nat.add_zero],rfl,fun n=>by rw[h1];exact WC n rfl,?_⟩
   simp only[List.modify_zero_cons]
   exact⟨heq rfl,hv,h3⟩
  ·rename_i hk
   obtain⟨d',Tf,hs,heq,WC⟩:=vK hk
   rw[hd] at Tf;obtain rfl:=Option.some.inj Tf
   split at h
   ·rename_i l2 jS
    obtain rfl:=Option.some.inj h
    rcases Oz hd hv (i+1) h3 jS with ⟨q1,q2⟩|⟨j,u,e2,q1,q2,q3,q4⟩
    ·exact .inl ⟨by simp only[Instr.findNow,h1,hs];exact q1,fun born=>⟨h1,h2,q2 born⟩⟩
    ·refine .inr ⟨j+1,u,e2,by simp only[Instr.findNow,h1,hs];rw[q1];congr 3;omega,by simpa using q2,q3,?_⟩
     simp only[List.modify_succ_cons]
     exact⟨h1,h2,q4⟩
   ·cases h
  ·cases h
 |[],_,_::_,_,he,_=>he.elim
 |_::_,_,[],_,he,_=>he.elim
def OA (P:Program)(base:Nat)(S:St)(m:Sem Unit)(s' :aq):Prop:=∃T,T.s=s' /\m.run P S.w= .ok () T.w/\Good base S T
theorem Bp {P:Program}{w:World}{r:Nat}{es:Array MapEntry}{qY:Nat}(h:w.heap[r]?=some (.map es qY))(o:Obj):(setObj r o).run P w= .ok () {w with heap:=w.heap.setIfInBounds r o}:=by
 simp only[setObj,Sem.run,h]
theorem yV {base:Nat}{S:St}(h:SR base S){r:Nat}{es l:List (Value×Value)}(he:S.s.dp r=some es){fz es2:Array MapEntry}{qY clk2:Nat}(h1:S.w.heap[S.e.mp r]?=some (.map fz qY))(h2:ER S l es2.toList):
  Good base S ⟨S.s.put r (.map l),S.e,{S.w with heap:=S.w.heap.setIfInBounds (S.e.mp r) (.map es2 clk2)}⟩:=by
 have bc:=dQ h1
 have hb:S.s.bA r=none:=by
  cases hq:S.s.bA r with
  |none=>rfl
  |some b=>exact(jF hq he).elim
 refine SR.EP h r S.s.next l S.e.mp _ (h.mlt he) (Nat.le_refl _) h.room (.inl (h.mlt he)) hb (fun _ _=>rfl) (fun _ _=>rfl) (fun k hk _=>by simp only;rw[Array.getElem?_setIfInBounds_ne (Ne.symm hk)]) ?_ (h.map r es he).1 ?_ ?_ ?_
 ·intro arr E fr hk;rw[h1] at hk;cases hk
 ·exact⟨es2,clk2,by simp only;rw[Array.getElem?_setIfInBounds_self_of_lt bc],h2⟩
 ·intro r' aiN hr hq e
  exact hr (h.Hd r' r aiN es hq he e)
 ·exact⟨rfl,rfl,rfl,by simp,fun k hk=>by simp only;rw[Array.getElem?_setIfInBounds_ne (by have:=(h.map r es he).1;omega)]⟩
theorem D7 {P:Program}{base:Nat}{S:St}(h:SR base S){t:TypeId}{m k v m' k' v' :Value}{s' :aq}(hm:VR S m m')(hk:VR S k k')(hv:VR S v v')(hu:fy P S.s t m k v=some s'):OA P base S (Instr.mapUpdate t m' k' v') s' :=by
 unfold fy at hu
 split at hu
 case h_2=>cases hu
 rename_i kt et r hut
 cases hm
 split at hu
 case h_2=>cases hu
 rename_i es he rK
 obtain rfl:=Bo rK hk
 obtain⟨d,hd⟩:=vL rK
 have SE:∀(e:Bool),(Instr.checkKey e 10000 kt k').run P S.w= .ok () S.w:=fun e=>Bn rK e 9999
 split at hu
 case h_2=>cases hu
 rename_i l hl
 obtain rfl:=Option.some.inj hu
 obtain⟨_,fz,qY,h1,h2⟩:=h.map r es he
 rcases Oz hd hv 0 h2 hl with ⟨q1,q2⟩|⟨j,u,e,q1,q2,q3,q4⟩
 ·refine⟨_,rfl,?_,yV h he h1 (es2:=fz.push {key:=k',val:=v',born:=qY}) (clk2:=qY+1) (by rw[Array.toList_push];exact q2 qY)⟩
  simp only[Instr.mapUpdate,Sem.run_bind,run_underlying hut,Result.andThen_ok,na h1,SE,run_findKey hd q1,Bp h1]
 ·refine⟨_,rfl,?_,yV h he h1 (es2:=fz.modify j fun e=>{e with key:=k',val:=v' }) (clk2:=qY) (by rw[Array.toList_modify];exact q4)⟩
  rw[Nat.zero_add] at q1
  have aiO:((fz[j]?).map (·.key)).getD k' =e.key:=by
   have:fz[j]?=some e:=by rw[<-Array.getElem?_toList];exact q2
   simp[this]
  have aeq:(Instr.keyThatStays e.key k').run P S.w= .ok k' S.w:=by simp[Instr.keyThatStays,q3]
  simp only[Instr.mapUpdate,Sem.run_bind,run_underlying hut,Result.andThen_ok,na h1,SE,run_findKey hd q1,aiO,aeq,Bp h1]
theorem Bq {P:Program}{base:Nat}{S:St}(h:SR base S){i off c:Nat}{a1:Addr}(hr:tK S i off c a1){vs Ot:List Value}(hv:er S vs Ot){s' :aq}(hs:S.s.storeAt i off c vs=some s'):OA P base S (storeCells a1 Ot) s' :=by
 unfold aq.storeAt at hs
 split at hs
 case h_2=>cases hs
 rename_i b hb
 split at hs
 case isFalse=>cases hs
 rename_i hc
 simp only[Bool.and_eq_true,Nat.ble_eq,Nat.beq_eq] at hc
 obtain⟨⟨⟨ky,iS⟩,DX⟩,dF⟩:=hc
 split at hs
 ·cases hs
 rename_i rh
 split at hs
 case h_2=>cases hs
 rename_i l hl
 obtain rfl:=Option.some.inj hs
 have eT:Live b c:=⟨iS,by omega⟩
 obtain rfl:=hr.addr hb eT
 have aaS:=hv.aJ dF
 obtain⟨hg,arr,E,fr,h1,h2,h3⟩:=Good.store h hb ky eT DX hl hv (by simp)
 refine⟨_,rfl,?_,hg⟩
 have:=jX P (S.e.loc i c).1 ((S.e.loc i c).2+off) Ot S.w 0 arr E fr h1 h2 (by omega) aaS
 exact this
theorem Qw {P:Program}{S:St}{y y' y2:Value}{d k:Nat}(hy:VR S y y')(hc:pY d y=some (k,y2)):
  ∃y2' m,VR S y2 y2' /\(∀W:World,(Builtin.lenOf y').run P W= .ok m W)/\Nat.min m d=k/\∀z,Builtin.firstCells z k y' =Builtin.firstCells z k y2' :=by
 unfold pY at hc
 split at hc
 ·rename_i a n c
  injection hc with hc;injection hc with e1 e2;subst e1;subst e2
  cases hy with
  |gq=>exact⟨_,0,by rw[Nat.zero_min];exact .gq,fun W=>by simp[Builtin.lenOf],rfl,fun z=>rfl⟩
  |slice i off _ _ a' cap h0 hz hr=>exact⟨.slice (some a') (min n d) cap,n,.slice i off _ c a' cap (by omega) hz hr,fun W=>by simp[Builtin.lenOf],rfl,fun z=>rfl⟩
 ·rename_i b
  injection hc with hc;injection hc with e1 e2;subst e1;subst e2
  cases hy
  refine⟨_,b.data.toList.length,.string _,fun W=>by rw[<-size_data];simp[Builtin.lenOf],rfl,fun z=> ?_⟩
  simp only[Builtin.firstCells]
  congr 2
  rw[<-Array.toList_inj]
  simp[List.take_take]
 ·cases hc
theorem Qx {P:Program}{base:Nat}{S:St}(h:SR base S){t ty:TypeId}{x x' v:Value}{s' :aq}(hx:VR S x x')(ha:mV P S.s t x=some (v,s')){ts:Array TypeId}{arv:Array Value}
  (h0:ts[0]?=some t) (a0:arv[0]?=some x'):mZ P base S (Builtin.clear_ ts ty arv) v s' :=by
 unfold mV at ha
 split at ha
 ·rename_i e n c hu
  cases hx
  injection ha with ha;injection ha with e1 e2;subst e1;subst e2
  exact⟨S,_,rfl,by simp only[Builtin.clear_,h0,a0,Sem.run_bind,run_underlying hu,Result.andThen_ok];rfl,VR.rG S,Good.refl h⟩
 ·rename_i e i off n c hu
  cases hx with
  |slice _ _ _ _ a cap js hz hr=>
  split at ha
  ·injection ha with ha;injection ha with e1 e2;subst e1;subst e2
   exact⟨S,_,rfl,by simp only[Builtin.clear_,h0,a0,Sem.run_bind,run_underlying hu,Result.andThen_ok];rfl,VR.rG S,Good.refl h⟩
  ·rename_i m
   split at ha
   case h_2=>cases ha
   rename_i z zv b6 tR
   split at ha
   case isFalse=>cases ha
   rename_i hc
   simp only[Bool.and_eq_true,Nat.beq_eq,Nat.blt_eq] at hc
   obtain⟨⟨oY,LF⟩,Zl⟩:=hc
   split at ha
   case h_2=>cases ha
   rename_i s1 aD
   injection ha with ha;injection ha with e1 e2;subst e1;subst e2
   have oZ:0<cap:=by omega
   have LG:zv.cells.size=z:=by simpa using LF
   have Ta:er S (bw zv.cells.toList (m+1)) (Builtin.zeroCells zv.cells (m+1)).toList:=by
    refine⟨by rw[dw,LF];simp[Builtin.zeroCells,LG],fun p hp=> ?_⟩
    rw[dw,LF] at hp
    have:=vH (S:=S) oY LF (m+1) ((m+1)*zv.cells.size) (by rw[LG];exact Nat.le_refl _) p hp
    exact this
   obtain⟨T,hT,Mb,hg⟩:=Bq (P:=P) h (hr oZ).1 Ta aD
   refine⟨T,_,hT,?_,VR.rG T,hg⟩
   simp only[Builtin.clear_,h0,a0,Sem.run_bind,run_underlying hu,Result.andThen_ok,dq tR,Mb]
   rfl
 ·cases ha
theorem Tg {P:Program}{base:Nat}{S:St}(h:SR base S){dT ty:TypeId}{x y x' y' v:Value}{s' :aq}(hx:VR S x x')(hy:VR S y y')(ha:mh P S.s dT x y=some (v,s')){ts:Array TypeId}{arv:Array Value}
  (h0:ts[0]?=some dT) (a0:arv[0]?=some x') (a1:arv[1]?=some y'):mZ P base S (Builtin.copy_ ts ty arv) v s' :=by
 unfold mh at ha
 split at ha
 case h_2=>cases ha
 rename_i e a WY c hu
 split at ha
 case h_2=>cases ha
 rename_i z k y2 hz ez
 obtain⟨y2',m,vE,hlen,Br,Hr⟩:=Qw (P:=P) hy ez
 split at ha
 ·injection ha with ha;injection ha with e1 e2;subst e1;subst e2
  have hf:(Builtin.firstCells z 0 y2').run P S.w= .ok #[] S.w:=by
   cases vE with
   |gq=>simp[Builtin.firstCells]
   |slice=>simp[Builtin.firstCells,loadCells,loadCellsFrom]
   |string=>simp[Builtin.firstCells]
   |_=>exfalso;unfold pY at ez;split at ez<;>simp at ez
  have Zn:Nat.min m WY=0:=Br
  refine⟨S,.int .i64 0,rfl,?_,.int _ _,Good.refl h⟩
  cases hx with
  |gq=>simp only[Builtin.copy_,h0,a0,a1,Sem.run_bind,run_underlying hu,Result.andThen_ok,hlen,Zn,run_sizeOf hz,Hr,hf];simp[goInt]
  |slice=>simp only[Builtin.copy_,h0,a0,a1,Sem.run_bind,run_underlying hu,Result.andThen_ok,hlen,Zn,run_sizeOf hz,Hr,hf];simp[storeCells,goInt]
 ·rename_i k
  split at ha
  case h_2=>cases ha
  rename_i k2 new i off hs
  split at ha
  case h_2=>cases ha
  rename_i t hk aD
  have hk' :k2=k+1:=Nat.eq_of_beq_eq_true hk
  subst hk'
  injection ha with ha;injection ha with e1 e2;subst e1;subst e2
  obtain⟨new',Ta,_,fT⟩:=Bh (P:=P) h vE hs
  cases hx with
  |slice _ _ _ _ a' cap h0' uy hr=>
  have oZ:0<cap:=by have:k+1<=WY:=by rw[<-Nat.succ_eq_add_one,<-Br];exact Nat.min_le_right _ _
                    omega
  obtain⟨T,hT,Mb,hg⟩:=Bq (P:=P) h (hr oZ).1 Ta aD
  refine⟨T,.int .i64 (k+1),hT,?_,.int _ _,hg⟩
  simp only[Builtin.copy_,h0,a0,a1,Sem.run_bind,run_underlying hu,Result.andThen_ok,hlen,Br,run_sizeOf hz,Hr,(fT S.w rfl).2,Mb]
  simp[goInt]
end Go.Cl
namespace Go.Cl
open Go.RowKit
theorem OB {P:Program}{w w' :World}{s:Sem Value}{v:Value}(h:s.run P w= .ok v w'):(do pure (Next.value (<-s)):Sem Next).run P w= .ok (.value v) w' :=by
 simp[h]
theorem aer {P:Program}{w w' :World}{s:Sem Unit}(h:s.run P w= .ok () w'):(do s;pure Next.skip:Sem Next).run P w= .ok .skip w' :=by
 simp[h]
def Th (P:Program)(S:St)(a:Act)(o:Oper)(s:aq)(r:Option AR):Prop:=
 ∀x,r=some x->∃v,x= .val v s/\∃v',VR S v v' /\(execOp a.eval o).run P S.w= .ok (.value v') S.w
theorem eJ {P:Program}{S:St}{a:Act}{o:Oper}{m:Sem Value}{r:Option Value}(he:execOp a.eval o=(do pure (Next.value (<-m))))(h:∀v,r=some v->Reads P S m v):Th P S a o S.s (oW S.s r):=by
 intro x hx
 cases r with
 |none=>simp[oW] at hx
 |some v=>
  simp only[oW] at hx
  obtain rfl:=Option.some.inj hx
  obtain⟨v',h1,h2⟩:=h v rfl
  exact⟨v,rfl,v',h2,by rw[he];exact OB h1⟩
theorem cO {P:Program}{S:St}{a:Act}{o:Oper}:Th P S a o S.s none:=fun x hx=>by cases hx
theorem fX {α:Type}{a:Array α}{x:α}{r:List α}(h:a.toList=x::r):a[0]?=some x:=by rw[<-Array.getElem?_toList,h];rfl
theorem rT {α:Type}{a:Array α}{x y:α}{r:List α}(h:a.toList=x::y::r):a[1]?=some y:=by rw[<-Array.getElem?_toList,h];rfl
theorem EX {P:Program}{base:Nat}{S:St}(h:SR base S){f:aT}{a:Act}(hf:FR S f a){o:Oper}(hq:aM P o=true):Th P S a o S.s (cM P o f S.s):=by
 obtain⟨dst,op,type,pos,after,guard⟩:=o
 cases op<;>try (simp[aM] at hq;done)
 case move x=>
  refine eJ (m:=pure (a.eval x)) (by simp[execOp]) (fun v hv=>⟨_,by simp,bt hf hv⟩)
 case assign x=>
  refine eJ (m:=pure (a.eval x)) (by simp[execOp]) (fun v hv=>⟨_,by simp,bt hf hv⟩)
 case pick c x y=>
  intro r hr
  simp only[cM] at hr
  split at hr
  ·rename_i t u v h1 h2 h3
   obtain rfl:=Option.some.inj hr
   have hc:=bt hf h1
   have hx:=bt hf h2
   have hy:=bt hf h3
   generalize Bg:a.eval c=cv at hc
   cases hc
   refine⟨_,rfl,if t then a.eval x else a.eval y,by cases t<;>assumption,?_⟩
   simp[execOp,Bg,asBool]
  ·cases hr
 case build t ps=>
  simp only[cM]
  split
  ·rename_i l hl
   refine eJ (m:=Instr.build t (ps.map fun(i,x)=>(i,a.eval x))) rfl (fun v hv=> ?_)
   have:=Qs (P:=P) (xL hf hl) hv
   have e:(ps.map fun(x:Nat×Operand)=>(x.1,a.eval x.2))=(ps.toList.map fun x=>(x.1,a.eval x.2)).toArray:=by rw[<-Array.toList_inj];simp
   rw[e];exact this
  ·exact cO
 case load t x=>
  simp only[cM]
  split
  ·rename_i u hu
   exact eJ rfl (fun v hv=>IX h (bt hf hu) hv)
  ·exact cO
 case nilCheck x=>
  intro r hr
  simp only[cM] at hr
  split at hr
  ·rename_i p hp
   obtain rfl:=Option.some.inj hr
   have hx:=bt hf hp
   refine⟨_,rfl,a.eval x,hx,?_⟩
   generalize Bg:a.eval x=cv at hx
   cases hx<;>simp[execOp,Bg]
  ·rename_i g arv bs hp
   obtain rfl:=Option.some.inj hr
   have hx:=bt hf hp
   refine⟨_,rfl,a.eval x,hx,?_⟩
   generalize Bg:a.eval x=cv at hx
   cases hx
   simp[execOp,Bg]
  ·cases hr
 case binOp op t x y yt=>
  simp only[cM]
  split
  ·rename_i u v hu hv
   exact eJ rfl (fun r hr=>W8 (bt hf hu) (bt hf hv) hr)
  ·exact cO
 case unOp op t x=>
  simp only[cM]
  split
  ·rename_i u hu
   exact eJ rfl (fun r hr=>aaI (bt hf hu) hr)
  ·exact cO
 case convert s d x=>
  simp only[cM]
  split
  ·rename_i u hu
   intro r hr
   cases hc:fW P S.s s d u with
   |none=>rw[hc] at hr;simp[nO] at hr
   |some p=>
    obtain⟨v,s'⟩:=p
    rw[hc] at hr
    simp only[nO] at hr
    obtain rfl:=Option.some.inj hr
    have SF:rQ (P.underlying d)=false:=by
     simp only[aM] at hq
     unfold rQ
     cases hd:P.underlying d with
     |none=>rfl
     |some e=>rw[hd] at hq;cases e<;>first|rfl|cases hq
    obtain⟨rfl,v',h1,h2⟩:=L7 h (bt hf hu) hc SF
    exact⟨v,rfl,v',h2,OB h1⟩
  ·exact cO
 case makeFunc fn arv bs=>
  intro r hr
  cases fn<;>simp only[cM] at hr<;>try (cases hr;done)
  rename_i g
  split at hr
  ·rename_i l m h1 h2
   obtain rfl:=Option.some.inj hr
   have hl:=p8 hf h1
   have hm:=p8 hf h2
   refine⟨_,rfl,.func (.func g) (arv.map a.eval) (bs.map a.eval),?_,by simp[execOp,Instr.makeFunc]⟩
   refine .func g _ _ _ _ (by simpa using hl.1) (by simpa using hm.1) (fun i hi=> ?_) (fun i hi=> ?_)
   ·simpa using hl.2 i (by simpa using hi)
   ·simpa using hm.2 i (by simpa using hi)
  ·cases hr
 case makeInterface t x=>
  intro r hr
  simp only[cM] at hr
  split at hr
  ·cases hr
  ·rename_i d v SD hd hv
   obtain rfl:=Option.some.inj hr
   refine⟨_,rfl,.iface t (a.eval x),.iface t _ _ (bt hf hv),?_⟩
   cases d<;>first
    |exact absurd rfl (SD _)
    |simp[execOp,Instr.makeInterface,run_underlying hd]
  ·cases hr
 case slice t x lo hi mx=>
  simp only[cM]
  split
  ·rename_i u l h' m h1 h2 h3 h4
   refine eJ rfl (fun r hr=>Qp h (bt hf h1) ?_ ?_ ?_ hr)
   ·rcases Hj hf h2 with ⟨q1,q2⟩|⟨v,v',q1,q2,q3⟩
    ·exact .inl ⟨q1,q2⟩
    ·exact .inr ⟨v,v',q1,q2,q3⟩
   ·rcases Hj hf h3 with ⟨q1,q2⟩|⟨v,v',q1,q2,q3⟩
    ·exact .inl ⟨q1,q2⟩
    ·exact .inr ⟨v,v',q1,q2,q3⟩
   ·rcases Hj hf h4 with ⟨q1,q2⟩|⟨v,v',q1,q2,q3⟩
    ·exact .inl ⟨q1,q2⟩
    ·exact .inr ⟨v,v',q1,q2,q3⟩
  ·exact cO
 case fieldAddr t x i=>
  simp only[cM]
  split
  ·rename_i u hu
   exact eJ rfl (fun r hr=>D3 (bt hf hu) hr)
  ·exact cO
 case field t x i=>
  simp only[cM]
  split
  ·rename_i u hu
   exact eJ rfl (fun r hr=>Qn (bt hf hu) hr)
  ·exact cO
 case indexAddr t x y=>
  simp only[cM]
  split
  ·rename_i u v hu hv
   exact eJ rfl (fun r hr=>D2 (bt hf hu) (bt hf hv) hr)
  ·exact cO
 case index t x y=>
  simp only[cM]
  split
  ·rename_i u v hu hv
   exact eJ rfl (fun r hr=>Qo (bt hf hu) (bt hf hv) hr)
  ·exact cO
 case lookup t x y ok=>
  simp only[cM]
  split
  ·rename_i u v hu hv
   exact eJ rfl (fun r hr=>Ma h (bt hf hu) (bt hf hv) hr)
  ·exact cO
 case extract x i=>
  simp only[cM]
  split
  ·rename_i u hu
   exact eJ rfl (fun r hr=>I2 (bt hf hu) hr)
  ·exact cO
 case call c=>
  obtain⟨callee,args,ts⟩:=c
  simp only[cM]
  split
  case h_2=>exact cO
  rename_i l hl
  have Hg:=p8 hf hl
  cases callee with
  |value x=>simp[aM] at hq
  |invoke x m=>simp[aM] at hq
  |builtin b=>
   simp only
   cases b<;>try (simp[aM] at hq;done)
   case len=>
    cases ht:ts.toList with
    |nil=>exact cO
    |cons t tr=>
     cases l with
     |nil=>exact cO
     |cons x xr=>
      obtain⟨x',r',e,hx',_⟩:=Hg.cons_inv
      refine eJ (m:=Builtin.len_ ts type (args.map a.eval)) rfl (fun v hv=>Xb h hx' hv (fX ht) ?_)
      exact fX (by rw[Array.toList_map];exact e)
   case min=>
    cases l with
    |nil=>exact cO
    |cons x xr=>
     obtain⟨x',r',e,hx',Mc⟩:=Hg.cons_inv
     refine eJ (m:=Builtin.min_ ts type (args.map a.eval)) rfl (fun v hv=> ?_)
     obtain⟨v',k1,k2⟩:=I8 (P:=P) WZ Builtin.min2 Xc hx' Mc hv
     exact⟨v',by simp only[Builtin.min_,Array.toList_map,e];exact k1,k2⟩
   case max=>
    cases l with
    |nil=>exact cO
    |cons x xr=>
     obtain⟨x',r',e,hx',Mc⟩:=Hg.cons_inv
     refine eJ (m:=Builtin.max_ ts type (args.map a.eval)) rfl (fun v hv=> ?_)
     obtain⟨v',k1,k2⟩:=I8 (P:=P) W0 Builtin.max2 Xd hx' Mc hv
     exact⟨v',by simp only[Builtin.max_,Array.toList_map,e];exact k1,k2⟩
theorem oF {s:aq}{cs:List Value}{len mf:Nat}{r:Value×aq}(h:aZ s cs len mf=some r):s.room=true:=by
 unfold aZ at h
 split at h
 ·assumption
 ·cases h
theorem yW {s:aq}{cs:List Value}{mf:Nat}{r:Value×aq}(h:eR s cs mf=some r):s.room=true:=by
 unfold eR at h
 split at h
 ·assumption
 ·cases h
theorem D8 {P:Program}{s:aq}{t:TypeId}{n:Nat}{ps:List (Nat×Value)}{r:Value×aq}(h:aL P s t n ps=some r):s.room=true:=by
 unfold aL at h
 split at h
 ·split at h
  ·split at h
   ·split at h
    ·exact oF h
    ·cases h
   ·cases h
  ·cases h
 ·cases h
theorem Hs {P:Program}{s:aq}{t:TypeId}{x y:Value}{r:Value×aq}(h:eS P s t x y=some r):s.room=true:=by
 unfold eS at h
 split at h
 ·split at h
  ·split at h
   ·exact oF h
   ·cases h
  ·cases h
 ·cases h
theorem Ht {P:Program}{s:aq}{a b:TypeId}{x:Value}{r:Value×aq}(h:fW P s a b x=some r)(ht:iQ P a b=true):s.room=true:=by
 unfold iQ at ht
 split at ht
 case h_2=>cases ht
 rename_i e0 oB S6
 unfold fW at h
 split at h
 ·rename_i hs hd;rw[S6] at hd;cases hd
 ·rename_i hs hd;rw[S6] at hd;cases hd
 ·split at h
  ·exact oF h
  ·cases h
 ·rename_i hs hd;rw[oB] at hs;cases hs
 ·rename_i hs hd;rw[S6] at hd;cases hd
 ·rename_i hs hd;rw[S6] at hd;cases hd
 ·cases h
def Md (P:Program)(base:Nat)(S:St)(a:Act)(o:Oper):AR->Prop
 | .val v s' =>∃T v',T.s=s' /\VR T v v' /\Good base S T/\((execOp a.eval o).run P S.w= .ok (.value v') T.w\/((execOp a.eval o).run P S.w= .ok .skip T.w/\v' =undef))
 | .call g args=>∃args' :Array Value,er S args args'.toList/\execOp a.eval o=callFunc g args'
theorem lu {P:Program}{base:Nat}{S:St}{a:Act}{o:Oper}{m:Sem Value}{r:Option (Value×aq)}(he:execOp a.eval o=(do pure (Next.value (<-m))))(h:∀v s',r=some (v,s')->mZ P base S m v s'):
  ∀x,nO r=some x->Md P base S a o x:=by
 intro x hx
 cases r with
 |none=>simp[nO] at hx
 |some p=>
  obtain⟨v,s'⟩:=p
  simp only[nO] at hx
  obtain rfl:=Option.some.inj hx
  obtain⟨T,v',h1,h2,h3,h4⟩:=h v s' rfl
  exact⟨T,v',h1,h3,h4,.inl (by rw[he];exact OB h2)⟩
theorem EY {P:Program}{base:Nat}{S:St}{a:Act}{o:Oper}{m:Sem Unit}{r:Option aq}(he:execOp a.eval o=(do m;pure Next.skip))(h:∀s',r=some s' ->OA P base S m s'):
  ∀x,AY r=some x->Md P base S a o x:=by
 intro x hx
 cases r with
 |none=>simp[AY] at hx
 |some s' =>
  simp only[AY] at hx
  obtain rfl:=Option.some.inj hx
  obtain⟨T,h1,h2,h3⟩:=h s' rfl
  exact⟨T,undef,h1,VR.rG T,h3,.inr ⟨by rw[he];exact aer h2,rfl⟩⟩
theorem Qy {P:Program}{base:Nat}{S:St}(h:SR base S){t:TypeId}{a v a' v' :Value}{s' :aq}(ha:VR S a a')(hv:VR S v v')(hs:dE P S.s t a v=some s'):OA P base S (Instr.storeAt t a' v') s' :=by
 unfold dE at hs
 split at hs
 ·rename_i i off c hn
  obtain⟨a1,rfl,hr⟩:=ha.p9
  split at hs
  ·rename_i hlen
   obtain rfl:=Option.some.inj hs
   have ef:v.cells.toList.length=0:=by simpa [Nat.beq_eq] using hlen
   have Bg:=hv.cells
   have b6:v'.cells.size=0:=by have:=Bg.1;rw[ef] at this;simpa using this.symm
   have rh:v'.cells.toList=[]:=by simpa using b6
   refine⟨S,rfl,?_,Good.refl h⟩
   simp[Instr.storeAt,Instr.sureAddr,storeVar,run_sizeOf hn,b6]
   rw[rh]
   rfl
  ·cases hs
 ·rename_i i off c n ck hn
  obtain⟨a1,rfl,hr⟩:=ha.p9
  split at hs
  ·rename_i hlen
   have ef:v.cells.toList.length=n:=by simpa [Nat.beq_eq] using hlen
   unfold aq.storeAt at hs
   split at hs
   ·rename_i b hb
    split at hs
    ·rename_i hc
     simp only[Bool.and_eq_true,Nat.ble_eq,Nat.beq_eq] at hc
     obtain⟨⟨⟨ky,iS⟩,DX⟩,dF⟩:=hc
     split at hs
     ·cases hs
     rename_i rh
     split at hs
     ·rename_i l hl
      obtain rfl:=Option.some.inj hs
      have eT:Live b c:=⟨iS,by omega⟩
      obtain rfl:=hr.addr hb eT
      have Bg:=hv.cells
      have b6:v'.cells.size=n:=by have:=Bg.1;simp at this ef;omega
      have aaS:=Bg.aJ dF
      obtain⟨hg,arr,E,fr,h1,h2,h3⟩:=Good.store h hb ky eT DX hl Bg (by rw[rh];simp)
      refine⟨_,rfl,?_,hg⟩
      have:=jX P (S.e.loc i c).1 ((S.e.loc i c).2+off) v'.cells.toList S.w 0 arr E fr h1 h2 (by omega) aaS
      simp[Instr.storeAt,Instr.sureAddr,storeVar,run_sizeOf hn,b6,this]
     ·cases hs
    ·cases hs
   ·cases hs
  ·cases hs
 ·cases hs
theorem Hu {P:Program}{base:Nat}{S:St}(h:SR base S){f:aT}{a:Act}(hf:FR S f a){o:Oper}:∀x,cM P o f S.s=some x->Md P base S a o x:=by
 by_cases hq:aM P o=true
 ·intro x hx
  obtain⟨v,rfl,v',h1,h2⟩:=EX h hf hq x hx
  exact⟨S,v',rfl,h1,Good.refl h,.inl h2⟩
 obtain⟨dst,op,type,pos,after,guard⟩:=o
 cases op<;>try (simp[aM] at hq;done)
 all_goals try (intro x hx;simp[cM] at hx;done)
 case alloc e=>
  simp only[cM]
  intro x hx
  split at hx
  ·rename_i z hz
   split at hx
   ·rename_i hp
    exact lu rfl (fun v s' hv=>(I4 h (mu.self h (yW hv)) hz hp hv).Hm) x hx
   ·cases hx
  ·cases hx
 case box e y=>
  simp only[cM]
  intro x hx
  split at hx
  ·rename_i u hu
   exact lu rfl (fun v s' hv=>(S5 h (mu.self h (yW hv)) (bt hf hu) hv).Hm) x hx
  ·cases hx
 case buildSlice t n ps=>
  simp only[cM]
  intro x hx
  split at hx
  ·rename_i l hl
   refine lu (m:=Instr.buildSlice t n (ps.map fun(i,x)=>(i,a.eval x))) rfl (fun v s' hv=> ?_) x hx
   have:=(rR (P:=P) h (mu.self h (D8 hv)) (xL hf hl) hv).Hm
   have e:(ps.map fun(x:Nat×Operand)=>(x.1,a.eval x.2))=(ps.toList.map fun x=>(x.1,a.eval x.2)).toArray:=by rw[<-Array.toList_inj];simp
   rw[e];exact this
  ·cases hx
 case store t y z=>
  simp only[cM]
  intro x hx
  split at hx
  ·rename_i u v hu hv
   exact EY rfl (fun s' hs=>Qy h (bt hf hu) (bt hf hv) hs) x hx
  ·cases hx
 case convert s d y=>
  simp only[cM]
  intro x hx
  split at hx
  ·rename_i u hu
   refine lu rfl (fun v s' hv=> ?_) x hx
   cases DP:iQ P s d with
   |true=>exact(yS h (mu.self h (Ht hv DP)) (bt hf hu) hv DP).Hm
   |false=>
    refine L8 h (bt hf hu) hv ?_ DP
    simp only[aM] at hq
    unfold rQ
    cases hd:P.underlying d with
    |none=>rw[hd] at hq;exact absurd rfl hq
    |some e=>rw[hd] at hq;cases e<;>first|rfl|exact absurd rfl hq
  ·cases hx
 case makeMap t r=>
  cases r with
  |some _=>intro x hx;simp[cM] at hx
  |none=>
   simp only[cM]
   intro x hx
   split at hx
   ·rename_i hr
    obtain rfl:=Option.some.inj hx
    have hg:=Good.aaG h hr
    have bc:=vz hr
    refine⟨_,.map (some S.w.heap.size),rfl,?_,hg,.inl (by simp[execOp,Instr.makeMap,newObj,Sem.run])⟩
    have:=VR.map (S:=⟨S.s.new (.map []),⟨S.e.loc,fun r=>if r=S.s.next then S.w.heap.size else S.e.mp r⟩,S.w.alloc (.map #[] 0)⟩) S.s.next ⟨[],by simp only[aq.new,aq.dp,Tr.bp _ _ _ _ (deep (show 0<16000001 by omega))]⟩
    simpa using this
   ·cases hx
 case makeSlice t y z=>
  simp only[cM]
  intro x hx
  split at hx
  ·rename_i u v hu hv
   exact lu rfl (fun r s' hr=>(tQ h (mu.self h (Hs hr)) (bt hf hu) (bt hf hv) hr).Hm) x hx
  ·cases hx
 case mapUpdate t y z u=>
  simp only[cM]
  intro x hx
  split at hx
  ·rename_i m k v h1 h2 h3
   exact EY rfl (fun s' hs=>D7 h (bt hf h1) (bt hf h2) (bt hf h3) hs) x hx
  ·cases hx
 case call c=>
  obtain⟨callee,args,ts⟩:=c
  simp only[cM]
  intro x hx
  split at hx
  case h_2=>cases hx
  rename_i l hl
  have Hg:=p8 hf hl
  cases callee with
  |invoke y m=>cases hx
  |value y=>
   simp only at hx
   split at hx
   ·rename_i g arv bs hy
    obtain rfl:=Option.some.inj hx
    obtain⟨On,Oo,e,h1,h2⟩:=(bt hf hy).SX
    refine⟨On++args.map a.eval++Oo,?_,?_⟩
    ·simp only[Array.toList_append,Array.toList_map]
     exact(h1.append Hg).append h2
    ·simp[execOp,resolve,e,Deferred.ofValue,invoke]
   ·cases hx
  |builtin b=>
   simp only at hx
   cases b<;>try (simp[aM] at hq;done)
   all_goals try (simp[iP] at hx;done)
   case append=>
    cases ht:ts.toList with
    |nil=>rw[ht] at hx;cases hx
    |cons t tr=>
     cases tr with
     |nil=>rw[ht] at hx;cases hx
     |cons t2 tr2=>
      cases l with
      |nil=>rw[ht] at hx;cases hx
      |cons y yr=>
       cases yr with
       |nil=>rw[ht] at hx;cases hx
       |cons z zr=>
        rw[ht] at hx
        obtain⟨y',r',e,Zo,Mc⟩:=Hg.cons_inv
        obtain⟨z',r2',e2,uy,_⟩:=Mc.cons_inv
        rw[e2] at e
        refine lu (m:=Builtin.append_ ts type (args.map a.eval)) rfl (fun v s' hv=>L9 h Zo uy hv (fX ht) (rT ht) ?_ ?_) x hx
        ·exact fX (by rw[Array.toList_map];exact e)
        ·exact rT (by rw[Array.toList_map];exact e)
   case clear=>
    cases ht:ts.toList with
    |nil=>rw[ht] at hx;cases hx
    |cons t tr=>
     cases l with
     |nil=>rw[ht] at hx;cases hx
     |cons y yr=>
      rw[ht] at hx
      obtain⟨y',r',e,Zo,_⟩:=Hg.cons_inv
      refine lu (m:=Builtin.clear_ ts type (args.map a.eval)) rfl (fun v s' hv=>Qx h Zo hv (fX ht) ?_) x hx
      exact fX (by rw[Array.toList_map];exact e)
   case copy=>
    cases ht:ts.toList with
    |nil=>rw[ht] at hx;cases hx
    |cons t tr=>
     cases l with
     |nil=>rw[ht] at hx;cases hx
     |cons y yr=>
      cases yr with
      |nil=>rw[ht] at hx;cases hx
      |cons z zr=>
       rw[ht] at hx
       obtain⟨y',r',e,Zo,Mc⟩:=Hg.cons_inv
       obtain⟨z',r2',e2,uy,_⟩:=Mc.cons_inv
       rw[e2] at e
       refine lu (m:=Builtin.copy_ ts type (args.map a.eval)) rfl (fun v s' hv=>Tg h Zo uy hv (fX ht) ?_ ?_) x hx
       ·exact fX (by rw[Array.toList_map];exact e)
       ·exact rT (by rw[Array.toList_map];exact e)
end Go.Cl
