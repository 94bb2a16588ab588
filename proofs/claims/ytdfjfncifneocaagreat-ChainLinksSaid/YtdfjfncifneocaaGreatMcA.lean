/-
 The clean machine, first part: what it is, and that it is true to the model, operation by operation.
-/
import GoSem.Step
import Derived.Orders
import Derived.Below
import Derived.WalkKit
import Derived.Deep.QuietTactic
import Derived.WalkSpells
import Derived.WalkLawsBesides
import Derived.Laws.StructEq
open Option.some renaming inj->ab
open Go renaming Value->af,Program->an,TypeId->ao,World->ca,Operand->c6,Oper->eb,IntKind->eG,FuncId->eL
open _root_ renaming Option->av,List->aR,Nat->aY,Array->bw,if_neg->bA,if_pos->ck,Bool->cz,absurd->cT,if_true->ea,ByteArray->ee,Int->e8,true_and->fb,if_false->ff,UInt8->g3
open Go.Result renaming andThen_ok->ax
open Bool renaming and_eq_true->aC,false_eq_true->dP,not_eq_true'->eg,true_and->en,not_true->eD,and_eq_false_iff->eK
open Nat renaming le_refl->a3,beq_eq->b5,beq->b8,ble->cg,ble_eq->cm,mul_le_mul_right->cp,mod_two_eq_zero_or_one->cB,ne_of_lt->cD,add_assoc->c5,blt->c7,add_mul->ds,lt_or_ge->dv,add_zero->dw,blt_eq->dK,testBit->ep,succ_eq_add_one->ev,zero_add->ew,mul_pos->eQ,lt_of_lt_of_le->e5,le_trans->e9,sub_zero->gg,sub_self->gr,mod_lt->g2
open List renaming getD_eq_getElem?_getD->a8,drop_eq_getElem_cons->bt,getElem?_eq_getElem->b7,drop_eq_nil_of_le->cc,length_append->ch,length_cons->dc,eq_nil_of_length_eq_zero->dg,getD_cons_succ->ed,take_succ_cons->eu,drop_zero->eA,getElem?_drop->eB,getElem?_append->eM,drop_drop->eP,getD_cons_zero->eV,length_take->fF,length_drop->fM,range'->fS,length_map->ga,all_cons->gf,extract->gu
open Array renaming getElem?_toList->bl,toList_map->cx,toList_inj->cA,getElem?_setIfInBounds_ne->cJ,getElem?_setIfInBounds_self_of_lt->cL,getElem?_eq_none->cU,length_toList->c8,toList_append->c9,getElem?_modify->ek,toList_extract->er,getElem?_eq_some_iff->ey,range->eC,getElem?_push->eX,size_extract->e6,getElem?_map->e7,size_append->fk
open Go.Builtin renaming firstCells->bq,zeroCells->bz,append_->cb,lenOf->cM,len_->ec,clear_->eh,copy_->eo,nextslicecap->eS,min2->fl,max2->fo,min_->gE,max_->gG
open Go.Op renaming equalIn->cd,eqFields->c3,bytesLess->eI,stringOp->fN,unary->gd,intArith->gT,equal->g0,intBits->g1
open Go.World renaming cell?_of_block->c4,freeze->eJ,cell?->gH
open BitVec renaming ofInt->dt
set_option maxHeartbeats 1000000
namespace Go.Cl
inductive Tr (α:Type) where
 |nil
 |node (v:av α) (l r:Tr α)
def Tr.val {α:Type}:Tr α->av α
 | .nil=>none
 | .node v _ _=>v
def Tr.left {α:Type}:Tr α->Tr α
 | .nil=> .nil
 | .node _ l _=>l
def Tr.right {α:Type}:Tr α->Tr α
 | .nil=> .nil
 | .node _ _ r=>r
def Tr.get {α:Type}:Tr α->aY->av α
 | .nil,_=>none
 | .node v l r,i=>
  match i with
  |0=>v
  |k+1=>
   match k%2 with
   |0=>l.get (k/2)
   |_+1=>r.get (k/2)
def Tr.set {α:Type}:aY->Tr α->aY->α->Tr α
 |0,t,_,_=>t
 |f+1,t,i,u=>
  match i with
  |0=> .node (some u) t.left t.right
  |k+1=>
   match k%2 with
   |0=> .node t.val (Tr.set f t.left (k/2) u) t.right
   |_+1=> .node t.val t.left (Tr.set f t.right (k/2) u)
def depth (i:aY):aY:=Nat.log2 (i+1)+1
structure kM where
 cells:aR af
 low:aY
 own:cz
 mD:aY
inductive AO where
 |eE (b:kM)
 |map (es:aR (af×af))
structure au where
 heap:Tr AO
 next:aY
structure aZ where
 YE:Tr af
 n:aY
def au.bL (s:au)(i:aY):av kM:=
 match s.heap.get i with
 |some (.eE b)=>some b
 |_=>none
def au.fj (s:au)(i:aY):av (aR (af×af)):=
 match s.heap.get i with
 |some (.map es)=>some es
 |_=>none
def au.put (s:au)(i:aY)(o:AO):au:=⟨Tr.set (depth i) s.heap i o,s.next⟩
def au.new (s:au)(o:AO):au:=⟨Tr.set (depth s.next) s.heap s.next o,s.next+1⟩
def au.room (_:au):cz:=true
def aZ.get (f:aZ)(t:aY):af:=
 match f.YE.get t with
 |some v=>v
 |none=>undef
def aZ.put (f:aZ)(t:aY)(v:af):aZ:=⟨Tr.set (depth t) f.YE t v,f.n⟩
def iD:af->cz
 | .bool _| .int _ _| .string _| .pointer none| .slice none 0 0| .map none| .nilFunc| .nilIface=>true
 |_=>false
def cr:af->cz
 | .agg cs=>cs.toList.all iD
 | .tuple cs=>cs.toList.all iD
 |v=>iD v
def a5 (f:aZ):c6->av af
 | .tmp t=>if c7 t f.n then some (f.get t) else none
 | .const v=>if cr v then some v else none
 | .global _=>none
 | .func g=>some (.func (.func g) #[] #[])
def ad (f:aZ):aR c6->av (aR af)
 |[]=>some []
 |x::r=>
  match a5 f x with
  |some v=>
   match ad f r with
   |some vs=>some (v::vs)
   |none=>none
  |none=>none
def takeN:aY->aR af->av (aR af)
 |0,_=>some []
 |_+1,[]=>none
 |n+1,v::r=>
  match takeN n r with
  |some l=>some (v::l)
  |none=>none
def Az:aY->aR af->aR af
 |0,l=>l
 |_+1,[]=>[]
 |n+1,_::r=>Az n r
def setAt:aR af->aY->aR af->av (aR af)
 |l,_,[]=>some l
 |[],_,_::_=>none
 |c::r,n+1,vs=>
  match setAt r n vs with
  |some l=>some (c::l)
  |none=>none
 |_::r,0,v::vs=>
  match setAt r 0 vs with
  |some l=>some (v::l)
  |none=>none
def aT:af->cz
 | .agg _| .tuple _=>false
 |_=>true
def au.dG (s:au)(i off c n:aY):av (aR af):=
 match s.bL i with
 |some b=>
  if cg b.low c&&cg c (b.cells.length+1)&&c7 (off+n) c then takeN n (Az off b.cells) else none
 |none=>none
def au.storeAt (s:au)(i off c:aY)(vs:aR af):av au:=
 match s.bL i with
 |some b=>
  if b.own&&cg b.low c&&b8 c (b.cells.length+1)&&vs.all aT then
   match vs with
   |[]=>none
   |_::_=>
   match setAt b.cells off vs with
   |some l=>some (s.put i (.eE {b with cells:=l,low:=c}))
   |none=>none
  else none
 |none=>none
def bU (P:an)(t:ao):av cz:=
 match P.underlying t with
 |some (.struct _)|some (.array _ _)=>some true
 |some _=>some false
 |none=>none
def br (P:an)(t:ao):av aY:=
 match P.info? t with
 |some i=>some i.size
 |none=>none
def b6 (P:an)(t:ao):av af:=
 match P.info? t with
 |some i=>i.zero
 |none=>none
def dX (P:an)(t:ao):av aY:=
 match P.info? t with
 |some i=>some i.bytes
 |none=>none
def OA (P:an)(t:ao)(cs:aR af)(off:aY):av af:=
 match bU P t,br P t with
 |some true,some n=>
  match takeN n (Az off cs) with
  |some l=>some (.agg l.toArray)
  |none=>none
 |some false,_=>
  match Az off cs with
  |v::_=>some v
  |[]=>none
 |_,_=>none
def aN (P:an)(s:au)(t:ao)(a:af):av af:=
 match a with
 | .pointer (some ⟨i,off,some c⟩)=>
  match bU P t,br P t with
  |some true,some n=>
   match s.dG i off c n with
   |some l=>some (.agg l.toArray)
   |none=>none
  |some false,_=>
   match s.dG i off c 1 with
   |some (v::_)=>some v
   |_=>none
  |_,_=>none
 |_=>none
def fw (P:an)(s:au)(t:ao)(a v:af):av au:=
 match a,br P t with
 | .pointer (some ⟨_,_,some _⟩),some 0=>if b8 v.cells.toList.length 0 then some s else none
 | .pointer (some ⟨i,off,some c⟩),some n=>
  if b8 v.cells.toList.length n then s.storeAt i off c v.cells.toList else none
 |_,_=>none
def iE (s:au)(cs:aR af)(mD:aY):av (af×au):=
 if s.room then some (.pointer (some ⟨s.next,0,some (cs.length+1)⟩),s.new (.eE ⟨cs,1,true,mD⟩)) else none
def a6 (s:au)(cs:aR af)(len mD:aY):av (af×au):=
 if s.room then some (.slice (some ⟨s.next,0,none⟩) len (cs.length+1),s.new (.eE ⟨cs,1,true,mD⟩)) else none
def db (z:aR af):aY->aR af
 |0=>[]
 |n+1=>z++db z n
def kS (op:BinOp)(k:eG)(x y:e8):av af:=
 match op with
 | .add=>some (.int k (k.wrap (x+y)))
 | .sub=>some (.int k (k.wrap (x-y)))
 | .mul=>some (.int k (k.wrap (x*y)))
 | .quo=>if y=0 then none else some (.int k (k.wrap (x.tdiv y)))
 | .rem=>if y=0 then none else some (.int k (x.tmod y))
 | .and=>some (.int k (k.wrap (dt k.bits x&&&dt k.bits y).toNat))
 | .or=>some (.int k (k.wrap (dt k.bits x|||dt k.bits y).toNat))
 | .xor=>some (.int k (k.wrap (dt k.bits x^^^dt k.bits y).toNat))
 | .andNot=>some (.int k (k.wrap (dt k.bits x&&& ~~~dt k.bits y).toNat))
 | .eql=>some (.bool (x==y))
 | .neq=>some (.bool (x !=y))
 | .lss=>some (.bool (x<y))
 | .leq=>some (.bool (x<=y))
 | .gtr=>some (.bool (x>y))
 | .geq=>some (.bool (x>=y))
 |_=>none
def vn (op:BinOp)(k:eG)(x y:e8):av af:=
 if y<0 then none else
 match op with
 | .shl=>some (.int k (k.wrap (x*2^(min y.toNat k.bits))))
 | .shr=>some (.int k (x.fdiv (2^(min y.toNat k.bits))))
 |_=>none
def JH (op:BinOp)(x y:ee):av af:=
 match op with
 | .add=>if cg (x.data.toList.length+y.data.toList.length) 4294967296 then some (.string ⟨(x.data.toList++y.data.toList).toArray⟩) else none
 | .eql=>some (.bool (x.data.toList==y.data.toList))
 | .neq=>some (.bool (!(x.data.toList==y.data.toList)))
 | .lss=>some (.bool (eI x.data.toList y.data.toList))
 | .leq=>some (.bool (eI x.data.toList y.data.toList||x.data.toList==y.data.toList))
 | .gtr=>some (.bool (!(eI x.data.toList y.data.toList||x.data.toList==y.data.toList)))
 | .geq=>some (.bool (!(eI x.data.toList y.data.toList)))
 |_=>none
def qJ (P:an)(t:ao)(x y:af):av cz:=
 match P.underlying t,x,y with
 |some .bool,.bool a,.bool b=>some (a==b)
 |some (.pointer _),.pointer none,.pointer b=>some b.isNone
 |some (.pointer _),.pointer (some _),.pointer none=>some false
 |some (.slice _),.slice none _ _,.slice b _ _=>some b.isNone
 |some (.slice _),.slice (some _) _ _,.slice none _ _=>some false
 |some (.map _ _),.map none,.map b=>some b.isNone
 |some (.map _ _),.map (some _),.map none=>some false
 |some (.func _ _ _),.nilFunc,.nilFunc=>some true
 |some (.func _ _ _),.nilFunc,.func _ _ _=>some false
 |some (.func _ _ _),.func _ _ _,.nilFunc=>some false
 |_,_,_=>none
def iB:aR af->aR af->av cz
 |[],[]=>some true
 | .int k a::r,.int k' b::q=>
  match (if k=k' then true else false),iB r q with
  |true,some t=>some (a==b&&t)
  |_,_=>none
 |_,_=>none
def vo (P:an):aR Field->aY->cz
 |[],_=>true
 |f::r,i=>
  (match P.underlying f.type with
   |some (.int _)=>f.name != "_" &&b8 f.offset i
   |_=>false)&&vo P r (i+1)
def vp:af->af->av cz
 | .int k a,.int k' b=>if k=k' then some (a==b) else none
 | .string a,.string b=>some (a.toList==b.toList)
 |_,_=>none
def dd:aR af->aR af->av cz
 |[],[]=>some true
 |x::r,y::q=>
  match vp x y,dd r q with
  |some a,some t=>some (a&&t)
  |_,_=>none
 |_,_=>none
def jk (P:an):aR Field->aR af->aY->cz
 |[],_,_=>true
 |_::_,[],_=>false
 |f::r,x::q,i=>
  (match P.underlying f.type,x with
   |some (.int _),.int _ _=>f.name != "_" &&b8 f.offset i
   |some .string,.string _=>f.name != "_" &&b8 f.offset i
   |_,_=>false)&&jk P r q (i+1)
def SE:av aY->aY->cz
 |some a,b=>b8 a b
 |none,_=>false
def jm (P:an):aR Field->aR af->aY->cz
 |[],[],_=>true
 |[],_::_,_=>false
 |f::r,xs,i=>f.name != "_" &&b8 f.offset i&&
  match P.underlying f.type with
  |some (.struct gs)=> !P.stoodInHeld f.type&&SE (br P f.type) gs.toList.length&&cg gs.toList.length xs.length&&jk P gs.toList xs 0&&jm P r (xs.drop gs.toList.length) (i+gs.toList.length)
  |some (.int _)=>(match xs with
   | .int _ _::q=>jm P r q (i+1)
   |_=>false)
  |some .string=>(match xs with
   | .string _::q=>jm P r q (i+1)
   |_=>false)
  |_=>false
def zF (P:an)(t:ao)(xs ys:bw af):av cz:=
 match P.underlying t with
 |some (.array n e)=>
  match P.underlying e,br P e with
  |some (.int _),some 1=>if b8 xs.toList.length n&&b8 ys.toList.length n&& !P.eqGuardType P.depth t then iB xs.toList ys.toList else none
  |_,_=>none
 |some (.struct fs)=>if b8 xs.toList.length fs.toList.length&&b8 ys.toList.length fs.toList.length&& !P.eqGuardType P.depth t&& !P.stoodInHeld t then(if vo P fs.toList 0 then iB xs.toList ys.toList else if jk P fs.toList xs.toList 0 then dd xs.toList ys.toList else none) else if b8 xs.toList.length ys.toList.length&& !P.eqGuardType P.depth t&& !P.stoodInHeld t&&jm P fs.toList xs.toList 0 then dd xs.toList ys.toList else none
 |_=>none
def dB (P:an)(op:BinOp)(t:ao)(x y:af):av af:=
 match x,y with
 | .agg xs,.agg ys=>
  match op with
  | .eql=>
   match zF P t xs ys with
   |some b=>some (.bool b)
   |none=>none
  | .neq=>
   match zF P t xs ys with
   |some b=>some (.bool (!b))
   |none=>none
  |_=>none
 | .int k a,.int k' b=>
  match op with
  | .shl=>vn .shl k a b
  | .shr=>vn .shr k a b
  |_=>if k=k' then kS op k a b else none
 | .string a,.string b=>JH op a b
 |_,_=>
  match op with
  | .eql=>
   match qJ P t x y with
   |some b=>some (.bool b)
   |none=>none
  | .neq=>
   match qJ P t x y with
   |some b=>some (.bool (!b))
   |none=>none
  |_=>none
def ZY (op:UnOp)(x:af):av af:=
 match op,x with
 | .neg,.int k n=>kS .sub k 0 n
 | .xor,.int k n=>kS .xor k (if k.signed then-1 else k.max) n
 | .not,.bool b=>some (.bool (!b))
 |_,_=>none
def toByte:af->av g3
 | .int .u8 n=>some (UInt8.ofNat n.toNat)
 |_=>none
def pS:aR af->av (aR g3)
 |[]=>some []
 |v::r=>
  match toByte v with
  |some b=>
   match pS r with
   |some l=>some (b::l)
   |none=>none
  |none=>none
def ofBytes (l:aR g3):aR af:=l.map fun b=> .int .u8 b.toNat
def Cy (P:an)(t:ao):cz:=
 match P.underlying t with
 |some (.int .u8)=>true
 |_=>false
def ir (P:an)(s:au)(src dst:ao)(x:af):av (af×au):=
 match P.underlying src,P.underlying dst,x with
 |some _,some (.int k),.int _ n=>some (.int k (k.wrap n),s)
 |some _,some .string,.string b=>some (.string b,s)
 |some .string,some (.slice e),.string b=>
  if Cy P e&&cg b.data.toList.length 9223372036854775807 then a6 s (ofBytes b.data.toList) b.data.toList.length 1 else none
 |some (.slice _),some (.slice e),.slice (some ⟨i,_,none⟩) len c=>
  match len with
  |0=>none
  |_+1=>
   match s.bL i with
   |some b=>if b8 src dst&&Cy P e&&b.own&&cg b.low c&&cg c (b.cells.length+1)&&b8 b.mD 1 then some (x,s.put i (.eE b)) else none
   |none=>none
 |some (.slice e),some .string,.slice none _ _=>if Cy P e then some (.string ⟨#[]⟩,s) else none
 |some (.slice e),some .string,.slice (some ⟨i,off,none⟩) len c=>
  if Cy P e then
   match len with
   |0=>some (.string ⟨#[]⟩,s)
   |_+1=>
    match s.dG i off c len with
    |some l=>
     match pS l with
     |some bs=>some (.string ⟨bs.toArray⟩,s)
     |none=>none
    |none=>none
  else none
 |_,_,_=>none
def kT:av af->aY->av aY
 |none,d=>some d
 |some (.int _ (.ofNat n)),_=>some n
 |some _,_=>none
def l5 (s:au)(i c z:aY):cz:=
 match c with
 |0=>true
 |_+1=>
  match s.bL i with
  |some b=>b8 b.mD z
  |none=>false
def fa (P:an)(s:au)(t:ao)(x:af)(lo hi mx:av af):av af:=
 match P.underlying t,x with
 |some .string,.string b=>
  match mx,kT lo 0,kT hi b.data.toList.length with
  |none,some l,some h=>if cg l h&&cg h b.data.toList.length then some (.string ⟨((b.data.toList.take h).drop l).toArray⟩) else none
  |_,_,_=>none
 |some (.slice e),.slice a len c=>
  match kT lo 0,kT hi len,br P e with
  |some l,some h,some z=>
   if cg l h&&cg h len then
    match mx with
    |none=>
     match a with
     |none=>some (.slice none 0 0)
     |some ⟨i,off,none⟩=>if l5 s i c z then some (.slice (some ⟨i,off+l*z,none⟩) (h-l) c) else none
     |_=>none
    |some m=>
     match kT (some m) 0,hi with
     |some m,some _=>
      if cg h m&&cg m len then
       match a with
       |none=>some (.slice none 0 0)
       |some ⟨i,off,none⟩=>if l5 s i c z then some (.slice (some ⟨i,off+l*z,none⟩) (h-l) (if b8 l m then 0 else c)) else none
       |_=>none
      else none
     |_,_=>none
   else none
  |_,_,_=>none
 |some (.array n e),.pointer (some ⟨i,off,some c⟩)=>
  match kT lo 0,kT hi n,br P e,s.bL i,mx with
  |some l,some h,some z,some b,none=>
   if cg l h&&cg h n&&cg b.low c&&cg c (b.cells.length+1)&&c7 (off+n*z) c&&b8 b.mD z&&c7 0 z then some (.slice (some ⟨i,off+l*z,none⟩) (h-l) c) else none
  |_,_,_,_,_=>none
 |_,_=>none
def bK (P:an)(t:ao)(x ix:af):av af:=
 match P.underlying t,x,ix with
 |some (.slice e),.slice (some ⟨i,off,none⟩) len c,.int _ (.ofNat n)=>
  match br P e with
  |some z=>if c7 n len then some (.pointer (some ⟨i,off+n*z,some c⟩)) else none
  |none=>none
 |some (.array len e),.pointer (some ⟨i,off,some c⟩),.int _ (.ofNat n)=>
  match br P e with
  |some z=>if c7 n len then some (.pointer (some ⟨i,off+n*z,some c⟩)) else none
  |none=>none
 |_,_,_=>none
def Cz (P:an)(t:ao)(x ix:af):av af:=
 match P.underlying t,x,ix with
 |some .string,.string b,.int _ (.ofNat n)=>
  match (b.data.toList.drop n) with
  |c::_=>some (.int .u8 c.toNat)
  |[]=>none
 |some (.array len e),.agg cs,.int _ (.ofNat n)=>
  match br P e with
  |some z=>if c7 n len then OA P e cs.toList (n*z) else none
  |none=>none
 |_,_,_=>none
def ay (P:an)(t:ao)(x:af)(f:aY):av af:=
 match P.underlying t,x with
 |some (.struct fs),.pointer (some ⟨i,off,some c⟩)=>
  match fs[f]? with
  |some fd=>
   match br P fd.type with
   |some (_+1)=>some (.pointer (some ⟨i,off+fd.offset,some c⟩))
   |_=>none
  |none=>none
 |_,_=>none
def CA (P:an)(t:ao)(x:af)(f:aY):av af:=
 match P.underlying t,x with
 |some (.struct fs),.agg cs=>
  match fs[f]? with
  |some fd=>OA P fd.type cs.toList fd.offset
  |none=>none
 |_,_=>none
def aH (x:af)(i:aY):av af:=
 match x with
 | .tuple vs=>vs[i]?
 |_=>none
def iu (place:aY->av (aY×aY)):aR af->aR (aY×af)->av (aR af)
 |cs,[]=>some cs
 |cs,(i,v)::r=>
  match place i with
  |some (off,size)=>
   if b8 v.cells.toList.length size&&cg (off+size) cs.length then
    match setAt cs off v.cells.toList with
    |some l=>iu place l r
    |none=>none
   else none
  |none=>none
def placeOf (P:an)(fs:bw Field)(i:aY):av (aY×aY):=
 match fs[i]? with
 |some f=>
  match br P f.type with
  |some z=>some (f.offset,z)
  |none=>none
 |none=>none
def da (P:an)(t:ao)(parts:aR (aY×af)):av af:=
 match P.underlying t,b6 P t with
 |some (.struct fs),some z=>
  if cr z&&fs.toList.all (fun f=>(br P f.type).isSome) then
   match iu (placeOf P fs) z.cells.toList parts with
   |some l=>some (.agg l.toArray)
   |none=>none
  else none
 |some (.array _ e),some z=>
  match br P e with
  |some n=>
   if cr z then
    match iu (fun i=>some (i*n,n)) z.cells.toList parts with
    |some l=>some (.agg l.toArray)
    |none=>none
   else none
  |none=>none
 |_,_=>none
def bp (P:an)(s:au)(t:ao)(len:aY)(parts:aR (aY×af)):av (af×au):=
 match P.underlying t with
 |some (.slice e)=>
  match br P e,b6 P e with
  |some n,some z=>
   if cg (len*n) 65536&&cr z&&b8 z.cells.toList.length n then
    match iu (fun i=>some (i*n,n)) (db z.cells.toList len) parts with
    |some l=>a6 s l len n
    |none=>none
   else none
  |_,_=>none
 |_=>none
def dq (P:an)(s:au)(t:ao)(len cap:af):av (af×au):=
 match P.underlying t,len,cap with
 |some (.slice e),.int _ (.ofNat l),.int _ (.ofNat c)=>
  match br P e,b6 P e,dX P e with
  |some n,some z,some kH=>
   if cg l c&&cg c 4294967296&&cg (kH*c) 4294967296&&cr z&&b8 z.cells.toList.length n then a6 s (db z.cells.toList l) l n else none
  |_,_,_=>none
 |_,_,_=>none
def dU (s:au)(z:aY):af->av (aY×aR af)
 | .slice none _ _=>some (0,[])
 | .slice (some ⟨i,off,none⟩) n c=>
  match n with
  |0=>some (0,[])
  |_+1=>
   match s.dG i off c (n*z) with
   |some l=>some (n,l)
   |none=>none
 | .string b=>if b8 z 1 then some (b.data.toList.length,ofBytes b.data.toList) else none
 |_=>none
def CB (s:au)(z kH:aY)(zv:af)(xd:TypeDesc)(y:af):av (aY×aR af):=
 match xd with
 | .int _=>
  match y with
  | .int _ (.ofNat n)=>if cg (n*kH) 140737488355328&&cg n 140737488355328&&cr zv&&b8 zv.cells.toList.length z&&c7 0 z then some (n,db zv.cells.toList n) else none
  |_=>none
 |_=>dU s z y
def kill (b:kM):kM:={b with low:=b.low+b.cells.length+2}
def eT (P:an)(s:au)(ade adf:ao)(x y:af):av (af×au):=
 match P.underlying ade,P.underlying adf with
 |some (.slice e),some xd=>
  match (match xd with
   | .slice _=>true
   | .string=>true
   | .int _=>true
   |_=>false) with
  |false=>none
  |true=>
  match br P e,dX P e,b6 P e with
  |some z,some kH,some zv=>
   match CB s z kH zv xd y with
   |some (n,new)=>
    match x with
    | .slice a len c=>
     if cg ((len+n)*kH) 140737488355328&&cg (len+n) 140737488355328&&c7 0 z&&new.all aT&&b8 zv.cells.toList.length z then
      match n with
      |0=>some (x,s)
      |_+1=>
       match a with
       |none=>if b8 len 0&&b8 c 0 then a6 s new n z else none
       |some ⟨i,off,none⟩=>
        match c with
        |0=>if b8 len 0 then a6 s new n z else none
        |_+1=>
         match s.bL i with
         |some b=>
          if b.own&&cg b.low c&&b8 b.mD z then
           if b8 c (b.cells.length+1)&&b8 off 0&&b8 (len*z) b.cells.length then
            some (.slice a (len+n) ((b.cells++new).length+1),s.put i (.eE {b with cells:=b.cells++new}))
           else
            match s.dG i off c (len*z) with
            |some old=>a6 (s.put i (.eE (kill b))) (old++new) (len+n) z
            |none=>none
          else none
         |none=>none
       |_=>none
     else none
    |_=>none
   |none=>none
  |_,_,_=>none
 |_,_=>none
def H8 (k:aY):af->av (aY×af)
 | .slice a n c=>some (min n k,.slice a (min n k) c)
 | .string b=>some (min b.data.toList.length k,.string ⟨(b.data.toList.take k).toArray⟩)
 |_=>none
def CC (P:an)(s:au)(dT:ao)(x y:af):av (af×au):=
 match P.underlying dT,x with
 |some (.slice e),.slice a Ww c=>
  match br P e,H8 Ww y with
  |some z,some (k,y2)=>
   match k with
   |0=>some (.int .i64 0,s)
   |_+1=>
    match dU s z y2,a with
    |some (k2,new),some ⟨i,off,none⟩=>
     match b8 k2 k,s.storeAt i off c new with
     |true,some t=>some (.int .i64 k,t)
     |_,_=>none
    |_,_=>none
  |_,_=>none
 |_,_=>none
def zG (P:an)(s:au)(t:ao)(x:af):av (af×au):=
 match P.underlying t,x with
 |some (.slice _),.slice none _ _=>some (undef,s)
 |some (.slice e),.slice (some ⟨i,off,none⟩) n c=>
  match n with
  |0=>some (undef,s)
  |m+1=>
   match br P e,b6 P e with
   |some z,some zv=>
    if cr zv&&b8 zv.cells.toList.length z&&c7 0 z then
     match s.storeAt i off c (db zv.cells.toList (m+1)) with
     |some s' =>some (undef,s')
     |none=>none
    else none
   |_,_=>none
 |_,_=>none
def aQ (P:an)(s:au)(t:ao)(x:af):av af:=
 match P.underlying t,x with
 |some .string,.string b=>some (.int .i64 b.data.toList.length)
 |some (.array n _),_=>some (.int .i64 n)
 |some (.slice _),.slice _ n _=>some (.int .i64 n)
 |some (.map _ _),.map none=>some (.int .i64 0)
 |some (.map _ _),.map (some r)=>
  match s.fj r with
  |some es=>some (.int .i64 es.length)
  |none=>none
 |_,_=>none
def Wx:af->af->av af
 | .int k x,.int _ y=>some (.int k (if y<x then y else x))
 |_,_=>none
def Wy:af->af->av af
 | .int k x,.int _ y=>some (.int k (if y>x then y else x))
 |_,_=>none
def Gt (g:af->af->av af):af->aR af->av af
 |x,[]=>some x
 |x,y::r=>
  match g x y with
  |some v=>Gt g v r
  |none=>none
def OB (P:an)(t:ao)(a b:af):av cz:=
 match P.underlying t,a,b with
 |some (.int _),.int k x,.int k' y=>if k=k' then some (x==y) else none
 |some .string,.string x,.string y=>some (x.data.toList==y.data.toList)
 |_,_,_=>none
def JI (P:an)(t:ao)(k:af):aR (af×af)->av (av af)
 |[]=>some none
 |(k',v)::r=>
  match OB P t k k' with
  |some true=>some (some v)
  |some false=>JI P t k r
  |none=>none
def SF (P:an)(t:ao)(k v:af):aR (af×af)->av (aR (af×af))
 |[]=>some [(k,v)]
 |(k',v')::r=>
  match OB P t k k' with
  |some true=>some ((k',v)::r)
  |some false=>
   match SF P t k v r with
   |some l=>some ((k',v')::l)
   |none=>none
  |none=>none
def pT (P:an)(t:ao)(k:af):cz:=
 match P.underlying t,k with
 |some (.int _),.int _ _=>true
 |some .string,.string _=>true
 |_,_=>false
def rW (P:an)(s:au)(t:ao)(m k:af)(ok:cz):av af:=
 match P.underlying t with
 |some (.map kt et)=>
  match b6 P et,pT P kt k with
  |some z,true=>
   if cr z then
    match (match m with
     | .map none=>some none
     | .map (some r)=>
      match s.fj r with
      |some es=>JI P kt k es
      |none=>none
     |_=>none) with
    |some (some v)=>some (if ok then .tuple #[v,.bool true] else v)
    |some none=>some (if ok then .tuple #[z,.bool false] else z)
    |none=>none
   else none
  |_,_=>none
 |_=>none
def lM (P:an)(s:au)(t:ao)(m k v:af):av au:=
 match P.underlying t,m with
 |some (.map kt _),.map (some r)=>
  match s.fj r,pT P kt k with
  |some es,true=>
   match SF P kt k v es with
   |some l=>some (s.put r (.map l))
   |none=>none
  |_,_=>none
 |_,_=>none
def H9 (P:an)(t:ao):aY:=
 match P.underlying t with
 |some (.array _ e)=>
  match br P e with
  |some z=>z
  |none=>0
 |_=>0
inductive AR where
 |val (v:af) (s:au)
 |call (f:eL) (args:aR af)
def qo (s:au):av af->av AR
 |some v=>some (.val v s)
 |none=>none
def oU:av (af×au)->av AR
 |some (v,s)=>some (.val v s)
 |none=>none
def Fk:av au->av AR
 |some s=>some (.val undef s)
 |none=>none
def ae (f:aZ):aR (aY×c6)->av (aR (aY×af))
 |[]=>some []
 |(i,x)::r=>
  match a5 f x,ae f r with
  |some v,some l=>some ((i,v)::l)
  |_,_=>none
def ai (f:aZ):av c6->av (av af)
 |none=>some none
 |some x=>
  match a5 f x with
  |some v=>some (some v)
  |none=>none
def jU (P:an)(s:au)(b:Builtin)(ts:aR ao)(args:aR af):av AR:=
 match b,ts,args with
 | .len,t::_,x::_=>qo s (aQ P s t x)
 | .append,t::u::_,x::y::_=>oU (eT P s t u x y)
 | .copy,t::_,x::y::_=>oU (CC P s t x y)
 | .clear,t::_,x::_=>oU (zG P s t x)
 | .min,_,x::r=>qo s (Gt Wx x r)
 | .max,_,x::r=>qo s (Gt Wy x r)
 |_,_,_=>none
def cV (P:an)(o:eb)(f:aZ)(s:au):av AR:=
 match o.op with
 | .move x=>qo s (a5 f x)
 | .assign x=>qo s (a5 f x)
 | .pick c a b=>
  match a5 f c,a5 f a,a5 f b with
  |some (.bool t),some u,some v=>some (.val (if t then u else v) s)
  |_,_,_=>none
 | .alloc e=>
  match b6 P e with
  |some z=>if cr z then oU (iE s z.cells.toList (H9 P e)) else none
  |none=>none
 | .box e x=>
  match a5 f x with
  |some v=>oU (iE s v.cells.toList (H9 P e))
  |none=>none
 | .build t ps=>
  match ae f ps.toList with
  |some l=>qo s (da P t l)
  |none=>none
 | .buildSlice t n ps=>
  match ae f ps.toList with
  |some l=>oU (bp P s t n l)
  |none=>none
 | .load t x=>
  match a5 f x with
  |some a=>qo s (aN P s t a)
  |none=>none
 | .store t x y=>
  match a5 f x,a5 f y with
  |some a,some v=>Fk (fw P s t a v)
  |_,_=>none
 | .nilCheck x=>
  match a5 f x with
  |some (.pointer (some a))=>some (.val (.pointer (some a)) s)
  |some (.func (.func g) ars bs)=>some (.val (.func (.func g) ars bs) s)
  |_=>none
 | .binOp op t x y _=>
  match a5 f x,a5 f y with
  |some u,some v=>qo s (dB P op t u v)
  |_,_=>none
 | .unOp op _ x=>
  match a5 f x with
  |some u=>qo s (ZY op u)
  |none=>none
 | .convert a b x=>
  match a5 f x with
  |some u=>oU (ir P s a b u)
  |none=>none
 | .makeFunc (.func g) ars bs=>
  match ad f ars.toList,ad f bs.toList with
  |some l,some m=>some (.val (.func (.func g) l.toArray m.toArray) s)
  |_,_=>none
 | .makeInterface t x=>
  match P.underlying t,a5 f x with
  |some (.interface _),_=>none
  |some _,some v=>some (.val (.iface t v) s)
  |_,_=>none
 | .makeMap _ none=>if s.room then some (.val (.map (some s.next)) (s.new (.map []))) else none
 | .makeSlice t x y=>
  match a5 f x,a5 f y with
  |some u,some v=>oU (dq P s t u v)
  |_,_=>none
 | .slice t x lo hi mx=>
  match a5 f x,ai f lo,ai f hi,ai f mx with
  |some u,some l,some h,some m=>qo s (fa P s t u l h m)
  |_,_,_,_=>none
 | .fieldAddr t x i=>
  match a5 f x with
  |some u=>qo s (ay P t u i)
  |none=>none
 | .field t x i=>
  match a5 f x with
  |some u=>qo s (CA P t u i)
  |none=>none
 | .indexAddr t x y=>
  match a5 f x,a5 f y with
  |some u,some v=>qo s (bK P t u v)
  |_,_=>none
 | .index t x y=>
  match a5 f x,a5 f y with
  |some u,some v=>qo s (Cz P t u v)
  |_,_=>none
 | .lookup t x y ok=>
  match a5 f x,a5 f y with
  |some u,some v=>qo s (rW P s t u v ok)
  |_,_=>none
 | .mapUpdate t x y z=>
  match a5 f x,a5 f y,a5 f z with
  |some m,some k,some v=>Fk (lM P s t m k v)
  |_,_,_=>none
 | .extract x i=>
  match a5 f x with
  |some u=>qo s (aH u i)
  |none=>none
 | .call c=>
  match ad f c.args.toList with
  |some args=>
   match c.callee with
   | .builtin b=>jU P s b c.argTypes.toList args
   | .value x=>
    match a5 f x with
    |some (.func (.func g) ars bs)=>some (.call g (ars.toList++args++bs.toList))
    |_=>none
   |_=>none
  |none=>none
 |_=>none
def aS (P:an)(o:eb):cz:=
 match o.op with
 | .move _| .assign _| .pick _ _ _| .build _ _| .load _ _| .nilCheck _| .binOp _ _ _ _ _| .unOp _ _ _| .makeFunc _ _ _| .makeInterface _ _
 | .slice _ _ _ _ _| .fieldAddr _ _ _| .field _ _ _| .indexAddr _ _ _| .index _ _ _| .lookup _ _ _ _| .extract _ _=>true
 | .convert _ b _=>
  match P.underlying b with
  |some (.slice _)=>false
  |_=>true
 | .call c=>
  match c.callee with
  | .builtin .len| .builtin .min| .builtin .max=>true
  |_=>false
 |_=>false
def jV (P:an)(src dst:ao):cz:=
 match P.underlying src,P.underlying dst with
 |some .string,some (.slice _)=>true
 |_,_=>false
def aJ (P:an)(o:eb):cz:=
 match o.op with
 | .alloc _| .box _ _| .buildSlice _ _ _| .makeSlice _ _ _=>true
 | .convert a b _=>jV P a b
 |_=>false
def bh (P:an)(o:eb):cz:= !aS P o&& !aJ P o
inductive AX where
 |normal
 |exit (id:aY)
 |ret
abbrev Out:=av (AX×aZ×au)
def rX (ops:aR eb)(f:aZ)(j:aY):av cz:=
 match ops.drop j with
 |o::_=>
  match o.dst with
  |some d=>
   if c7 d f.n then
    match f.get d with
    | .bool b=>some b
    |_=>none
   else none
  |none=>none
 |[]=>none
def cH (ops:aR eb)(o:eb)(f:aZ):cz:=
 match o.guard with
 |none=>true
 |some (j,want)=>
  match rX ops f j with
  |some b=>b==want
  |none=>false
def my (f:aZ)(d:av Tmp)(v:af):av aZ:=
 match d with
 |some t=>if c7 t f.n then some (f.put t v) else none
 |none=>some f
def jW (P:an)(call:eL->aR af->au->av (af×au))(all:aR eb):aR eb->aZ->au->av (aZ×au)
 |[],f,s=>some (f,s)
 |o::r,f,s=>
  if cH all o f then
   match cV P o f s with
   |some (.val v s')=>
    match my f o.dst v with
    |some f' =>jW P call all r f' s'
    |none=>none
   |some (.call g args)=>
    match call g args s with
    |some (v,s')=>
     match my f o.dst v with
     |some f' =>jW P call all r f' s'
     |none=>none
    |none=>none
   |none=>none
  else
   match my f o.dst undef with
   |some f' =>jW P call all r f' s
   |none=>none
def cW:aR aY->aY->aY
 |[],_=>0
 |x::_,0=>x
 |_::r,n+1=>cW r n
def rY (acc:aR aY):aR Edge->aY->aY
 |[],m=>m
 |e::r,m=>rY acc r (if Region.binds .any e then m|||2^e.on|||cW acc e.on else m)
def b9:aR eb->aR aY->aR aY
 |[],acc=>acc
 |o::r,acc=>b9 r (acc++[rY acc o.after.toList 0])
def zH (ops:aR eb)(o:eb):aR aY:=
 (o.op.operands.toList.filterMap fun| .tmp t=>some t|_=>none)++
 (match o.guard with
  |some (j,_)=>
   match ops.drop j with
   |p::_=>p.dst.toList
   |[]=>[]
  |none=>[])
def P5 (l:aR aY)(d:av Tmp):cz:=
 match d with
 |some t=>l.any (b8 t)
 |none=>false
def oH (P:an)(ops:aR eb)(x y:eb):cz:=
 bh P x&&bh P y||P5 (zH ops y) x.dst||P5 (zH ops x) y.dst||P5 x.dst.toList y.dst
def tJ (P:an)(ops:aR eb):cz:=
 let ms:=b9 ops []
 ops.zipIdx.all fun y=>
  (y.1.after.toList.all fun e=> !Region.binds .any e||c7 e.on y.2)&&
  ops.zipIdx.all fun x=> !(c7 x.2 y.2&&oH P ops x.1 y.1)||ep (cW ms y.2) x.2
inductive Ev where
 |skip
 |quiet (v:af)
 |made (v:af) (id:aY) (b:kM)
 |BH (v:af) (s:au)
def Ev.val:Ev->af
 | .skip=>undef
 | .quiet v=>v
 | .made v _ _=>v
 | .BH v _=>v
def fill (p:aY->cz):au->aR (aY×aY×kM)->au
 |s,[]=>s
 |s,(j,id,b)::r=>
  match p j,s.heap.get id with
  |true,none=>fill p (s.put id (.eE b)) r
  |_,_=>fill p s r
def dH (P:an)(call:eL->aR af->au->av (af×au))(all:aR eb)(m id:aY)(ars:aR (aY×aY×kM))(o:eb)(f:aZ)(T:au):av Ev:=
 match cH all o f with
 |false=>some .skip
 |true=>
  match aS P o,aJ P o with
  |true,_=>
   match cV P o f (fill (ep m) T ars) with
   |some (.val v _)=>some (.quiet v)
   |_=>none
  |false,true=>
   match cV P o f ⟨.nil,id⟩ with
   |some (.val v s1)=>
    match s1.bL id with
    |some b=>some (.made v id b)
    |none=>none
   |_=>none
  |false,false=>
   match cV P o f (fill (ep m) T ars) with
   |some (.val v s1)=>some (.BH v s1)
   |some (.call g args)=>
    match call g args (fill (ep m) T ars) with
    |some (v,s1)=>some (.BH v s1)
    |none=>none
   |none=>none
def cf (P:an)(call:eL->aR af->au->av (af×au))(all:aR eb):aR aY->aR eb->aY->aY->aZ->au->aR (aY×aY×kM)->av (aR Ev)
 |m::ms,o::r,i,id,f,T,ars=>
  match dH P call all m id ars o f T with
  |some e=>
   match my f o.dst e.val with
   |some f' =>
    match cf P call all ms r (i+1) (if aJ P o then id+1 else id) f' (match e with| .BH _ s=>s|_=>T) (match e with| .made _ d b=>ars++[(i,d,b)]|_=>ars) with
    |some es=>some (e::es)
    |none=>none
   |none=>none
  |none=>none
 |_,_,_,_,_,_,_=>some []
def madeOf:aR Ev->aY->aR (aY×aY×kM)
 |[],_=>[]
 | .made _ id b::r,i=>(i,id,b)::madeOf r (i+1)
 |_::r,i=>madeOf r (i+1)
def aE (P:an):aR eb->aR Ev->au->aR au
 |o::r,e::es,T=>
  match e with
  | .BH _ s=>T::aE P r es s
  |_=>if bh P o then T::aE P r es T else aE P r es T
 |_,_,T=>[T]
def bV:aR eb->aR Ev->aZ->aZ
 |o::r,e::es,f=>
  match my f o.dst e.val with
  |some f' =>bV r es f'
  |none=>f
 |_,_,f=>f
def countP (p:aY->cz)(P:an):aR eb->aY->aY
 |[],_=>0
 |o::r,i=>if bh P o&&p i then countP p P r (i+1)+1 else countP p P r (i+1)
def cw:af->af->cz
 | .bool a,.bool b=>a==b
 | .int k a,.int k' b=>(if k=k' then true else false)&&a==b
 | .string a,.string b=>a.data.toList==b.data.toList
 | .pointer a,.pointer b=>if a=b then true else false
 | .slice a n c,.slice b m d=>(if a=b then true else false)&&b8 n m&&b8 c d
 | .map a,.map b=>if a=b then true else false
 | .nilFunc,.nilFunc=>true
 | .nilIface,.nilIface=>true
 |_,_=>false
def fc:aR af->aR af->cz
 |[],[]=>true
 |a::r,b::q=>cw a b&&fc r q
 |_,_=>false
def wJ:af->af->cz
 | .agg a,.agg b=>fc a.toList b.toList
 |a,b=>cw a b
def qp:aR af->aR af->cz
 |[],[]=>true
 |a::r,b::q=>wJ a b&&qp r q
 |_,_=>false
def bI:af->af->cz
 | .agg a,.agg b=>fc a.toList b.toList
 | .tuple a,.tuple b=>qp a.toList b.toList
 | .func (.func g) ars bs,.func (.func g') OC OD=>b8 g g' &&fc ars.toList OC.toList&&fc bs.toList OD.toList
 |a,b=>cw a b
def sameAt (P:an)(m:aY)(ars:aR (aY×aY×kM))(o:eb)(f:aZ)(v:af):aR au->cz
 |[]=>true
 |T::r=>
  match cV P o f (fill (ep m) T ars) with
  |some (.val u _)=>bI v u&&sameAt P m ars o f v r
  |_=>false
def bO (P:an)(all:aR eb)(ms:aR aY)(ars:aR (aY×aY×kM))(jn:aR au):aR aY->aR eb->aR Ev->aY->aZ->cz
 |m::mr,o::r,e::es,i,f=>
  (match e with
   | .quiet v=>sameAt P m ars o f v ((jn.take (countP (fun j=> !Nat.testBit (cW ms j) i) P all 0+1)).drop (countP (ep m) P all 0))
   |_=>true)&&
  match my f o.dst e.val with
  |some f' =>bO P all ms ars jn mr r es (i+1) f'
  |none=>false
 |_,_,_,_,_=>true
def aO (P:an):aR eb->aY
 |[]=>0
 |o::r=>if aJ P o then aO P r+1 else aO P r
def iC (P:an)(call:eL->aR af->au->av (af×au))(ops:aR eb)(f:aZ)(s:au):av (aZ×au):=
 match cg 0 16000000 with
 |false=>none
 |true=>
  match cf P call ops (b9 ops []) ops 0 s.next f ⟨s.heap,s.next+aO P ops⟩ [] with
  |some es=>
   match bO P ops (b9 ops []) (madeOf es 0) (aE P ops es ⟨s.heap,s.next+aO P ops⟩) (b9 ops []) ops es 0 f with
   |true=>some (bV ops es f,fill (fun _=>true) ((aE P ops es ⟨s.heap,s.next+aO P ops⟩).getLastD s) (madeOf es 0))
   |false=>none
  |none=>none
def dj (P:an)(f:aZ)(s:au):aR ResultVar->av (aR af)
 |[]=>some []
 | .tmp t::r=>
  if c7 t f.n then
   match dj P f s r with
   |some l=>some (f.get t::l)
   |none=>none
  else none
 | .cell a t::r=>
  if c7 a f.n then
   match aN P s t (f.get a),dj P f s r with
   |some v,some l=>some (v::l)
   |_,_=>none
  else none
def oneOf:aR af->af
 |[v]=>v
 |l=> .tuple l.toArray
def CD:Tr af->aY->aR af->Tr af
 |t,_,[]=>t
 |t,i,v::r=>CD (Tr.set (depth i) t i v) (i+1) r
def pa (fn:Func)(args:aR af):aZ:=⟨CD .nil 0 args,args.length+(fn.ntmps-args.length)⟩
abbrev Prim:=aR af->au->av (af×au)
abbrev aD:=aR (aY×Prim)
def aD.at (l:aD)(g:aY):av Prim:=
 match l with
 |[]=>none
 |(h,p)::r=>if b8 h g then some p else aD.at r g
def iF (P:an)(lib:aD)(exec:Code->aZ->au->Out)(g:eL)(args:aR af)(s:au):av (af×au):=
 match lib.at g with
 |some p=>p args s
 |none=>
 match P.funcs[g]? with
 |some fn=>
  match fn.body,cg (args.length+(fn.ntmps-args.length)) 16000000 with
  |some c,true=>
   match exec c (pa fn args) s with
   |some (.normal,f,s')=>
    match dj P f s' fn.results.toList with
    |some l=>some (oneOf l,s')
    |none=>none
   |some (.ret,f,s')=>
    match dj P f s' fn.results.toList with
    |some l=>some (oneOf l,s')
    |none=>none
   |_=>none
  |_,_=>none
 |none=>none
def step (P:an)(lib:aD)(exec:Code->aZ->au->Out)(c:Code)(f:aZ)(s:au):Out:=
 match c with
 | .skip=>some (.normal,f,s)
 | .label _=>some (.normal,f,s)
 | .region _ ops d=>
  match (match d with
   |false=>jW P (iF P lib exec) ops.toList ops.toList f s
   |true=>iC P (iF P lib exec) ops.toList f s) with
  |some (f',s')=>some (.normal,f',s')
  |none=>none
 | .seq a b=>
  match exec a f s with
  |some (.normal,f',s')=>exec b f' s'
  |r=>r
 | .cond x a b=>
  match a5 f x with
  |some (.bool t)=>
   match t with
   |true=>exec a f s
   |false=>exec b f s
  |_=>none
 | .block id a=>
  match exec a f s with
  |some (.exit j,f',s')=>if b8 j id then some (.normal,f',s') else some (.exit j,f',s')
  |r=>r
 | .loop a=>
  match exec a f s with
  |some (.normal,f',s')=>exec (.loop a) f' s'
  |r=>r
 | .exit id=>some (.exit id,f,s)
 | .scope a=>exec a f s
 | .ret=>some (.ret,f,s)
 |_=>none
def exec (P:an)(lib:aD):aY->Code->aZ->au->Out
 |0=>fun _ _ _=>none
 |n+1=>step P lib (exec P lib n)
def iZ (P:an)(lib:aD)(n:aY)(g:eL)(args:aR af)(s:au):av (af×au):=iF P lib (exec P lib n) g args s
def codeOk (P:an):Code->cz
 | .region _ ops true=>tJ P ops.toList
 | .seq a b=>codeOk P a&&codeOk P b
 | .cond _ a b=>codeOk P a&&codeOk P b
 | .block _ a=>codeOk P a
 | .loop a=>codeOk P a
 | .scope a=>codeOk P a
 |_=>true
def P6 (P:an)(lib:aD)(g:aY)(fn:Func):cz:=
 (fn.name != "runtime.NumGoroutine")&&
 ((lib.at g).isSome||match fn.body with
   |some c=>codeOk P c
   |none=>true)
def CE (P:an)(lib:aD):cz:=
 P.follows .mixedOrders&&(P.funcs.toList.zipIdx.all fun x=>P6 P lib x.2 x.1)
def au.empty:au:=⟨.nil,0⟩
end Go.Cl
namespace Go.Cl
open Go.RowKit
theorem Tr.get_eq {α:Type}(t:Tr α)(i:aY):t.get i=match i with
  |0=>t.val
  |k+1=>match k%2 with
   |0=>t.left.get (k/2)
   |_+1=>t.right.get (k/2):=by
 cases t with
 |nil=>cases i with
  |zero=>rfl
  |succ k=>simp only[Tr.get,Tr.left,Tr.right];split<;>rfl
 |node v l r=>cases i with
  |zero=>rfl
  |succ k=>rcases cB k with h|h<;>simp only[Tr.get,Tr.left,Tr.right,h]
theorem Tr.xQ {α:Type}(t:Tr α):t.get 0=t.val:=by rw[Tr.get_eq]
theorem Tr.pd {α:Type}(t:Tr α)(k:aY):t.get (k+1)=match k%2 with
   |0=>t.left.get (k/2)
   |_+1=>t.right.get (k/2):=by rw[Tr.get_eq]
theorem Tr.bF {α:Type}:∀(f:aY) (t:Tr α) (i:aY) (u:α),i+1<2^f->(Tr.set f t i u).get i=some u:=by
 intro f
 induction f with
 |zero=>intro t i u h;simp at h
 |succ f ih=>
  intro t i u h;cases i with
  |zero=>rfl
  |succ k=>
   have hk:k/2+1<2^f:=by rw[Nat.pow_succ] at h;omega
   rw[Tr.pd];rcases cB k with hm|hm
   ·simp only[Tr.set,hm,Tr.left];exact ih _ _ _ hk
   simp only[Tr.set,hm,Tr.right];exact ih _ _ _ hk
theorem Tr.cK {α:Type}:∀(f:aY) (t:Tr α) (i j:aY) (u:α),i≠j->(Tr.set f t i u).get j=t.get j:=by
 intro f
 induction f with
 |zero=>intro t i j u h;rfl
 |succ f ih=>
  intro t i j u h;cases i with
  |zero=>
   cases j with
   |zero=>exact cT rfl h
   |succ m=>rw[Tr.pd,Tr.pd];simp only[Tr.set,Tr.left,Tr.right]
  |succ k=>
   rcases cB k with hm|hm
   ·simp only[Tr.set,hm];cases j with
    |zero=>rw[Tr.xQ,Tr.xQ];rfl
    |succ m=>
     rw[Tr.pd,Tr.pd];rcases cB m with hn|hn
     ·simp only[hn,Tr.left];exact ih _ _ _ _ (by omega)
     simp only[hn,Tr.right]
   simp only[Tr.set,hm];cases j with
   |zero=>rw[Tr.xQ,Tr.xQ];rfl
   |succ m=>
    rw[Tr.pd,Tr.pd];rcases cB m with hn|hn
    ·simp only[hn,Tr.left]
    simp only[hn,Tr.right];exact ih _ _ _ _ (by omega)
theorem deep {i:aY}(_:0<16000001):i+1<2^depth i:=by unfold depth;exact Nat.lt_log2_self
theorem au.cC (s:au)(i:aY)(b:kM)(h:0<16000001):(s.put i (.eE b)).bL i=some b:=by
 simp only[au.bL,au.put,Tr.bF _ s.heap i _ (deep h)]
theorem au.bo (s:au)(i j:aY)(o:AO)(h:i≠j):(s.put i o).heap.get j=s.heap.get j:=by
 simp only[au.put,Tr.cK _ s.heap i j o h]
structure Emb where
 loc:aY->aY->aY×aY
 mp:aY->aY
structure St where
 s:au
 e:Emb
 w:ca
def vX (S:St)(i off c:aY)(a:Addr):Prop:=
 ∃b,S.s.bL i=some b/\c<=b.cells.length+1/\(b.low<=c->a=⟨(S.e.loc i c).1,(S.e.loc i c).2+off,none⟩)
def JJ (S:St)(i c:aY)(a:Addr)(cap:aY):Prop:=
 ∀b,S.s.bL i=some b->b.low<=c->∃(arr:bw af) (E:ao) (fr:aY×aY),S.w.heap[a.block]?=some (.cells arr E fr)/\a.off+cap*b.mD<=arr.size
inductive VR (S:St):af->af->Prop
 |bool (b:cz):VR S (.bool b) (.bool b)
 |int (k:eG) (n:e8):VR S (.int k n) (.int k n)
 |string (x:ee):VR S (.string x) (.string x)
 |Me:VR S (.pointer none) (.pointer none)
 |ptr (i off c:aY) (a:Addr) (h:vX S i off c a):VR S (.pointer (some ⟨i,off,some c⟩)) (.pointer (some a))
 |jX:VR S (.slice none 0 0) (.slice none 0 0)
 |slice (i off len c:aY) (a:Addr) (cap:aY) (h0:len<=cap) (hz:c=0->cap=0) (h:0<cap->vX S i off c a/\JJ S i c a cap):
  VR S (.slice (some ⟨i,off,none⟩) len c) (.slice (some a) len cap)
 |Mf:VR S (.map none) (.map none)
 |map (r:aY) (h:∃es,S.s.fj r=some es):VR S (.map (some r)) (.map (some (S.e.mp r)))
 |nilFunc:VR S .nilFunc .nilFunc
 |nilIface:VR S .nilIface .nilIface
 |func (g:eL) (ars bs OC OD:bw af) (ha:ars.toList.length=OC.toList.length) (hb:bs.toList.length=OD.toList.length)
  (h1:∀i,i<ars.toList.length->VR S (ars.toList.getD i undef) (OC.toList.getD i undef)) (h2:∀i,i<bs.toList.length->VR S (bs.toList.getD i undef) (OD.toList.getD i undef)):
  VR S (.func (.func g) ars bs) (.func (.func g) OC OD)
 |agg (cs gY:bw af) (h1:cs.toList.length=gY.toList.length) (h2:∀i,i<cs.toList.length->VR S (cs.toList.getD i undef) (gY.toList.getD i undef)):VR S (.agg cs) (.agg gY)
 |unk (n:e8):VR S (.chan none) (.int .u8 n)
 |raw (b o:aY):VR S (.pointer (some ⟨b,o,none⟩)) (.pointer (some ⟨b,o,none⟩))
 |iface (t:ao) (v v' :af) (h:VR S v v'):VR S (.iface t v) (.iface t v')
 |tuple (cs gY:bw af) (h1:cs.toList.length=gY.toList.length) (h2:∀i,i<cs.toList.length->VR S (cs.toList.getD i undef) (gY.toList.getD i undef)):VR S (.tuple cs) (.tuple gY)
def ft (S:St)(l l' :aR af):Prop:=l.length=l'.length/\∀i,i<l.length->VR S (l.getD i undef) (l'.getD i undef)
theorem VR.tK (S:St):VR S undef undef:=VR.tuple #[] #[] rfl (fun i h=>by simp at h)
theorem ft.nil {S:St}:ft S [] []:=⟨rfl,fun i h=>by simp at h⟩
theorem ft.cons {S:St}{v v' :af}{l l' :aR af}(h:VR S v v')(hl:ft S l l'):ft S (v::l) (v' ::l'):=by
 refine⟨by simp[hl.1],fun i hi=> ?_⟩;cases i with
 |zero=>simpa using h
 |succ k=>simpa using hl.2 k (by simpa using hi)
theorem ft.cons_inv {S:St}{v:af}{l l' :aR af}(h:ft S (v::l) l'):∃v' r',l' =v' ::r' /\VR S v v' /\ft S l r' :=by
 cases l' with
 |nil=>have:=h.1;simp at this
 |cons v' r' =>
  refine⟨v',r',rfl,by simpa using h.2 0 (by simp),by simpa using h.1,fun i hi=>by simpa using h.2 (i+1) (by simpa using hi)⟩
theorem ft.lI {S:St}{l' :aR af}(h:ft S [] l'):l' =[]:=by
 have:=h.1;cases l' with
 |nil=>rfl
 |cons _ _=>simp at this
theorem ft.append {S:St}{l l' m m' :aR af}(h:ft S l l')(hm:ft S m m'):ft S (l++m) (l' ++m'):=by
 induction l generalizing l' with
 |nil=>rw[h.lI];exact hm
 |cons v l ih=>
  obtain⟨v',r',rfl,h1,h2⟩:=h.cons_inv;exact ft.cons h1 (ih h2)
theorem ft.toList {S:St}{cs gY:bw af}(h:ft S cs.toList gY.toList):VR S (.agg cs) (.agg gY):= .agg _ _ h.1 h.2
theorem ft.agg {S:St}{l l' :aR af}(h:ft S l l'):VR S (.agg l.toArray) (.agg l'.toArray):= .agg _ _ (by simpa using h.1) (by simpa using h.2)
theorem ft.tuple {S:St}{l l' :aR af}(h:ft S l l'):VR S (.tuple l.toArray) (.tuple l'.toArray):= .tuple _ _ (by simpa using h.1) (by simpa using h.2)
structure Ext (S T:St):Prop where
 eE:∀i b,S.s.bL i=some b->∃b',T.s.bL i=some b' /\b.cells.length<=b'.cells.length/\b.low<=b'.low/\b'.mD=b.mD/\∀c,c<=b.cells.length+1->b'.low<=c->T.e.loc i c=S.e.loc i c
 map:∀r es,S.s.fj r=some es->(∃hJ,T.s.fj r=some hJ)/\T.e.mp r=S.e.mp r
 arr:∀(k:aY) (arr:bw af) (E:ao) (fr:aY×aY),S.w.heap[k]?=some (.cells arr E fr)->∃(mz:bw af) (Mg:aY×aY),T.w.heap[k]?=some (.cells mz E Mg)/\mz.size=arr.size
theorem Ext.refl (S:St):Ext S S:=
 ⟨fun _ b h=>⟨b,h,a3 _,a3 _,rfl,fun _ _ _=>rfl⟩,fun _ es h=>⟨⟨es,h⟩,rfl⟩,fun _ arr _ fr h=>⟨arr,fr,h,rfl⟩⟩
theorem Ext.trans {S T U:St}(h:Ext S T)(k:Ext T U):Ext S U:=by
 refine⟨fun i b hb=> ?_,fun r es hr=> ?_,fun n arr E fr hn=> ?_⟩
 ·obtain⟨b1,h1,h2,h3,h4,h5⟩:=h.eE i b hb;obtain⟨b2,k1,k2,k3,k4,k5⟩:=k.eE i b1 h1;exact⟨b2,k1,by omega,by omega,by rw[k4,h4],fun c hc hl=>(k5 c (by omega) hl).trans (h5 c hc (by omega))⟩
 ·obtain⟨⟨JK,h1⟩,h2⟩:=h.map r es hr;obtain⟨h3,h4⟩:=k.map r JK h1;exact⟨h3,h4.trans h2⟩
 obtain⟨a1,f1,h1,h2⟩:=h.arr n arr E fr hn;obtain⟨a2,f2,k1,k2⟩:=k.arr n a1 E f1 h1;exact⟨a2,f2,k1,k2.trans h2⟩
theorem vX.mono {S T:St}(h:Ext S T){i off c:aY}{a:Addr}(hr:vX S i off c a):vX T i off c a:=by
 obtain⟨b,hb,hc,hl⟩:=hr;obtain⟨b',h1,h2,h3,_,h5⟩:=h.eE i b hb;exact⟨b',h1,by omega,fun iw=>by rw[h5 c hc iw];exact hl (by omega)⟩
theorem JJ.mono {S T:St}(h:Ext S T){i c:aY}{a:Addr}{cap:aY}(hs:∃b,S.s.bL i=some b)(hr:JJ S i c a cap):JJ T i c a cap:=by
 intro b' jL zq;obtain⟨b,hb⟩:=hs;obtain⟨b1,h1,h2,h3,h4,_⟩:=h.eE i b hb;rw[jL] at h1;obtain rfl:=ab h1;obtain⟨arr,E,fr,ha,cX⟩:=hr b hb (by omega);obtain⟨mz,Mg,ha',SG⟩:=h.arr _ _ _ _ ha;exact⟨mz,E,Mg,ha',by rw[h4,SG];exact cX⟩
theorem VR.mono {S T:St}(h:Ext S T){v v' :af}(hv:VR S v v'):VR T v v' :=by
 induction hv with
 |bool b=>exact .bool b
 |int k n=>exact .int k n
 |string x=>exact .string x
 |Me=>exact .Me
 |ptr i off c a hr=>exact .ptr i off c a (hr.mono h)
 |jX=>exact .jX
 |slice i off len c a cap h0 hz hr=>
  refine .slice i off len c a cap h0 hz fun hc=> ?_
  obtain⟨vK,fe⟩:=hr hc;exact⟨vK.mono h,fe.mono h (by obtain⟨b,hb,_⟩:=vK;exact⟨b,hb⟩)⟩
 |Mf=>exact .Mf
 |map r hr=>
  obtain⟨es,vY⟩:=hr;obtain⟨h1,h2⟩:=h.map r es vY;rw[<-h2];exact .map r h1
 |nilFunc=>exact .nilFunc
 |nilIface=>exact .nilIface
 |func g ars bs OC OD ha hb _ _ ih1 ih2=>exact .func g ars bs OC OD ha hb ih1 ih2
 |agg cs gY h1 _ ih=>exact .agg cs gY h1 ih
 |unk n=>exact .unk n
 |raw b o=>exact .raw b o
 |iface t v v' _ ih=>exact .iface t v v' ih
 |tuple cs gY h1 _ ih=>exact .tuple cs gY h1 ih
theorem ft.mono {S T:St}(h:Ext S T){l l' :aR af}(hv:ft S l l'):ft T l l' :=⟨hv.1,fun i hi=>(hv.2 i hi).mono h⟩
def ER (S:St):aR (af×af)->aR MapEntry->Prop
 |[],[]=>True
 |(k,v)::r,e::r' =>e.key=k/\VR S v e.val/\ER S r r'
 |_,_=>False
theorem ER.mono {S T:St}(h:Ext S T):∀{l:aR (af×af)} {l' :aR MapEntry},ER S l l' ->ER T l l'
 |[],[],_=>trivial
 |(_,_)::_,_::_,hv=>⟨hv.1,hv.2.1.mono h,ER.mono h hv.2.2⟩
 |[],_::_,hv=>hv
 |_::_,[],hv=>hv
def Live (b:kM)(c:aY):Prop:=b.low<=c/\c<=b.cells.length+1
structure SR (base:aY) (S:St):Prop where
 room:0<=16000000
 bound:∀i o,S.s.heap.get i=some o->i<S.s.next
 low:∀i b,S.s.bL i=some b->1<=b.low
 cell:∀i b,S.s.bL i=some b->∀c,Live b c->∀p,p+1<c->∃v,S.w.cell? ⟨(S.e.loc i c).1,(S.e.loc i c).2+p,none⟩=some v/\VR S (b.cells.getD p undef) v
 own:∀i b,S.s.bL i=some b->b.own=true->∀c,Live b c->
  base<=(S.e.loc i c).1/\(∃(arr:bw af) (E:ao) (fr:aY×aY),S.w.heap[(S.e.loc i c).1]?=some (.cells arr E fr)/\(fr.1=fr.2\/arr.size<=fr.1/\b.mD=1))/\
  (∀j b',S.s.bL j=some b' ->∀c',Live b' c' ->(S.e.loc j c').1=(S.e.loc i c).1->j=i)/\
  ∀c',Live b c' ->(S.e.loc i c').1=(S.e.loc i c).1->S.e.loc i c' =S.e.loc i c
 map:∀r es,S.s.fj r=some es->base<=S.e.mp r/\∃(hJ:bw MapEntry) (tj:aY),S.w.heap[S.e.mp r]?=some (.map hJ tj)/\ER S es hJ.toList
 Ia:∀r r' es hJ,S.s.fj r=some es->S.s.fj r' =some hJ->S.e.mp r=S.e.mp r' ->r=r'
 size:base<=S.w.heap.size
 Ib:∀i b,S.s.bL i=some b->∀c,Live b c->(S.e.loc i c).1<S.w.heap.size
structure Good (base:aY) (S T:St):Prop where
 sr:SR base T
 ext:Ext S T
 below:Below base S.w T.w
theorem Good.refl {base:aY}{S:St}(h:SR base S):Good base S S:=⟨h,Ext.refl S,Below.refl _ _⟩
theorem Good.trans {base:aY}{S T U:St}(h:Good base S T)(k:Good base T U):Good base S U:=⟨k.sr,h.ext.trans k.ext,h.below.trans k.below⟩
theorem SR.lt {base:aY}{S:St}(h:SR base S){i:aY}{b:kM}(hb:S.s.bL i=some b):i<S.s.next:=by
 unfold au.bL at hb;split at hb
 ·exact h.bound i _ ‹_›
 cases hb
theorem SR.mlt {base:aY}{S:St}(h:SR base S){i:aY}{b:aR (af×af)}(hb:S.s.fj i=some b):i<S.s.next:=by
 unfold au.fj at hb;split at hb
 ·exact h.bound i _ ‹_›
 cases hb
theorem mc {s:au}{i:aY}{b:kM}{es:aR (af×af)}(hb:s.bL i=some b)(he:s.fj i=some es):False:=by
 unfold au.bL at hb;unfold au.fj at he;split at hb
 ·rename_i h;rw[h] at he;cases he
 cases hb
theorem SR.change {base:aY}{S:St}(h:SR base S)(i L next:aY)(b' :kM)(mE:aY->aY->aY×aY)(w' :ca)
  (hi:i<next) (hn:S.s.next<=next) (hr:0<=16000000) (xJ:i<S.s.next\/i+1=next)
  (ahF:∀es,S.s.fj i≠some es)
  (JL:1<=b'.low)
  (hold:∀b,S.s.bL i=some b->b.cells.length<=b'.cells.length/\b.low<=b'.low/\b'.mD=b.mD/\∀c,c<=b.cells.length+1->b'.low<=c->mE i c=S.e.loc i c)
  (qq:∀j,j≠i->mE j=S.e.loc j)
  (hw:∀k,k≠L->k<S.w.heap.size->w'.heap[k]?=S.w.heap[k]?)
  (hL:∀j bj c,j≠i->S.s.bL j=some bj->Live bj c->(S.e.loc j c).1≠L)
  (hLm:∀r es,S.s.fj r=some es->S.e.mp r≠L)
  (ahG:∀c,Live b' c->(mE i c).1<w'.heap.size)
  (mF:∀c,Live b' c->∀p,p+1<c->∃v,w'.cell? ⟨(mE i c).1,(mE i c).2+p,none⟩=some v/\VR S (b'.cells.getD p undef) v)
  (iU:b'.own=true->∀c,Live b' c->base<=(mE i c).1/\(∃(arr:bw af) (E:ao) (fr:aY×aY),w'.heap[(mE i c).1]?=some (.cells arr E fr)/\(fr.1=fr.2\/arr.size<=fr.1/\b'.mD=1))/\
   (∀j bj,j≠i->S.s.bL j=some bj->∀c',Live bj c' ->(S.e.loc j c').1≠(mE i c).1)/\
   ∀c',Live b' c' ->(mE i c').1=(mE i c).1->mE i c' =mE i c)
  (zI:∀j bj,j≠i->S.s.bL j=some bj->bj.own=true->∀c',Live bj c' ->∀c,Live b' c->(mE i c).1≠(S.e.loc j c').1)
  (ZZ:∀(arr:bw af) (E:ao) (fr:aY×aY),S.w.heap[L]?=some (.cells arr E fr)->∃(mz:bw af) (Mg:aY×aY),w'.heap[L]?=some (.cells mz E Mg)/\mz.size=arr.size)
  (pf:Below base S.w w') (cX:S.w.heap.size<=w'.heap.size):
  Good base S ⟨⟨Tr.set (depth i) S.s.heap i (.eE b'),next⟩,⟨mE,S.e.mp⟩,w'⟩:=by
 have jq:∀j,j≠i->(Tr.set (depth i) S.s.heap i (.eE b')).get j=S.s.heap.get j:=fun j hj=>Tr.cK _ _ _ _ _ (Ne.symm hj)
 have JM:(Tr.set (depth i) S.s.heap i (.eE b')).get i=some (.eE b'):=Tr.bF _ _ _ _ (deep (by omega));have fV:(⟨Tr.set (depth i) S.s.heap i (.eE b'),next⟩:au).bL i=some b' :=by simp only[au.bL,JM]
 have qK:∀j,j≠i->(⟨Tr.set (depth i) S.s.heap i (.eE b'),next⟩:au).bL j=S.s.bL j:=fun j hj=>by simp only[au.bL,jq j hj]
 have Sm:∀j,j≠i->(⟨Tr.set (depth i) S.s.heap i (.eE b'),next⟩:au).fj j=S.s.fj j:=fun j hj=>by simp only[au.fj,jq j hj]
 have hmi:(⟨Tr.set (depth i) S.s.heap i (.eE b'),next⟩:au).fj i=none:=by simp only[au.fj,JM]
 have adh:∀(k:aY) (arr:bw af) (E:ao) (fr:aY×aY),S.w.heap[k]?=some (.cells arr E fr)->∃(mz:bw af) (Mg:aY×aY),w'.heap[k]?=some (.cells mz E Mg)/\mz.size=arr.size:=by
  intro k arr E fr hk;by_cases hkL:k=L
  ·subst hkL;exact ZZ arr E fr hk
  have a7:k<S.w.heap.size:=by
   rcases dv k S.w.heap.size with h' |h'
   ·exact h'
   rw[cU h'] at hk;cases hk
  exact⟨arr,fr,by rw[hw k hkL a7];exact hk,rfl⟩
 have tL:Ext S ⟨⟨Tr.set (depth i) S.s.heap i (.eE b'),next⟩,⟨mE,S.e.mp⟩,w'⟩:=by
  refine⟨fun j b hb=> ?_,fun r es he=> ?_,adh⟩
  ·by_cases hj:j=i
   ·subst hj;obtain⟨h1,h2,h3,h4⟩:=hold b hb;exact⟨b',fV,h1,h2,h3,h4⟩
   exact⟨b,by rw[<-hb];exact qK j hj,a3 _,a3 _,rfl,fun c _ _=>by show mE j c=_;rw[qq j hj]⟩
  have Fu:r≠i:=fun e=>ahF es (e▸he)
  exact⟨⟨es,by rw[<-he];exact Sm r Fu⟩,rfl⟩
 refine⟨⟨hr,?_,?_,?_,?_,?_,?_,e9 h.size pf.size,?_⟩,tL,pf⟩
 ·intro j o hj;by_cases gD:j=i
  ·show j<next;omega
  have V1:(Tr.set (depth i) S.s.heap i (.eE b')).get j=some o:=hj;rw[jq j gD] at V1;have:=h.bound j o V1;show j<next;omega
 ·intro j b hb;by_cases gD:j=i
  ·subst gD;rw[fV] at hb;obtain rfl:=ab hb;exact JL
  rw[qK j gD] at hb;exact h.low j b hb
 ·intro j b hb c hc p hp;by_cases gD:j=i
  ·subst gD;rw[fV] at hb;obtain rfl:=ab hb
   obtain⟨v,h1,h2⟩:=mF c hc p hp;exact⟨v,h1,h2.mono tL⟩
  rw[qK j gD] at hb;obtain⟨v,h1,h2⟩:=h.cell j b hb c hc p hp;refine⟨v,?_,h2.mono tL⟩;show w'.cell? ⟨(mE j c).1,(mE j c).2+p,none⟩=some v;rw[qq j gD,<-h1];exact c4 (hw _ (hL j b c gD hb hc) (h.Ib j b hb c hc))
 ·intro j b hb CF c hc;by_cases gD:j=i
  ·subst gD;rw[fV] at hb;obtain rfl:=ab hb
   obtain⟨h1,h2,h3,h5⟩:=iU CF c hc;refine⟨h1,h2,fun k bk hk c' gj Z0=> ?_,h5⟩;by_cases hkj:k=j
   ·exact hkj
   rw[qK k hkj] at hk;exact cT (by have:(mE k c').1=(mE j c).1:=Z0;rwa [qq k hkj] at this) (h3 k bk hkj hk c' gj)
  rw[qK j gD] at hb;obtain⟨h1,⟨arr,E,fr,h2,YF⟩,h3,h5⟩:=h.own j b hb CF c hc;have cE:=hL j b c gD hb hc;have a7:(S.e.loc j c).1<S.w.heap.size:=by
   rcases dv (S.e.loc j c).1 S.w.heap.size with h' |h'
   ·exact h'
   rw[cU h'] at h2;cases h2
  refine⟨by show base<=(mE j c).1;rw[qq j gD];exact h1,⟨arr,E,fr,?_,YF⟩,fun k bk hk c' gj Z0=> ?_,by show∀c',Live b c' ->(mE j c').1=(mE j c).1->mE j c' =mE j c;rw[qq j gD];exact h5⟩
  ·show w'.heap[(mE j c).1]?=_;rw[qq j gD,hw _ cE a7];exact h2
  have CG:(mE k c').1=(mE j c).1:=Z0;rw[qq j gD] at CG;by_cases SH:k=i
  ·subst SH;rw[fV] at hk;obtain rfl:=ab hk
   exact cT CG (zI j b gD hb CF c hc c' gj)
  rw[qK k SH] at hk;rw[qq k SH] at CG;exact h3 k bk hk c' gj CG
 ·intro r es he;have Fu:r≠i:=fun e=>by subst e;rw[hmi] at he;cases he
  rw[Sm r Fu] at he;obtain⟨h1,hJ,tj,h2,h3⟩:=h.map r es he;have a7:S.e.mp r<S.w.heap.size:=by
   rcases dv (S.e.mp r) S.w.heap.size with h' |h'
   ·exact h'
   rw[cU h'] at h2;cases h2
  exact⟨h1,hJ,tj,by show w'.heap[S.e.mp r]?=_;rw[hw _ (hLm r es he) a7];exact h2,h3.mono tL⟩
 ·intro r r' es hJ he Mh Z0;have Fu:r≠i:=fun e=>by subst e;rw[hmi] at he;cases he
  have Ic:r' ≠i:=fun e=>by subst e;rw[hmi] at Mh;cases Mh
  rw[Sm r Fu] at he;rw[Sm r' Ic] at Mh;exact h.Ia r r' es hJ he Mh Z0
 intro j b hb c hc;by_cases gD:j=i
 ·subst gD;rw[fV] at hb;obtain rfl:=ab hb
  exact ahG c hc
 rw[qK j gD] at hb;show(mE j c).1<w'.heap.size;rw[qq j gD];exact e5 (h.Ib j b hb c hc) cX
theorem xR:∀(n:aY) (l:aR af),takeN n l=if n<=l.length then some (l.take n) else none:=by
 intro n
 induction n with
 |zero=>intro l;simp[takeN]
 |succ n ih=>
  intro l;cases l with
  |nil=>simp[takeN]
  |cons v r=>
   simp only[takeN,ih,dc,Nat.add_le_add_iff_right,eu];by_cases h:n<=r.length<;>simp[h]
theorem tM:∀(n:aY) (l:aR af),Az n l=l.drop n:=by
 intro n
 induction n with
 |zero=>intro l;cases l<;>simp[Az]
 |succ n ih=>intro l;cases l with
  |nil=>simp[Az]
  |cons v r=>simp[Az,ih]
theorem wK:∀(l:aR af) (off:aY) (vs r:aR af),setAt l off vs=some r->
  r.length=l.length/\(vs=[]\/off+vs.length<=l.length)/\∀p,r.getD p undef=if off<=p/\p<off+vs.length then vs.getD (p-off) undef else l.getD p undef:=by
 intro l
 induction l with
 |nil=>
  intro off vs r h;cases vs with
  |nil=>simp only[setAt] at h;obtain rfl:=ab h;exact⟨rfl,.inl rfl,fun p=>by rw[bA (by simp)]⟩
  |cons v vs=>simp[setAt] at h
 |cons c l ih=>
  intro off vs r h;cases vs with
  |nil=>simp only[setAt] at h;obtain rfl:=ab h;exact⟨rfl,.inl rfl,fun p=>by rw[bA (by simp)]⟩
  |cons v vs=>
   cases off with
   |zero=>
    simp only[setAt] at h;split at h
    ·rename_i m hm;obtain rfl:=ab h;obtain⟨h1,h2,h3⟩:=ih 0 vs m hm;refine⟨by simp[h1],.inr ?_,fun p=> ?_⟩
     ·rcases h2 with rfl|h2
      ·simp
      simp;omega
     cases p with
     |zero=>simp
     |succ p=>
      have:=h3 p;simp only[Nat.zero_le,fb,ew,gg,ed,dc,Nat.add_lt_add_iff_right] at this|-
      exact this
    cases h
   |succ n=>
    simp only[setAt] at h;split at h
    ·rename_i m hm;obtain rfl:=ab h;obtain⟨h1,h2,h3⟩:=ih n (v::vs) m hm;refine⟨by simp[h1],.inr ?_,fun p=> ?_⟩
     ·rcases h2 with h2|h2
      ·cases h2
      simp at h2|-;omega
     cases p with
     |zero=>rw[bA (by omega)];simp
     |succ p=>
      have:=h3 p;simp only[ed];rw[this];by_cases hc:n<=p/\p<n+(v::vs).length
      ·rw[ck hc,ck (by omega),show p+1-(n+1)=p-n by omega]
      rw[bA hc,bA (by omega)]
    cases h
def zJ (w:ca)(k o n:aY):aR af:=(List.range n).map fun p=>(w.cell? ⟨k,o+p,none⟩).getD undef
theorem JN (w:ca)(k o n:aY):(zJ w k o n).length=n:=by simp[zJ]
theorem zK (w:ca)(k o n p:aY)(h:p<n):(zJ w k o n).getD p undef=(w.cell? ⟨k,o+p,none⟩).getD undef:=by
 simp[zJ,a8,h]
theorem P7 (w:ca)(k o n:aY):zJ w k o (n+1)=(w.cell? ⟨k,o,none⟩).getD undef::zJ w k (o+1) n:=by
 simp only[zJ,List.range_succ_eq_map,List.map_cons,List.map_map,dw]
 congr 1
 apply List.map_congr_left;intro p _;simp only[Function.comp,ev];rw[show o+(p+1)=o+1+p by omega]
theorem run_loadCellsFrom (P:an)(w:ca)(k o:aY):∀(n i:aY) (acc:bw af),(∀p,p<n->∃v,w.cell? ⟨k,o+i+p,none⟩=some v)->
  (loadCellsFrom ⟨k,o,none⟩ i n acc).run P w= .ok (acc++(zJ w k (o+i) n).toArray) w:=by
 intro n
 induction n with
 |zero=>intro i acc _;simp[loadCellsFrom,zJ]
 |succ n ih=>
  intro i acc h;obtain⟨v,hv⟩:=h 0 (by omega);simp only[dw] at hv;have:=ih (i+1) (acc.push v) (fun p hp=>by have:=h (p+1) (by omega);rwa [show o+i+(p+1)=o+(i+1)+p by omega] at this);simp only[loadCellsFrom,Sem.run_bind,run_load,Addr.add_lit,hv,ax,this,P7,Option.getD_some]
  congr 1
  rw[<-cA];simp[c5]
theorem run_loadCells (P:an)(w:ca)(k o n:aY)(h:∀p,p<n->∃v,w.cell? ⟨k,o+p,none⟩=some v):
  (loadCells ⟨k,o,none⟩ n).run P w= .ok (zJ w k o n).toArray w:=by
 have:=run_loadCellsFrom P w k o n 0 #[] (by simpa using h)
 simpa [loadCells] using this
def setCells (w:ca)(k o:aY):aR af->ca
 |[]=>w
 |v::r=>setCells (w.setCell ⟨k,o,none⟩ v) k (o+1) r
theorem vZ (w:ca)(k o:aY)(v:af)(arr:bw af)(E:ao)(fr:aY×aY)(h:w.heap[k]?=some (.cells arr E fr)):
  (w.setCell ⟨k,o,none⟩ v).heap[k]?=some (.cells (arr.setIfInBounds o v) E fr):=by
 simp only[World.setCell,ek,ea,h];rfl
theorem cF (w:ca)(k o:aY)(arr:bw af)(E:ao)(fr:aY×aY)(h:w.heap[k]?=some (.cells arr E fr)):
  w.cell? ⟨k,o,none⟩=arr[o]?:=by simp[gH,h]
theorem v7 {w:ca}{k o:aY}{v:af}(h:w.cell? ⟨k,o,none⟩=some v):∃(arr:bw af) (E:ao) (fr:aY×aY),w.heap[k]?=some (.cells arr E fr)/\arr[o]?=some v:=by
 unfold gH at h;split at h
 ·rename_i c E fr hk;exact⟨c,E,fr,hk,by simpa using h⟩
 cases h
theorem fx {w:ca}{k:aY}{o:Obj}(h:w.heap[k]?=some o):k<w.heap.size:=by
 rcases dv k w.heap.size with h' |h'
 ·exact h'
 rw[cU h'] at h;cases h
theorem ie:∀(vs:aR af) (w:ca) (k o:aY),(setCells w k o vs).heap.size=w.heap.size
 |[],_,_,_=>rfl
 |v::r,w,k,o=>by rw[setCells,ie r];simp
theorem me:∀(vs:aR af) (w:ca) (k o j:aY),j≠k->(setCells w k o vs).heap[j]?=w.heap[j]?
 |[],_,_,_,_,_=>rfl
 |v::r,w,k,o,j,h=>by rw[setCells,me r _ _ _ _ h];exact Below.heap_setCell _ _ _ _ h
theorem mG:∀(vs:aR af) (w:ca) (k o B:aY),B<=k->Below B w (setCells w k o vs)
 |[],w,_,_,B,_=>Below.refl B w
 |v::r,w,k,o,B,h=>((Below.refl B w).setCell (p:=⟨k,o,none⟩) h v).trans (mG r _ k (o+1) B h)
theorem jY:∀(vs:aR af) (w:ca) (k o:aY) (arr:bw af) (E:ao) (fr:aY×aY),w.heap[k]?=some (.cells arr E fr)->o+vs.length<=arr.size->
  ∃mz,(setCells w k o vs).heap[k]?=some (.cells mz E fr)/\mz.size=arr.size/\∀p,mz[p]?=if o<=p/\p<o+vs.length then some (vs.getD (p-o) undef) else arr[p]?:=by
 intro vs
 induction vs with
 |nil=>intro w k o arr E fr h _;exact⟨arr,h,rfl,fun p=>by rw[bA (by simp)]⟩
 |cons v r ih=>
  intro w k o arr E fr h hle;simp only[dc] at hle;obtain⟨mz,h1,h2,h3⟩:=ih (w.setCell ⟨k,o,none⟩ v) k (o+1) _ E fr (vZ w k o v arr E fr h) (by simp;omega);refine⟨mz,h1,by simpa using h2,fun p=> ?_⟩;rw[h3 p];by_cases hp:o+1<=p/\p<o+1+r.length
  ·rw[ck hp,ck (by simp;omega),show p-o=(p-(o+1))+1 by omega,ed]
  rw[bA hp];by_cases Wz:p=o
  ·subst Wz;rw[ck (by simp),cL (by omega),gr,eV]
  rw[bA (by simp;omega),cJ (by omega)]
theorem CH {v:af}(h:aT v=true):v.oneCell' =true:=by cases v<;>simp_all[aT,Value.oneCell']
theorem mH (P:an)(k o:aY):∀(vs:aR af) (w:ca) (i:aY) (arr:bw af) (E:ao) (fr:aY×aY),w.heap[k]?=some (.cells arr E fr)->
  (fr.1=fr.2\/arr.size<=fr.1)->o+i+vs.length<=arr.size->(∀v∈vs,aT v=true)->(storeCells ⟨k,o,none⟩ vs i).run P w= .ok () (setCells w k (o+i) vs):=by
 intro vs
 induction vs with
 |nil=>intro w i arr E fr _ _ _ _;simp[storeCells,setCells]
 |cons v r ih=>
  intro w i arr E fr h wL hle gF;simp only[dc] at hle;have hc:w.cell? ⟨k,o+i,none⟩=some arr[o+i]:=by rw[cF w k _ arr E fr h];simp
  have hfz:w.frozen? ⟨k,o+i,none⟩=false:=by
   simp only[World.frozen?,h];rcases wL with h1|h1
   ·rw[eK];simp;omega
   rw[eK];simp;omega
  have aF:(store ⟨k,o+i,none⟩ v).run P w= .ok () (w.setCell ⟨k,o+i,none⟩ v):=by
   rw[run_store P w _ v .plain (CH (gF v (by simp)))];simp[hc,hfz]
  have:=ih (w.setCell ⟨k,o+i,none⟩ v) (i+1) _ E fr (vZ w k (o+i) v arr E fr h) (by simpa using wL) (by simp;omega) (fun u hu=>gF u (by simp[hu]));simp only[storeCells,Sem.run_bind,Addr.add_lit,aF,ax,this,setCells,c5]
theorem VR.aT {S:St}{v v' :af}(h:VR S v v'):aT v=aT v' :=by cases h<;>rfl
theorem ft.aT {S:St}{l l' :aR af}(h:ft S l l')(gF:l.all aT=true):∀v∈l',aT v=true:=by
 induction l generalizing l' with
 |nil=>rw[h.lI];simp
 |cons v l ih=>
  obtain⟨v',r',rfl,h1,h2⟩:=h.cons_inv;simp only[gf,aC] at gF;intro u hu;rcases List.mem_cons.1 hu with rfl|hu
  ·rw[<-h1.aT];exact gF.1
  exact ih h2 gF.2 u hu
theorem VR.cells {S:St}{v v' :af}(h:VR S v v'):ft S v.cells.toList v'.cells.toList:=by
 cases h with
 |agg cs gY h1 h2=>exact⟨h1,h2⟩
 |raw b o=>exact ft.cons (.raw b o) ft.nil
 |unk n=>exact ft.cons (.unk n) ft.nil
 |iface t v v' h=>exact ft.cons (.iface t v v' h) ft.nil
 |_=>exact ft.cons (by first|assumption|(constructor<;>assumption)|constructor) ft.nil
theorem WA {b:kM}{c n:aY}(h:(cg b.low c&&cg c (b.cells.length+1)&&c7 n c)=true):Live b c/\n<c:=by
 simp only[aC,cm,dK] at h;exact⟨⟨h.1.1,h.1.2⟩,h.2⟩
theorem CI (l:aR af)(o n p:aY)(h:p<n):((l.drop o).take n).getD p undef=l.getD (o+p) undef:=by
 simp[a8,h]
theorem SR.cells {base:aY}{S:St}(h:SR base S){i off c n:aY}{l:aR af}(hc:S.s.dG i off c n=some l):
  ∃b,S.s.bL i=some b/\Live b c/\off+n<c/\l=(b.cells.drop off).take n/\l.length=n/\ft S l (zJ S.w (S.e.loc i c).1 ((S.e.loc i c).2+off) n)/\
   ∀p,p<n->∃v,S.w.cell? ⟨(S.e.loc i c).1,(S.e.loc i c).2+off+p,none⟩=some v:=by
 unfold au.dG at hc;split at hc
 ·rename_i b hb;split at hc
  ·rename_i jZ;obtain⟨gv,a7⟩:=WA jZ;rw[xR,tM] at hc;split at hc
   ·rename_i hn;obtain rfl:=ab hc;have Ie:((b.cells.drop off).take n).length=n:=by rw[fF];omega
    have mF:∀p,p<n->∃v,S.w.cell? ⟨(S.e.loc i c).1,(S.e.loc i c).2+off+p,none⟩=some v/\VR S (b.cells.getD (off+p) undef) v:=fun p hp=>by
     have:=h.cell i b hb c gv (off+p) (by omega)
     rwa [<-c5] at this
    refine⟨b,hb,gv,a7,rfl,Ie,⟨by rw[Ie,JN],fun p hp=> ?_⟩,fun p hp=>(mF p hp).imp fun _ h=>h.1⟩;rw[Ie] at hp;obtain⟨v,h1,h2⟩:=mF p hp;rw[zK _ _ _ _ _ hp,h1,CI _ _ _ _ hp];exact h2
   cases hc
  cases hc
 cases hc
theorem xS {s:au}(_:s.room=true):0<16000000:=by omega
theorem SR.fresh {base:aY}{S:St}(h:SR base S):S.s.bL S.s.next=none/\S.s.fj S.s.next=none:=by
 constructor
 ·cases hb:S.s.bL S.s.next with
  |none=>rfl
  |some b=>have:=h.lt hb;omega
 cases hb:S.s.fj S.s.next with
 |none=>rfl
 |some b=>have:=h.mlt hb;omega
theorem SR.OE {base:aY}{S:St}(h:SR base S){r:aY}{es:aR (af×af)}(hr:S.s.fj r=some es):S.e.mp r<S.w.heap.size:=by
 obtain⟨_,hJ,tj,h1,_⟩:=h.map r es hr;exact fx h1
structure nn (w w' :ca) (o:Obj):Prop where
 heap:w'.heap=w.heap.push o
 os:w'.os=w.os
 tape:w'.tape=w.tape
 output:w'.output=w.output
theorem nn.old {w w' :ca}{o:Obj}(h:nn w w' o)(k:aY)(hk:k<w.heap.size):w'.heap[k]?=w.heap[k]?:=by
 rw[h.heap,eX,bA (by omega)]
theorem nn.new {w w' :ca}{o:Obj}(h:nn w w' o):w'.heap[w.heap.size]?=some o:=by
 rw[h.heap,eX,ck rfl]
theorem nn.size {w w' :ca}{o:Obj}(h:nn w w' o):w'.heap.size=w.heap.size+1:=by rw[h.heap];simp
theorem nn.below {w w' :ca}{o:Obj}{B:aY}(h:nn w w' o)(hB:B<=w.heap.size):Below B w w' :=
 ⟨h.os,h.tape,h.output,by rw[h.size];omega,fun k hk=>h.old k (by omega)⟩
structure oI (S:St) (id next:aY):Prop where
 free:S.s.heap.get id=none
 lt:id<next
 le:S.s.next<=next
 room:0<=16000000
 known:id<S.s.next\/id+1=next
theorem oI.eE {S:St}{id next:aY}(h:oI S id next):S.s.bL id=none:=by simp only[au.bL,h.free]
theorem oI.map {S:St}{id next:aY}(h:oI S id next):S.s.fj id=none:=by simp only[au.fj,h.free]
theorem oI.self {base:aY}{S:St}(h:SR base S)(hr:S.s.room=true):oI S S.s.next (S.s.next+1):=by
 have a7:=xS hr;refine⟨?_,by omega,by omega,by omega,.inr rfl⟩;cases hg:S.s.heap.get S.s.next with
 |none=>rfl
 |some o=>have:=h.bound _ _ hg;omega
def St.tN (S:St)(id next:aY)(b:kM)(W:ca):St:=⟨⟨Tr.set (depth id) S.s.heap id (.eE b),next⟩,⟨fun j c=>if j=id then(S.w.heap.size,0) else S.e.loc j c,S.e.mp⟩,W⟩
theorem Good.SI {base:aY}{S:St}(h:SR base S){id next:aY}(dI:oI S id next)(cs:aR af)(mD:aY)(arr:bw af)(E:ao)(fr:aY×aY)(W:ca)
  (hW:nn S.w W (.cells arr E fr)) (wL:fr.1=fr.2\/arr.size<=fr.1/\mD=1) (hle:cs.length<=arr.size) (hv:∀p,p<cs.length->VR S (cs.getD p undef) (arr.toList.getD p undef)):
  Good base S (S.tN id next ⟨cs,1,true,mD⟩ W):=by
 refine SR.change h id S.w.heap.size next ⟨cs,1,true,mD⟩ _ W dI.lt dI.le dI.room dI.known (fun es he=>by rw[dI.map] at he;cases he) (a3 _)
  (fun b hb=>by rw[dI.eE] at hb;cases hb) (fun j hj=>by funext c;rw[bA hj]) (fun k _ hk=>hW.old k hk)
  (fun j bj c _ hj hc=>cD (h.Ib j bj hj c hc)) (fun r es he=>cD (h.OE he)) (fun c _=>by simp only[ea];rw[hW.size];omega) ?_ ?_ ?_ ?_
  (hW.below h.size) (by rw[hW.size];omega)
 ·intro c hc p hp;simp only[ea,ew];have pg:p<cs.length:=by have:=hc.2;simp only at this;omega
  have Ig:p<arr.size:=by omega
  refine⟨arr.toList.getD p undef,?_,hv p pg⟩;rw[cF W _ _ arr E fr hW.new];simp[a8,Ig]
 ·intro _ c _;simp only[ea];exact⟨h.size,⟨arr,E,fr,hW.new,wL⟩,fun j bj _ hj c' gj=>cD (h.Ib j bj hj c' gj),by intros;first|rfl|trivial⟩
 ·intro j bj _ hj _ c' gj c _;simp only[ea];exact fun e=>cT (h.Ib j bj hj c' gj) (by omega)
 intro arr E fr hk;exact cT (fx hk) (by omega)
theorem St.CJ {S:St}{id next:aY}(dI:oI S id next)(b:kM)(W:ca):(S.tN id next b W).s.bL id=some b:=by
 simp only[St.tN,au.bL,Tr.bF _ _ _ _ (deep (show 0<16000001 by have:=dI.lt;have:=dI.room;omega))]
theorem St.CK {S:St}{id next:aY}(dI:oI S id next)(b:kM)(W:ca)(off c:aY)(hc:c<=b.cells.length+1):vX (S.tN id next b W) id off c ⟨S.w.heap.size,off,none⟩:=
 ⟨b,St.CJ dI b W,hc,fun _=>by simp[St.tN]⟩
theorem St.Mi {S:St}{id next:aY}(dI:oI S id next)(b:kM)(W:ca)(o c cap:aY)(arr:bw af)(E:ao)(fr:aY×aY)(hW:nn S.w W (.cells arr E fr))(tl:o+cap*b.mD<=arr.size):
  JJ (S.tN id next b W) id c ⟨S.w.heap.size,o,none⟩ cap:=by
 intro b' jL _;rw[St.CJ dI b W] at jL;obtain rfl:=ab jL;exact⟨arr,E,fr,hW.new,tl⟩
theorem Good.store {base:aY}{S:St}(h:SR base S){i off c:aY}{b:kM}(hb:S.s.bL i=some b)(ho:b.own=true)(hc:Live b c)(Fv:c=b.cells.length+1){vs Ju l:aR af}
  (hl:setAt b.cells off vs=some l) (hv:ft S vs Ju) (cE:vs≠[]):
  Good base S ⟨S.s.put i (.eE {b with cells:=l,low:=c}),S.e,setCells S.w (S.e.loc i c).1 ((S.e.loc i c).2+off) Ju⟩/\
  ∃(arr:bw af) (E:ao) (fr:aY×aY),S.w.heap[(S.e.loc i c).1]?=some (.cells arr E fr)/\(fr.1=fr.2\/arr.size<=fr.1)/\(S.e.loc i c).2+off+Ju.length<=arr.size:=by
 obtain⟨Ie,tm,jq⟩:=wK _ _ _ _ hl;have tO:off+vs.length<=b.cells.length:=tm.resolve_left cE;have Fw:Ju.length=vs.length:=hv.1.symm;obtain⟨zt,⟨arr,E,fr,iV,wM⟩,BI,_⟩:=h.own i b hb ho c hc;have BJ:0<vs.length:=List.length_pos_iff.2 cE;have gm:(S.e.loc i c).2+off+Ju.length<=arr.size:=by
  obtain⟨v,h1,_⟩:=h.cell i b hb c hc (off+vs.length-1) (by omega);rw[cF _ _ _ _ _ _ iV] at h1;have:=(ey.1 h1).1;omega
 obtain⟨mz,OG,wN,Z1⟩:=jY Ju S.w _ _ arr E fr iV gm;refine⟨?_,arr,E,fr,iV,wM.imp id And.left,gm⟩;have CL:∀c',Live {b with cells:=l,low:=c} c' ->c' =c:=fun c' gj=>by
  have h1:=gj.1;have h2:=gj.2;simp only[Ie] at h1 h2;omega
 refine SR.change h i (S.e.loc i c).1 S.s.next {b with cells:=l,low:=c} S.e.loc _ (h.lt hb) (a3 _) h.room (.inl (h.lt hb)) (fun es he=>mc hb he) (by show 1<=c;omega) ?_ (fun _ _=>rfl)
  (fun k hk _=>me _ _ _ _ _ hk) (fun j bj c' hj tp gj e=>hj (BI j bj tp c' gj e)) ?_ ?_ ?_ ?_ ?_ ?_ (mG _ _ _ _ _ zt) (by rw[ie];exact a3 _)
 ·intro b0 mI;rw[hb] at mI;obtain rfl:=ab mI
  exact⟨by simp[Ie],hc.1,rfl,fun _ _ _=>rfl⟩
 ·intro r es he e;obtain⟨_,hJ,tj,h2,_⟩:=h.map r es he;rw[e,iV] at h2;cases h2
 ·intro c' gj;rw[CL c' gj,ie];exact h.Ib i b hb c hc
 ·intro c' gj p hp;obtain rfl:=CL c' gj;simp only;rw[cF _ _ _ _ _ _ OG,Z1,jq p];by_cases BK:off<=p/\p<off+vs.length
  ·rw[ck BK,ck (by omega),show(S.e.loc i c').2+p-((S.e.loc i c').2+off)=p-off by omega];exact⟨_,rfl,hv.2 (p-off) (by omega)⟩
  rw[bA BK,bA (by omega),<-cF _ _ _ _ _ _ iV];exact h.cell i b hb c' hc p hp
 ·intro _ c' gj;obtain rfl:=CL c' gj;exact⟨zt,⟨mz,E,fr,OG,by rw[wN];exact wM⟩,fun j bj hj tp c1 iy e=>hj (BI j bj tp c1 iy e),fun c1 iy _=>by rw[CL c1 iy]⟩
 ·intro j bj hj tp CF c1 iy c' gj e;obtain rfl:=CL c' gj;exact hj (BI j bj tp c1 iy e.symm)
 intro P8 E0 fr0 hk;rw[iV] at hk;injection hk with hk;injection hk with e1 e2 e3
 subst e1;subst e2
 exact⟨mz,fr,OG,wN⟩
theorem fy (l m:aR af)(p:aY)(h:p<l.length):(l++m).getD p undef=l.getD p undef:=by
 simp[a8,eM,h]
theorem mJ (l m:aR af)(p:aY)(h:l.length<=p):(l++m).getD p undef=m.getD (p-l.length) undef:=by
 simp[a8,eM,Nat.not_lt.2 h]
theorem Good.SJ {base:aY}{S:St}(h:SR base S){i c:aY}{b:kM}(hb:S.s.bL i=some b)(ho:b.own=true)(hc:Live b c)(Fv:c=b.cells.length+1){new new' :aR af}
  (hv:ft S new new') {arr:bw af} {E:ao} {fr:aY×aY} (ha:S.w.heap[(S.e.loc i c).1]?=some (.cells arr E fr)) (gm:(S.e.loc i c).2+b.cells.length+new'.length<=arr.size):
  Good base S ⟨S.s.put i (.eE {b with cells:=b.cells++new}),⟨fun j c' =>if j=i/\c<c' then S.e.loc i c else S.e.loc j c',S.e.mp⟩,setCells S.w (S.e.loc i c).1 ((S.e.loc i c).2+b.cells.length) new'⟩:=by
 obtain⟨zt,⟨P8,E0,fr0,iV,wM⟩,BI,ho5⟩:=h.own i b hb ho c hc;rw[ha] at iV;injection iV with iV;injection iV with e1 e2 e3
 subst e1;subst e2;subst e3
 have Fw:new'.length=new.length:=hv.1.symm;obtain⟨mz,OG,wN,Z1⟩:=jY new' S.w _ _ arr E fr ha gm;have qq:∀c',(if i=i/\c<c' then S.e.loc i c else S.e.loc i c')=if c<c' then S.e.loc i c else S.e.loc i c' :=fun c' =>by simp
 have iU:∀c',Live {b with cells:=b.cells++new} c' ->¬c<c' ->Live b c' :=fun c' gj a7=>⟨gj.1,by omega⟩
 refine SR.change h i (S.e.loc i c).1 S.s.next {b with cells:=b.cells++new} _ _ (h.lt hb) (a3 _) h.room (.inl (h.lt hb)) (fun es he=>mc hb he) (h.low i b hb) ?_
  (fun j hj=>by funext c';rw[bA (by simp[hj])]) (fun k hk _=>me _ _ _ _ _ hk) (fun j bj c' hj tp gj e=>hj (BI j bj tp c' gj e)) ?_ ?_ ?_ ?_ ?_ ?_ (mG _ _ _ _ _ zt)
  (by rw[ie];exact a3 _)
 ·intro b0 mI;rw[hb] at mI;obtain rfl:=ab mI
  exact⟨by simp,a3 _,rfl,fun c' gj _=>by rw[bA (by omega)]⟩
 ·intro r es he e;obtain⟨_,hJ,tj,h2,_⟩:=h.map r es he;rw[e,ha] at h2;cases h2
 ·intro c' gj;rw[qq,ie];by_cases a7:c<c'
  ·rw[ck a7];exact h.Ib i b hb c hc
  rw[bA a7];exact h.Ib i b hb c' (iU c' gj a7)
 ·intro c' gj p hp;have pg:p<b.cells.length+new.length:=by have:=gj.2;simp only[ch] at this;omega
  simp only[fb];by_cases a7:c<c'
  ·rw[ck a7,cF _ _ _ _ _ _ OG,Z1];by_cases BK:p<b.cells.length
   ·rw[bA (by omega),fy _ _ _ BK,<-cF _ _ _ _ _ _ ha];exact h.cell i b hb c hc p (by omega)
   rw[ck (by omega),mJ _ _ _ (by omega),show(S.e.loc i c).2+p-((S.e.loc i c).2+b.cells.length)=p-b.cells.length by omega];exact⟨_,rfl,hv.2 (p-b.cells.length) (by omega)⟩
  rw[bA a7];have Ce:=iU c' gj a7;have BK:p<b.cells.length:=by omega
  obtain⟨v,h1,h2⟩:=h.cell i b hb c' Ce p hp;rw[fy _ _ _ BK];refine⟨v,?_,h2⟩;by_cases hcc:c' =c
  ·subst hcc;rw[cF _ _ _ _ _ _ OG,Z1,bA (by omega),<-cF _ _ _ _ _ _ ha];exact h1
  by_cases qK:(S.e.loc i c').1=(S.e.loc i c).1
  ·have tP:=ho5 c' Ce qK;rw[tP] at h1|-
   rw[cF _ _ _ _ _ _ OG,Z1,bA (by omega),<-cF _ _ _ _ _ _ ha];exact h1
  rw[<-h1];exact c4 (me _ _ _ _ _ qK)
 ·intro _ c' gj;rw[qq];by_cases a7:c<c'
  ·rw[ck a7];refine⟨zt,⟨mz,E,fr,OG,by rw[wN];exact wM⟩,fun j bj hj tp c1 iy e=>hj (BI j bj tp c1 iy e),fun c1 iy=> ?_⟩;rw[qq];by_cases qL:c<c1
   ·rw[ck qL];exact fun _=>rfl
   rw[bA qL];exact ho5 c1 (iU c1 iy qL)
  rw[bA a7];obtain⟨h1,⟨Mj,E1,fr1,h2,h3⟩,h4,h5⟩:=h.own i b hb ho c' (iU c' gj a7);refine⟨h1,?_,fun j bj hj tp c1 iy e=>hj (h4 j bj tp c1 iy e),fun c1 iy=> ?_⟩
  case refine_2=>
   rw[qq];by_cases qL:c<c1
   ·rw[ck qL];exact h5 c hc
   rw[bA qL];exact h5 c1 (iU c1 iy qL)
  by_cases qK:(S.e.loc i c').1=(S.e.loc i c).1
  ·rw[qK,ha] at h2;injection h2 with h2;injection h2 with e1 e2 e3
   subst e1;subst e2;subst e3
   exact⟨mz,E,fr,by rw[qK];exact OG,by rw[wN];exact h3⟩
  exact⟨Mj,E1,fr1,by rw[me _ _ _ _ _ qK];exact h2,h3⟩
 ·intro j bj hj tp CF c1 iy c' gj e;rw[qq] at e;by_cases a7:c<c'
  ·rw[ck a7] at e;exact hj (BI j bj tp c1 iy e.symm)
  rw[bA a7] at e;exact hj ((h.own i b hb ho c' (iU c' gj a7)).2.2.1 j bj tp c1 iy e.symm)
 intro P8 E0 fr0 hk;rw[ha] at hk;injection hk with hk;injection hk with e1 e2 e3
 subst e1;subst e2
 exact⟨mz,fr,OG,wN⟩
theorem Good.WB {base:aY}{S:St}(h:SR base S){i c:aY}{b:kM}(hb:S.s.bL i=some b)(ho:b.own=true)(Fv:c=b.cells.length+1){new:aR af}
  {arr:bw af} {E:ao} {fr:aY×aY} {W:ca} (hW:nn S.w W (.cells arr E fr)) (wL:fr.1=fr.2\/arr.size<=fr.1/\b.mD=1) (hle:b.cells.length+new.length<=arr.size)
  (hv:∀p,p<b.cells.length+new.length->VR S ((b.cells++new).getD p undef) (arr.toList.getD p undef)):
  Good base S ⟨S.s.put i (.eE {b with cells:=b.cells++new}),⟨fun j c' =>if j=i/\c<c' then(S.w.heap.size,0) else S.e.loc j c',S.e.mp⟩,W⟩:=by
 have qq:∀c',(if i=i/\c<c' then(S.w.heap.size,0) else S.e.loc i c')=if c<c' then(S.w.heap.size,0) else S.e.loc i c' :=fun c' =>by simp
 have iU:∀c',Live {b with cells:=b.cells++new} c' ->¬c<c' ->Live b c' :=fun c' gj a7=>⟨gj.1,by omega⟩
 refine SR.change h i S.w.heap.size S.s.next {b with cells:=b.cells++new} _ _ (h.lt hb) (a3 _) h.room (.inl (h.lt hb)) (fun es he=>mc hb he) (h.low i b hb) ?_
  (fun j hj=>by funext c';rw[bA (by simp[hj])]) (fun k _ hk=>hW.old k hk) (fun j bj c' _ tp gj=>cD (h.Ib j bj tp c' gj)) (fun r es he=>cD (h.OE he)) ?_ ?_ ?_ ?_ ?_
  (hW.below h.size) (by rw[hW.size];omega)
 ·intro b0 mI;rw[hb] at mI;obtain rfl:=ab mI
  exact⟨by simp,a3 _,rfl,fun c' gj _=>by rw[bA (by omega)]⟩
 ·intro c' gj;rw[qq,hW.size];by_cases a7:c<c'
  ·rw[ck a7];exact Nat.lt_succ_self _
  rw[bA a7];exact Nat.lt_succ_of_lt (h.Ib i b hb c' (iU c' gj a7))
 ·intro c' gj p hp;have pg:p<b.cells.length+new.length:=by have:=gj.2;simp only[ch] at this;omega
  simp only[fb];by_cases a7:c<c'
  ·rw[ck a7];refine⟨arr.toList.getD p undef,?_,hv p pg⟩;have Ig:p<arr.size:=by omega
   rw[cF W _ _ arr E fr hW.new];simp[a8,Ig]
  rw[bA a7];have Ce:=iU c' gj a7;obtain⟨v,h1,h2⟩:=h.cell i b hb c' Ce p hp;rw[fy _ _ _ (by omega)];exact⟨v,by rw[<-h1];exact c4 (hW.old _ (h.Ib i b hb c' Ce)),h2⟩
 ·intro _ c' gj;rw[qq];by_cases a7:c<c'
  ·rw[ck a7];refine⟨h.size,⟨arr,E,fr,hW.new,wL⟩,fun j bj _ tp c1 iy=>cD (h.Ib j bj tp c1 iy),fun c1 iy=> ?_⟩;rw[qq];by_cases qL:c<c1
   ·rw[ck qL];exact fun _=>rfl
   rw[bA qL];exact fun e=>cT e (cD (h.Ib i b hb c1 (iU c1 iy qL)))
  rw[bA a7];obtain⟨h1,⟨Mj,E1,fr1,h2,h3⟩,h4,h5⟩:=h.own i b hb ho c' (iU c' gj a7);refine⟨h1,⟨Mj,E1,fr1,by rw[hW.old _ (fx h2)];exact h2,h3⟩,fun j bj hj tp c1 iy e=>hj (h4 j bj tp c1 iy e),fun c1 iy=> ?_⟩;rw[qq];by_cases qL:c<c1
  ·rw[ck qL];exact fun e=>cT e (Ne.symm (cD (fx h2)))
  rw[bA qL];exact h5 c1 (iU c1 iy qL)
 ·intro j bj hj tp CF c1 iy c' gj e;rw[qq] at e;by_cases a7:c<c'
  ·rw[ck a7] at e;exact cT e.symm (cD (h.Ib j bj tp c1 iy))
  rw[bA a7] at e;exact hj ((h.own i b hb ho c' (iU c' gj a7)).2.2.1 j bj tp c1 iy e.symm)
 intro P8 E0 fr0 hk;exact cT (fx hk) (by omega)
theorem Good.kill {base:aY}{S:St}(h:SR base S){i:aY}{b:kM}(hb:S.s.bL i=some b):Good base S ⟨S.s.put i (.eE (Cl.kill b)),S.e,S.w⟩:=by
 have OH:∀c,¬Live (Cl.kill b) c:=fun c hc=>by have h1:=hc.1;have h2:=hc.2;simp only[Cl.kill] at h1 h2;omega
 refine SR.change h i S.w.heap.size S.s.next (Cl.kill b) S.e.loc S.w (h.lt hb) (a3 _) h.room (.inl (h.lt hb)) (fun es he=>mc hb he) (by simp[Cl.kill]) ?_ (fun _ _=>rfl) (fun _ _ _=>rfl)
  (fun j bj c' _ tp gj=>cD (h.Ib j bj tp c' gj)) (fun r es he=>cD (h.OE he)) (fun c hc=>cT hc (OH c)) (fun c hc=>cT hc (OH c)) (fun _ c hc=>cT hc (OH c))
  (fun _ _ _ _ _ _ _ c hc=>cT hc (OH c)) (fun arr E fr hk=>cT (fx hk) (by omega)) (Below.refl _ _) (a3 _)
 intro b0 mI;rw[hb] at mI;obtain rfl:=ab mI
 exact⟨a3 _,by simp only[Cl.kill];omega,rfl,fun _ _ _=>rfl⟩
theorem Good.reuse {base:aY}{S:St}(h:SR base S)(gw:S.s.room=true)(mD:aY){k o:aY}{arr:bw af}{E:ao}{fr:aY×aY}(hk:S.w.heap[k]?=some (.cells arr E fr))(wL:fr.1=fr.2\/arr.size<=fr.1/\mD=1)
  (hb:base<=k) (hex:∀j bj c',S.s.bL j=some bj->Live bj c' ->(S.e.loc j c').1≠k) {old new new' :aR af} (hold:∀p,p<old.length->∃v,S.w.cell? ⟨k,o+p,none⟩=some v/\VR S (old.getD p undef) v)
  (hv:ft S new new') (gm:o+old.length+new'.length<=arr.size):
  Good base S ⟨S.s.new (.eE ⟨old++new,1,true,mD⟩),⟨fun j c=>if j=S.s.next then(k,o) else S.e.loc j c,S.e.mp⟩,setCells S.w k (o+old.length) new'⟩:=by
 have a7:=xS gw;obtain⟨BL,xT⟩:=h.fresh;have Fw:new'.length=new.length:=hv.1.symm;obtain⟨mz,OG,wN,Z1⟩:=jY new' S.w k (o+old.length) arr E fr hk gm;refine SR.change h S.s.next k (S.s.next+1) ⟨old++new,1,true,mD⟩ _ _ (by omega) (by omega) (by omega) (.inr rfl) (fun es he=>by rw[xT] at he;cases he) (a3 _)
  (fun b hb=>by rw[BL] at hb;cases hb) (fun j hj=>by funext c;rw[bA hj]) (fun j hj _=>me _ _ _ _ _ hj) (fun j bj c _ hj hc=>hex j bj c hj hc) ?_
  (fun c _=>by simp only[ea];rw[ie];exact fx hk) ?_ ?_ ?_ ?_ (mG _ _ _ _ _ hb) (by rw[ie];exact a3 _)
 ·intro r es he e;obtain⟨_,hJ,tj,h2,_⟩:=h.map r es he;rw[e,hk] at h2;cases h2
 ·intro c hc p hp;have pg:p<old.length+new.length:=by have:=hc.2;simp only[ch] at this;omega
  simp only[ea];rw[cF _ _ _ _ _ _ OG,Z1];by_cases BK:p<old.length
  ·rw[bA (by omega),fy _ _ _ BK,<-cF _ _ _ _ _ _ hk];exact hold p BK
  rw[ck (by omega),mJ _ _ _ (by omega),show o+p-(o+old.length)=p-old.length by omega];exact⟨_,rfl,hv.2 (p-old.length) (by omega)⟩
 ·intro _ c _;simp only[ea];exact⟨hb,⟨mz,E,fr,OG,by rw[wN];exact wL⟩,fun j bj _ hj c' gj=>hex j bj c' hj gj,by intros;first|rfl|trivial⟩
 ·intro j bj _ hj _ c' gj c _ e;simp only[ea] at e;exact hex j bj c' hj gj e.symm
 intro P8 E0 fr0 Jv;rw[hk] at Jv;injection Jv with Jv;injection Jv with e1 e2 e3
 subst e1;subst e2
 exact⟨mz,fr,OG,wN⟩
theorem SR.Gu {base:aY}{S:St}(h:SR base S)(i next:aY)(es2:aR (af×af))(P9:aY->aY)(w' :ca)
  (hi:i<next) (hn:S.s.next<=next) (hr:0<=16000000) (xJ:i<S.s.next\/i+1=next) (qK:S.s.bL i=none)
  (hold:∀es,S.s.fj i=some es->P9 i=S.e.mp i) (Sm:∀r,r≠i->P9 r=S.e.mp r)
  (hw:∀k,k≠P9 i->k<S.w.heap.size->w'.heap[k]?=S.w.heap[k]?) (hM:∀(arr:bw af) (E:ao) (fr:aY×aY),S.w.heap[P9 i]?≠some (.cells arr E fr)) (hb:base<=P9 i)
  (adk:∃(hJ:bw MapEntry) (tj:aY),w'.heap[P9 i]?=some (.map hJ tj)/\ER S es2 hJ.toList)
  (Z2:∀r es,r≠i->S.s.fj r=some es->S.e.mp r≠P9 i) (pf:Below base S.w w'):
  Good base S ⟨⟨Tr.set (depth i) S.s.heap i (.map es2),next⟩,⟨S.e.loc,P9⟩,w'⟩:=by
 have jq:∀j,j≠i->(Tr.set (depth i) S.s.heap i (.map es2)).get j=S.s.heap.get j:=fun j hj=>Tr.cK _ _ _ _ _ (Ne.symm hj)
 have JM:(Tr.set (depth i) S.s.heap i (.map es2)).get i=some (.map es2):=Tr.bF _ _ _ _ (deep (by omega));have fV:(⟨Tr.set (depth i) S.s.heap i (.map es2),next⟩:au).fj i=some es2:=by simp only[au.fj,JM]
 have m3:∀j,(⟨Tr.set (depth i) S.s.heap i (.map es2),next⟩:au).bL j=S.s.bL j:=fun j=>by
  by_cases hj:j=i
  ·subst hj;rw[qK];simp only[au.bL,JM]
  simp only[au.bL,jq j hj]
 have hmm:∀j,j≠i->(⟨Tr.set (depth i) S.s.heap i (.map es2),next⟩:au).fj j=S.s.fj j:=fun j hj=>by simp only[au.fj,jq j hj]
 have SK:∀(k:aY) (arr:bw af) (E:ao) (fr:aY×aY),S.w.heap[k]?=some (.cells arr E fr)->w'.heap[k]?=some (.cells arr E fr):=fun k arr E fr hk=>by
  rw[hw k (fun e=>hM arr E fr (e▸hk)) (fx hk)];exact hk
 have tL:Ext S ⟨⟨Tr.set (depth i) S.s.heap i (.map es2),next⟩,⟨S.e.loc,P9⟩,w'⟩:=by
  refine⟨fun j b hb=>⟨b,by rw[<-hb];exact m3 j,a3 _,a3 _,rfl,fun _ _ _=>rfl⟩,fun r es he=> ?_,fun k arr E fr hk=>⟨arr,fr,SK k arr E fr hk,rfl⟩⟩;by_cases Fu:r=i
  ·subst Fu;exact⟨⟨es2,fV⟩,hold es he⟩
  exact⟨⟨es,by rw[<-he];exact hmm r Fu⟩,Sm r Fu⟩
 refine⟨⟨hr,?_,?_,?_,?_,?_,?_,e9 h.size pf.size,?_⟩,tL,pf⟩
 ·intro j o hj;by_cases gD:j=i
  ·show j<next;omega
  have V1:(Tr.set (depth i) S.s.heap i (.map es2)).get j=some o:=hj;rw[jq j gD] at V1;have:=h.bound j o V1;show j<next;omega
 ·intro j b hb;rw[m3] at hb;exact h.low j b hb
 ·intro j b hb c hc p hp;rw[m3] at hb;obtain⟨v,h1,h2⟩:=h.cell j b hb c hc p hp;obtain⟨arr,E,fr,h3,h4⟩:=v7 h1;exact⟨v,by rw[cF _ _ _ _ _ _ (SK _ _ _ _ h3)];exact h4,h2.mono tL⟩
 ·intro j b hb CF c hc;rw[m3] at hb;obtain⟨h1,⟨arr,E,fr,h2,h3⟩,h4,h5⟩:=h.own j b hb CF c hc;exact⟨h1,⟨arr,E,fr,SK _ _ _ _ h2,h3⟩,fun k bk hk c' gj e=>by rw[m3] at hk;exact h4 k bk hk c' gj e,h5⟩
 ·intro r es he;by_cases Fu:r=i
  ·subst Fu;rw[fV] at he;obtain rfl:=ab he
   obtain⟨hJ,tj,h1,h2⟩:=adk;exact⟨hb,hJ,tj,h1,h2.mono tL⟩
  rw[hmm r Fu] at he;obtain⟨h1,hJ,tj,h2,h3⟩:=h.map r es he;refine⟨by show base<=P9 r;rw[Sm r Fu];exact h1,hJ,tj,?_,h3.mono tL⟩;show w'.heap[P9 r]?=_;rw[Sm r Fu,hw _ (Z2 r es Fu he) (fx h2)];exact h2
 ·intro r r' es hJ he Mh Z0;have CG:P9 r=P9 r' :=Z0;by_cases Fu:r=i
  ·by_cases Ic:r' =i
   ·omega
   rw[hmm r' Ic] at Mh;subst Fu;rw[Sm r' Ic] at CG;exact cT CG.symm (Z2 r' hJ Ic Mh)
  rw[hmm r Fu] at he;by_cases Ic:r' =i
  ·subst Ic;rw[Sm r Fu] at CG;exact cT CG (Z2 r es Fu he)
  rw[hmm r' Ic] at Mh;rw[Sm r Fu,Sm r' Ic] at CG;exact h.Ia r r' es hJ he Mh CG
 intro j b hb c hc;rw[m3] at hb;exact e5 (h.Ib j b hb c hc) pf.size
theorem Good.Z3 {base:aY}{S:St}(h:SR base S)(gw:S.s.room=true):
  Good base S ⟨S.s.new (.map []),⟨S.e.loc,fun r=>if r=S.s.next then S.w.heap.size else S.e.mp r⟩,S.w.alloc (.map #[] 0)⟩:=by
 have a7:=xS gw;obtain⟨BL,xT⟩:=h.fresh;refine SR.Gu h S.s.next (S.s.next+1) [] _ _ (by omega) (by omega) (by omega) (.inr rfl) BL (fun es he=>by rw[xT] at he;cases he) (fun r hr=>by rw[bA hr]) (fun k _ hk=>Below.heap_alloc _ _ _ hk) ?_
  (by simp only[ea];exact h.size) ?_ ?_ ((Below.refl _ _).alloc h.size _)
 ·intro arr E fr hk;simp only[ea] at hk;exact cT (fx hk) (by omega)
 ·simp only[ea];exact⟨#[],0,heap_alloc_new S.w _,trivial⟩
 intro r es _ he;simp only[ea];exact cD (h.OE he)
theorem Gv {S:St}{v:af}(h:iD v=true):VR S v v:=by
 unfold iD at h;split at h
 ·exact .bool _
 ·exact .int _ _
 ·exact .string _
 ·exact .Me
 ·exact .jX
 ·exact .Mf
 ·exact .nilFunc
 ·exact .nilIface
 cases h
theorem Gw {S:St}{l:aR af}(h:l.all iD=true):ft S l l:=by
 induction l with
 |nil=>exact ft.nil
 |cons v l ih=>
  simp only[gf,aC] at h;exact ft.cons (Gv h.1) (ih h.2)
theorem np {S:St}{v:af}(h:cr v=true):VR S v v:=by
 unfold cr at h;split at h
 ·exact ft.toList (Gw h)
 ·have:=Gw (S:=S) h;exact .tuple _ _ this.1 this.2
 exact Gv h
structure FR (S:St) (f:aZ) (a:Act):Prop where
 n:f.n=a.tmps.size
 small:f.n<=16000000
 get:∀t,t<f.n->VR S (f.get t) (a.tmps.getD t undef)
theorem FR.mono {S T:St}(h:Ext S T){f:aZ}{a:Act}(hf:FR S f a):FR T f a:=⟨hf.n,hf.small,fun t ht=>(hf.get t ht).mono h⟩
theorem bM {S:St}{f:aZ}{a:Act}(hf:FR S f a){x:c6}{v:af}(h:a5 f x=some v):VR S v (a.eval x):=by
 cases x with
 |tmp t=>
  simp only[a5] at h;split at h
  ·rename_i ht;obtain rfl:=ab h;exact hf.get t (by simpa [dK] using ht)
  cases h
 |const c=>
  simp only[a5] at h;split at h
  ·rename_i ht;obtain rfl:=ab h;exact np ht
  cases h
 |global g=>simp[a5] at h
 |func g=>
  simp only[a5] at h;obtain rfl:=ab h;exact .func g #[] #[] #[] #[] rfl rfl (fun i hi=>by simp at hi) (fun i hi=>by simp at hi)
theorem rZ {S:St}{f:aZ}{a:Act}(hf:FR S f a):∀{xs:aR c6} {l:aR af},ad f xs=some l->ft S l (xs.map a.eval):=by
 intro xs
 induction xs with
 |nil=>intro l h;simp only[ad] at h;obtain rfl:=ab h;exact ft.nil
 |cons x xs ih=>
  intro l h;simp only[ad] at h;split at h
  ·rename_i v hv;split at h
   ·rename_i vs hvs;obtain rfl:=ab h;exact ft.cons (bM hf hv) (ih hvs)
   cases h
  cases h
theorem Ih {S:St}{f:aZ}{a:Act}(hf:FR S f a){x:av c6}{o:av af}(h:ai f x=some o):
  (o=none/\x.map a.eval=none)\/∃v v',o=some v/\x.map a.eval=some v' /\VR S v v' :=by
 cases x with
 |none=>simp only[ai] at h;obtain rfl:=ab h;exact .inl ⟨rfl,rfl⟩
 |some x=>
  simp only[ai] at h;split at h
  ·rename_i v hv;obtain rfl:=ab h;exact .inr ⟨v,_,rfl,rfl,bM hf hv⟩
  cases h
theorem fH {P:an}{t:ao}{b:cz}(h:bU P t=some b)(w:ca):(isAgg t).run P w= .ok b w:=by
 unfold bU at h;split at h
 ·rename_i fs hu;obtain rfl:=ab h;simp[isAgg,run_underlying hu]
 ·rename_i n e hu;obtain rfl:=ab h;simp[isAgg,run_underlying hu]
 ·rename_i d h1 h2 hu;obtain rfl:=ab h;simp only[isAgg,Sem.run_bind,run_underlying hu,ax];cases d<;>first|rfl|(exact cT hu (h1 _))|(exact cT hu (h2 _ _))
 cases h
theorem xU {P:an}{t:ao}{n:aY}(h:br P t=some n):∃i,P.info? t=some i/\i.size=n:=by
 unfold br at h;split at h
 ·rename_i i hi;exact⟨i,hi,ab h⟩
 cases h
theorem run_sizeOf {P:an}{t:ao}{n:aY}(h:br P t=some n)(w:ca):(sizeOf t).run P w= .ok n w:=by
 obtain⟨i,hi,rfl⟩:=xU h;simp[sizeOf,typeInfo,hi]
theorem xV {P:an}{t:ao}{z:af}(h:b6 P t=some z):∃i,P.info? t=some i/\i.zero=some z:=by
 unfold b6 at h;split at h
 ·rename_i i hi;exact⟨i,hi,h⟩
 cases h
theorem eR {P:an}{t:ao}{z:af}(h:b6 P t=some z)(w:ca):(zeroValue t).run P w= .ok z w:=by
 obtain⟨i,hi,hz⟩:=xV h;simp[zeroValue,typeInfo,hi,hz]
theorem qs {P:an}{t:ao}{n:aY}(h:dX P t=some n):∃i,P.info? t=some i/\i.bytes=n:=by
 unfold dX at h;split at h
 ·rename_i i hi;exact⟨i,hi,ab h⟩
 cases h
theorem xW {P:an}{t:ao}(h:Cy P t=true):P.underlying t=some (.int .u8):=by
 unfold Cy at h;split at h
 ·assumption
 cases h
def Reads (P:an)(S:St)(m:Sem af)(v:af):Prop:=∃v',m.run P S.w= .ok v' S.w/\VR S v v'
theorem VR.r5 {S:St}{i off c:aY}{v:af}(h:VR S (.pointer (some ⟨i,off,some c⟩)) v):∃a,v= .pointer (some a)/\vX S i off c a:=by
 cases h with|ptr _ _ _ a hr=>exact⟨a,rfl,hr⟩
theorem VR.Cf {S:St}{cs:bw af}{v:af}(h:VR S (.agg cs) v):∃gY,v= .agg gY/\ft S cs.toList gY.toList:=by
 cases h with|agg _ gY h1 h2=>exact⟨gY,rfl,h1,h2⟩
theorem VR.Qa {S:St}{cs:bw af}{v:af}(h:VR S (.tuple cs) v):∃gY,v= .tuple gY/\ft S cs.toList gY.toList:=by
 cases h with|tuple _ gY h1 h2=>exact⟨gY,rfl,h1,h2⟩
theorem VR.SL {S:St}{g:eL}{ars bs:bw af}{v:af}(h:VR S (.func (.func g) ars bs) v):∃OC OD,v= .func (.func g) OC OD/\ft S ars.toList OC.toList/\ft S bs.toList OD.toList:=by
 cases h with|func _ _ _ OC OD ha hb h1 h2=>exact⟨OC,OD,rfl,⟨ha,h1⟩,hb,h2⟩
theorem vX.addr {S:St}{i off c:aY}{a:Addr}(h:vX S i off c a){b:kM}(hb:S.s.bL i=some b)(hc:Live b c):a=⟨(S.e.loc i c).1,(S.e.loc i c).2+off,none⟩:=by
 obtain⟨b',jL,_,hl⟩:=h;rw[hb] at jL;obtain rfl:=ab jL
 exact hl hc.1
theorem JO {P:an}{base:aY}{S:St}(h:SR base S){t:ao}{a a' v:af}(ha:VR S a a')(hl:aN P S.s t a=some v):Reads P S (Instr.loadAt t a') v:=by
 unfold aN at hl;split at hl
 ·rename_i i off c;obtain⟨a1,rfl,hr⟩:=ha.r5;split at hl
  ·rename_i n nd cX;split at hl
   ·rename_i l hc;obtain rfl:=ab hl;obtain⟨b,hb,gv,_,_,wO,Fw,mF⟩:=h.cells hc;obtain rfl:=hr.addr hb gv;refine⟨.agg (zJ S.w (S.e.loc i c).1 ((S.e.loc i c).2+off) n).toArray,?_,ft.agg Fw⟩;simp[Instr.loadAt,Instr.sureAddr,loadVar,fH nd,run_sizeOf cX,run_loadCells P S.w _ _ n mF]
   cases hl
  ·rename_i nd;split at hl
   ·rename_i v0 r0 hc;obtain rfl:=ab hl;obtain⟨b,hb,gv,_,_,wO,Fw,mF⟩:=h.cells hc;obtain rfl:=hr.addr hb gv;obtain⟨u,hu⟩:=mF 0 (by omega);have h0:=Fw.2 0 (by simp);rw[zK _ _ _ _ _ (by omega),hu] at h0;simp only[dw] at hu;refine⟨u,?_,by simpa using h0⟩;simp[Instr.loadAt,Instr.sureAddr,loadVar,fH nd,hu]
   cases hl
  cases hl
 cases hl
theorem SM {P:an}{S:St}{op:BinOp}{k:eG}{x y:e8}{v:af}{t:ao}{ox oy:c6}(h:kS op k x y=some v)(hs:op≠ .shl)(tQ:op≠ .shr):
  Reads P S (do eqGuard op t ox oy (.int k x) (.int k y);binOp op t (.int k x) (.int k y)) v:=by
 cases op<;>simp only[kS] at h<;>first
  |exact cT rfl hs
  |exact cT rfl tQ
  |(obtain rfl:=ab h;refine⟨_,?_,by first|exact .int _ _|exact .bool _⟩;simp[go_sem,gT,g1];done)
  |(split at h
    ·cases h
    rename_i hy;obtain rfl:=ab h;refine⟨_,?_,.int _ _⟩;simp[go_sem,Op.intDiv,hy])
theorem CM {P:an}{S:St}{op:BinOp}{k k' :eG}{x y:e8}{v:af}{t:ao}{ox oy:c6}(h:vn op k x y=some v):
  Reads P S (do eqGuard op t ox oy (.int k x) (.int k' y);binOp op t (.int k x) (.int k' y)) v:=by
 unfold vn at h;split at h
 ·cases h
 rename_i hy;cases op<;>simp only at h<;>first
  |(cases h;done)
  |(obtain rfl:=ab h;refine⟨_,?_,.int _ _⟩;simp[eqGuard_shl,eqGuard_shr,binOp_shl,binOp_shr,Op.shift,hy])
theorem size_data (x:ee):x.size=x.data.toList.length:=by rw[c8];rfl
theorem zL {x y:ee}(h:x.data.toList=y.data.toList):x=y:=by
 cases x;cases y;simp only at h;congr 1;exact cA.1 h
theorem Qb (x y:ee):x++y=⟨(x.data.toList++y.data.toList).toArray⟩:=by
 apply zL;rw[ByteArray.data_append,c9]
theorem SN {P:an}{S:St}{op:BinOp}{x y:ee}{v:af}{t:ao}{ox oy:c6}(h:JH op x y=some v):
  Reads P S (do eqGuard op t ox oy (.string x) (.string y);binOp op t (.string x) (.string y)) v:=by
 have hb:∀op,binOp op t (.string x) (.string y)=fN op x y:=fun op=>by cases op<;>rfl
 simp only[eqGuard_at_string,hb];cases op<;>simp only[JH] at h<;>first
  |(cases h;done)
  |(split at h
    ·rename_i hle;obtain rfl:=ab h;refine⟨_,?_,.string _⟩;have adm:x.size+y.size<=4294967296:=by rw[size_data,size_data];simpa [cm] using hle
     have hn:¬((9223372036854775807:e8)<(x.size:e8)+(y.size:e8)):=by omega
     simp[fN,hn,Qb]
    cases h)
  |(obtain rfl:=ab h;refine⟨_,?_,.bool _⟩;simp[fN,ByteArray.toList_eq])
theorem Qc {P:an}{S:St}{t:ao}{x y x' y' :af}{b:cz}(d:aY)(hx:VR S x x')(hy:VR S y y')(h:qJ P t x y=some b):(cd (d+1) t x' y').run P S.w= .ok b S.w:=by
 unfold qJ at h;split at h
 ·rename_i a1 a2 hu;cases hx;cases hy;obtain rfl:=ab h;simp[cd,run_underlying hu]
 ·rename_i e q hu;cases hx;obtain rfl:=ab h;cases hy<;>simp[cd,run_underlying hu]
 ·rename_i e q hu;obtain rfl:=ab h;cases hx<;>(cases hy;simp[cd,run_underlying hu])
 ·rename_i e n c q m d hu;obtain rfl:=ab h;cases hx;cases hy<;>simp[cd,run_underlying hu]
 ·rename_i e q n c m d hu;obtain rfl:=ab h;cases hx;cases hy;simp[cd,run_underlying hu]
 ·rename_i e1 e2 q hu;obtain rfl:=ab h;cases hx;cases hy<;>simp[cd,run_underlying hu]
 ·rename_i e1 e2 q hu;obtain rfl:=ab h;cases hx;cases hy;simp[cd,run_underlying hu]
 ·rename_i hu;obtain rfl:=ab h;cases hx;cases hy;simp[cd,run_underlying hu]
 ·rename_i hu;obtain rfl:=ab h;cases hx;cases hy;simp[cd,run_underlying hu]
 ·rename_i hu;obtain rfl:=ab h;cases hx;cases hy;simp[cd,run_underlying hu]
 cases h
theorem SO {P:an}{S:St}{t:ao}{x y x' y' :af}{b:cz}(hx:VR S x x')(hy:VR S y y')(h:qJ P t x y=some b):(g0 t x' y').run P S.w= .ok b S.w:=
 Qc 9999 hx hy h
def nO:af->cz
 | .bool _| .pointer _| .slice _ _ _| .map _| .nilFunc| .func _ _ _=>true
 |_=>false
theorem Mk {P:an}{t:ao}{x y:af}{b:cz}(h:qJ P t x y=some b):nO x=true:=by
 unfold qJ at h;split at h<;>first|rfl|(cases h;done)
theorem BM (op:BinOp)(t:ao)(ox oy:c6)(x y:af)(h:nO x=true):eqGuard op t ox oy x y=pure ():=by
 cases x<;>first|(simp[nO] at h;done)|(cases op<;>rfl)
theorem VR.kind {S:St}{v v' :af}(h:VR S v v'):nO v=nO v' :=by cases h<;>rfl
theorem Fy (t:ao)(x y:af)(h:nO x=true):binOp .eql t x y=(do pure (.bool (<-g0 t x y))):=by
 cases x<;>first|(simp[nO] at h;done)|(cases y<;>rfl)
theorem Fz (t:ao)(x y:af)(h:nO x=true):binOp .neq t x y=(do pure (.bool (!(<-g0 t x y)))):=by
 cases x<;>first|(simp[nO] at h;done)|(cases y<;>rfl)
theorem WC {P:an}{S:St}{op:BinOp}{t:ao}{x y x' y' v:af}{ox oy:c6}(hx:VR S x x')(hy:VR S y y')
  (h:(match op with
   | .eql=>match qJ P t x y with|some b=>some (.bool b)|none=>none
   | .neq=>match qJ P t x y with|some b=>some (.bool (!b))|none=>none
   |_=>none)=some v):Reads P S (do eqGuard op t ox oy x' y';binOp op t x' y') v:=by
 cases op<;>simp only at h<;>first
  |(cases h;done)
  |(split at h
    ·rename_i b hb;obtain rfl:=ab h;have hk:nO x' =true:=by rw[<-hx.kind];exact Mk hb
     refine⟨_,?_,.bool _⟩;simp[BM _ _ _ _ _ _ hk,Fy _ _ _ hk,Fz _ _ _ hk,SO hx hy hb]
    cases h)
theorem wQ {S:St}:∀{xs ys Jw Jx:aR af} {b:cz},iB xs ys=some b->ft S xs Jw->ft S ys Jx->iB Jw Jx=some b
 |[],[],Jw,Jx,b,h,hx,hy=>by rw[hx.lI,hy.lI];exact h
 |x::r,y::q,Jw,Jx,b,h,hx,hy=>by
  obtain⟨x',r',rfl,kU,kA⟩:=hx.cons_inv;obtain⟨y',q',rfl,Gx,nh⟩:=hy.cons_inv;unfold iB at h;split at h
  ·rename_i CN Qd;cases CN
  ·rename_i k a r0 k' b0 q0 CN Qd;injection CN with e1 e2;injection Qd with e3 e4
   subst e1;subst e2;subst e3;subst e4
   cases kU;cases Gx
   split at h
   ·rename_i t hk ht;have:=wQ ht kA nh;unfold iB;simp only[hk,this];exact h
   cases h
  cases h
 |[],y::q,_,_,b,h,_,_=>by simp[iB] at h
 |x::r,[],_,_,b,h,_,_=>by simp[iB] at h
theorem JP {P:an}{e:ao}{k' :eG}(he:P.underlying e=some (.int k'))(nd:bU P e=some false)(w:ca)(d:aY)(xs ys:bw af):∀(len i:aY) (b:cz),iB (xs.toList.drop i) (ys.toList.drop i)=some b->xs.size=i+len->ys.size=i+len->
  (forIn (fS i len 1) ((none:av cz),()) fun i __s=>do
   let a<-part e xs (i*1)
   let c<-part e ys (i*1)
   let r<-cd (d+1) e a c
   if(!r)=true then pure (ForInStep.done (some false,())) else pure (ForInStep.yield (none,()))).run P w= .ok (if b then none else some false,()) w:=by
 intro len
 induction len with
 |zero=>
  intro i b h hx hy;rw[cc (by simp;omega),cc (by simp;omega)] at h;simp only[iB] at h;obtain rfl:=ab h;simp
 |succ len ih=>
  intro i b h hx hy;have Ml:i<xs.toList.length:=by simp;omega
  have zu:i<ys.toList.length:=by simp;omega
  rw[bt Ml,bt zu] at h;unfold iB at h;split at h
  ·rename_i CN _;cases CN
  ·rename_i k a r0 k2 b0 q0 CN Qd;injection CN with e1 e2;injection Qd with e3 e4
   subst e2;subst e4
   split at h
   case h_2=>cases h
   rename_i t hk ht;have xX:k=k2:=by split at hk;assumption;cases hk
   subst xX;obtain rfl:=ab h;have V2:(part e xs (i*1)).run P w= .ok (.int k a) w:=by
    have:xs[i]?=some (.int k a):=by rw[<-bl,b7 Ml,e1]
    simp[part,fH nd,this]
   have V3:(part e ys (i*1)).run P w= .ok (.int k b0) w:=by
    have:ys[i]?=some (.int k b0):=by rw[<-bl,b7 zu,e3]
    simp[part,fH nd,this]
   have heq:(cd (d+1) e (.int k a) (.int k b0)).run P w= .ok (a==b0) w:=by simp[cd,run_underlying he]
   rw[List.range'_succ,List.forIn_cons];simp only[Sem.run_bind,V2,V3,heq,ax];cases Fm:(a==b0) with
   |false=>simp
   |true=>
    simp only[eD,dP,ff,Sem.run_pure,ax,en];exact ih (i+1) t ht (by omega) (by omega)
  cases h
theorem zM {P:an}(w:ca)(d:aY){n:aY}{t e:ao}{k:eG}{xs ys:bw af}{b:cz}(hu:P.underlying t=some (.array n e))(cX:br P e=some 1)(wR:P.underlying e=some (.int k))(nd:bU P e=some false)
  (h:iB (xs.toList.drop 0) (ys.toList.drop 0)=some b) (hx:xs.size=0+n) (hy:ys.size=0+n):(cd (d+1+1) t (.agg xs) (.agg ys)).run P w= .ok b w:=by
 rw[cd];simp only[Sem.run_bind,run_underlying hu,ax,run_sizeOf cX];rw[Std.Legacy.Range.forIn_eq_forIn_range'];have:=JP wR nd w d xs ys n 0 b h hx hy;have hr:fS [:n].start [:n].size [:n].step=fS 0 n 1:=by simp[Std.Legacy.Range.size]
 rw[hr,this];cases b<;>simp
theorem v8 {P:an}(w:ca)(d:aY){xs ys:bw af}:∀(fs:aR Field) (i:aY) (b:cz),vo P fs i=true->iB (xs.toList.drop i) (ys.toList.drop i)=some b->xs.size=i+fs.length->ys.size=i+fs.length->
  (c3 (d+1) xs ys fs).run P w= .ok b w
 |[],i,b,_,h,hx,hy=>by
  rw[cc (by simp at hx;simp;omega),cc (by simp at hy;simp;omega)] at h;simp only[iB] at h;obtain rfl:=ab h;simp[c3]
 |f::r,i,b,hf,h,hx,hy=>by
  have Ml:i<xs.toList.length:=by simp at hx;simp;omega
  have zu:i<ys.toList.length:=by simp at hy;simp;omega
  rw[bt Ml,bt zu] at h;unfold vo at hf;rw[aC] at hf;obtain⟨BL,xT⟩:=hf;split at BL
  case h_2=>cases BL
  rename_i k' wR;simp only[aC,b5] at BL;obtain⟨xY,eO⟩:=BL;have CO:f.name≠ "_" :=by simpa using xY
  have nd:bU P f.type=some false:=by unfold bU;rw[wR]
  unfold iB at h;split at h
  ·rename_i CN _;cases CN
  ·rename_i k a r0 k2 b0 q0 CN Qd;injection CN with e1 e2;injection Qd with e3 e4
   subst e2;subst e4
   split at h
   case h_2=>cases h
   rename_i t hk ht;have xX:k=k2:=by split at hk;assumption;cases hk
   subst xX;obtain rfl:=ab h;have V2:(part f.type xs f.offset).run P w= .ok (.int k a) w:=by
    have:xs[i]?=some (.int k a):=by rw[<-bl,b7 Ml,e1]
    simp[part,fH nd,eO,this]
   have V3:(part f.type ys f.offset).run P w= .ok (.int k b0) w:=by
    have:ys[i]?=some (.int k b0):=by rw[<-bl,b7 zu,e3]
    simp[part,fH nd,eO,this]
   have heq:(cd (d+1) f.type (.int k a) (.int k b0)).run P w= .ok (a==b0) w:=by simp[cd,run_underlying wR]
   rw[c3,ck CO];simp only[Sem.run_bind,V2,V3,heq,ax];cases Fm:(a==b0) with
   |false=>simp
   |true=>
    simp only[eD,dP,ff,en];exact v8 w d r (i+1) t xT ht (by simp at hx;omega) (by simp at hy;omega)
  cases h
theorem nR {x y:af}{b:cz}(h:vp x y=some b):(∃k a c,x= .int k a/\y= .int k c/\b=(a==c))\/(∃a c,x= .string a/\y= .string c/\b=(a.toList==c.toList)):=by
 unfold vp at h;split at h
 ·rename_i k a k' c;split at h
  ·rename_i hk;subst hk;exact .inl ⟨k,a,c,rfl,rfl,(ab h).symm⟩
  cases h
 ·rename_i a c;exact .inr ⟨a,c,rfl,rfl,(ab h).symm⟩
 cases h
theorem kV {x y:af}{r q:aR af}{b:cz}(h:dd (x::r) (y::q)=some b):∃a t,vp x y=some a/\dd r q=some t/\b=(a&&t):=by
 simp only[dd] at h;split at h
 ·rename_i a t h1 h2;exact⟨a,t,h1,h2,(ab h).symm⟩
 cases h
theorem tR {S:St}:∀{xs ys Jw Jx:aR af} {b:cz},dd xs ys=some b->ft S xs Jw->ft S ys Jx->Jw=xs/\Jx=ys
 |[],[],Jw,Jx,b,h,hx,hy=>⟨hx.lI,hy.lI⟩
 |x::r,y::q,Jw,Jx,b,h,hx,hy=>by
  obtain⟨x',r',rfl,kU,kA⟩:=hx.cons_inv;obtain⟨y',q',rfl,Gx,nh⟩:=hy.cons_inv;obtain⟨a,t,h1,h2,_⟩:=kV h;obtain⟨e1,e2⟩:=tR h2 kA nh;rw[e1,e2];rcases nR h1 with ⟨k,a,c,rfl,rfl,_⟩|⟨a,c,rfl,rfl,_⟩
  ·cases kU;cases Gx;exact⟨rfl,rfl⟩
  cases kU;cases Gx;exact⟨rfl,rfl⟩
 |[],y::q,_,_,b,h,_,_=>by simp[dd] at h
 |x::r,[],_,_,b,h,_,_=>by simp[dd] at h
theorem ph {P:an}(w:ca)(d:aY){xs ys:bw af}:∀(fs:aR Field) (i:aY) (b:cz),jk P fs (xs.toList.drop i) i=true->dd (xs.toList.drop i) (ys.toList.drop i)=some b->xs.size=i+fs.length->ys.size=i+fs.length->
  (c3 (d+1) xs ys fs).run P w= .ok b w
 |[],i,b,_,h,hx,hy=>by
  rw[cc (by simp at hx;simp;omega),cc (by simp at hy;simp;omega)] at h;simp only[dd] at h;obtain rfl:=ab h;simp[c3]
 |f::r,i,b,hf,h,hx,hy=>by
  have Ml:i<xs.toList.length:=by simp at hx;simp;omega
  have zu:i<ys.toList.length:=by simp at hy;simp;omega
  rw[bt Ml,bt zu] at h;rw[bt Ml] at hf;simp only[jk] at hf;rw[aC] at hf;obtain⟨BL,xT⟩:=hf;obtain⟨a,t,h1,h2,rfl⟩:=kV h;have key:f.name≠ "_" /\(part f.type xs f.offset).run P w= .ok xs.toList[i] w/\(part f.type ys f.offset).run P w= .ok ys.toList[i] w/\(cd (d+1) f.type xs.toList[i] ys.toList[i]).run P w= .ok a w:=by
   have V2:∀(nd:bU P f.type=some false) (eO:f.offset=i),(part f.type xs f.offset).run P w= .ok xs.toList[i] w:=fun nd eO=>by
    have:xs[i]?=some xs.toList[i]:=by rw[<-bl,b7 Ml]
    simp only[part,Sem.run_bind,fH nd,eO,this,ax];simp
   have V3:∀(nd:bU P f.type=some false) (eO:f.offset=i),(part f.type ys f.offset).run P w= .ok ys.toList[i] w:=fun nd eO=>by
    have:ys[i]?=some ys.toList[i]:=by rw[<-bl,b7 zu]
    simp only[part,Sem.run_bind,fH nd,eO,this,ax];simp
   split at BL
   ·rename_i k' k0 n0 wR Z4;simp only[aC,b5] at BL;obtain⟨xY,eO⟩:=BL;have nd:bU P f.type=some false:=by unfold bU;rw[wR]
    refine⟨by simpa using xY,V2 nd eO,V3 nd eO,?_⟩;rcases nR h1 with ⟨k,a1,c1,e1,e2,rfl⟩|⟨a1,c1,e1,e2,rfl⟩
    ·rw[e1,e2];exact run_equalIn_int w d f.type k k' a1 c1 wR
    rw[Z4] at e1;cases e1
   ·rename_i k0 wR Z4;simp only[aC,b5] at BL;obtain⟨xY,eO⟩:=BL;have nd:bU P f.type=some false:=by unfold bU;rw[wR]
    refine⟨by simpa using xY,V2 nd eO,V3 nd eO,?_⟩;rcases nR h1 with ⟨k,a1,c1,e1,e2,rfl⟩|⟨a1,c1,e1,e2,rfl⟩
    ·rw[Z4] at e1;cases e1
    rw[e1,e2];exact run_equalIn_string w d f.type a1 c1 wR
   cases BL
  obtain⟨CO,V2,V3,heq⟩:=key;rw[c3,ck CO];simp only[Sem.run_bind,V2,V3,heq,ax];cases a with
  |false=>simp
  |true=>
   simp only[eD,dP,ff,en];exact ph w d r (i+1) t xT h2 (by simp at hx;omega) (by simp at hy;omega)
theorem tS:∀(n:aY) (xs ys:aR af) (b:cz),dd xs ys=some b->∃a t,dd (xs.take n) (ys.take n)=some a/\dd (xs.drop n) (ys.drop n)=some t/\b=(a&&t)
 |0,_,_,b,h=>⟨true,b,by simp[dd],by simpa using h,by simp⟩
 |_+1,[],[],b,h=>⟨true,b,by simp[dd],by simpa using h,by simp⟩
 |n+1,x::r,y::q,b,h=>by
  obtain⟨a,t,h1,h2,rfl⟩:=kV h;obtain⟨a2,t2,h3,h4,rfl⟩:=tS n r q t h2;refine⟨a&&a2,t2,?_,by simpa using h4,by rw[Bool.and_assoc]⟩;simp only[eu,dd,h1,h3]
 |_+1,[],y::q,b,h=>by simp[dd] at h
 |_+1,x::r,[],b,h=>by simp[dd] at h
theorem xZ:∀(xs ys:aR af) (b:cz),dd xs ys=some b->xs.length=ys.length
 |[],[],_,_=>rfl
 |x::r,y::q,b,h=>by
  obtain⟨a,t,_,h2,_⟩:=kV h;simp[xZ r q t h2]
 |[],y::q,b,h=>by simp[dd] at h
 |x::r,[],b,h=>by simp[dd] at h
theorem sN {P:an}:∀(fs:aR Field) (xs:aR af) (i:aY),jk P fs xs i=true->jk P fs (xs.take fs.length) i=true
 |[],_,_,_=>rfl
 |f::r,[],i,h=>by simp[jk] at h
 |f::r,x::q,i,h=>by
  simp only[jk,aC,dc,eu] at h|-
  exact⟨h.1,sN r q (i+1) h.2⟩
theorem wa {P:an}(w:ca)(d:aY){xs ys:bw af}:∀(fs:aR Field) (i:aY) (b:cz),jm P fs (xs.toList.drop i) i=true->dd (xs.toList.drop i) (ys.toList.drop i)=some b->i<=xs.size->xs.size=ys.size->
  (c3 (d+2) xs ys fs).run P w= .ok b w
 |[],i,b,hf,h,hi,hxy=>by
  have e:xs.toList.drop i=[]:=by
   cases he:xs.toList.drop i with
   |nil=>rfl
   |cons a l=>rw[he] at hf;simp[jm] at hf
  have e2:ys.toList.drop i=[]:=dg (by have:=xZ _ _ _ h;rw[e] at this;simpa using this.symm);rw[e,e2] at h;simp only[dd] at h;obtain rfl:=ab h;simp[c3]
 |f::r,i,b,hf,h,hi,hxy=>by
  simp only[jm,aC,b5] at hf;obtain⟨⟨xY,eO⟩,hf⟩:=hf;have CO:f.name≠ "_" :=by simpa using xY
  have fin:∀(n:aY) (a t:cz) (x y:af),(part f.type xs f.offset).run P w= .ok x w->(part f.type ys f.offset).run P w= .ok y w->(cd (d+2) f.type x y).run P w= .ok a w->b=(a&&t)->dd (xs.toList.drop (i+n)) (ys.toList.drop (i+n))=some t->jm P r (xs.toList.drop (i+n)) (i+n)=true->i+n<=xs.size->(c3 (d+2) xs ys (f::r)).run P w= .ok b w:=by
   intro n a t x y V2 V3 heq hb h2 xT tm;rw[c3,ck CO];simp only[Sem.run_bind,V2,V3,heq,ax];cases a with
   |false=>simp[hb]
   |true=>
    simp only[eD,dP,ff];rw[hb,en];exact wa w d r (i+n) t xT h2 tm hxy
  have leaf:∀(x:af) (q:aR af),xs.toList.drop i=x::q->bU P f.type=some false->jm P r q (i+1)=true->(∀a (y:af),vp x y=some a->(cd (d+2) f.type x y).run P w= .ok a w)->(c3 (d+2) xs ys (f::r)).run P w= .ok b w:=by
   intro x q hx nd xT heq;have Ml:i<xs.toList.length:=by
    rcases dv i xs.toList.length with h' |h'
    ·exact h'
    rw[cc h'] at hx;cases hx
   have zu:i<ys.toList.length:=by simp at Ml|-;omega
   rw[bt Ml] at hx;injection hx with e1 e2;rw[bt Ml,bt zu] at h;obtain⟨a,t,h1,h2,hb⟩:=kV h;refine fin 1 a t xs.toList[i] ys.toList[i] ?_ ?_ (by rw[e1] at h1|-;exact heq a _ h1) hb h2 (by rw[e2];exact xT) (by simp at Ml;omega)
   ·have:xs[i]?=some xs.toList[i]:=by rw[<-bl,b7 Ml]
    simp only[part,Sem.run_bind,fH nd,eO,this,ax];simp
   have:ys[i]?=some ys.toList[i]:=by rw[<-bl,b7 zu]
   simp only[part,Sem.run_bind,fH nd,eO,this,ax];simp
  split at hf
  ·rename_i gs wR;simp only[aC,cm,eg] at hf;obtain⟨⟨⟨⟨aF,cX⟩,hle⟩,hft⟩,xT⟩:=hf;obtain⟨n,hn⟩:∃n,n=gs.toList.length:=⟨_,rfl⟩
   rw[<-hn] at cX hle xT;have cX:br P f.type=some n:=by
    cases hs:br P f.type with
    |none=>rw[hs] at cX;simp[SE] at cX
    |some m=>rw[hs] at cX;simp only[SE,b5] at cX;rw[cX]
   have nd:bU P f.type=some true:=by unfold bU;rw[wR]
   obtain⟨a,t,h1,h2,hb⟩:=tS n _ _ _ h;rw[fM] at hle;have tm:i+n<=xs.size:=by simp at hle;omega
   rw[eP,eP] at h2;rw[eP] at xT;have ex:∀zs:bw af,(zs.extract i (i+n)).toList=(zs.toList.drop i).take n:=fun zs=>by
    rw[er,List.extract_eq_take_drop,Nat.add_sub_cancel_left]
   have L2:P.fieldsOf f.type=gs:=by simp[Program.fieldsOf,wR]
   refine fin n a t (.agg (xs.extract i (i+n))) (.agg (ys.extract i (i+n))) ?_ ?_ ?_ hb h2 xT tm
   ·rw[eO];simp[part,fH nd,run_sizeOf cX]
   ·rw[eO];simp[part,fH nd,run_sizeOf cX]
   rw[run_equalIn_struct (P:=P) w (d+1) f.type _ _ (by rw[L2];exact wR) aF,L2];refine ph w d gs.toList 0 a ?_ ?_ ?_ ?_
   ·rw[eA,ex,hn];exact sN _ _ _ hft
   ·rw[eA,eA,ex,ex];exact h1
   ·rw[e6];omega
   rw[e6];omega
  ·rename_i k' wR;split at hf
   ·rename_i k0 n0 q hx;refine leaf _ q hx (by unfold bU;rw[wR]) hf fun a y hy=> ?_
    rcases nR hy with ⟨k,a1,c1,e1,e2,rfl⟩|⟨a1,c1,e1,e2,rfl⟩
    ·rw[e1,e2];exact run_equalIn_int w (d+1) f.type k k' a1 c1 wR
    cases e1
   cases hf
  ·rename_i wR;split at hf
   ·rename_i s0 q hx;refine leaf _ q hx (by unfold bU;rw[wR]) hf fun a y hy=> ?_
    rcases nR hy with ⟨k,a1,c1,e1,e2,rfl⟩|⟨a1,c1,e1,e2,rfl⟩
    ·cases e1
    rw[e1,e2];exact run_equalIn_string w (d+1) f.type a1 c1 wR
   cases hf
  cases hf
theorem Gy {P:an}{S:St}{op:BinOp}{t:ao}{xs ys Jw Jx:bw af}{b:cz}{ox oy:c6}(hx:ft S xs.toList Jw.toList)(hy:ft S ys.toList Jx.toList)(h:zF P t xs ys=some b):
  (eqGuard op t ox oy (.agg Jw) (.agg Jx)).run P S.w= .ok () S.w/\(cd 10000 t (.agg Jw) (.agg Jx)).run P S.w= .ok b S.w:=by
 unfold zF at h;split at h
 case h_3=>cases h
 case h_2=>
  rename_i fs hu;have L2:P.fieldsOf t=fs:=by simp[Program.fieldsOf,hu]
  split at h
  case isFalse=>
   split at h
   case isFalse=>cases h
   rename_i hc;simp only[aC,b5,eg] at hc;obtain⟨⟨⟨hl,hg⟩,aF⟩,Z5⟩:=hc;refine⟨by cases op<;>simp[eqGuard,hg],?_⟩;have:=run_equalIn_struct (P:=P) S.w 9999 t Jw Jx (by rw[L2];exact hu) aF;obtain⟨e1,e2⟩:=tR h hx hy;rw[L2,wa S.w 9997 fs.toList 0 b (by rw[e1];simpa using Z5) (by rw[e1,e2];simpa using h) (by omega) (by have:=hx.1;have:=hy.1;simp at*;omega)] at this;exact this
  rename_i hc;simp only[aC,b5,eg] at hc;obtain⟨⟨⟨xK,tD⟩,hg⟩,aF⟩:=hc;have r6:Jw.size=0+fs.toList.length:=by have:=hx.1;simp at this xK;simp;omega
  have BN:Jx.size=0+fs.toList.length:=by have:=hy.1;simp at this tD;simp;omega
  refine⟨by cases op<;>simp[eqGuard,hg],?_⟩;have:=run_equalIn_struct (P:=P) S.w 9999 t Jw Jx (by rw[L2];exact hu) aF;split at h
  ·rename_i Z5;have h2:=wQ h hx hy;rw[L2,v8 S.w 9998 fs.toList 0 b Z5 (by simpa using h2) r6 BN] at this;exact this
  split at h
  case isFalse=>cases h
  rename_i Z5;obtain⟨e1,e2⟩:=tR h hx hy;rw[L2,ph S.w 9998 fs.toList 0 b (by rw[e1];simpa using Z5) (by rw[e1,e2];simpa using h) r6 BN] at this;exact this
 rename_i n e hu;split at h
 case h_2=>cases h
 rename_i k wR cX;split at h
 case isFalse=>cases h
 rename_i hc;simp only[aC,b5,eg] at hc;obtain⟨⟨xK,tD⟩,hg⟩:=hc;have nd:bU P e=some false:=by unfold bU;rw[wR]
 have h2:=wQ h hx hy;have r6:Jw.size=n:=by have:=hx.1;simp at this xK;omega
 have BN:Jx.size=n:=by have:=hy.1;simp at this tD;omega
 constructor
 ·cases op<;>simp[eqGuard,hg]
 exact zM S.w 9998 hu cX wR nd (by simpa using h2) (by omega) (by omega)
theorem WD {P:an}{S:St}{op:BinOp}{t:ao}{x y x' y' v:af}{ox oy:c6}(hx:VR S x x')(hy:VR S y y')(h:dB P op t x y=some v):
  Reads P S (do eqGuard op t ox oy x' y';binOp op t x' y') v:=by
 unfold dB at h;split at h
 ·rename_i xs ys;obtain⟨Jw,rfl,V4⟩:=hx.Cf;obtain⟨Jx,rfl,hyv⟩:=hy.Cf;split at h
  ·split at h
   ·rename_i b hb;obtain rfl:=ab h;obtain⟨h1,h2⟩:=Gy (op:= .eql) (ox:=ox) (oy:=oy) V4 hyv hb;exact⟨_,by simp only[Sem.run_bind,h1,ax,run_eql_struct,h2],.bool _⟩
   cases h
  ·split at h
   ·rename_i b hb;obtain rfl:=ab h;obtain⟨h1,h2⟩:=Gy (op:= .neq) (ox:=ox) (oy:=oy) V4 hyv hb;exact⟨_,by simp only[Sem.run_bind,h1,ax,run_neq_struct,h2],.bool _⟩
   cases h
  cases h
 ·rename_i k a k' b;cases hx;cases hy
  split at h
  ·exact CM h
  ·exact CM h
  rename_i h1 h2;split at h
  ·rename_i hk;subst hk;exact SM h (fun e=>h1 e) (fun e=>h2 e)
  cases h
 ·cases hx;cases hy;exact SN h
 exact WC hx hy h
theorem Z6 {P:an}{S:St}{op:UnOp}{x x' v:af}(hx:VR S x x')(h:ZY op x=some v):Reads P S (gd op x') v:=by
 unfold ZY at h;split at h
 ·cases hx;simp only[kS] at h;obtain rfl:=ab h;exact⟨_,by simp[gd,gT],.int _ _⟩
 ·cases hx;simp only[kS] at h;obtain rfl:=ab h;exact⟨_,by simp[gd,g1],.int _ _⟩
 ·cases hx;obtain rfl:=ab h;exact⟨_,by simp[gd],.bool _⟩
 cases h
theorem FA {P:an}{S:St}{t:ao}{x ix x' ix' v:af}(hx:VR S x x')(hi:VR S ix ix')(h:bK P t x ix=some v):Reads P S (Instr.indexAt t x' ix') v:=by
 unfold bK at h;split at h
 ·rename_i e i off len c k n hu;cases hi;cases hx with
  |slice _ _ _ _ a cap h0 hz hr=>
  split at h
  ·rename_i z Gz;split at h
   ·rename_i a7;obtain rfl:=ab h;have BO:n<len:=by simpa [dK] using a7
    obtain⟨⟨b,hb,hc,hl⟩,_⟩:=hr (by omega);refine⟨.pointer (some (a.add (n*z))),?_,.ptr _ _ _ _ ⟨b,hb,hc,fun iw=> ?_⟩⟩
    ·have zN:((Int.ofNat n)<(len:e8)):=by simp only[Int.ofNat_eq_natCast];omega
     have Mm:(0:e8)<=Int.ofNat n:=by simp
     simp[Instr.indexAt,run_underlying hu,asIntOf,run_sizeOf Gz];omega
    rw[hl iw,Addr.add_lit,c5]
   cases h
  cases h
 ·rename_i len e i off c k n hu;cases hi;obtain⟨a,rfl,b,hb,hc,hl⟩:=hx.r5;split at h
  ·rename_i z Gz;split at h
   ·rename_i a7;obtain rfl:=ab h;have BO:n<len:=by simpa [dK] using a7
    refine⟨.pointer (some (a.add (n*z))),?_,.ptr _ _ _ _ ⟨b,hb,hc,fun iw=> ?_⟩⟩
    ·simp[Instr.indexAt,run_underlying hu,asIntOf,run_sizeOf Gz,Instr.sureAddr];omega
    rw[hl iw,Addr.add_lit,c5]
   cases h
  cases h
 cases h
theorem FB {P:an}{S:St}{t:ao}{x x' v:af}{f:aY}(hx:VR S x x')(h:ay P t x f=some v):Reads P S (Instr.fieldAt t x' f) v:=by
 unfold ay at h;split at h
 ·rename_i fs i off c hu;obtain⟨a,rfl,b,hb,hc,hl⟩:=hx.r5;split at h
  ·rename_i fd hf;split at h
   ·rename_i z Gz;obtain rfl:=ab h;refine⟨.pointer (some (a.add fd.offset)),?_,.ptr _ _ _ _ ⟨b,hb,hc,fun iw=> ?_⟩⟩
    ·simp[Instr.fieldAt,run_underlying hu,hf,Instr.sureAddr,fieldPlace,run_sizeOf Gz]
    rw[hl iw,Addr.add_lit,c5]
   cases h
  cases h
 cases h
theorem JQ {P:an}{S:St}{t:ao}{cs gY:bw af}{off:aY}{v:af}(hv:ft S cs.toList gY.toList)(h:OA P t cs.toList off=some v):Reads P S (part t gY off) v:=by
 unfold OA at h;split at h
 ·rename_i n nd cX;rw[xR,tM] at h;split at h
  ·rename_i l hl;split at hl
   ·rename_i hn;obtain rfl:=ab hl;obtain rfl:=ab h;refine⟨.agg (gY.extract off (off+n)),by simp[part,fH nd,run_sizeOf cX],?_⟩;have hlen:=hv.1;refine .agg _ _ (by simp;simp at hlen;omega) (fun i hi=> ?_);simp only[fF,fM] at hi;have sO:i<n:=by simp at hi;omega
    have:=hv.2 (off+i) (by simp at hn|-;omega);simp only[a8,bl] at this|-
    simp only[List.getElem?_take,sO,ea,eB,bl,Array.getElem?_extract];rw[ck (by simp at hn hlen;omega)];exact this
   cases hl
  cases h
 ·rename_i nd;rw[tM] at h;split at h
  ·rename_i v0 r hd;obtain rfl:=ab h;have eO:off<cs.toList.length:=by
    rcases dv off cs.toList.length with h' |h'
    ·exact h'
    rw[cc h'] at hd;cases hd
   have h0:cs.toList.getD off undef=v0:=by
    have:=congrArg (fun l=>l.getD 0 undef) hd
    simpa [a8,eB] using this
   have ado:off<gY.size:=by have:=hv.1;simp at this eO;omega
   have:=hv.2 off eO;rw[h0] at this;refine⟨gY.toList.getD off undef,?_,this⟩;simp[part,fH nd,a8,ado]
  cases h
 cases h
theorem Qe {P:an}{S:St}{t:ao}{x x' v:af}{f:aY}(hx:VR S x x')(h:CA P t x f=some v):Reads P S (Instr.field t x' f) v:=by
 unfold CA at h;split at h
 ·rename_i fs cs hu;obtain⟨gY,rfl,hcs⟩:=hx.Cf;split at h
  ·rename_i fd hf;obtain⟨v',h1,h2⟩:=JQ (P:=P) hcs h;exact⟨v',by simp[Instr.field,run_underlying hu,hf,asAgg,h1],h2⟩
  cases h
 cases h
theorem Qf {P:an}{S:St}{t:ao}{x ix x' ix' v:af}(hx:VR S x x')(hi:VR S ix ix')(h:Cz P t x ix=some v):Reads P S (Instr.index t x' ix') v:=by
 unfold Cz at h;split at h
 ·rename_i bs k n hu;cases hi;cases hx
  split at h
  ·rename_i c r hd;obtain rfl:=ab h;have hn:n<bs.data.toList.length:=by
    rcases dv n bs.data.toList.length with h' |h'
    ·exact h'
    rw[cc h'] at hd;cases hd
   have h0:bs[n]?=some c:=by
    have:=congrArg (fun l=>l[0]?) hd;simp only[eB,dw,List.getElem?_cons_zero] at this;have a7:n<bs.size:=by rw[size_data];exact hn
    rw[getElem?_pos bs n a7];rw[b7 hn] at this;rw[<-ab this,Array.getElem_toList];rfl
   refine⟨_,?_,.int _ _⟩;simp[Instr.index,run_underlying hu,asIntOf,h0]
  cases h
 ·rename_i len e cs k n hu;cases hi;obtain⟨gY,rfl,hcs⟩:=hx.Cf;split at h
  ·rename_i z Gz;split at h
   ·rename_i a7;have BO:n<len:=by simpa [dK] using a7
    obtain⟨v',h1,h2⟩:=JQ (P:=P) hcs h;refine⟨v',?_,h2⟩;simp[Instr.index,run_underlying hu,asIntOf,run_sizeOf Gz,h1];omega
   cases h
  cases h
 cases h
theorem JR {P:an}{S:St}{x x' v:af}{i:aY}(hx:VR S x x')(h:aH x i=some v):Reads P S (Instr.extract x' i) v:=by
 unfold aH at h;split at h
 ·rename_i vs;obtain⟨Ju,rfl,hvs⟩:=hx.Qa;have hi:i<vs.size:=by
   rcases dv i vs.size with h' |h'
   ·exact h'
   rw[cU h'] at h;cases h
  have sO:i<Ju.size:=by have:=hvs.1;simp at this;omega
  have:=hvs.2 i (by simpa using hi);simp only[a8,bl,h] at this;refine⟨Ju[i],by simp[Instr.extract,sO],by simpa [sO] using this⟩
 cases h
def OV (S:St)(o o' :av af):Prop:=(o=none/\o' =none)\/∃v v',o=some v/\o' =some v' /\VR S v v'
theorem tT {S:St}{o o' :av af}{d n:aY}(hv:OV S o o')(h:kT o d=some n):(o=none/\o' =none/\n=d)\/∃k,o=some (.int k n)/\o' =some (.int k n):=by
 unfold kT at h;split at h
 ·rcases hv with ⟨_,h2⟩|⟨v,v',h1,_,_⟩
  ·exact .inl ⟨rfl,h2,(ab h).symm⟩
  cases h1
 ·rename_i k m;rcases hv with ⟨h1,_⟩|⟨v,v',h1,h2,h3⟩
  ·cases h1
  obtain rfl:=ab h1;cases h3;obtain rfl:=ab h;exact .inr ⟨k,rfl,h2⟩
 cases h
theorem run_sliceBound {P:an}(w:ca)(k:eG)(n y:aY)(code:BoundsCode)(h:n<=y):(Instr.sliceBound (.int k n) y code).run P w= .ok n w:=by
 simp[Instr.sliceBound,asIntOf];omega
theorem kB {P:an}{S:St}(w:ca)(isS:cz)(len cap:aY){lo hi YG sO:av af}{l h:aY}(mA:OV S lo YG)(Sn:OV S hi sO)(h1:kT lo 0=some l)(h2:kT hi len=some h)(hlh:l<=h)(hh:h<=cap):
  (Instr.sliceBounds isS len cap YG sO none).run P w= .ok (l,h,cap) w:=by
 rcases tT mA h1 with ⟨_,rfl,rfl⟩|⟨k1,_,rfl⟩<;>rcases tT Sn h2 with ⟨_,rfl,rfl⟩|⟨k2,_,rfl⟩<;>
  simp[Instr.sliceBounds,run_sliceBound,hlh,hh]
theorem qM {P:an}{S:St}(w:ca)(isS:cz)(len cap:aY){lo hi mx YG sO mx' :av af}{l h m:aY}(mA:OV S lo YG)(Sn:OV S hi sO)(YH:OV S mx mx')(h1:kT lo 0=some l)(h2:kT hi len=some h)
  (h3:kT mx 0=some m) (hmn:mx≠none) (tm:hi≠none) (hlh:l<=h) (hhm:h<=m) (hm:m<=cap):
  (Instr.sliceBounds isS len cap YG sO mx').run P w= .ok (l,h,m) w:=by
 rcases tT YH h3 with ⟨e,_,_⟩|⟨k3,_,rfl⟩
 ·exact cT e hmn
 rcases tT Sn h2 with ⟨e,_,_⟩|⟨k2,_,rfl⟩
 ·exact cT e tm
 rcases tT mA h1 with ⟨_,rfl,rfl⟩|⟨k1,_,rfl⟩<;>simp[Instr.sliceBounds,run_sliceBound,hlh,hhm,hm]
theorem SP {s:au}{i c z:aY}(h:l5 s i c z=true):c=0\/∃b,s.bL i=some b/\b.mD=z:=by
 unfold l5 at h;split at h
 ·exact .inl rfl
 split at h
 ·rename_i b hb;exact .inr ⟨b,hb,by simpa [b5] using h⟩
 cases h
theorem VR.sub {S:St}{i off len c:aY}{a:Addr}{cap:aY}(hv:VR S (.slice (some ⟨i,off,none⟩) len c) (.slice (some a) len cap)){l h m z:aY}(hlh:l<=h)(hhm:h<=m)(hm:m<=cap)(hz:l5 S.s i c z=true)(c' :aY)(gj:c' =c\/(c' =0/\m=l)):
  VR S (.slice (some ⟨i,off+l*z,none⟩) (h-l) c') (.slice (some (if m=l then a else a.add (l*z))) (h-l) (m-l)):=by
 cases hv with
 |slice _ _ _ _ _ _ h0 tE hr=>
 refine .slice _ _ _ _ _ _ (by omega) (fun e=> ?_) (fun BJ=> ?_)
 ·rcases gj with rfl|⟨_,h2⟩
  ·have:=tE e;omega
  omega
 have cE:¬m=l:=by omega
 obtain rfl:c' =c:=by rcases gj with h' |⟨_,h'⟩<;>omega
 rw[bA cE];obtain⟨⟨b,hb,Ce,hl⟩,tl⟩:=hr (by omega);refine⟨⟨b,hb,Ce,fun iw=>by rw[hl iw,Addr.add_lit,c5]⟩,fun b' jL iw=> ?_⟩;rw[hb] at jL;obtain rfl:=ab jL
 obtain⟨arr,E,fr,h1,h2⟩:=tl b hb iw;have hzz:b.mD=z:=by
  rcases SP hz with rfl|⟨b2,dr,h3⟩
  ·have:=tE rfl;omega
  rw[hb] at dr;obtain rfl:=ab dr;exact h3
 have ha:=hl iw;rw[ha] at h1 h2|-
 rw[Addr.add_lit];refine⟨arr,E,fr,h1,?_⟩;simp only at h2|-
 rw[hzz] at h2|-
 have:l*z+(m-l)*z<=cap*z:=by rw[<-ds];exact cp _ (by omega)
 omega
theorem Qg {P:an}{base:aY}{S:St}(hs:SR base S){t:ao}{x x' v:af}{lo hi mx YG sO mx' :av af}(hx:VR S x x')(mA:OV S lo YG)(Sn:OV S hi sO)(YH:OV S mx mx')(h:fa P S.s t x lo hi mx=some v):
  Reads P S (Instr.sliceAt t x' YG sO mx') v:=by
 unfold fa at h;split at h
 ·rename_i b hu;cases hx;split at h
  ·rename_i l hh h1 h2;rcases YH with ⟨_,rfl⟩|⟨_,_,e,_,_⟩
   case inr=>cases e
   split at h
   ·rename_i hc;simp only[aC,cm] at hc;obtain rfl:=ab h;have cX:=size_data b;have hb:=kB (P:=P) S.w false b.size b.size mA Sn h1 (by rw[cX];exact h2) hc.1 (by rw[cX];exact hc.2);refine⟨_,?_,.string _⟩;simp only[Instr.sliceAt,Instr.slice,Sem.run_bind,run_underlying hu,ax,hb,Option.isSome_none,dP,ff,Sem.run_pure]
    congr 2
    apply zL;rw[ByteArray.data_extract,er];simp only[gu,List.drop_take]
   cases h
  cases h
 ·rename_i e a len c hu;split at h
  ·rename_i l hh z h1 h2 hz;split at h
   ·rename_i hc;simp only[aC,cm] at hc;split at h
    ·rcases YH with ⟨_,rfl⟩|⟨_,_,e,_,_⟩
     case inr=>cases e
     split at h
     ·obtain rfl:=ab h;cases hx;have hb:=kB (P:=P) S.w true 0 0 mA Sn h1 h2 hc.1 hc.2;obtain rfl:hh=0:=by omega
      obtain rfl:l=0:=by omega
      refine⟨_,?_,.jX⟩;simp[Instr.sliceAt,Instr.slice,run_underlying hu,hb,run_sizeOf hz]
     ·rename_i i off;split at h
      ·rename_i vY;obtain rfl:=ab h;have JS:=hx;cases hx with
       |slice _ _ _ _ a1 cap h0 tE hr=>
       have hb:=kB (P:=P) S.w true len cap mA Sn h1 h2 hc.1 (by omega);refine⟨_,?_,JS.sub hc.1 (by omega:hh<=cap) (a3 _) vY c (.inl rfl)⟩;simp[Instr.sliceAt,Instr.slice,run_underlying hu,hb,run_sizeOf hz];split<;>rfl
      cases h
     cases h
    rename_i m;split at h
    ·rename_i m' hv hm;split at h
     ·rename_i j6;simp only[aC,cm] at j6;split at h
      ·obtain rfl:=ab h;cases hx;have hb:=qM (P:=P) S.w true 0 0 mA Sn YH h1 h2 hm (by simp) (by simp) hc.1 j6.1 j6.2;obtain rfl:hh=0:=by omega
       obtain rfl:l=0:=by omega
       obtain rfl:m' =0:=by omega
       refine⟨_,?_,.jX⟩;simp[Instr.sliceAt,Instr.slice,run_underlying hu,hb,run_sizeOf hz]
      ·rename_i i off;split at h
       ·rename_i vY;obtain rfl:=ab h;have JS:=hx;cases hx with
        |slice _ _ _ _ a1 cap h0 tE hr=>
        have hb:=qM (P:=P) S.w true len cap mA Sn YH h1 h2 hm (by simp) (by simp) hc.1 j6.1 (by omega);refine⟨_,?_,JS.sub hc.1 j6.1 (by omega) vY _ ?_⟩
        ·simp[Instr.sliceAt,Instr.slice,run_underlying hu,hb,run_sizeOf hz];split<;>rfl
        by_cases YI:l=m'
        ·rw[ck (by simp[YI])];exact .inr ⟨rfl,YI.symm⟩
        rw[bA (by simp[YI])];exact .inl rfl
       cases h
      cases h
     cases h
    cases h
   cases h
  cases h
 ·rename_i n e i off c hu;split at h
  ·rename_i l hh z b h1 h2 hz hb;rcases YH with ⟨_,rfl⟩|⟨_,_,e,_,_⟩
   case inr=>cases e
   split at h
   ·rename_i hc;simp only[aC,cm,dK,b5] at hc;obtain⟨⟨⟨⟨⟨⟨iy,j6⟩,iw⟩,hle⟩,a7⟩,Mn⟩,tE⟩:=hc;obtain rfl:=ab h;obtain⟨a1,rfl,hr⟩:=hx.r5;have gv:Live b c:=⟨iw,hle⟩;obtain rfl:=hr.addr hb gv;have YJ:=kB (P:=P) S.w false n n mA Sn h1 h2 iy j6;refine⟨.slice (some (if n=l then⟨(S.e.loc i c).1,(S.e.loc i c).2+off,none⟩ else(⟨(S.e.loc i c).1,(S.e.loc i c).2+off,none⟩:Addr).add (l*z))) (hh-l) (n-l),?_,?_⟩
    ·simp[Instr.sliceAt,run_underlying hu,Instr.sureAddr,YJ,run_sizeOf hz]
    refine .slice _ _ _ _ _ _ (by omega) (fun e=>by omega) (fun BJ=> ?_);have vL:¬n=l:=by omega
    rw[bA vL,Addr.add_lit];refine⟨⟨b,hb,hle,fun _=>by rw[c5]⟩,fun b2 dr _=> ?_⟩;rw[hb] at dr;obtain rfl:=ab dr
    have hnz:0<n*z:=eQ (by omega) tE;obtain⟨v,hv,_⟩:=hs.cell i b hb c gv (off+n*z-1) (by omega);obtain⟨arr,E,fr,hk,ha⟩:=v7 hv;have zN:=(ey.1 ha).1;refine⟨arr,E,fr,hk,?_⟩;simp only;rw[Mn];have:l*z+(n-l)*z=n*z:=by rw[<-ds];congr 1;omega
    omega
   cases h
  cases h
 cases h
def JT (P:an)(base:aY)(S:St)(m:Sem af)(v:af)(s' :au):Prop:=
 ∃T v',T.s=s' /\m.run P S.w= .ok v' T.w/\VR T v v' /\Good base S T
def tU (P:an)(base:aY)(S:St)(m:Sem af)(v:af)(s0 s' :au)(next:aY):Prop:=
 ∃b,s' =s0.new (.eE b)/\∃T v',T.s=⟨Tr.set (depth s0.next) S.s.heap s0.next (.eE b),next⟩/\m.run P S.w= .ok v' T.w/\VR T v v' /\Good base S T
theorem tU.JU {P:an}{base:aY}{S:St}{m:Sem af}{v:af}{s' :au}(h:tU P base S m v S.s s' (S.s.next+1)):JT P base S m v s' :=by
 obtain⟨b,rfl,T,v',h1,h2,h3,h4⟩:=h;exact⟨T,v',h1,h2,h3,h4⟩
theorem pU {base:aY}{S:St}(h:SR base S){s0:au}{next:aY}(dI:oI S s0.next next){cs:aR af}{len mD:aY}{v:af}{s' :au}(hn:a6 s0 cs len mD=some (v,s'))(arr:bw af)(E:ao)(fr:aY×aY)(W:ca)(cap:aY)
  (hW:nn S.w W (.cells arr E fr)) (wL:fr.1=fr.2\/arr.size<=fr.1/\mD=1) (hle:cs.length<=arr.size) (hv:∀p,p<cs.length->VR S (cs.getD p undef) (arr.toList.getD p undef)) (tl:len<=cap) (j6:cap*mD<=arr.size):
  ∃b,s' =s0.new (.eE b)/\∃T,T.s=⟨Tr.set (depth s0.next) S.s.heap s0.next (.eE b),next⟩/\T.w=W/\VR T v (.slice (some ⟨S.w.heap.size,0,none⟩) len cap)/\Good base S T:=by
 unfold a6 at hn;split at hn
 ·injection hn with hn;injection hn with e1 e2
  subst e1;subst e2
  exact⟨⟨cs,1,true,mD⟩,rfl,S.tN s0.next next ⟨cs,1,true,mD⟩ W,rfl,rfl,.slice _ _ _ _ _ _ tl (fun e=>by omega) (fun _=>⟨St.CK dI _ W 0 _ (a3 _),St.Mi dI _ W 0 _ cap arr E fr hW (by simpa using j6)⟩),
   Good.SI h dI cs mD arr E fr W hW wL hle hv⟩
 cases hn
theorem tV {base:aY}{S:St}(h:SR base S){cs:aR af}{len mD:aY}{v:af}{s' :au}(hn:a6 S.s cs len mD=some (v,s'))(arr:bw af)(E:ao)(fr:aY×aY)(W:ca)(cap:aY)
  (hW:nn S.w W (.cells arr E fr)) (wL:fr.1=fr.2\/arr.size<=fr.1/\mD=1) (hle:cs.length<=arr.size) (hv:∀p,p<cs.length->VR S (cs.getD p undef) (arr.toList.getD p undef)) (tl:len<=cap) (j6:cap*mD<=arr.size):
  ∃T,T.s=s' /\T.w=W/\VR T v (.slice (some ⟨S.w.heap.size,0,none⟩) len cap)/\Good base S T:=by
 have gw:S.s.room=true:=by
  unfold a6 at hn;split at hn
  ·assumption
  cases hn
 obtain⟨b,rfl,T,h1,h2,h3,h4⟩:=pU h (oI.self h gw) hn arr E fr W cap hW wL hle hv tl j6;exact⟨T,h1,h2,h3,h4⟩
theorem GA {base:aY}{S:St}(h:SR base S){s0:au}{next:aY}(dI:oI S s0.next next){cs:aR af}{mD:aY}{v:af}{s' :au}(hn:iE s0 cs mD=some (v,s'))(arr:bw af)(E:ao)
  (hv:ft S cs arr.toList):∃b,s' =s0.new (.eE b)/\∃T,T.s=⟨Tr.set (depth s0.next) S.s.heap s0.next (.eE b),next⟩/\T.w=S.w.alloc (.cells arr E)/\VR T v (.pointer (some ⟨S.w.heap.size,0,none⟩))/\Good base S T:=by
 unfold iE at hn;split at hn
 ·injection hn with hn;injection hn with e1 e2
  subst e1;subst e2
  have hl:=hv.1;exact⟨⟨cs,1,true,mD⟩,rfl,S.tN s0.next next ⟨cs,1,true,mD⟩ _,rfl,rfl,.ptr _ _ _ _ (St.CK dI _ _ 0 _ (a3 _)),
   Good.SI h dI cs mD arr E (0,0) _ ⟨rfl,rfl,rfl,rfl⟩ (.inl rfl) (by simp at hl;omega) hv.2⟩
 cases hn
theorem CP {P:an}(w:ca)(t:ao)(v:af):(newVar t v).run P w= .ok ⟨w.heap.size,0,none⟩ (w.alloc (.cells v.cells t)):=by simp[newVar,newRow]
theorem JV {P:an}{base:aY}{S:St}(h:SR base S){s0:au}{next:aY}(dI:oI S s0.next next){e:ao}{z v:af}{mD:aY}{s' :au}(hz:b6 P e=some z)(hp:cr z=true)(hn:iE s0 z.cells.toList mD=some (v,s')):
  tU P base S (Instr.alloc e true (.tuple #[])) v s0 s' next:=by
 obtain⟨b,h0,T,h1,h2,h3,h4⟩:=GA h dI hn z.cells e (np hp).cells;exact⟨b,h0,T,_,h1,by rw[h2];simp[Instr.alloc,eR hz,CP],h3,h4⟩
theorem SQ {P:an}{base:aY}{S:St}(h:SR base S){s0:au}{next:aY}(dI:oI S s0.next next){e:ao}{x x' v:af}{mD:aY}{s' :au}(hx:VR S x x')(hn:iE s0 x.cells.toList mD=some (v,s')):tU P base S (Instr.box e x') v s0 s' next:=by
 obtain⟨b,h0,T,h1,h2,h3,h4⟩:=GA h dI hn x'.cells e hx.cells;exact⟨b,h0,T,_,h1,by rw[h2];simp[Instr.box,CP],h3,h4⟩
theorem Good.freeze {base:aY}{S:St}(h:SR base S){i c:aY}{b:kM}(hb:S.s.bL i=some b)(ho:b.own=true)(hc:Live b c)(hz1:b.mD=1){arr:bw af}{E:ao}{fr:aY×aY}
  (ha:S.w.heap[(S.e.loc i c).1]?=some (.cells arr E fr)):
  Good base S ⟨S.s.put i (.eE b),S.e,S.w.freeze ⟨(S.e.loc i c).1,arr.size,none⟩ 1⟩:=by
 obtain⟨zt,⟨P8,E0,fr0,iV,wM⟩,BI,ho5⟩:=h.own i b hb ho c hc;rw[ha] at iV;injection iV with iV;injection iV with e1 e2 e3
 subst e1;subst e2;subst e3
 have cE:∀k,k≠(S.e.loc i c).1->(S.w.freeze ⟨(S.e.loc i c).1,arr.size,none⟩ 1).heap[k]?=S.w.heap[k]?:=fun k hk=>by
  unfold eJ;rw[bA (by decide)];simp only[ek];rw[bA (by omega)]
 have fV:∃Mg:aY×aY,(S.w.freeze ⟨(S.e.loc i c).1,arr.size,none⟩ 1).heap[(S.e.loc i c).1]?=some (.cells arr E Mg)/\(Mg.1=Mg.2\/arr.size<=Mg.1/\b.mD=1):=by
  unfold eJ;rw[bA (by decide)];simp only[ek,ea,ha,Option.map_some];refine⟨_,rfl,?_⟩;by_cases wL:fr.1=fr.2
  ·rw[ck (by simp[wL])];exact .inr ⟨a3 _,hz1⟩
  rw[bA (by simp[wL])];refine .inr ⟨?_,hz1⟩;have:arr.size<=fr.1:=(wM.resolve_left wL).1;show arr.size<=min fr.1 arr.size;omega
 obtain⟨Mg,fL,dA⟩:=fV;have cX:(S.w.freeze ⟨(S.e.loc i c).1,arr.size,none⟩ 1).heap.size=S.w.heap.size:=by
  unfold eJ;rw[bA (by decide)];simp
 have mF:∀k o,(S.w.freeze ⟨(S.e.loc i c).1,arr.size,none⟩ 1).cell? ⟨k,o,none⟩=S.w.cell? ⟨k,o,none⟩:=fun k o=>by
  by_cases hk:k=(S.e.loc i c).1
  ·subst hk;rw[cF _ _ _ _ _ _ fL,cF _ _ _ _ _ _ ha]
  exact c4 (cE k hk)
 have pf:Below base S.w (S.w.freeze ⟨(S.e.loc i c).1,arr.size,none⟩ 1):=by
  refine⟨?_,?_,?_,by rw[cX];exact a3 _,fun k hk=>cE k (by omega)⟩<;>(unfold eJ;rw[bA (by decide)])
 refine SR.change h i (S.e.loc i c).1 S.s.next b S.e.loc _ (h.lt hb) (a3 _) h.room (.inl (h.lt hb)) (fun es he=>mc hb he) (h.low i b hb) ?_ (fun _ _=>rfl)
  (fun k hk _=>cE k hk) (fun j bj c' hj tp gj e=>hj (BI j bj tp c' gj e)) ?_ (fun c' gj=>by rw[cX];exact h.Ib i b hb c' gj) ?_ ?_ ?_ ?_ pf (by rw[cX];exact a3 _)
 ·intro b0 mI;rw[hb] at mI;obtain rfl:=ab mI
  exact⟨a3 _,a3 _,rfl,fun _ _ _=>rfl⟩
 ·intro r es he e;obtain⟨_,hJ,tj,h2,_⟩:=h.map r es he;rw[e,ha] at h2;cases h2
 ·intro c' gj p hp;rw[mF];exact h.cell i b hb c' gj p hp
 ·intro _ c' gj;obtain⟨h1,⟨Mj,E1,fr1,h2,h3⟩,h4,h5⟩:=h.own i b hb ho c' gj;refine⟨h1,?_,fun j bj hj tp c1 iy e=>hj (h4 j bj tp c1 iy e),h5⟩;by_cases hk:(S.e.loc i c').1=(S.e.loc i c).1
  ·rw[hk,ha] at h2;injection h2 with h2;injection h2 with e1 e2 e3
   subst e1;exact⟨arr,E,Mg,by rw[hk];exact fL,dA⟩
  exact⟨Mj,E1,fr1,by rw[cE _ hk];exact h2,h3⟩
 ·intro j bj hj tp CF c1 iy c' gj e;exact hj ((h.own i b hb ho c' gj).2.2.1 j bj tp c1 iy e.symm)
 intro P8 E0 fr0 hk;rw[ha] at hk;injection hk with hk;injection hk with e1 e2 e3
 subst e1;subst e2
 exact⟨arr,Mg,fL,rfl⟩
theorem Mo {S:St}:∀{l l' :aR af} {bs:aR g3},ft S l l' ->pS l=some bs->∃ns:aR e8,l' =ns.map (Value.int .u8)/\bs=ns.map (fun n=>UInt8.ofNat n.toNat):=by
 intro l
 induction l with
 |nil=>intro l' bs hv h;simp only[pS] at h;obtain rfl:=ab h;exact⟨[],hv.lI,rfl⟩
 |cons v l ih=>
  intro l' bs hv h;obtain⟨v',r',rfl,h1,h2⟩:=hv.cons_inv;simp only[pS] at h;split at h
  ·rename_i b hb;split at h
   ·rename_i m hm;obtain rfl:=ab h;obtain⟨ns,h3,h4⟩:=ih h2 hm;unfold toByte at hb;split at hb
    ·rename_i n;cases h1;obtain rfl:=ab hb;exact⟨n::ns,by simp[h3],by simp[h4]⟩
    cases hb
   cases h
  cases h
theorem wc {S:St}(l:aR g3):ft S (ofBytes l) (ofBytes l):=by
 induction l with
 |nil=>exact ft.nil
 |cons b l ih=>exact ft.cons (.int _ _) ih
def tW:av TypeDesc->cz
 |some (.slice _)=>true
 |_=>false
theorem Mp {P:an}{base:aY}{S:St}(h:SR base S){src dst:ao}{x x' v:af}{s' :au}(hx:VR S x x')(hc:ir P S.s src dst x=some (v,s'))(hq:tW (P.underlying dst)=false):
  s' =S.s/\Reads P S (convert src dst x') v:=by
 unfold ir at hc;split at hc
 ·rename_i d1 k k2 n hs hd;injection hc with hc;injection hc with e1 e2;subst e1;subst e2
  cases hx;exact⟨rfl,_,by simp[convert,run_underlying hs,run_underlying hd,Conv.intToInt],.int _ _⟩
 ·rename_i d1 b hs hd;injection hc with hc;injection hc with e1 e2;subst e1;subst e2
  cases hx;exact⟨rfl,_,by simp[convert,run_underlying hs,run_underlying hd],.string _⟩
 ·rename_i e b hs hd;rw[hd] at hq;cases hq
 ·rename_i e1 e2 i off len c hs hd;rw[hd] at hq;cases hq
 ·rename_i e n c hs hd;split at hc
  ·rename_i hu;injection hc with hc;injection hc with e1 e2;subst e1;subst e2
   cases hx;refine⟨rfl,_,?_,.string _⟩;rw[run_convert_bytes_string _ _ _ _ _ _ _ hs (xW hu) hd];simp[Conv.bytesToString];rfl
  cases hc
 ·rename_i e i off len c hs hd;split at hc
  ·rename_i hu;cases hx with
   |slice _ _ _ _ a cap h0 hz hr=>
   split at hc
   ·injection hc with hc;injection hc with e1 e2;subst e1;subst e2
    refine⟨rfl,_,?_,.string _⟩;rw[run_convert_bytes_string _ _ _ _ _ _ _ hs (xW hu) hd,run_bytesToString S.w a 0 cap [] (by simp[loadCells,loadCellsFrom])];rfl
   rename_i m;split at hc
   ·rename_i l hl;split at hc
    ·rename_i bs nj;injection hc with hc;injection hc with e1 e2;subst e1;subst e2
     obtain⟨b,hb,gv,_,_,wO,Fw,mF⟩:=h.cells hl;obtain⟨⟨b',jL,_,Ii⟩,_⟩:=hr (by omega);rw[hb] at jL;obtain rfl:=ab jL
     obtain rfl:=Ii gv.1;obtain⟨ns,h1,h2⟩:=Mo Fw nj;refine⟨rfl,_,?_,.string _⟩;have eF:=run_loadCells P S.w _ _ _ mF;rw[h1] at eF;rw[run_convert_bytes_string _ _ _ _ _ _ _ hs (xW hu) hd,run_bytesToString S.w _ _ cap ns eF,foldl_push_bytes,h2]
     congr 2
     apply zL;rw[c9];rfl
    cases hc
   cases hc
  cases hc
 cases hc
theorem AA {P:an}{base:aY}{S:St}(h:SR base S){s0:au}{next:aY}(dI:oI S s0.next next){src dst:ao}{x x' v:af}{s' :au}(hx:VR S x x')(hc:ir P s0 src dst x=some (v,s'))(hq:jV P src dst=true):
  tU P base S (convert src dst x') v s0 s' next:=by
 unfold jV at hq;split at hq
 case h_2=>cases hq
 rename_i e0 js Qh;unfold ir at hc;split at hc
 ·rename_i hs hd;rw[Qh] at hd;cases hd
 ·rename_i hs hd;rw[Qh] at hd;cases hd
 ·rename_i e b hs hd;split at hc
  ·rename_i hu;simp only[aC,cm] at hu;cases hx;have kC:=run_bytes_of_string (P:=P) S.w src dst e b hs hd (xW hu.1);have L3:=grownCap_ge S.w b.size 0 e;have cX:(bytesRow b (grownCap S.w b.size 0 e)).size=grownCap S.w b.size 0 e:=by
    simp only[bytesRow,fk,Array.size_map,Array.size_replicate];have:b.data.size=b.size:=rfl;omega
   have hlen:(ofBytes b.data.toList).length=b.size:=by simp only[ofBytes,ga];exact(size_data b).symm
   obtain⟨bk,h0,T,h1,h2,h3,h4⟩:=pU h dI hc (bytesRow b (grownCap S.w b.size 0 e)) e ((bytesRow b (grownCap S.w b.size 0 e)).size,(bytesRow b (grownCap S.w b.size 0 e)).size+1)
    (S.w.drew.alloc (.cells (bytesRow b (grownCap S.w b.size 0 e)) e ((bytesRow b (grownCap S.w b.size 0 e)).size,(bytesRow b (grownCap S.w b.size 0 e)).size+1))) (grownCap S.w b.size 0 e) ⟨rfl,rfl,rfl,rfl⟩ (.inr ⟨a3 _,rfl⟩) (by omega) (fun p hp=>by
     have hr:(bytesRow b (grownCap S.w b.size 0 e)).toList.getD p undef=(ofBytes b.data.toList).getD p undef:=by
      simp only[bytesRow,c9,cx];rw[fy _ _ _ (by rw[ga];rw[hlen,size_data] at hp;exact hp)];rfl
     rw[hr];exact(wc (S:=S) b.data.toList).2 p hp) (by rw[<-size_data];exact L3) (by omega)
   rw[<-size_data] at h3;exact⟨bk,h0,T,_,h1,by rw[h2];exact kC,h3,h4⟩
  cases hc
 ·rename_i hs hd;rw[js] at hs;cases hs
 ·rename_i hs hd;rw[Qh] at hd;cases hd
 ·rename_i hs hd;rw[Qh] at hd;cases hd
 cases hc
theorem Mq {P:an}{base:aY}{S:St}(h:SR base S){src dst:ao}{x x' v:af}{s' :au}(hx:VR S x x')(hc:ir P S.s src dst x=some (v,s'))(hq:tW (P.underlying dst)=true)(xL:jV P src dst=false):
  JT P base S (convert src dst x') v s' :=by
 unfold ir at hc;split at hc
 ·rename_i d1 k k2 n hs hd;rw[hd] at hq;cases hq
 ·rename_i d1 b hs hd;rw[hd] at hq;cases hq
 ·rename_i e b hs hd;simp only[jV,hs,hd] at xL;cases xL
 ·rename_i e1 e2 i off len c hs hd;split at hc
  ·cases hc
  rename_i m;split at hc
  ·rename_i b hb;split at hc
   ·rename_i jZ;simp only[aC,cm,b5] at jZ;obtain⟨⟨⟨⟨⟨hsd,hu⟩,ho⟩,iw⟩,hle⟩,hz1⟩:=jZ;injection hc with hc;injection hc with e3 e4;subst e3;subst e4
    have JS:=hx;cases hx with
    |slice _ _ _ _ a cap h0 hz hr=>
    have gv:Live b c:=⟨iw,hle⟩;obtain⟨zt,⟨arr,E,fr,iV,wM⟩,BI,ho5⟩:=h.own i b hb ho c gv;obtain⟨⟨b',jL,_,Ii⟩,_⟩:=hr (by omega);rw[hb] at jL;obtain rfl:=ab jL
    obtain rfl:=Ii iw;have hg:=Good.freeze h hb ho gv hz1 iV;refine⟨_,_,rfl,?_,JS.mono hg.ext,hg⟩;have Z7:S.w.shape? (S.e.loc i c).1=some (E,arr.size):=by simp[World.shape?,iV]
    subst hsd;obtain rfl:e1=e2:=by rw[hs] at hd;injection hd with hd;injection hd
    simp[convert,run_underlying hs,run_underlying (xW hu),markStringish,Z7]
   cases hc
  cases hc
 ·rename_i e n c hs hd;rw[hd] at hq;cases hq
 ·rename_i e i off len c hs hd;rw[hd] at hq;cases hq
 cases hc
theorem Qi:∀(vs:aR af) (k off:aY) (cs:bw af) (p:aY),off+k+vs.length<=cs.size->
  ((vs.zipIdx k).foldl (fun(cs:bw af) (x:af×aY)=>cs.setIfInBounds (off+x.2) x.1) cs).size=cs.size/\
  ((vs.zipIdx k).foldl (fun(cs:bw af) (x:af×aY)=>cs.setIfInBounds (off+x.2) x.1) cs)[p]?=if off+k<=p/\p<off+k+vs.length then some (vs.getD (p-(off+k)) undef) else cs[p]?:=by
 intro vs
 induction vs with
 |nil=>intro k off cs p _;exact⟨rfl,by rw[bA (by simp)];rfl⟩
 |cons v r ih=>
  intro k off cs p h;simp only[dc] at h;simp only[List.zipIdx_cons,List.foldl_cons];obtain⟨h1,h2⟩:=ih (k+1) off (cs.setIfInBounds (off+k) v) p (by simp;omega);refine⟨by rw[h1];simp,?_⟩;rw[h2];by_cases hp:off+(k+1)<=p/\p<off+(k+1)+r.length
  ·rw[ck hp,ck (by simp;omega),show p-(off+k)=(p-(off+(k+1)))+1 by omega,ed]
  rw[bA hp];by_cases Wz:p=off+k
  ·subst Wz;rw[ck (by simp),cL (by omega),gr,eV]
  rw[bA (by simp;omega),cJ (by omega)]
def PR (S:St):aR (aY×af)->aR (aY×af)->Prop
 |[],[]=>True
 |(i,v)::r,(j,u)::r' =>i=j/\VR S v u/\PR S r r'
 |_,_=>False
theorem Ij {S:St}(place SS:aY->av (aY×aY))(pg:∀i,place i=SS i):∀(parts lN:aR (aY×af)) (cs:aR af) (gY:bw af) (l:aR af),
  PR S parts lN->ft S cs gY.toList->iu place cs parts=some l->∃l',Instr.fill SS gY lN=some l' /\ft S l l'.toList:=by
 intro parts
 induction parts with
 |nil=>
  intro lN cs gY l hp hc h;cases lN with
  |nil=>simp only[iu] at h;obtain rfl:=ab h;exact⟨gY,rfl,hc⟩
  |cons _ _=>exact hp.elim
 |cons x r ih=>
  intro lN cs gY l hp hc h;obtain⟨i,v⟩:=x;cases lN with
  |nil=>exact hp.elim
  |cons y r' =>
   obtain⟨j,u⟩:=y;obtain⟨rfl,hv,hr⟩:=hp;simp only[iu] at h;split at h
   ·rename_i off size SU;split at h
    ·rename_i cX;simp only[aC,b5,cm] at cX;obtain⟨SG,gm⟩:=cX;split at h
     ·rename_i m hm;obtain⟨h1,_,h3⟩:=wK _ _ _ _ hm;have x9:=hv.cells;have hul:u.cells.size=size:=by have:=x9.1;simp at this SG;omega
      have iz:gY.size=cs.length:=by have:=hc.1;simp at this;omega
      have hcs:m.length=cs.length:=h1;have hf:=fun p=>Qi u.cells.toList 0 off gY p (by simp;omega)
      have hz2:u.cells.zipIdx.foldl (fun cs x=>cs.setIfInBounds (off+x.2) x.1) gY=(u.cells.toList.zipIdx 0).foldl (fun cs x=>cs.setIfInBounds (off+x.2) x.1) gY:=by
       rw[show u.cells.zipIdx=(u.cells.toList.zipIdx 0).toArray by rw[<-cA];simp,List.foldl_toArray]
      generalize hF:(u.cells.toList.zipIdx 0).foldl (fun cs x=>cs.setIfInBounds (off+x.2) x.1) gY=F at hf hz2;obtain⟨l',nS,iG⟩:=ih r' m F l hr (by
       have L4:=(hf 0).1;have ig:F.toList.length=F.size:=c8;refine⟨by omega,fun p hp=> ?_⟩;rw[h3 p];have hFp:F.toList.getD p undef=if off+0<=p/\p<off+0+u.cells.toList.length then u.cells.toList.getD (p-(off+0)) undef else gY.toList.getD p undef:=by
        rw[a8,bl,(hf p).2];split
        ·rfl
        rw[a8,bl]
       rw[hFp];by_cases hpp:off<=p/\p<off+v.cells.toList.length
       ·rw[ck hpp,ck (by rw[c8,hul];rw[SG] at hpp;omega)];exact x9.2 (p-off) (by omega)
       rw[bA hpp,bA (by rw[c8,hul];rw[SG] at hpp;omega)];exact hc.2 p (by omega)) h
      refine⟨l',?_,iG⟩;simp only[Instr.fill];rw[<-pg i,SU];simp only;rw[bA (by simp;omega),hz2];exact nS
     cases h
    cases h
   cases h
theorem zP {S:St}{f:aZ}{a:Act}(hf:FR S f a):∀{ps:aR (aY×c6)} {l:aR (aY×af)},ae f ps=some l->PR S l (ps.map fun x=>(x.1,a.eval x.2)):=by
 intro ps
 induction ps with
 |nil=>intro l h;simp only[ae] at h;obtain rfl:=ab h;trivial
 |cons x ps ih=>
  intro l h;obtain⟨i,x⟩:=x;simp only[ae] at h;split at h
  ·rename_i v r hv hr;obtain rfl:=ab h;exact⟨rfl,bM hf hv,ih hr⟩
  cases h
theorem SV {α β:Type}{P:an}(w:ca)(g:α->Sem β)(g' :α->β):∀(l:aR α),(∀x∈l,(g x).run P w= .ok (g' x) w)->(l.mapM g).run P w= .ok (l.map g') w:=by
 intro l
 induction l with
 |nil=>intro _;simp
 |cons x l ih=>
  intro h;simp[List.mapM_cons,h x (by simp),ih (fun y hy=>h y (by simp[hy]))]
theorem Qj {P:an}{S:St}{t:ao}{parts lN:aR (aY×af)}{v:af}(hp:PR S parts lN)(h:da P t parts=some v):Reads P S (Instr.build t lN.toArray) v:=by
 unfold da at h;split at h
 ·rename_i fs z hu hz;split at h
  ·rename_i hc;simp only[aC,List.all_eq_true] at hc;split at h
   ·rename_i l hl;obtain rfl:=ab h
    let g' :Field->aY×aY:=fun f=>(f.offset,(br P f.type).getD 0)
    have WE:(fs.mapM (fun f=>Prod.mk f.offset<$>sizeOf f.type):Sem (bw (aY×aY))).run P S.w= .ok (fs.map g') S.w:=by
     rw[Array.mapM_eq_mapM_toList];have:=SV (P:=P) S.w (fun f:Field=>(Prod.mk f.offset<$>sizeOf f.type:Sem (aY×aY))) g' fs.toList (fun f hf=>by
      obtain⟨n,hn⟩:=Option.isSome_iff_exists.1 (hc.2 f hf);simp[run_sizeOf hn,g',hn])
     simp only[Sem.run_map,this,ax]
     congr 1
     rw[<-cA];simp
    obtain⟨l',h1,h2⟩:=Ij (placeOf P fs) ((fs.map g')[·]?) (fun i=>by
     simp only[placeOf,e7];cases Z5:fs[i]? with
     |none=>rfl
     |some f=>
      have mB:f∈fs.toList:=by
       have:=Array.mem_of_getElem? Z5
       simpa using this
      obtain⟨n,hn⟩:=Option.isSome_iff_exists.1 (hc.2 f mB);simp[hn,g']) parts lN _ z.cells l hp (np hc.1).cells hl
    refine⟨.agg l',?_,.agg _ _ h2.1 h2.2⟩;simp only[e7] at h1;simp[Instr.build,eR hz,run_underlying hu,WE,h1]
   cases h
  cases h
 ·rename_i n e z hu hz;split at h
  ·rename_i sz hs;split at h
   ·rename_i hc;split at h
    ·rename_i l hl;obtain rfl:=ab h;obtain⟨l',h1,h2⟩:=Ij (fun i=>some (i*sz,sz)) (fun i=>some (i*sz,sz)) (fun _=>rfl) parts lN _ z.cells l hp (np hc).cells hl;refine⟨.agg l',?_,.agg _ _ h2.1 h2.2⟩;simp[Instr.build,eR hz,run_underlying hu,run_sizeOf hs,h1]
    cases h
   cases h
  cases h
 cases h
theorem fz (z:aR af):∀n,(db z n).length=n*z.length
 |0=>by simp[db]
 |n+1=>by rw[db,ch,fz z n,Nat.succ_mul];omega
theorem yd (z:aR af)(hz:0<z.length):∀n p,p<n*z.length->(db z n).getD p undef=z.getD (p%z.length) undef
 |0,p,h=>by simp at h
 |n+1,p,h=>by
  rw[db];by_cases hp:p<z.length
  ·rw[fy _ _ _ hp,Nat.mod_eq_of_lt hp]
  rw[mJ _ _ _ (by omega),yd z hz n (p-z.length) (by rw[ds,Nat.one_mul] at h;omega),<-Nat.mod_eq_sub_mod (by omega)]
theorem Qk (z:bw af)(n p:aY)(h:p<n)(hz:0<z.size):((eC n).map (z[·%z.size]!)).toList.getD p undef=z.toList.getD (p%z.size) undef:=by
 have h2:p%z.size<z.size:=g2 _ hz;simp[a8,h,h2]
theorem ye {S:St}{z:af}(hp:cr z=true){n:aY}(hn:z.cells.toList.length=n)(len m:aY)(hle:len*n<=m):∀p,p<len*n->VR S ((db z.cells.toList len).getD p undef) (((eC m).map (z.cells[·%z.cells.size]!)).toList.getD p undef):=by
 intro p h;have BJ:0<n:=by
  rcases Nat.eq_zero_or_pos n with h0|h0
  ·subst h0;simp at h
  exact h0
 have cX:z.cells.size=n:=by simpa using hn
 rw[yd _ (by omega) len p (by rw[hn];exact h),Qk _ _ _ (by omega) (by omega),hn,cX];exact((np hp).cells (S:=S)).2 _ (by rw[hn];exact g2 _ BJ)
theorem tX {P:an}{base:aY}{S:St}(h:SR base S){s0:au}{next:aY}(dI:oI S s0.next next){t:ao}{len:aY}{parts lN:aR (aY×af)}{v:af}{s' :au}(hp:PR S parts lN)(hb:bp P s0 t len parts=some (v,s')):
  tU P base S (Instr.buildSlice t len lN.toArray) v s0 s' next:=by
 unfold bp at hb;split at hb
 ·rename_i e hu;split at hb
  ·rename_i n z hn hz;split at hb
   ·rename_i hc;simp only[aC,cm,b5] at hc;obtain⟨⟨hle,pg⟩,L5⟩:=hc;split at hb
    ·rename_i l hl;have xM:(db z.cells.toList len).length=len*n:=by rw[fz,L5]
     obtain⟨l',h1,h2⟩:=Ij (fun i=>some (i*n,n)) (fun i=>some (i*n,n)) (fun _=>rfl) parts lN _ ((eC (len*n)).map (z.cells[·%z.cells.size]!)) l hp
      ⟨by rw[xM];simp,fun p hp=>ye pg L5 len (len*n) (a3 _) p (by rw[xM] at hp;exact hp)⟩ hl
     have Ie:l.length=l'.size:=by have:=h2.1;simpa using this
     have anM:l'.size=len*n:=by
      have:∀(ps:aR (aY×af)) (cs:aR af) (l:aR af),iu (fun i=>some (i*n,n)) cs ps=some l->l.length=cs.length:=by
       intro ps
       induction ps with
       |nil=>intro cs l h;simp only[iu] at h;obtain rfl:=ab h;rfl
       |cons x r ih=>
        intro cs l h;obtain⟨i,v⟩:=x;simp only[iu] at h;split at h
        ·split at h
         ·rename_i m hm;rw[ih m l h];exact(wK _ _ _ _ hm).1
         cases h
        cases h
      rw[<-Ie,this _ _ _ hl,xM]
     obtain⟨b,k0,T,k1,k2,k3,k4⟩:=pU h dI hb l' e (0,0) (S.w.alloc (.cells l' e)) len ⟨rfl,rfl,rfl,rfl⟩ (.inl rfl) (by omega) h2.2 (a3 _) (by omega);refine⟨b,k0,T,_,k1,?_,k3,k4⟩;rw[k2];have ahJ:¬(16777216<len*n):=by omega
     by_cases h0:len*n=0
     ·have hr:eC (len*n)= #[]:=by rw[h0];rfl
      rw[hr] at h1;simp only[Array.map_empty] at h1;simp[Instr.buildSlice,run_underlying hu,run_sizeOf hn,h0];rw[show eC 0= #[] from rfl];simp[h1,newRow]
     have YF:¬len*n>2^24:=by omega
     simp only[Instr.buildSlice,Sem.run_bind,run_underlying hu,ax,run_sizeOf hn,bA YF,Sem.run_pure,bA h0,eR hz];rw[h1];simp[newRow]
    cases hb
   cases hb
  cases hb
 cases hb
theorem we {P:an}{base:aY}{S:St}(h:SR base S){s0:au}{next:aY}(dI:oI S s0.next next){t:ao}{x y x' y' v:af}{s' :au}(hx:VR S x x')(hy:VR S y y')(hb:dq P s0 t x y=some (v,s')):
  tU P base S (Instr.makeSlice t x' y') v s0 s' next:=by
 unfold dq at hb;split at hb
 ·rename_i e k l k2 c hu;cases hx;cases hy
  split at hb
  ·rename_i n z kH hn hz oC;split at hb
   ·rename_i hc;simp only[aC,cm,b5] at hc;obtain⟨⟨⟨⟨yf,iy⟩,j6⟩,pg⟩,L5⟩:=hc;obtain⟨i,hi,Z8⟩:=xV hz;have his:i.size=n:=by obtain⟨i2,xJ,h3⟩:=xU hn;rw[hi] at xJ;obtain rfl:=ab xJ;exact h3
    have So:i.bytes=kH:=by obtain⟨i2,xJ,h3⟩:=qs oC;rw[hi] at xJ;obtain rfl:=ab xJ;exact h3
    have kC:=run_make (P:=P) S.w t e i z hu hi Z8 k k2 (Int.ofNat l) (Int.ofNat c) (Int.natCast_nonneg _) (Int.ofNat_le.2 yf) (by rw[So];exact(show((kH*c:aY):e8)<=((281474976710656:aY):e8) from Int.ofNat_le.2 (by omega))) (show((c:aY):e8)<=((9223372036854775807:aY):e8) from Int.ofNat_le.2 (by omega));have xM:(db z.cells.toList l).length=l*n:=by rw[fz,L5]
    have wO:l*n<=c*n:=cp _ yf;obtain⟨b,k0,T,k1,Ql,k3,k4⟩:=pU h dI hb (madeCells z.cells (c*n)) e (0,0) (S.w.alloc (.cells (madeCells z.cells (c*n)) e)) c ⟨rfl,rfl,rfl,rfl⟩ (.inl rfl) (by rw[xM,size_madeCells];exact wO)
     (fun p hp=>ye pg L5 l (c*n) wO p (by rw[xM] at hp;exact hp)) yf (by rw[size_madeCells];exact a3 _)
    refine⟨b,k0,T,_,k1,?_,k3,k4⟩;rw[Ql,kC,his];rfl
   cases hb
  cases hb
 cases hb
theorem JW (s:ee):s.extract 0 s.size=s:=by
 apply zL;rw[ByteArray.data_extract,er];simp only[gu,eA,gg];rw[List.take_of_length_le (by rw[<-size_data];exact a3 _)]
theorem CQ {P:an}{base:aY}{S:St}(h:SR base S){z n:aY}{y y' :af}{new:aR af}(hy:VR S y y')(hs:dU S.s z y=some (n,new)):
  ∃new',ft S new new' /\new.length=n*z/\∀W:ca,W.heap=S.w.heap->(cM y').run P W= .ok n W/\(bq z n y').run P W= .ok new'.toArray W:=by
 unfold dU at hs;split at hs
 ·injection hs with hs;injection hs with e1 e2;subst e1;subst e2
  cases hy;exact⟨[],ft.nil,by simp,fun W _=>by simp[cM,bq]⟩
 ·rename_i i off m c;cases hy with
  |slice _ _ _ _ a cap h0 hz hr=>
  split at hs
  ·injection hs with hs;injection hs with e1 e2;subst e1;subst e2
   exact⟨[],ft.nil,by simp,fun W _=>by simp[cM,bq,loadCells,loadCellsFrom]⟩
  rename_i m;split at hs
  ·rename_i l hl;injection hs with hs;injection hs with e1 e2;subst e1;subst e2
   obtain⟨b,hb,gv,_,_,wO,Fw,mF⟩:=h.cells hl;obtain⟨⟨b',jL,_,Ii⟩,_⟩:=hr (by omega);rw[hb] at jL;obtain rfl:=ab jL
   obtain rfl:=Ii gv.1;refine⟨_,Fw,wO,fun W hW=>⟨by simp[cM],?_⟩⟩;have hc:∀k o,W.cell? ⟨k,o,none⟩=S.w.cell? ⟨k,o,none⟩:=fun k o=>c4 (by rw[hW])
   have:=run_loadCells P W (S.e.loc i c).1 ((S.e.loc i c).2+off) _ (fun p hp=>by rw[hc];exact mF p hp);simp only[bq];rw[this]
   congr 2
   simp only[zJ,hc]
  cases hs
 ·rename_i b;cases hy;split at hs
  ·rename_i hz;obtain rfl:z=1:=by simpa [b5] using hz
   injection hs with hs;injection hs with e1 e2;subst e1;subst e2
   refine⟨ofBytes b.data.toList,wc _,by simp[ofBytes],fun W _=> ?_⟩;rw[<-size_data];refine⟨by simp[cM],?_⟩;simp only[bq,JW,Sem.run_pure]
   congr 1
   rw[<-cA];simp[ofBytes]
  cases hs
 cases hs
section
variable {P:an} {w:ca} {ts:bw ao} {ars:bw af} {st xt e ty:ao} {xd:TypeDesc} {z kH n qt yg:aY} {zv:af} {bs:av Addr} {y:af} {new:aR af}
def Src (P:an)(w w2:ca)(e:ao)(z:aY)(xd:TypeDesc)(y:af)(n:aY)(new:aR af):Prop:=
 (((∃e2,xd= .slice e2)\/xd= .string)/\(cM y).run P w= .ok n w/\(bq z n y).run P w2= .ok new.toArray w2)\/
 (∃k kk i zv,xd= .int k/\y= .int kk n/\P.info? e=some i/\n*i.bytes<=140737488355328/\n<=140737488355328/\b6 P e=some zv/\zv.cells.size=z/\0<z/\new=(bz zv.cells n).toList)
theorem wrap_small {n:aY}(h:n<=140737488355328):IntKind.i64.wrap (n:e8)=n:=by
 have e1:IntKind.i64.bits=64:=rfl;have e2:IntKind.i64.signed=true:=rfl;simp only[IntKind.wrap,e1,e2,en];simp;omega
theorem sP (h0:ts[0]?=some st)(h1:ts[1]?=some xt)(a0:ars[0]?=some (.slice bs qt yg))(a1:ars[1]?=some y)(hu:P.underlying st=some (.slice e))(hx:P.underlying xt=some xd)
  (hz:br P e=some z) (Ik:Src P w w e z xd y n new) (gw:qt+n<=yg) (hn:n=0) (gM:new=[]):
  (cb ts ty ars).run P w= .ok (.slice bs qt yg) w:=by
 subst hn;subst gM
 have hr:qt<=yg:=by omega
 rcases Ik with ⟨L6,hlen,V5⟩|⟨k,kk,i,zv,rfl,rfl,hi,fp,dr,qu,WG,hzp,gM⟩
 ·cases bs with
  |none=>rcases L6 with ⟨e2,rfl⟩|rfl<;>simp[cb,h0,h1,a0,a1,run_underlying hu,run_underlying hx,run_sizeOf hz,hlen,hr,V5]
  |some a=>rcases L6 with ⟨e2,rfl⟩|rfl<;>simp[cb,h0,h1,a0,a1,run_underlying hu,run_underlying hx,run_sizeOf hz,hlen,hr,V5,storeCells]
 have hw:IntKind.i64.wrap 0=0:=wrap_small (n:=0) (by omega);have V6:∀W:ca,(typeInfo e).run P W= .ok i W:=fun W=>by simp[typeInfo,hi]
 cases bs with
 |none=>simp[cb,h0,h1,a0,a1,run_underlying hu,run_underlying hx,run_sizeOf hz,hr,asInt,asIntOf,hw,V6]
 |some a=>simp[cb,h0,h1,a0,a1,run_underlying hu,run_underlying hx,run_sizeOf hz,hr,asInt,asIntOf,hw,V6,storeCells]
theorem wg {a:Addr}{w' :ca}(h0:ts[0]?=some st)(h1:ts[1]?=some xt)(a0:ars[0]?=some (.slice (some a) qt yg))(a1:ars[1]?=some y)(hu:P.underlying st=some (.slice e))(hx:P.underlying xt=some xd)
  (hz:br P e=some z) (Ik:Src P w w e z xd y n new) (BJ:0<n) (gw:qt+n<=yg) (aF:(storeCells (a.add (qt*z)) new).run P w= .ok () w'):
  (cb ts ty ars).run P w= .ok (.slice (some a) (qt+n) yg) w' :=by
 rcases Ik with ⟨L6,hlen,V5⟩|⟨k,kk,i,zv,rfl,rfl,hi,fp,dr,qu,WG,hzp,gM⟩
 ·rcases L6 with ⟨e2,rfl⟩|rfl<;>simp[cb,h0,h1,a0,a1,run_underlying hu,run_underlying hx,run_sizeOf hz,hlen,gw,V5,aF]
 have hw:=wrap_small dr;have V6:∀W:ca,(typeInfo e).run P W= .ok i W:=fun W=>by simp[typeInfo,hi]
 have Z9:¬(n:e8)<0:=by omega
 have oJ:¬(281474976710656<(n:e8)*(i.bytes:e8)):=by
  have:((n*i.bytes:aY):e8)=(n:e8)*(i.bytes:e8):=by push_cast;rfl
  omega
 have hnz:¬n*z=0:=by have:=eQ BJ hzp;omega
 subst gM;simp[cb,h0,h1,a0,a1,run_underlying hu,run_underlying hx,run_sizeOf hz,gw,aF,asInt,asIntOf,hw,V6,Z9,oJ,hnz,eR qu]
theorem qv {old:bw af}(h0:ts[0]?=some st)(h1:ts[1]?=some xt)(a0:ars[0]?=some (.slice bs qt yg))(a1:ars[1]?=some y)(hu:P.underlying st=some (.slice e))(hx:P.underlying xt=some xd)
  (hz:br P e=some z) (OI:dX P e=some kH) (qu:b6 P e=some zv) (Ik:Src P w w.drew e z xd y n new) (BJ:0<n)
  (gw:¬qt+n<=yg) (hold:(bq z qt (.slice bs qt yg)).run P w.drew= .ok old w.drew) (zQ:qt+n<=140737488355328) (FC:(qt+n)*kH<=140737488355328):
  (cb ts ty ars).run P w= .ok (.slice (some ⟨w.heap.size,0,none⟩) (qt+n) (grownCap w (qt+n) yg e))
   (w.drew.alloc (.cells (old++new.toArray++bz zv.cells (grownCap w (qt+n) yg e-(qt+n))) e)):=by
 obtain⟨i,hi,rfl⟩:=qs OI;have WH:¬(9223372036854775807<((qt:e8)+(n:e8))):=by omega
 have gm:eS (qt+n) yg*i.bytes<=281474976710656:=growslice_fits (by omega) (by omega);have oJ:¬(281474976710656<eS (qt+n) yg*i.bytes):=by omega
 have V6:∀W:ca,(typeInfo e).run P W= .ok i W:=fun W=>by simp[typeInfo,hi]
 have Il:∀(W:ca) (k:aY),(askRoom k).run P W= .ok () W:=fun W k=>by
  unfold askRoom;split
  ·rfl
  rfl
 rcases Ik with ⟨L6,hlen,V5⟩|⟨k,kk,i2,zv2,rfl,rfl,xJ,fp,dr,adr,WG,hzp,gM⟩
 ·rcases L6 with ⟨e2,rfl⟩|rfl<;>simp[cb,h0,h1,a0,a1,run_underlying hu,run_underlying hx,run_sizeOf hz,hlen,gw,V5,hold,V6,WH,oJ,eR qu,Question.forced,Il,newRow,grownCap]
 rw[qu] at adr;obtain rfl:=ab adr;rw[hi] at xJ;obtain rfl:=ab xJ;have hw:=wrap_small dr;have Z9:¬(n:e8)<0:=by omega
 have ahK:¬(281474976710656<(n:e8)*(i.bytes:e8)):=by
  have:((n*i.bytes:aY):e8)=(n:e8)*(i.bytes:e8):=by push_cast;rfl
  omega
 have hnz:¬n*z=0:=by have:=eQ BJ hzp;omega
 subst gM;simp[cb,h0,h1,a0,a1,run_underlying hu,run_underlying hx,run_sizeOf hz,gw,hold,V6,WH,oJ,eR qu,Question.forced,Il,newRow,grownCap,asInt,asIntOf,hw,Z9,ahK,hnz]
end
theorem WI {P:an}{base:aY}{S:St}(h:SR base S){e:ao}{z n kH:aY}{zv:af}{xd:TypeDesc}{y y' :af}{new:aR af}(hz:br P e=some z)(oC:dX P e=some kH)(qu:b6 P e=some zv)
  (wS:(match xd with| .slice _=>true| .string=>true| .int _=>true|_=>false)=true) (hy:VR S y y') (hs:CB S.s z kH zv xd y=some (n,new)):
  ∃new',ft S new new' /\new.length=n*z/\∀W W2:ca,W.heap=S.w.heap->W2.heap=S.w.heap->Src P W W2 e z xd y' n new' :=by
 cases xd<;>try (cases wS;done)
 case int k=>
  simp only[CB] at hs;split at hs
  case h_2=>cases hs
  rename_i kk m;split at hs
  case isFalse=>cases hs
  rename_i hc;simp only[aC,cm,b5,dK] at hc;obtain⟨⟨⟨⟨fp,dr⟩,pg⟩,L5⟩,hzp⟩:=hc;injection hs with hs;injection hs with e1 e2;subst e1;subst e2
  cases hy;obtain⟨i,hi,So⟩:=qs oC;have WG:zv.cells.size=z:=by simpa using L5
  refine⟨(bz zv.cells m).toList,⟨by rw[fz,L5];simp[bz,WG],fun p hp=> ?_⟩,by rw[fz,L5],fun W W2 _ _=> .inr ⟨k,kk,i,zv,rfl,rfl,hi,by rw[So];exact fp,dr,qu,WG,hzp,rfl⟩⟩;rw[fz,L5] at hp;exact ye (S:=S) pg L5 m (m*zv.cells.size) (by rw[WG];exact a3 _) p hp
 case slice e2=>
  obtain⟨new',h1,h2,h3⟩:=CQ (P:=P) h hy (by simpa [CB] using hs);exact⟨new',h1,h2,fun W W2 hW hW2=> .inl ⟨.inl ⟨e2,rfl⟩,(h3 W hW).1,(h3 W2 hW2).2⟩⟩
 case string=>
  obtain⟨new',h1,h2,h3⟩:=CQ (P:=P) h hy (by simpa [CB] using hs);exact⟨new',h1,h2,fun W W2 hW hW2=> .inl ⟨.inr rfl,(h3 W hW).1,(h3 W2 hW2).2⟩⟩
theorem yh {base:aY}{S:St}(h:SR base S){i off c len z:aY}{old:aR af}(hc:S.s.dG i off c (len*z)=some old):dU S.s z (.slice (some ⟨i,off,none⟩) len c)=some (len,old):=by
 cases len with
 |zero=>
  obtain⟨_,_,_,_,_,hl,_⟩:=h.cells hc;have:old=[]:=dg (by simpa using hl);simp[dU,this]
 |succ m=>simp[dU,hc]
theorem CR (z:bw af)(n:aY):(bz z n).size=n*z.size:=by simp[bz]
theorem CS {old new:aR af}{zv:af}{z len n cap:aY}(ho:old.length=len*z)(hn:new.length=n*z)(hz:zv.cells.toList.length=z)(tl:len+n<=cap):
  (old.toArray++new.toArray++bz zv.cells (cap-(len+n))).size=cap*z:=by
 simp only[fk,List.size_toArray,CR];have:zv.cells.size=z:=by simpa using hz
 rw[this,ho,hn,<-ds,<-ds]
 congr 1
 omega
theorem CT {old new:aR af}{zs:bw af}(p:aY)(h:p<old.length+new.length):(old.toArray++new.toArray++zs).toList.getD p undef=(old++new).getD p undef:=by
 simp only[c9];rw[fy _ _ _ (by simpa using h)]
theorem Mr {P:an}{base:aY}{S:St}(h:SR base S){st xt ty:ao}{x y x' y' v:af}{s' :au}(hx:VR S x x')(hy:VR S y y')(ha:eT P S.s st xt x y=some (v,s')){ts:bw ao}{ars:bw af}
  (h0:ts[0]?=some st) (h1:ts[1]?=some xt) (a0:ars[0]?=some x') (a1:ars[1]?=some y'):JT P base S (cb ts ty ars) v s' :=by
 unfold eT at ha;split at ha
 case h_2=>cases ha
 rename_i e xd hu hxu;split at ha
 case h_1=>cases ha
 rename_i wS;split at ha
 case h_2=>cases ha
 rename_i z kH zv hz oC qu;split at ha
 case h_2=>cases ha
 rename_i n new Ik;obtain⟨new',FD,vL,kC⟩:=WI (P:=P) h hz oC qu wS hy Ik;have CU:new'.length=n*z:=by rw[<-FD.1];exact vL
 have Qm:=kC S.w S.w rfl rfl;have hsd:=kC S.w S.w.drew rfl rfl;split at ha
 case h_2=>cases ha
 rename_i a len c;split at ha
 case isFalse=>cases ha
 rename_i jZ;simp only[aC,cm,dK,b5] at jZ;obtain⟨⟨⟨⟨FC,zQ⟩,YK⟩,aab⟩,tq⟩:=jZ;have ads:=FD.aT aab;cases n with
 |zero=>
  simp only at ha;injection ha with ha;injection ha with e1 e2;subst e1;subst e2
  have zR:new' =[]:=dg (by rw[CU];simp);have JS:=hx;cases hx with
  |jX=>exact⟨S,_,rfl,sP h0 h1 a0 a1 hu hxu hz Qm (a3 _) rfl zR,JS,Good.refl h⟩
  |slice i off _ _ a cap hle _ _=>exact⟨S,_,rfl,sP h0 h1 a0 a1 hu hxu hz Qm hle rfl zR,JS,Good.refl h⟩
 |succ m=>
  simp only at ha;have gZ:0<m+1:=Nat.succ_pos _;generalize m+1=n at*;have fresh:∀(bs:av Addr),ars[0]?=some (.slice bs 0 0)->a6 S.s new n z=some (v,s')->JT P base S (cb ts ty ars) v s' :=by
   intro bs hb hn;have hold:(bq z 0 (.slice bs 0 0)).run P S.w.drew= .ok #[] S.w.drew:=by cases bs<;>simp[bq,loadCells,loadCellsFrom]
   have adt:(0+n)*kH<=140737488355328:=e9 (cp _ (by omega)) FC;have hr:=qv (ty:=ty) h0 h1 hb a1 hu hxu hz oC qu hsd gZ (by omega) hold (by omega) adt;have L3:=grownCap_ge S.w (0+n) 0 e;have cX:=CS (old:=[]) (new:=new') (zv:=zv) (z:=z) (len:=0) (n:=n) (cap:=grownCap S.w (0+n) 0 e) (by simp) CU tq L3;obtain⟨T,k1,k2,k3,k4⟩:=tV h hn ([].toArray++new'.toArray++bz zv.cells (grownCap S.w (0+n) 0 e-(0+n))) e (0,0)
    (S.w.drew.alloc (.cells ([].toArray++new'.toArray++bz zv.cells (grownCap S.w (0+n) 0 e-(0+n))) e)) (grownCap S.w (0+n) 0 e) ⟨rfl,rfl,rfl,rfl⟩ (.inl rfl)
    (by rw[cX,vL];exact cp _ (by omega)) (fun p hp=>by rw[CT p (by simp;rw[CU];omega),List.nil_append];exact FD.2 p hp) (by omega) (by rw[cX];exact a3 _)
   rw[ew] at hr;refine⟨T,_,k1,?_,k3,k4⟩;rw[k2,hr];simp
  split at ha
  ·split at ha
   ·cases hx;exact fresh none a0 ha
   cases ha
  ·rename_i i off;cases hx with
   |slice _ _ _ _ a1' cap hle tE hr=>
   split at ha
   ·split at ha
    ·rename_i qN;obtain rfl:len=0:=by simpa [b5] using qN
     obtain rfl:=tE rfl;exact fresh (some a1') a0 ha
    cases ha
   rename_i c0;simp only[ev] at ha hr tE;split at ha
   case h_2=>cases ha
   rename_i b hb;split at ha
   case isFalse=>cases ha
   rename_i j6;simp only[aC,cm,b5] at j6;obtain⟨⟨iU,iw⟩,Mn⟩:=j6;split at ha
   ·rename_i qO;simp only[aC,b5] at qO;obtain⟨⟨Fv,rfl⟩,gN⟩:=qO;injection ha with ha;injection ha with e1 e2;subst e1;subst e2
    have gv:Live b (c0+1):=⟨iw,Nat.le_of_eq Fv⟩;have agx:0<n*z:=eQ gZ YK;by_cases gw:len+n<=cap
    ·obtain⟨⟨b',jL,_,Ii⟩,tl⟩:=hr (by omega);rw[hb] at jL;obtain rfl:=ab jL
     obtain rfl:=Ii gv.1;obtain⟨arr,E,fr,hk,gm⟩:=tl b hb iw;obtain⟨_,⟨aac,E2,fr2,qP,FH⟩,_⟩:=h.own i b hb iU _ gv;have xX:=hk;simp only at xX;rw[xX] at qP;injection qP with qP;injection qP with q1 q2 q3
     subst q1;subst q2;subst q3
     simp only[dw] at gm;rw[Mn] at gm;have hmul:(len+n)*z<=cap*z:=cp _ gw;rw[ds] at hmul;have YL:(S.e.loc i (c0+1)).2+b.cells.length+new'.length<=arr.size:=by rw[CU,<-gN];omega
     have hg:=Good.SJ h hb iU gv Fv FD xX YL;have aF:=mH P (S.e.loc i (c0+1)).1 ((S.e.loc i (c0+1)).2+0+len*z) new' S.w 0 arr E fr xX (FH.imp id And.left) (by omega) ads;rw[show(S.e.loc i (c0+1)).2+0+len*z+0=(S.e.loc i (c0+1)).2+b.cells.length by omega] at aF;have SW:=wg (ty:=ty) h0 h1 a0 a1 hu hxu hz Qm gZ gw (by rw[Addr.add_lit];exact aF);refine⟨_,_,rfl,SW,.slice _ _ _ _ _ _ (by omega) (fun q=>by omega) (fun _=>⟨⟨{b with cells:=b.cells++new},au.cC _ _ _ (by have:=h.lt hb;have:=h.room;omega),a3 _,fun _=> ?_⟩,fun b2 dr _=> ?_⟩),hg⟩
     ·simp only[fb,ch];rw[ck (by rw[vL];omega)]
     rw[au.cC _ _ _ (by have:=h.lt hb;have:=h.room;omega)] at dr;obtain rfl:=ab dr;obtain⟨mz,q1,q2,_⟩:=jY new' S.w _ _ arr E fr xX YL;exact⟨mz,E,fr,q1,by rw[q2];simp only[dw];rw[Mn];exact gm⟩
    have nq:S.s.dG i 0 (c0+1) (len*z)=some b.cells:=by
     simp only[au.dG,hb];rw[ck (by simp only[aC,cm,dK];exact⟨⟨iw,by omega⟩,by omega⟩),xR,tM,gN];simp
    obtain⟨JX,hvo,r8,SX⟩:=CQ (P:=P) h (VR.slice i 0 len (c0+1) a1' cap hle tE hr) (yh h nq);have Ms:JX.length=len*z:=by rw[<-hvo.1];exact r8
    have kP:=qv (ty:=ty) h0 h1 a0 a1 hu hxu hz oC qu hsd gZ gw (SX S.w.drew rfl).2 zQ FC;have L3:=grownCap_ge S.w (len+n) cap e;have cX:=CS (old:=JX) (new:=new') (zv:=zv) (z:=z) (len:=len) (n:=n) (cap:=grownCap S.w (len+n) cap e) Ms CU tq L3;have hg:=Good.WB (new:=new) (W:=S.w.drew.alloc (.cells (JX.toArray++new'.toArray++bz zv.cells (grownCap S.w (len+n) cap e-(len+n))) e)) h hb iU Fv ⟨rfl,rfl,rfl,rfl⟩ (.inl rfl)
     (by rw[cX,vL,<-gN,<-ds];exact cp _ L3) (fun p hp=>by
      rw[CT p (by rw[Ms,CU,gN,<-vL];exact hp)];exact(hvo.append FD).2 p (by rw[ch];exact hp))
    refine⟨_,_,rfl,kP,.slice _ _ _ _ _ _ L3 (fun q=>by omega) (fun _=>⟨⟨{b with cells:=b.cells++new},au.cC _ _ _ (by have:=h.lt hb;have:=h.room;omega),a3 _,fun _=> ?_⟩,fun b2 dr _=> ?_⟩),hg⟩
    ·simp only[fb,ch];rw[ck (by rw[vL];omega)]
    rw[au.cC _ _ _ (by have:=h.lt hb;have:=h.room;omega)] at dr;obtain rfl:=ab dr;refine⟨_,e,(0,0),heap_alloc_new S.w.drew _,?_⟩;simp only;rw[cX,Mn,ew];exact a3 _
   split at ha
   case h_2=>cases ha
   rename_i old nq;obtain⟨b2,dr,gv,_,_,r8,_⟩:=h.cells nq;rw[hb] at dr;obtain rfl:=ab dr
   obtain⟨JX,hvo,_,SX⟩:=CQ (P:=P) h (VR.slice i off len (c0+1) a1' cap hle tE hr) (yh h nq);have Ms:JX.length=len*z:=by rw[<-hvo.1];exact r8
   have AB:=Good.kill h hb;generalize V7:(⟨S.s.put i (.eE (Cl.kill b)),S.e,S.w⟩:St)=S1 at AB;have e1s:S1.s=S.s.put i (.eE (Cl.kill b)):=by rw[<-V7]
   have e1e:S1.e=S.e:=by rw[<-V7]
   have e1w:S1.w=S.w:=by rw[<-V7]
   have JY:=(hvo.append FD).mono AB.ext;rw[<-e1s] at ha;by_cases gw:len+n<=cap
   ·obtain⟨⟨b',jL,_,Ii⟩,tl⟩:=hr (by omega);rw[hb] at jL;obtain rfl:=ab jL
    obtain rfl:=Ii gv.1;obtain⟨arr,E,fr,hk,gm⟩:=tl b hb iw;obtain⟨yi,⟨aac,E2,fr2,qP,FH⟩,hex,_⟩:=h.own i b hb iU _ gv;have xX:=hk;simp only at xX gm;rw[xX] at qP;injection qP with qP;injection qP with q1 q2 q3
    subst q1;subst q2;subst q3
    rw[Mn] at gm;have hmul:(len+n)*z<=cap*z:=cp _ gw;rw[ds] at hmul;unfold a6 at ha;split at ha
    case isFalse=>cases ha
    rename_i hrm;injection ha with ha;injection ha with e1 e2;subst e1;subst e2
    have cE:∀j bj c',S1.s.bL j=some bj->Live bj c' ->(S1.e.loc j c').1≠(S.e.loc i (c0+1)).1:=by
     intro j bj c' tp gj heq;rw[e1e] at heq;rw[e1s] at tp;by_cases gD:j=i
     ·subst gD;rw[au.cC _ _ _ (by have:=h.lt hb;have:=h.room;omega)] at tp;obtain rfl:=ab tp;have q1:=gj.1;have q2:=gj.2;simp only[Cl.kill] at q1 q2;omega
     simp only[au.bL,au.bo _ _ _ _ (Ne.symm gD)] at tp;exact gD (hex j bj (by simpa [au.bL] using tp) c' gj heq)
    have iz:=h.cells nq;obtain⟨b3,FJ,_,_,_,_,hvc,hcc⟩:=iz;have hg:=Good.reuse AB.sr hrm z (k:=(S.e.loc i (c0+1)).1) (o:=(S.e.loc i (c0+1)).2+off) (arr:=arr) (E:=E) (fr:=fr) (by rw[e1w];exact xX) (by rw[<-Mn];exact FH) yi cE (old:=old) (new:=new) (new' :=new') (fun p hp=>by
      rw[r8] at hp;obtain⟨u,hu'⟩:=hcc p hp;have:=hvc.2 p (by omega);rw[zK _ _ _ _ _ hp,hu'] at this;exact⟨u,by rw[e1w];exact hu',this.mono AB.ext⟩) (FD.mono AB.ext) (by rw[r8,CU];omega)
    have aF:=mH P (S.e.loc i (c0+1)).1 ((S.e.loc i (c0+1)).2+off+len*z) new' S.w 0 arr E fr xX (FH.imp id And.left) (by rw[CU];omega) ads;rw[dw] at aF;have SW:=wg (ty:=ty) h0 h1 a0 a1 hu hxu hz Qm gZ gw (by rw[Addr.add_lit];exact aF);have a7:=xS hrm;have fV:∀(bb:kM),(S1.s.new (.eE bb)).bL S1.s.next=some bb:=fun bb=>by simp only[au.new,au.bL,Tr.bF _ _ _ _ (deep (show 0<16000001 by omega))]
    rw[e1w,r8] at hg;refine⟨_,_,rfl,SW,.slice _ _ _ _ _ _ gw (fun q=>by omega) (fun _=>⟨⟨_,fV _,a3 _,fun _=>by simp⟩,fun b4 FK _=> ?_⟩),AB.trans hg⟩;rw[fV] at FK;obtain rfl:=ab FK;obtain⟨mz,q1,q2,_⟩:=jY new' S.w _ ((S.e.loc i (c0+1)).2+off+len*z) arr E fr xX (by rw[CU];omega);exact⟨mz,E,fr,q1,by rw[q2];exact gm⟩
   have kP:=qv (ty:=ty) h0 h1 a0 a1 hu hxu hz oC qu hsd gZ gw (SX S.w.drew rfl).2 zQ FC;have L3:=grownCap_ge S.w (len+n) cap e;have cX:=CS (old:=JX) (new:=new') (zv:=zv) (z:=z) (len:=len) (n:=n) (cap:=grownCap S.w (len+n) cap e) Ms CU tq L3;obtain⟨T,k1,k2,k3,k4⟩:=tV AB.sr ha (JX.toArray++new'.toArray++bz zv.cells (grownCap S.w (len+n) cap e-(len+n))) e (0,0)
    (S.w.drew.alloc (.cells (JX.toArray++new'.toArray++bz zv.cells (grownCap S.w (len+n) cap e-(len+n))) e)) (grownCap S.w (len+n) cap e) (by rw[e1w];exact⟨rfl,rfl,rfl,rfl⟩) (.inl rfl)
    (by rw[cX,ch,r8,vL,<-ds];exact cp _ L3) (fun p hp=>by
     rw[ch] at hp;rw[CT p (by rw[Ms,CU,<-r8,<-vL];exact hp)];exact JY.2 p (by rw[ch];exact hp)) L3 (by rw[cX];exact a3 _)
   rw[e1w] at k3;exact⟨T,_,k1,by rw[k2];exact kP,k3,AB.trans k4⟩
  cases ha
theorem ER.length {S:St}:∀{l:aR (af×af)} {l' :aR MapEntry},ER S l l' ->l'.length=l.length
 |[],[],_=>rfl
 |(_,_)::_,_::_,h=>by simp[ER.length h.2.2]
 |[],_::_,h=>h.elim
 |_::_,[],h=>h.elim
theorem pj {P:an}{w:ca}{r:aY}{es:bw MapEntry}{tj:aY}(h:w.heap[r]?=some (.map es tj)):(getObj r).run P w= .ok (.map es tj) w:=by
 simp only[getObj,Sem.run,h]
theorem WJ {P:an}{base:aY}{S:St}(h:SR base S){t ty:ao}{x x' v:af}(hx:VR S x x')(hl:aQ P S.s t x=some v){ts:bw ao}{ars:bw af}(h0:ts[0]?=some t)(a0:ars[0]?=some x'):
  Reads P S (ec ts ty ars) v:=by
 unfold aQ at hl;split at hl
 ·rename_i b hu;cases hx;obtain rfl:=ab hl;rw[<-size_data b];exact⟨_,by simp[ec,h0,a0,run_underlying hu,goInt],.int _ _⟩
 ·rename_i n e hu;obtain rfl:=ab hl;exact⟨_,by simp[ec,h0,a0,run_underlying hu,goInt],.int _ _⟩
 ·rename_i e a n c hu;obtain rfl:=ab hl;cases hx<;>exact⟨_,by simp[ec,h0,a0,run_underlying hu,goInt],.int _ _⟩
 ·rename_i k e hu;cases hx;obtain rfl:=ab hl;exact⟨_,by simp[ec,h0,a0,run_underlying hu,goInt],.int _ _⟩
 ·rename_i k e r hu;cases hx;split at hl
  ·rename_i es he;obtain rfl:=ab hl;obtain⟨_,hJ,tj,h1,h2⟩:=h.map r es he;have hlen:=h2.length;refine⟨_,?_,.int _ _⟩;simp only[c8] at hlen;simp[ec,h0,a0,run_underlying hu,pj h1,goInt,hlen]
  cases hl
 cases hl
theorem WK {P:an}{S:St}{x y x' y' v:af}(hx:VR S x x')(hy:VR S y y')(h:Wx x y=some v):Reads P S (fl x' y') v:=by
 unfold Wx at h;split at h
 ·cases hx;cases hy
  obtain rfl:=ab h;exact⟨_,by simp[fl],.int _ _⟩
 cases h
theorem WL {P:an}{S:St}{x y x' y' v:af}(hx:VR S x x')(hy:VR S y y')(h:Wy x y=some v):Reads P S (fo x' y') v:=by
 unfold Wy at h;split at h
 ·cases hx;cases hy
  obtain rfl:=ab h;exact⟨_,by simp[fo],.int _ _⟩
 cases h
theorem JZ {P:an}{S:St}(g:af->af->av af)(g' :af->af->Sem af)(hg:∀{x y x' y' v:af},VR S x x' ->VR S y y' ->g x y=some v->Reads P S (g' x' y') v):
  ∀{l l' :aR af} {x x' v:af},VR S x x' ->ft S l l' ->Gt g x l=some v->Reads P S (l'.foldlM g' x') v:=by
 intro l
 induction l with
 |nil=>intro l' x x' v hx hl h;rw[hl.lI];simp only[Gt] at h;obtain rfl:=ab h;exact⟨_,by simp,hx⟩
 |cons y l ih=>
  intro l' x x' v hx hl h;obtain⟨y',r',rfl,h1,h2⟩:=hl.cons_inv;simp only[Gt] at h;split at h
  ·rename_i u hu;obtain⟨u',k1,k2⟩:=hg hx h1 hu;obtain⟨v',k3,k4⟩:=ih k2 h2 h;exact⟨v',by simp[List.foldlM_cons,k1,k3],k4⟩
  cases h
theorem SY (a b:ee):(a==b)=(a.data.toList==b.data.toList):=by
 show(a.data==b.data)=(a.data.toList==b.data.toList);by_cases h:a.data=b.data
 ·rw[h];simp
 have h2:¬a.data.toList=b.data.toList:=fun e=>h (cA.1 e)
 rw[beq_eq_false_iff_ne.2 h,beq_eq_false_iff_ne.2 h2]
theorem J0 (a:ee):(a==a)=true:=by rw[SY];simp
theorem yj {P:an}{t:ao}{a b:af}{r:cz}(h:OB P t a b=some r):∃d,P.underlying t=some d/\Instr.sameNow d a b=some r/\(r=true->a=b)/\(∀n,r=true->Instr.sameBits n b a=true):=by
 unfold OB at h;split at h
 ·rename_i k0 k x k' y hu;split at h
  ·rename_i hk;subst hk;obtain rfl:=ab h;refine⟨_,hu,by simp[Instr.sameNow],fun e=> ?_,fun n e=> ?_⟩
   ·simp at e;rw[e]
   simp at e;cases n<;>simp[Instr.sameBits,e]
  cases h
 ·rename_i x y hu;obtain rfl:=ab h;refine⟨_,hu,by simp only[Instr.sameNow,SY],fun e=> ?_,fun n e=> ?_⟩
  ·rw[zL (eq_of_beq e)]
  have:=zL (eq_of_beq e);subst this;cases n<;>simp[Instr.sameBits,J0]
 cases h
theorem CV {P:an}{S:St}{t:ao}{k:af}{d:TypeDesc}(hd:P.underlying t=some d):∀{es:aR (af×af)} {hJ:aR MapEntry} {r:av af} (i:aY),ER S es hJ->JI P t k es=some r->
  (r=none/\Instr.findNow d k hJ i=some none)\/∃v v' j,r=some v/\Instr.findNow d k hJ i=some (some (j,v'))/\VR S v v'
 |[],[],r,i,_,h=>by simp only[JI] at h;obtain rfl:=ab h;exact .inl ⟨rfl,rfl⟩
 |(k1,v1)::es,e::hJ,r,i,he,h=>by
  obtain⟨h1,h2,h3⟩:=he;simp only[JI] at h;split at h
  ·rename_i hk;obtain rfl:=ab h;obtain⟨d',SZ,hs,_⟩:=yj hk;rw[hd] at SZ;obtain rfl:=ab SZ
   exact .inr ⟨v1,e.val,i,rfl,by simp only[Instr.findNow,h1,hs],h2⟩
  ·rename_i hk;obtain⟨d',SZ,hs,_⟩:=yj hk;rw[hd] at SZ;obtain rfl:=ab SZ
   have:=CV hd (i+1) h3 h;simp only[Instr.findNow,h1,hs];exact this
  cases h
 |[],_::_,_,_,he,_=>he.elim
 |_::_,[],_,_,he,_=>he.elim
theorem run_findKey {P:an}{w:ca}{t:ao}{d:TypeDesc}{k:af}{es:aR MapEntry}{r:av (aY×af)}(hd:P.underlying t=some d)(h:Instr.findNow d k es 0=some r):(Instr.findKey t k es).run P w= .ok r w:=by
 simp[Instr.findKey,run_underlying hd,h]
theorem CW {P:an}{w:ca}{t:ao}{k:af}(h:pT P t k=true)(e:cz)(n:aY):(Instr.checkKey e (n+1) t k).run P w= .ok () w:=by
 unfold pT at h;split at h
 ·rename_i hu;simp[Instr.checkKey,run_underlying hu]
 ·rename_i hu;simp[Instr.checkKey,run_underlying hu]
 cases h
theorem yk {P:an}{t:ao}{k:af}(h:pT P t k=true):∃d,P.underlying t=some d:=by
 unfold pT at h;split at h
 ·exact⟨_,‹_›⟩
 ·exact⟨_,‹_›⟩
 cases h
theorem CX {P:an}{S:St}{t:ao}{k k' :af}(h:pT P t k=true)(hk:VR S k k'):k' =k:=by
 unfold pT at h;split at h
 ·cases hk;rfl
 ·cases hk;rfl
 cases h
theorem Mt {P:an}{base:aY}{S:St}(h:SR base S){t:ao}{m k m' k' v:af}{ok:cz}(hm:VR S m m')(hk:VR S k k')(hl:rW P S.s t m k ok=some v):Reads P S (Instr.lookup t m' k' ok) v:=by
 unfold rW at hl;split at hl
 case h_2=>cases hl
 rename_i kt et hu;split at hl
 case h_2=>cases hl
 rename_i z hz xX;obtain rfl:=CX xX hk;obtain⟨d,hd⟩:=yk xX;split at hl
 case isFalse=>cases hl
 rename_i pg;have Jy:∀(e:cz),(Instr.checkKey e 10000 kt k').run P S.w= .ok () S.w:=fun e=>CW xX e 9999
 have main:∀(hJ:aR MapEntry) (r:av (aY×af)) (rv:av af) (arr:bw MapEntry),arr.toList=hJ->Instr.findNow d k' hJ 0=some r->((rv=none/\r=none)\/∃u u' j,rv=some u/\r=some (j,u')/\VR S u u')->
   (match rv with|some v=>some (if ok then Value.tuple #[v,.bool true] else v)|none=>some (if ok then Value.tuple #[z,.bool false] else z))=some v->
   ((m' = .map none/\arr= #[])\/∃r tj,m' = .map (some r)/\S.w.heap[r]?=some (.map arr tj))->Reads P S (Instr.lookup t m' k' ok) v:=by
  intro hJ r rv arr ZZ hf ahN hv jq;have hfk:(Instr.findKey kt k' arr.toList).run P S.w= .ok r S.w:=run_findKey hd (by rw[ZZ];exact hf);rcases ahN with ⟨rfl,rfl⟩|⟨u,u',j,rfl,rfl,rT⟩
  ·simp only at hv;obtain rfl:=ab hv;refine⟨if ok then .tuple #[z,.bool false] else z,?_,?_⟩
   ·rcases jq with ⟨rfl,rfl⟩|⟨r,tj,rfl,hr⟩
    ·simp only[Instr.lookup,Sem.run_bind,run_underlying hu,ax,Jy,hfk,eR hz,Sem.run_pure]
    simp only[Instr.lookup,Sem.run_bind,run_underlying hu,ax,pj hr,Jy,hfk,eR hz,Sem.run_pure]
   cases ok
   ·exact np pg
   exact ft.tuple (l:=[z,.bool false]) (l' :=[z,.bool false]) (ft.cons (np pg) (ft.cons (.bool _) ft.nil))
  simp only at hv;obtain rfl:=ab hv;refine⟨if ok then .tuple #[u',.bool true] else u',?_,?_⟩
  ·rcases jq with ⟨rfl,rfl⟩|⟨r,tj,rfl,hr⟩
   ·simp only[Instr.lookup,Sem.run_bind,run_underlying hu,ax,Jy,hfk,Sem.run_pure]
   simp only[Instr.lookup,Sem.run_bind,run_underlying hu,ax,pj hr,Jy,hfk,Sem.run_pure]
  cases ok
  ·exact rT
  exact ft.tuple (l:=[u,.bool true]) (l' :=[u',.bool true]) (ft.cons rT (ft.cons (.bool _) ft.nil))
 split at hl
 ·rename_i v0 sQ;split at sQ
  ·cases sQ
  ·rename_i r;cases hm;split at sQ
   ·rename_i es he;obtain⟨_,hJ,tj,h1,h2⟩:=h.map r es he;rcases CV hd 0 h2 sQ with ⟨e,_⟩|⟨u,u',j,e,hf,hvr⟩
    ·cases e
    exact main hJ.toList _ (some v0) hJ rfl hf (.inr ⟨u,u',j,e,rfl,hvr⟩) hl (.inr ⟨_,tj,rfl,h1⟩)
   cases sQ
  cases sQ
 ·rename_i sQ;split at sQ
  ·cases hm;exact main [] none none #[] rfl rfl (.inl ⟨rfl,rfl⟩) hl (.inl ⟨rfl,rfl⟩)
  ·rename_i r;cases hm;split at sQ
   ·rename_i es he;obtain⟨_,hJ,tj,h1,h2⟩:=h.map r es he;rcases CV hd 0 h2 sQ with ⟨_,hf⟩|⟨u,u',j,e,_,_⟩
    ·exact main hJ.toList none none hJ rfl hf (.inl ⟨rfl,rfl⟩) hl (.inr ⟨_,tj,rfl,h1⟩)
    cases e
   cases sQ
  cases sQ
 cases hl
theorem OJ {P:an}{S:St}{t:ao}{k v v' :af}{d:TypeDesc}(hd:P.underlying t=some d)(hv:VR S v v'):∀{es l:aR (af×af)} {hJ:aR MapEntry} (i:aY),ER S es hJ->SF P t k v es=some l->
  (Instr.findNow d k hJ i=some none/\∀born,ER S l (hJ++[{key:=k,val:=v',born}]))\/
  ∃j u e,Instr.findNow d k hJ i=some (some (i+j,u))/\hJ[j]?=some e/\(∀n,Instr.sameBits n e.key k=true)/\ER S l (hJ.modify j fun e=>{e with key:=k,val:=v' })
 |[],l,[],i,_,h=>by
  simp only[SF] at h;obtain rfl:=ab h;exact .inl ⟨rfl,fun born=>⟨rfl,hv,trivial⟩⟩
 |(k1,v1)::es,l,e::hJ,i,he,h=>by
  obtain⟨h1,h2,h3⟩:=he;simp only[SF] at h;split at h
  ·rename_i hk;obtain rfl:=ab h;obtain⟨d',SZ,hs,heq,vq⟩:=yj hk;rw[hd] at SZ;obtain rfl:=ab SZ
   refine .inr ⟨0,e.val,e,by simp only[Instr.findNow,h1,hs,dw],rfl,fun n=>by rw[h1];exact vq n rfl,?_⟩;simp only[List.modify_zero_cons];exact⟨heq rfl,hv,h3⟩
  ·rename_i hk;obtain⟨d',SZ,hs,heq,vq⟩:=yj hk;rw[hd] at SZ;obtain rfl:=ab SZ
   split at h
   ·rename_i l2 iG;obtain rfl:=ab h;rcases OJ hd hv (i+1) h3 iG with ⟨q1,q2⟩|⟨j,u,e2,q1,q2,q3,q4⟩
    ·exact .inl ⟨by simp only[Instr.findNow,h1,hs];exact q1,fun born=>⟨h1,h2,q2 born⟩⟩
    refine .inr ⟨j+1,u,e2,by simp only[Instr.findNow,h1,hs];rw[q1];congr 3;omega,by simpa using q2,q3,?_⟩;simp only[List.modify_succ_cons];exact⟨h1,h2,q4⟩
   cases h
  cases h
 |[],_,_::_,_,he,_=>he.elim
 |_::_,_,[],_,he,_=>he.elim
def OK (P:an)(base:aY)(S:St)(m:Sem Unit)(s' :au):Prop:=∃T,T.s=s' /\m.run P S.w= .ok () T.w/\Good base S T
theorem CY {P:an}{w:ca}{r:aY}{es:bw MapEntry}{tj:aY}(h:w.heap[r]?=some (.map es tj))(o:Obj):(setObj r o).run P w= .ok () {w with heap:=w.heap.setIfInBounds r o}:=by
 simp only[setObj,Sem.run,h]
theorem AD {base:aY}{S:St}(h:SR base S){r:aY}{es l:aR (af×af)}(he:S.s.fj r=some es){hJ es2:bw MapEntry}{tj clk2:aY}(h1:S.w.heap[S.e.mp r]?=some (.map hJ tj))(h2:ER S l es2.toList):
  Good base S ⟨S.s.put r (.map l),S.e,{S.w with heap:=S.w.heap.setIfInBounds (S.e.mp r) (.map es2 clk2)}⟩:=by
 have a7:=fx h1;have hb:S.s.bL r=none:=by
  cases hq:S.s.bL r with
  |none=>rfl
  |some b=>exact(mc hq he).elim
 refine SR.Gu h r S.s.next l S.e.mp _ (h.mlt he) (a3 _) h.room (.inl (h.mlt he)) hb (fun _ _=>rfl) (fun _ _=>rfl) (fun k hk _=>by simp only;rw[cJ (Ne.symm hk)]) ?_ (h.map r es he).1 ?_ ?_ ?_
 ·intro arr E fr hk;rw[h1] at hk;cases hk
 ·exact⟨es2,clk2,by simp only;rw[cL a7],h2⟩
 ·intro r' ahO hr hq e;exact hr (h.Ia r' r ahO es hq he e)
 exact⟨rfl,rfl,rfl,by simp,fun k hk=>by simp only;rw[cJ (by have:=(h.map r es he).1;omega)]⟩
theorem FL {P:an}{base:aY}{S:St}(h:SR base S){t:ao}{m k v m' k' v' :af}{s' :au}(hm:VR S m m')(hk:VR S k k')(hv:VR S v v')(hu:lM P S.s t m k v=some s'):OK P base S (Instr.mapUpdate t m' k' v') s' :=by
 unfold lM at hu;split at hu
 case h_2=>cases hu
 rename_i kt et r hut;cases hm;split at hu
 case h_2=>cases hu
 rename_i es he xX;obtain rfl:=CX xX hk;obtain⟨d,hd⟩:=yk xX;have Jy:∀(e:cz),(Instr.checkKey e 10000 kt k').run P S.w= .ok () S.w:=fun e=>CW xX e 9999
 split at hu
 case h_2=>cases hu
 rename_i l hl;obtain rfl:=ab hu;obtain⟨_,hJ,tj,h1,h2⟩:=h.map r es he;rcases OJ hd hv 0 h2 hl with ⟨q1,q2⟩|⟨j,u,e,q1,q2,q3,q4⟩
 ·refine⟨_,rfl,?_,AD h he h1 (es2:=hJ.push {key:=k',val:=v',born:=tj}) (clk2:=tj+1) (by rw[Array.toList_push];exact q2 tj)⟩;simp only[Instr.mapUpdate,Sem.run_bind,run_underlying hut,ax,pj h1,Jy,run_findKey hd q1,CY h1]
 refine⟨_,rfl,?_,AD h he h1 (es2:=hJ.modify j fun e=>{e with key:=k',val:=v' }) (clk2:=tj) (by rw[Array.toList_modify];exact q4)⟩;rw[ew] at q1;have ahP:((hJ[j]?).map (·.key)).getD k' =e.key:=by
  have:hJ[j]?=some e:=by rw[<-bl];exact q2
  simp[this]
 have adx:(Instr.keyThatStays e.key k').run P S.w= .ok k' S.w:=by simp[Instr.keyThatStays,q3]
 simp only[Instr.mapUpdate,Sem.run_bind,run_underlying hut,ax,pj h1,Jy,run_findKey hd q1,ahP,adx,CY h1]
theorem CZ {P:an}{base:aY}{S:St}(h:SR base S){i off c:aY}{a1:Addr}(hr:vX S i off c a1){vs Ju:aR af}(hv:ft S vs Ju){s' :au}(hs:S.s.storeAt i off c vs=some s'):OK P base S (storeCells a1 Ju) s' :=by
 unfold au.storeAt at hs;split at hs
 case h_2=>cases hs
 rename_i b hb;split at hs
 case isFalse=>cases hs
 rename_i hc;simp only[aC,cm,b5] at hc;obtain⟨⟨⟨iU,iw⟩,Fv⟩,gF⟩:=hc;split at hs
 ·cases hs
 rename_i J1;split at hs
 case h_2=>cases hs
 rename_i l hl;obtain rfl:=ab hs;have gv:Live b c:=⟨iw,by omega⟩;obtain rfl:=hr.addr hb gv;have aad:=hv.aT gF;obtain⟨hg,arr,E,fr,h1,h2,h3⟩:=Good.store h hb iU gv Fv hl hv (by simp);refine⟨_,rfl,?_,hg⟩;have:=mH P (S.e.loc i c).1 ((S.e.loc i c).2+off) Ju S.w 0 arr E fr h1 h2 (by omega) aad;exact this
theorem Qn {P:an}{S:St}{y y' y2:af}{d k:aY}(hy:VR S y y')(hc:H8 d y=some (k,y2)):
  ∃y2' m,VR S y2 y2' /\(∀W:ca,(cM y').run P W= .ok m W)/\Nat.min m d=k/\∀z,bq z k y' =bq z k y2' :=by
 unfold H8 at hc;split at hc
 ·rename_i a n c;injection hc with hc;injection hc with e1 e2;subst e1;subst e2
  cases hy with
  |jX=>exact⟨_,0,by rw[Nat.zero_min];exact .jX,fun W=>by simp[cM],rfl,fun z=>rfl⟩
  |slice i off _ _ a' cap h0 hz hr=>exact⟨.slice (some a') (min n d) cap,n,.slice i off _ c a' cap (by omega) hz hr,fun W=>by simp[cM],rfl,fun z=>rfl⟩
 ·rename_i b;injection hc with hc;injection hc with e1 e2;subst e1;subst e2
  cases hy;refine⟨_,b.data.toList.length,.string _,fun W=>by rw[<-size_data];simp[cM],rfl,fun z=> ?_⟩;simp only[bq]
  congr 2
  rw[<-cA];simp[List.take_take]
 cases hc
theorem Qo {P:an}{base:aY}{S:St}(h:SR base S){t ty:ao}{x x' v:af}{s' :au}(hx:VR S x x')(ha:zG P S.s t x=some (v,s')){ts:bw ao}{ars:bw af}
  (h0:ts[0]?=some t) (a0:ars[0]?=some x'):JT P base S (eh ts ty ars) v s' :=by
 unfold zG at ha;split at ha
 ·rename_i e n c hu;cases hx;injection ha with ha;injection ha with e1 e2;subst e1;subst e2
  exact⟨S,_,rfl,by simp only[eh,h0,a0,Sem.run_bind,run_underlying hu,ax];rfl,VR.tK S,Good.refl h⟩
 ·rename_i e i off n c hu;cases hx with
  |slice _ _ _ _ a cap yf hz hr=>
  split at ha
  ·injection ha with ha;injection ha with e1 e2;subst e1;subst e2
   exact⟨S,_,rfl,by simp only[eh,h0,a0,Sem.run_bind,run_underlying hu,ax];rfl,VR.tK S,Good.refl h⟩
  rename_i m;split at ha
  case h_2=>cases ha
  rename_i z zv cX qu;split at ha
  case isFalse=>cases ha
  rename_i hc;simp only[aC,b5,dK] at hc;obtain⟨⟨pg,L5⟩,YK⟩:=hc;split at ha
  case h_2=>cases ha
  rename_i s1 aF;injection ha with ha;injection ha with e1 e2;subst e1;subst e2
  have tl:0<cap:=by omega
  have WG:zv.cells.size=z:=by simpa using L5
  have FD:ft S (db zv.cells.toList (m+1)) (bz zv.cells (m+1)).toList:=by
   refine⟨by rw[fz,L5];simp[bz,WG],fun p hp=> ?_⟩;rw[fz,L5] at hp;have:=ye (S:=S) pg L5 (m+1) ((m+1)*zv.cells.size) (by rw[WG];exact a3 _) p hp;exact this
  obtain⟨T,hT,Mu,hg⟩:=CZ (P:=P) h (hr tl).1 FD aF;refine⟨T,_,hT,?_,VR.tK T,hg⟩;simp only[eh,h0,a0,Sem.run_bind,run_underlying hu,ax,eR qu,Mu];rfl
 cases ha
theorem S4 {P:an}{base:aY}{S:St}(h:SR base S){dT ty:ao}{x y x' y' v:af}{s' :au}(hx:VR S x x')(hy:VR S y y')(ha:CC P S.s dT x y=some (v,s')){ts:bw ao}{ars:bw af}
  (h0:ts[0]?=some dT) (a0:ars[0]?=some x') (a1:ars[1]?=some y'):JT P base S (eo ts ty ars) v s' :=by
 unfold CC at ha;split at ha
 case h_2=>cases ha
 rename_i e a Ww c hu;split at ha
 case h_2=>cases ha
 rename_i z k y2 hz kD;obtain⟨y2',m,nh,hlen,aae,Mv⟩:=Qn (P:=P) hy kD;split at ha
 ·injection ha with ha;injection ha with e1 e2;subst e1;subst e2
  have hf:(bq z 0 y2').run P S.w= .ok #[] S.w:=by
   cases nh with
   |jX=>simp[bq]
   |slice=>simp[bq,loadCells,loadCellsFrom]
   |string=>simp[bq]
   |_=>exfalso;unfold H8 at kD;split at kD<;>simp at kD
  have YM:Nat.min m Ww=0:=aae;refine⟨S,.int .i64 0,rfl,?_,.int _ _,Good.refl h⟩;cases hx with
  |jX=>simp only[eo,h0,a0,a1,Sem.run_bind,run_underlying hu,ax,hlen,YM,run_sizeOf hz,Mv,hf];simp[goInt]
  |slice=>simp only[eo,h0,a0,a1,Sem.run_bind,run_underlying hu,ax,hlen,YM,run_sizeOf hz,Mv,hf];simp[storeCells,goInt]
 rename_i k;split at ha
 case h_2=>cases ha
 rename_i k2 new i off hs;split at ha
 case h_2=>cases ha
 rename_i t hk aF;have hk' :k2=k+1:=Nat.eq_of_beq_eq_true hk;subst hk';injection ha with ha;injection ha with e1 e2;subst e1;subst e2
 obtain⟨new',FD,_,kC⟩:=CQ (P:=P) h nh hs;cases hx with
 |slice _ _ _ _ a' cap h0' Gz hr=>
 have tl:0<cap:=by have:k+1<=Ww:=by rw[<-ev,<-aae];exact Nat.min_le_right _ _
                   omega
 obtain⟨T,hT,Mu,hg⟩:=CZ (P:=P) h (hr tl).1 FD aF;refine⟨T,.int .i64 (k+1),hT,?_,.int _ _,hg⟩;simp only[eo,h0,a0,a1,Sem.run_bind,run_underlying hu,ax,hlen,aae,run_sizeOf hz,Mv,(kC S.w rfl).2,Mu];simp[goInt]
theorem OL {P:an}{w w' :ca}{s:Sem af}{v:af}(h:s.run P w= .ok v w'):(do pure (Next.value (<-s)):Sem Next).run P w= .ok (.value v) w' :=by
 simp[h]
theorem ady {P:an}{w w' :ca}{s:Sem Unit}(h:s.run P w= .ok () w'):(do s;pure Next.skip:Sem Next).run P w= .ok .skip w' :=by
 simp[h]
def S5 (P:an)(S:St)(a:Act)(o:eb)(s:au)(r:av AR):Prop:=
 ∀x,r=some x->∃v,x= .val v s/\∃v',VR S v v' /\(execOp a.eval o).run P S.w= .ok (.value v') S.w
theorem fW {P:an}{S:St}{a:Act}{o:eb}{m:Sem af}{r:av af}(he:execOp a.eval o=(do pure (Next.value (<-m))))(h:∀v,r=some v->Reads P S m v):S5 P S a o S.s (qo S.s r):=by
 intro x hx;cases r with
 |none=>simp[qo] at hx
 |some v=>
  simp only[qo] at hx;obtain rfl:=ab hx;obtain⟨v',h1,h2⟩:=h v rfl;exact⟨v,rfl,v',h2,by rw[he];exact OL h1⟩
theorem dM {P:an}{S:St}{a:Act}{o:eb}:S5 P S a o S.s none:=fun x hx=>by cases hx
theorem jd {α:Type}{a:bw α}{x:α}{r:aR α}(h:a.toList=x::r):a[0]?=some x:=by rw[<-bl,h];rfl
theorem tY {α:Type}{a:bw α}{x y:α}{r:aR α}(h:a.toList=x::y::r):a[1]?=some y:=by rw[<-bl,h];rfl
theorem GB {P:an}{base:aY}{S:St}(h:SR base S){f:aZ}{a:Act}(hf:FR S f a){o:eb}(hq:aS P o=true):S5 P S a o S.s (cV P o f S.s):=by
 obtain⟨dst,op,type,pos,after,guard⟩:=o;cases op<;>try (simp[aS] at hq;done)
 case move x=>
  refine fW (m:=pure (a.eval x)) (by simp[execOp]) (fun v hv=>⟨_,by simp,bM hf hv⟩)
 case assign x=>
  refine fW (m:=pure (a.eval x)) (by simp[execOp]) (fun v hv=>⟨_,by simp,bM hf hv⟩)
 case pick c x y=>
  intro r hr;simp only[cV] at hr;split at hr
  ·rename_i t u v h1 h2 h3;obtain rfl:=ab hr;have hc:=bM hf h1;have hx:=bM hf h2;have hy:=bM hf h3;generalize x9:a.eval c=cv at hc;cases hc;refine⟨_,rfl,if t then a.eval x else a.eval y,by cases t<;>assumption,?_⟩;simp[execOp,x9,asBool]
  cases hr
 case build t ps=>
  simp only[cV];split
  ·rename_i l hl;refine fW (m:=Instr.build t (ps.map fun(i,x)=>(i,a.eval x))) rfl (fun v hv=> ?_);have:=Qj (P:=P) (zP hf hl) hv;have e:(ps.map fun(x:aY×c6)=>(x.1,a.eval x.2))=(ps.toList.map fun x=>(x.1,a.eval x.2)).toArray:=by rw[<-cA];simp
   rw[e];exact this
  exact dM
 case load t x=>
  simp only[cV];split
  ·rename_i u hu;exact fW rfl (fun v hv=>JO h (bM hf hu) hv)
  exact dM
 case nilCheck x=>
  intro r hr;simp only[cV] at hr;split at hr
  ·rename_i p hp;obtain rfl:=ab hr;have hx:=bM hf hp;refine⟨_,rfl,a.eval x,hx,?_⟩;generalize x9:a.eval x=cv at hx;cases hx<;>simp[execOp,x9]
  ·rename_i g ars bs hp;obtain rfl:=ab hr;have hx:=bM hf hp;refine⟨_,rfl,a.eval x,hx,?_⟩;generalize x9:a.eval x=cv at hx;cases hx;simp[execOp,x9]
  cases hr
 case binOp op t x y yt=>
  simp only[cV];split
  ·rename_i u v hu hv;exact fW rfl (fun r hr=>WD (bM hf hu) (bM hf hv) hr)
  exact dM
 case unOp op t x=>
  simp only[cV];split
  ·rename_i u hu;exact fW rfl (fun r hr=>Z6 (bM hf hu) hr)
  exact dM
 case convert s d x=>
  simp only[cV];split
  ·rename_i u hu;intro r hr;cases hc:ir P S.s s d u with
   |none=>rw[hc] at hr;simp[oU] at hr
   |some p=>
    obtain⟨v,s'⟩:=p;rw[hc] at hr;simp only[oU] at hr;obtain rfl:=ab hr;have Fo:tW (P.underlying d)=false:=by
     simp only[aS] at hq;unfold tW;cases hd:P.underlying d with
     |none=>rfl
     |some e=>rw[hd] at hq;cases e<;>first|rfl|cases hq
    obtain⟨rfl,v',h1,h2⟩:=Mp h (bM hf hu) hc Fo;exact⟨v,rfl,v',h2,OL h1⟩
  exact dM
 case makeFunc fn ars bs=>
  intro r hr;cases fn<;>simp only[cV] at hr<;>try (cases hr;done)
  rename_i g;split at hr
  ·rename_i l m h1 h2;obtain rfl:=ab hr;have hl:=rZ hf h1;have hm:=rZ hf h2;refine⟨_,rfl,.func (.func g) (ars.map a.eval) (bs.map a.eval),?_,by simp[execOp,Instr.makeFunc]⟩;refine .func g _ _ _ _ (by simpa using hl.1) (by simpa using hm.1) (fun i hi=> ?_) (fun i hi=> ?_)
   ·simpa using hl.2 i (by simpa using hi)
   simpa using hm.2 i (by simpa using hi)
  cases hr
 case makeInterface t x=>
  intro r hr;simp only[cV] at hr;split at hr
  ·cases hr
  ·rename_i d v L6 hd hv;obtain rfl:=ab hr;refine⟨_,rfl,.iface t (a.eval x),.iface t _ _ (bM hf hv),?_⟩;cases d<;>first
    |exact cT rfl (L6 _)
    |simp[execOp,Instr.makeInterface,run_underlying hd]
  cases hr
 case slice t x lo hi mx=>
  simp only[cV];split
  ·rename_i u l h' m h1 h2 h3 h4;refine fW rfl (fun r hr=>Qg h (bM hf h1) ?_ ?_ ?_ hr)
   ·rcases Ih hf h2 with ⟨q1,q2⟩|⟨v,v',q1,q2,q3⟩
    ·exact .inl ⟨q1,q2⟩
    exact .inr ⟨v,v',q1,q2,q3⟩
   ·rcases Ih hf h3 with ⟨q1,q2⟩|⟨v,v',q1,q2,q3⟩
    ·exact .inl ⟨q1,q2⟩
    exact .inr ⟨v,v',q1,q2,q3⟩
   rcases Ih hf h4 with ⟨q1,q2⟩|⟨v,v',q1,q2,q3⟩
   ·exact .inl ⟨q1,q2⟩
   exact .inr ⟨v,v',q1,q2,q3⟩
  exact dM
 case fieldAddr t x i=>
  simp only[cV];split
  ·rename_i u hu;exact fW rfl (fun r hr=>FB (bM hf hu) hr)
  exact dM
 case field t x i=>
  simp only[cV];split
  ·rename_i u hu;exact fW rfl (fun r hr=>Qe (bM hf hu) hr)
  exact dM
 case indexAddr t x y=>
  simp only[cV];split
  ·rename_i u v hu hv;exact fW rfl (fun r hr=>FA (bM hf hu) (bM hf hv) hr)
  exact dM
 case index t x y=>
  simp only[cV];split
  ·rename_i u v hu hv;exact fW rfl (fun r hr=>Qf (bM hf hu) (bM hf hv) hr)
  exact dM
 case lookup t x y ok=>
  simp only[cV];split
  ·rename_i u v hu hv;exact fW rfl (fun r hr=>Mt h (bM hf hu) (bM hf hv) hr)
  exact dM
 case extract x i=>
  simp only[cV];split
  ·rename_i u hu;exact fW rfl (fun r hr=>JR (bM hf hu) hr)
  exact dM
 case call c=>
  obtain⟨callee,args,ts⟩:=c;simp only[cV];split
  case h_2=>exact dM
  rename_i l hl;have Fw:=rZ hf hl;cases callee with
  |value x=>simp[aS] at hq
  |invoke x m=>simp[aS] at hq
  |builtin b=>
   simp only;cases b<;>try (simp[aS] at hq;done)
   case len=>
    cases ht:ts.toList with
    |nil=>exact dM
    |cons t tr=>
     cases l with
     |nil=>exact dM
     |cons x xr=>
      obtain⟨x',r',e,hx',_⟩:=Fw.cons_inv;refine fW (m:=ec ts type (args.map a.eval)) rfl (fun v hv=>WJ h hx' hv (jd ht) ?_);exact jd (by rw[cx];exact e)
   case min=>
    cases l with
    |nil=>exact dM
    |cons x xr=>
     obtain⟨x',r',e,hx',C0⟩:=Fw.cons_inv;refine fW (m:=gE ts type (args.map a.eval)) rfl (fun v hv=> ?_);obtain⟨v',k1,k2⟩:=JZ (P:=P) Wx fl WK hx' C0 hv;exact⟨v',by simp only[gE,cx,e];exact k1,k2⟩
   case max=>
    cases l with
    |nil=>exact dM
    |cons x xr=>
     obtain⟨x',r',e,hx',C0⟩:=Fw.cons_inv;refine fW (m:=gG ts type (args.map a.eval)) rfl (fun v hv=> ?_);obtain⟨v',k1,k2⟩:=JZ (P:=P) Wy fo WL hx' C0 hv;exact⟨v',by simp only[gG,cx,e];exact k1,k2⟩
theorem qw {s:au}{cs:aR af}{len mD:aY}{r:af×au}(h:a6 s cs len mD=some r):s.room=true:=by
 unfold a6 at h;split at h
 ·assumption
 cases h
theorem AE {s:au}{cs:aR af}{mD:aY}{r:af×au}(h:iE s cs mD=some r):s.room=true:=by
 unfold iE at h;split at h
 ·assumption
 cases h
theorem FM {P:an}{s:au}{t:ao}{n:aY}{ps:aR (aY×af)}{r:af×au}(h:bp P s t n ps=some r):s.room=true:=by
 unfold bp at h;split at h
 ·split at h
  ·split at h
   ·split at h
    ·exact qw h
    cases h
   cases h
  cases h
 cases h
theorem Im {P:an}{s:au}{t:ao}{x y:af}{r:af×au}(h:dq P s t x y=some r):s.room=true:=by
 unfold dq at h;split at h
 ·split at h
  ·split at h
   ·exact qw h
   cases h
  cases h
 cases h
theorem Io {P:an}{s:au}{a b:ao}{x:af}{r:af×au}(h:ir P s a b x=some r)(ht:jV P a b=true):s.room=true:=by
 unfold jV at ht;split at ht
 case h_2=>cases ht
 rename_i e0 js Qh;unfold ir at h;split at h
 ·rename_i hs hd;rw[Qh] at hd;cases hd
 ·rename_i hs hd;rw[Qh] at hd;cases hd
 ·split at h
  ·exact qw h
  cases h
 ·rename_i hs hd;rw[js] at hs;cases hs
 ·rename_i hs hd;rw[Qh] at hd;cases hd
 ·rename_i hs hd;rw[Qh] at hd;cases hd
 cases h
def Mw (P:an)(base:aY)(S:St)(a:Act)(o:eb):AR->Prop
 | .val v s' =>∃T v',T.s=s' /\VR T v v' /\Good base S T/\((execOp a.eval o).run P S.w= .ok (.value v') T.w\/((execOp a.eval o).run P S.w= .ok .skip T.w/\v' =undef))
 | .call g args=>∃args' :bw af,ft S args args'.toList/\execOp a.eval o=callFunc g args'
theorem nT {P:an}{base:aY}{S:St}{a:Act}{o:eb}{m:Sem af}{r:av (af×au)}(he:execOp a.eval o=(do pure (Next.value (<-m))))(h:∀v s',r=some (v,s')->JT P base S m v s'):
  ∀x,oU r=some x->Mw P base S a o x:=by
 intro x hx;cases r with
 |none=>simp[oU] at hx
 |some p=>
  obtain⟨v,s'⟩:=p;simp only[oU] at hx;obtain rfl:=ab hx;obtain⟨T,v',h1,h2,h3,h4⟩:=h v s' rfl;exact⟨T,v',h1,h3,h4,.inl (by rw[he];exact OL h2)⟩
theorem GC {P:an}{base:aY}{S:St}{a:Act}{o:eb}{m:Sem Unit}{r:av au}(he:execOp a.eval o=(do m;pure Next.skip))(h:∀s',r=some s' ->OK P base S m s'):
  ∀x,Fk r=some x->Mw P base S a o x:=by
 intro x hx;cases r with
 |none=>simp[Fk] at hx
 |some s' =>
  simp only[Fk] at hx;obtain rfl:=ab hx;obtain⟨T,h1,h2,h3⟩:=h s' rfl;exact⟨T,undef,h1,VR.tK T,h3,.inr ⟨by rw[he];exact ady h2,rfl⟩⟩
theorem Qp {P:an}{base:aY}{S:St}(h:SR base S){t:ao}{a v a' v' :af}{s' :au}(ha:VR S a a')(hv:VR S v v')(hs:fw P S.s t a v=some s'):OK P base S (Instr.storeAt t a' v') s' :=by
 unfold fw at hs;split at hs
 ·rename_i i off c hn;obtain⟨a1,rfl,hr⟩:=ha.r5;split at hs
  ·rename_i hlen;obtain rfl:=ab hs;have dk:v.cells.toList.length=0:=by simpa [b5] using hlen
   have x9:=hv.cells;have cX:v'.cells.size=0:=by have:=x9.1;rw[dk] at this;simpa using this.symm
   have J1:v'.cells.toList=[]:=by simpa using cX
   refine⟨S,rfl,?_,Good.refl h⟩;simp[Instr.storeAt,Instr.sureAddr,storeVar,run_sizeOf hn,cX];rw[J1];rfl
  cases hs
 ·rename_i i off c n cE hn;obtain⟨a1,rfl,hr⟩:=ha.r5;split at hs
  ·rename_i hlen;have dk:v.cells.toList.length=n:=by simpa [b5] using hlen
   unfold au.storeAt at hs;split at hs
   ·rename_i b hb;split at hs
    ·rename_i hc;simp only[aC,cm,b5] at hc;obtain⟨⟨⟨iU,iw⟩,Fv⟩,gF⟩:=hc;split at hs
     ·cases hs
     rename_i J1;split at hs
     ·rename_i l hl;obtain rfl:=ab hs;have gv:Live b c:=⟨iw,by omega⟩;obtain rfl:=hr.addr hb gv;have x9:=hv.cells;have cX:v'.cells.size=n:=by have:=x9.1;simp at this dk;omega
      have aad:=x9.aT gF;obtain⟨hg,arr,E,fr,h1,h2,h3⟩:=Good.store h hb iU gv Fv hl x9 (by rw[J1];simp);refine⟨_,rfl,?_,hg⟩;have:=mH P (S.e.loc i c).1 ((S.e.loc i c).2+off) v'.cells.toList S.w 0 arr E fr h1 h2 (by omega) aad;simp[Instr.storeAt,Instr.sureAddr,storeVar,run_sizeOf hn,cX,this]
     cases hs
    cases hs
   cases hs
  cases hs
 cases hs
theorem Ip {P:an}{base:aY}{S:St}(h:SR base S){f:aZ}{a:Act}(hf:FR S f a){o:eb}:∀x,cV P o f S.s=some x->Mw P base S a o x:=by
 by_cases hq:aS P o=true
 ·intro x hx;obtain⟨v,rfl,v',h1,h2⟩:=GB h hf hq x hx;exact⟨S,v',rfl,h1,Good.refl h,.inl h2⟩
 obtain⟨dst,op,type,pos,after,guard⟩:=o;cases op<;>try (simp[aS] at hq;done)
 all_goals try (intro x hx;simp[cV] at hx;done)
 case alloc e=>
  simp only[cV];intro x hx;split at hx
  ·rename_i z hz;split at hx
   ·rename_i hp;exact nT rfl (fun v s' hv=>(JV h (oI.self h (AE hv)) hz hp hv).JU) x hx
   cases hx
  cases hx
 case box e y=>
  simp only[cV];intro x hx;split at hx
  ·rename_i u hu;exact nT rfl (fun v s' hv=>(SQ h (oI.self h (AE hv)) (bM hf hu) hv).JU) x hx
  cases hx
 case buildSlice t n ps=>
  simp only[cV];intro x hx;split at hx
  ·rename_i l hl;refine nT (m:=Instr.buildSlice t n (ps.map fun(i,x)=>(i,a.eval x))) rfl (fun v s' hv=> ?_) x hx;have:=(tX (P:=P) h (oI.self h (FM hv)) (zP hf hl) hv).JU;have e:(ps.map fun(x:aY×c6)=>(x.1,a.eval x.2))=(ps.toList.map fun x=>(x.1,a.eval x.2)).toArray:=by rw[<-cA];simp
   rw[e];exact this
  cases hx
 case store t y z=>
  simp only[cV];intro x hx;split at hx
  ·rename_i u v hu hv;exact GC rfl (fun s' hs=>Qp h (bM hf hu) (bM hf hv) hs) x hx
  cases hx
 case convert s d y=>
  simp only[cV];intro x hx;split at hx
  ·rename_i u hu;refine nT rfl (fun v s' hv=> ?_) x hx;cases Jz:jV P s d with
   |true=>exact(AA h (oI.self h (Io hv Jz)) (bM hf hu) hv Jz).JU
   |false=>
    refine Mq h (bM hf hu) hv ?_ Jz;simp only[aS] at hq;unfold tW;cases hd:P.underlying d with
    |none=>rw[hd] at hq;exact cT rfl hq
    |some e=>rw[hd] at hq;cases e<;>first|rfl|exact cT rfl hq
  cases hx
 case makeMap t r=>
  cases r with
  |some _=>intro x hx;simp[cV] at hx
  |none=>
   simp only[cV];intro x hx;split at hx
   ·rename_i hr;obtain rfl:=ab hx;have hg:=Good.Z3 h hr;have a7:=xS hr;refine⟨_,.map (some S.w.heap.size),rfl,?_,hg,.inl (by simp[execOp,Instr.makeMap,newObj,Sem.run])⟩;have:=VR.map (S:=⟨S.s.new (.map []),⟨S.e.loc,fun r=>if r=S.s.next then S.w.heap.size else S.e.mp r⟩,S.w.alloc (.map #[] 0)⟩) S.s.next ⟨[],by simp only[au.new,au.fj,Tr.bF _ _ _ _ (deep (show 0<16000001 by omega))]⟩
    simpa using this
   cases hx
 case makeSlice t y z=>
  simp only[cV];intro x hx;split at hx
  ·rename_i u v hu hv;exact nT rfl (fun r s' hr=>(we h (oI.self h (Im hr)) (bM hf hu) (bM hf hv) hr).JU) x hx
  cases hx
 case mapUpdate t y z u=>
  simp only[cV];intro x hx;split at hx
  ·rename_i m k v h1 h2 h3;exact GC rfl (fun s' hs=>FL h (bM hf h1) (bM hf h2) (bM hf h3) hs) x hx
  cases hx
 case call c=>
  obtain⟨callee,args,ts⟩:=c;simp only[cV];intro x hx;split at hx
  case h_2=>cases hx
  rename_i l hl;have Fw:=rZ hf hl;cases callee with
  |invoke y m=>cases hx
  |value y=>
   simp only at hx;split at hx
   ·rename_i g ars bs hy;obtain rfl:=ab hx;obtain⟨OC,OD,e,h1,h2⟩:=(bM hf hy).SL;refine⟨OC++args.map a.eval++OD,?_,?_⟩
    ·simp only[c9,cx];exact(h1.append Fw).append h2
    simp[execOp,resolve,e,Deferred.ofValue,invoke]
   cases hx
  |builtin b=>
   simp only at hx;cases b<;>try (simp[aS] at hq;done)
   all_goals try (simp[jU] at hx;done)
   case append=>
    cases ht:ts.toList with
    |nil=>rw[ht] at hx;cases hx
    |cons t tr=>
     cases tr with
     |nil=>rw[ht] at hx;cases hx
     |cons t2 tr2=>
      cases l with
      |nil=>rw[ht] at hx;cases hx
      |cons y yr=>
       cases yr with
       |nil=>rw[ht] at hx;cases hx
       |cons z zr=>
        rw[ht] at hx;obtain⟨y',r',e,hy',C0⟩:=Fw.cons_inv;obtain⟨z',r2',e2,Gz,_⟩:=C0.cons_inv;rw[e2] at e;refine nT (m:=cb ts type (args.map a.eval)) rfl (fun v s' hv=>Mr h hy' Gz hv (jd ht) (tY ht) ?_ ?_) x hx
        ·exact jd (by rw[cx];exact e)
        exact tY (by rw[cx];exact e)
   case clear=>
    cases ht:ts.toList with
    |nil=>rw[ht] at hx;cases hx
    |cons t tr=>
     cases l with
     |nil=>rw[ht] at hx;cases hx
     |cons y yr=>
      rw[ht] at hx;obtain⟨y',r',e,hy',_⟩:=Fw.cons_inv;refine nT (m:=eh ts type (args.map a.eval)) rfl (fun v s' hv=>Qo h hy' hv (jd ht) ?_) x hx;exact jd (by rw[cx];exact e)
   case copy=>
    cases ht:ts.toList with
    |nil=>rw[ht] at hx;cases hx
    |cons t tr=>
     cases l with
     |nil=>rw[ht] at hx;cases hx
     |cons y yr=>
      cases yr with
      |nil=>rw[ht] at hx;cases hx
      |cons z zr=>
       rw[ht] at hx;obtain⟨y',r',e,hy',C0⟩:=Fw.cons_inv;obtain⟨z',r2',e2,Gz,_⟩:=C0.cons_inv;rw[e2] at e;refine nT (m:=eo ts type (args.map a.eval)) rfl (fun v s' hv=>S4 h hy' Gz hv (jd ht) ?_ ?_) x hx
       ·exact jd (by rw[cx];exact e)
       exact tY (by rw[cx];exact e)
end Go.Cl