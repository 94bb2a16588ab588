/-
 The clean machine, first part: what it is, and that it is true to the model, operation by operation.
-/
import GoSem.Step
import Derived.Orders
import Derived.Below
import Derived.WalkKit
import Derived.Deep.QuietTactic
import Derived.WalkSpells
import Derived.WalkLawsBesides
import Derived.Laws.StructEq
open Option.some renaming inj->ab
open Go renaming Value->af,Program->an,TypeId->ao,World->bo,Operand->dc,Oper->dY,IntKind->eE,FuncId->eP
open _root_ renaming Option->av,Nat->a3,List->a4,Array->bg,if_neg->bn,if_pos->cg,Bool->cx,absurd->c6,if_true->dX,ByteArray->eg,Int->fk,true_and->fo,if_false->gv,UInt8->hC
open Go.Result renaming andThen_ok->aR
open Bool renaming and_eq_true->a5,false_eq_true->ee,true_and->eC,and_eq_false_iff->eM,not_true->e8,not_eq_true'->fw
open Nat renaming le_refl->a6,beq_eq->bz,beq->bC,ble->cb,mul_le_mul_right->cd,ble_eq->cp,mod_two_eq_zero_or_one->cA,ne_of_lt->cB,add_assoc->c9,blt->ds,add_mul->dD,add_zero->dO,blt_eq->dU,lt_or_ge->ea,testBit->eo,succ_eq_add_one->ev,zero_add->ew,mul_pos->eX,lt_of_lt_of_le->e9,le_trans->fl,sub_zero->gT,sub_self->g0,mod_lt->hA
open List renaming getD_eq_getElem?_getD->a7,drop_eq_getElem_cons->b5,length_append->b7,drop_eq_nil_of_le->ca,getElem?_eq_getElem->cc,length_cons->eb,getD_cons_succ->ed,eq_nil_of_length_eq_zero->eu,getElem?_drop->eA,getElem?_append->eS,getD_cons_zero->e6,length_take->gf,range'->gj,length_map->gq,all_cons->gB,extract->g1
open Array renaming getElem?_toList->a8,toList_map->cm,toList_inj->cz,getElem?_setIfInBounds_ne->c3,getElem?_setIfInBounds_self_of_lt->c4,getElem?_eq_none->c7,length_toList->dt,toList_append->dv,getElem?_modify->ek,getElem?_eq_some_iff->ey,range->eB,toList_extract->eT,getElem?_push->e7,getElem?_map->fb,size_append->fB
open Go.Builtin renaming firstCells->a9,zeroCells->bl,append_->bq,lenOf->c5,len_->ec,clear_->eh,copy_->en,nextslicecap->e5,min2->fY,max2->gd,min_->g2,max_->g3
open Go.Op renaming equalIn->b8,eqFields->ep,bytesLess->eI,stringOp->gg,unary->gz,intArith->g5,equal->g6,intBits->g9
open Go.World renaming cell?_of_block->c8,freeze->eK,cell?->g4
open BitVec renaming ofInt->dE
set_option maxHeartbeats 1000000
namespace Go.Cl
inductive Tr (α:Type) where
 |nil
 |node (v:av α) (l r:Tr α)
def Tr.val {α:Type}:Tr α->av α
 | .nil=>none
 | .node v _ _=>v
def Tr.left {α:Type}:Tr α->Tr α
 | .nil=> .nil
 | .node _ l _=>l
def Tr.right {α:Type}:Tr α->Tr α
 | .nil=> .nil
 | .node _ _ r=>r
def Tr.get {α:Type}:Tr α->a3->av α
 | .nil,_=>none
 | .node v l r,i=>
  match i with
  |0=>v
  |k+1=>
   match k%2 with
   |0=>l.get (k/2)
   |_+1=>r.get (k/2)
def Tr.set {α:Type}:a3->Tr α->a3->α->Tr α
 |0,t,_,_=>t
 |f+1,t,i,u=>
  match i with
  |0=> .node (some u) t.left t.right
  |k+1=>
   match k%2 with
   |0=> .node t.val (Tr.set f t.left (k/2) u) t.right
   |_+1=> .node t.val t.left (Tr.set f t.right (k/2) u)
def depth (i:a3):a3:=Nat.log2 (i+1)+1
structure jZ where
 cells:a4 af
 low:a3
 own:cx
 mM:a3
inductive AO where
 |dZ (b:jZ)
 |map (es:a4 (af×af))
structure aq where
 heap:Tr AO
 next:a3
structure aW where
 abC:Tr af
 n:a3
def aq.bR (s:aq)(i:a3):av jZ:=
 match s.heap.get i with
 |some (.dZ b)=>some b
 |_=>none
def aq.dN (s:aq)(i:a3):av (a4 (af×af)):=
 match s.heap.get i with
 |some (.map es)=>some es
 |_=>none
def aq.put (s:aq)(i:a3)(o:AO):aq:=⟨Tr.set (depth i) s.heap i o,s.next⟩
def aq.new (s:aq)(o:AO):aq:=⟨Tr.set (depth s.next) s.heap s.next o,s.next+1⟩
def aq.room (_:aq):cx:=true
def aW.get (f:aW)(t:a3):af:=
 match f.abC.get t with
 |some v=>v
 |none=>undef
def aW.put (f:aW)(t:a3)(v:af):aW:=⟨Tr.set (depth t) f.abC t v,f.n⟩
def gQ:af->cx
 | .bool _| .int _ _| .string _| .pointer none| .slice none 0 0| .map none| .nilFunc| .nilIface=>true
 |_=>false
def bN:af->cx
 | .agg cs=>cs.toList.all gQ
 | .tuple cs=>cs.toList.all gQ
 |v=>gQ v
def aS (f:aW):dc->av af
 | .tmp t=>if ds t f.n then some (f.get t) else none
 | .const v=>if bN v then some v else none
 | .global _=>none
 | .func g=>some (.func (.func g) #[] #[])
def aa (f:aW):a4 dc->av (a4 af)
 |[]=>some []
 |x::r=>
  match aS f x with
  |some v=>
   match aa f r with
   |some vs=>some (v::vs)
   |none=>none
  |none=>none
def takeN:a3->a4 af->av (a4 af)
 |0,_=>some []
 |_+1,[]=>none
 |n+1,v::r=>
  match takeN n r with
  |some l=>some (v::l)
  |none=>none
def zL:a3->a4 af->a4 af
 |0,l=>l
 |_+1,[]=>[]
 |n+1,_::r=>zL n r
def setAt:a4 af->a3->a4 af->av (a4 af)
 |l,_,[]=>some l
 |[],_,_::_=>none
 |c::r,n+1,vs=>
  match setAt r n vs with
  |some l=>some (c::l)
  |none=>none
 |_::r,0,v::vs=>
  match setAt r 0 vs with
  |some l=>some (v::l)
  |none=>none
def aL:af->cx
 | .agg _| .tuple _=>false
 |_=>true
def aq.dr (s:aq)(i off c n:a3):av (a4 af):=
 match s.bR i with
 |some b=>
  if cb b.low c&&cb c (b.cells.length+1)&&ds (off+n) c then takeN n (zL off b.cells) else none
 |none=>none
def aq.storeAt (s:aq)(i off c:a3)(vs:a4 af):av aq:=
 match s.bR i with
 |some b=>
  if b.own&&cb b.low c&&bC c (b.cells.length+1)&&vs.all aL then
   match vs with
   |[]=>none
   |_::_=>
   match setAt b.cells off vs with
   |some l=>some (s.put i (.dZ {b with cells:=l,low:=c}))
   |none=>none
  else none
 |none=>none
def bX (P:an)(t:ao):av cx:=
 match P.underlying t with
 |some (.struct _)|some (.array _ _)=>some true
 |some _=>some false
 |none=>none
def aX (P:an)(t:ao):av a3:=
 match P.info? t with
 |some i=>some i.size
 |none=>none
def bV (P:an)(t:ao):av af:=
 match P.info? t with
 |some i=>i.zero
 |none=>none
def eY (P:an)(t:ao):av a3:=
 match P.info? t with
 |some i=>some i.bytes
 |none=>none
def PY (P:an)(t:ao)(cs:a4 af)(off:a3):av af:=
 match bX P t,aX P t with
 |some true,some n=>
  match takeN n (zL off cs) with
  |some l=>some (.agg l.toArray)
  |none=>none
 |some false,_=>
  match zL off cs with
  |v::_=>some v
  |[]=>none
 |_,_=>none
def aJ (P:an)(s:aq)(t:ao)(a:af):av af:=
 match a with
 | .pointer (some ⟨i,off,some c⟩)=>
  match bX P t,aX P t with
  |some true,some n=>
   match s.dr i off c n with
   |some l=>some (.agg l.toArray)
   |none=>none
  |some false,_=>
   match s.dr i off c 1 with
   |some (v::_)=>some v
   |_=>none
  |_,_=>none
 |_=>none
def dR (P:an)(s:aq)(t:ao)(a v:af):av aq:=
 match a,aX P t with
 | .pointer (some ⟨_,_,some _⟩),some 0=>if bC v.cells.toList.length 0 then some s else none
 | .pointer (some ⟨i,off,some c⟩),some n=>
  if bC v.cells.toList.length n then s.storeAt i off c v.cells.toList else none
 |_,_=>none
def fm (s:aq)(cs:a4 af)(mM:a3):av (af×aq):=
 if s.room then some (.pointer (some ⟨s.next,0,some (cs.length+1)⟩),s.new (.dZ ⟨cs,1,true,mM⟩)) else none
def aZ (s:aq)(cs:a4 af)(len mM:a3):av (af×aq):=
 if s.room then some (.slice (some ⟨s.next,0,none⟩) len (cs.length+1),s.new (.dZ ⟨cs,1,true,mM⟩)) else none
def bB (z:a4 af):a3->a4 af
 |0=>[]
 |n+1=>z++bB z n
def js (op:BinOp)(k:eE)(x y:fk):av af:=
 match op with
 | .add=>some (.int k (k.wrap (x+y)))
 | .sub=>some (.int k (k.wrap (x-y)))
 | .mul=>some (.int k (k.wrap (x*y)))
 | .quo=>if y=0 then none else some (.int k (k.wrap (x.tdiv y)))
 | .rem=>if y=0 then none else some (.int k (x.tmod y))
 | .and=>some (.int k (k.wrap (dE k.bits x&&&dE k.bits y).toNat))
 | .or=>some (.int k (k.wrap (dE k.bits x|||dE k.bits y).toNat))
 | .xor=>some (.int k (k.wrap (dE k.bits x^^^dE k.bits y).toNat))
 | .andNot=>some (.int k (k.wrap (dE k.bits x&&& ~~~dE k.bits y).toNat))
 | .eql=>some (.bool (x==y))
 | .neq=>some (.bool (x !=y))
 | .lss=>some (.bool (x<y))
 | .leq=>some (.bool (x<=y))
 | .gtr=>some (.bool (x>y))
 | .geq=>some (.bool (x>=y))
 |_=>none
def tY (op:BinOp)(k:eE)(x y:fk):av af:=
 if y<0 then none else
 match op with
 | .shl=>some (.int k (k.wrap (x*2^(min y.toNat k.bits))))
 | .shr=>some (.int k (x.fdiv (2^(min y.toNat k.bits))))
 |_=>none
def PZ (op:BinOp)(x y:eg):av af:=
 match op with
 | .add=>if cb (x.data.toList.length+y.data.toList.length) 4294967296 then some (.string ⟨(x.data.toList++y.data.toList).toArray⟩) else none
 | .eql=>some (.bool (x.data.toList==y.data.toList))
 | .neq=>some (.bool (!(x.data.toList==y.data.toList)))
 | .lss=>some (.bool (eI x.data.toList y.data.toList))
 | .leq=>some (.bool (eI x.data.toList y.data.toList||x.data.toList==y.data.toList))
 | .gtr=>some (.bool (!(eI x.data.toList y.data.toList||x.data.toList==y.data.toList)))
 | .geq=>some (.bool (!(eI x.data.toList y.data.toList)))
 |_=>none
def rM (P:an)(t:ao)(x y:af):av cx:=
 match P.underlying t,x,y with
 |some .bool,.bool a,.bool b=>some (a==b)
 |some (.pointer _),.pointer none,.pointer b=>some b.isNone
 |some (.pointer _),.pointer (some _),.pointer none=>some false
 |some (.slice _),.slice none _ _,.slice b _ _=>some b.isNone
 |some (.slice _),.slice (some _) _ _,.slice none _ _=>some false
 |some (.map _ _),.map none,.map b=>some b.isNone
 |some (.map _ _),.map (some _),.map none=>some false
 |some (.func _ _ _),.nilFunc,.nilFunc=>some true
 |some (.func _ _ _),.nilFunc,.func _ _ _=>some false
 |some (.func _ _ _),.func _ _ _,.nilFunc=>some false
 |_,_,_=>none
def ga:a4 af->a4 af->av cx
 |[],[]=>some true
 | .int k a::r,.int k' b::q=>
  match (if k=k' then true else false),ga r q with
  |true,some t=>some (a==b&&t)
  |_,_=>none
 |_,_=>none
def tZ (P:an):a4 Field->a3->cx
 |[],_=>true
 |f::r,i=>
  (match P.underlying f.type with
   |some (.int _)=>f.name != "_" &&bC f.offset i
   |_=>false)&&tZ P r (i+1)
def Bm:af->af->av cx
 | .int k a,.int k' b=>if k=k' then some (a==b) else none
 | .string a,.string b=>some (a.toList==b.toList)
 |_,_=>none
def jt:a4 af->a4 af->av cx
 |[],[]=>some true
 |x::r,y::q=>
  match Bm x y,jt r q with
  |some a,some t=>some (a&&t)
  |_,_=>none
 |_,_=>none
def qE (P:an):a4 Field->a4 af->a3->cx
 |[],_,_=>true
 |_::_,[],_=>false
 |f::r,x::q,i=>
  (match P.underlying f.type,x with
   |some (.int _),.int _ _=>f.name != "_" &&bC f.offset i
   |some .string,.string _=>f.name != "_" &&bC f.offset i
   |_,_=>false)&&qE P r q (i+1)
def BJ (P:an)(t:ao)(xs ys:bg af):av cx:=
 match P.underlying t with
 |some (.array n e)=>
  match P.underlying e,aX P e with
  |some (.int _),some 1=>if bC xs.toList.length n&&bC ys.toList.length n&& !P.eqGuardType P.depth t then ga xs.toList ys.toList else none
  |_,_=>none
 |some (.struct fs)=>if bC xs.toList.length fs.toList.length&&bC ys.toList.length fs.toList.length&& !P.eqGuardType P.depth t&& !P.stoodInHeld t then(if tZ P fs.toList 0 then ga xs.toList ys.toList else if qE P fs.toList xs.toList 0 then jt xs.toList ys.toList else none) else none
 |_=>none
def cQ (P:an)(op:BinOp)(t:ao)(x y:af):av af:=
 match x,y with
 | .agg xs,.agg ys=>
  match op with
  | .eql=>
   match BJ P t xs ys with
   |some b=>some (.bool b)
   |none=>none
  | .neq=>
   match BJ P t xs ys with
   |some b=>some (.bool (!b))
   |none=>none
  |_=>none
 | .int k a,.int k' b=>
  match op with
  | .shl=>tY .shl k a b
  | .shr=>tY .shr k a b
  |_=>if k=k' then js op k a b else none
 | .string a,.string b=>PZ op a b
 |_,_=>
  match op with
  | .eql=>
   match rM P t x y with
   |some b=>some (.bool b)
   |none=>none
  | .neq=>
   match rM P t x y with
   |some b=>some (.bool (!b))
   |none=>none
  |_=>none
def unA (op:UnOp)(x:af):av af:=
 match op,x with
 | .neg,.int k n=>js .sub k 0 n
 | .xor,.int k n=>js .xor k (if k.signed then-1 else k.max) n
 | .not,.bool b=>some (.bool (!b))
 |_,_=>none
def toByte:af->av hC
 | .int .u8 n=>some (UInt8.ofNat n.toNat)
 |_=>none
def oE:a4 af->av (a4 hC)
 |[]=>some []
 |v::r=>
  match toByte v with
  |some b=>
   match oE r with
   |some l=>some (b::l)
   |none=>none
  |none=>none
def ofBytes (l:a4 hC):a4 af:=l.map fun b=> .int .u8 b.toNat
def E7 (P:an)(t:ao):cx:=
 match P.underlying t with
 |some (.int .u8)=>true
 |_=>false
def gw (P:an)(s:aq)(src dst:ao)(x:af):av (af×aq):=
 match P.underlying src,P.underlying dst,x with
 |some _,some (.int k),.int _ n=>some (.int k (k.wrap n),s)
 |some _,some .string,.string b=>some (.string b,s)
 |some .string,some (.slice e),.string b=>
  if E7 P e&&cb b.data.toList.length 9223372036854775807 then aZ s (ofBytes b.data.toList) b.data.toList.length 1 else none
 |some (.slice _),some (.slice e),.slice (some ⟨i,_,none⟩) len c=>
  match len with
  |0=>none
  |_+1=>
   match s.bR i with
   |some b=>if bC src dst&&E7 P e&&b.own&&cb b.low c&&cb c (b.cells.length+1) then some (x,s.put i (.dZ b)) else none
   |none=>none
 |some (.slice e),some .string,.slice none _ _=>if E7 P e then some (.string ⟨#[]⟩,s) else none
 |some (.slice e),some .string,.slice (some ⟨i,off,none⟩) len c=>
  if E7 P e then
   match len with
   |0=>some (.string ⟨#[]⟩,s)
   |_+1=>
    match s.dr i off c len with
    |some l=>
     match oE l with
     |some bs=>some (.string ⟨bs.toArray⟩,s)
     |none=>none
    |none=>none
  else none
 |_,_,_=>none
def gV:av af->a3->av a3
 |none,d=>some d
 |some (.int _ (.ofNat n)),_=>some n
 |some _,_=>none
def kv (s:aq)(i c z:a3):cx:=
 match c with
 |0=>true
 |_+1=>
  match s.bR i with
  |some b=>bC b.mM z
  |none=>false
def dj (P:an)(s:aq)(t:ao)(x:af)(lo hi mx:av af):av af:=
 match P.underlying t,x with
 |some .string,.string b=>
  match mx,gV lo 0,gV hi b.data.toList.length with
  |none,some l,some h=>if cb l h&&cb h b.data.toList.length then some (.string ⟨((b.data.toList.take h).drop l).toArray⟩) else none
  |_,_,_=>none
 |some (.slice e),.slice a len c=>
  match gV lo 0,gV hi len,aX P e with
  |some l,some h,some z=>
   if cb l h&&cb h len then
    match mx with
    |none=>
     match a with
     |none=>some (.slice none 0 0)
     |some ⟨i,off,none⟩=>if kv s i c z then some (.slice (some ⟨i,off+l*z,none⟩) (h-l) c) else none
     |_=>none
    |some m=>
     match gV (some m) 0,hi with
     |some m,some _=>
      if cb h m&&cb m len then
       match a with
       |none=>some (.slice none 0 0)
       |some ⟨i,off,none⟩=>if kv s i c z then some (.slice (some ⟨i,off+l*z,none⟩) (h-l) (if bC l m then 0 else c)) else none
       |_=>none
      else none
     |_,_=>none
   else none
  |_,_,_=>none
 |some (.array n e),.pointer (some ⟨i,off,some c⟩)=>
  match gV lo 0,gV hi n,aX P e,s.bR i,mx with
  |some l,some h,some z,some b,none=>
   if cb l h&&cb h n&&cb b.low c&&cb c (b.cells.length+1)&&ds (off+n*z) c&&bC b.mM z&&ds 0 z then some (.slice (some ⟨i,off+l*z,none⟩) (h-l) c) else none
  |_,_,_,_,_=>none
 |_,_=>none
def bT (P:an)(t:ao)(x ix:af):av af:=
 match P.underlying t,x,ix with
 |some (.slice e),.slice (some ⟨i,off,none⟩) len c,.int _ (.ofNat n)=>
  match aX P e with
  |some z=>if ds n len then some (.pointer (some ⟨i,off+n*z,some c⟩)) else none
  |none=>none
 |some (.array len e),.pointer (some ⟨i,off,some c⟩),.int _ (.ofNat n)=>
  match aX P e with
  |some z=>if ds n len then some (.pointer (some ⟨i,off+n*z,some c⟩)) else none
  |none=>none
 |_,_,_=>none
def sA (P:an)(t:ao)(x ix:af):av af:=
 match P.underlying t,x,ix with
 |some .string,.string b,.int _ (.ofNat n)=>
  match (b.data.toList.drop n) with
  |c::_=>some (.int .u8 c.toNat)
  |[]=>none
 |some (.array len e),.agg cs,.int _ (.ofNat n)=>
  match aX P e with
  |some z=>if ds n len then PY P e cs.toList (n*z) else none
  |none=>none
 |_,_,_=>none
def au (P:an)(t:ao)(x:af)(f:a3):av af:=
 match P.underlying t,x with
 |some (.struct fs),.pointer (some ⟨i,off,some c⟩)=>
  match fs[f]? with
  |some fd=>
   match aX P fd.type with
   |some (_+1)=>some (.pointer (some ⟨i,off+fd.offset,some c⟩))
   |_=>none
  |none=>none
 |_,_=>none
def BK (P:an)(t:ao)(x:af)(f:a3):av af:=
 match P.underlying t,x with
 |some (.struct fs),.agg cs=>
  match fs[f]? with
  |some fd=>PY P fd.type cs.toList fd.offset
  |none=>none
 |_,_=>none
def ba (x:af)(i:a3):av af:=
 match x with
 | .tuple vs=>vs[i]?
 |_=>none
def fG (place:a3->av (a3×a3)):a4 af->a4 (a3×af)->av (a4 af)
 |cs,[]=>some cs
 |cs,(i,v)::r=>
  match place i with
  |some (off,size)=>
   if bC v.cells.toList.length size&&cb (off+size) cs.length then
    match setAt cs off v.cells.toList with
    |some l=>fG place l r
    |none=>none
   else none
  |none=>none
def placeOf (P:an)(fs:bg Field)(i:a3):av (a3×a3):=
 match fs[i]? with
 |some f=>
  match aX P f.type with
  |some z=>some (f.offset,z)
  |none=>none
 |none=>none
def cC (P:an)(t:ao)(parts:a4 (a3×af)):av af:=
 match P.underlying t,bV P t with
 |some (.struct fs),some z=>
  if bN z&&fs.toList.all (fun f=>(aX P f.type).isSome) then
   match fG (placeOf P fs) z.cells.toList parts with
   |some l=>some (.agg l.toArray)
   |none=>none
  else none
 |some (.array _ e),some z=>
  match aX P e with
  |some n=>
   if bN z then
    match fG (fun i=>some (i*n,n)) z.cells.toList parts with
    |some l=>some (.agg l.toArray)
    |none=>none
   else none
  |none=>none
 |_,_=>none
def aO (P:an)(s:aq)(t:ao)(len:a3)(parts:a4 (a3×af)):av (af×aq):=
 match P.underlying t with
 |some (.slice e)=>
  match aX P e,bV P e with
  |some n,some z=>
   if cb (len*n) 65536&&bN z&&bC z.cells.toList.length n then
    match fG (fun i=>some (i*n,n)) (bB z.cells.toList len) parts with
    |some l=>aZ s l len n
    |none=>none
   else none
  |_,_=>none
 |_=>none
def ef (P:an)(s:aq)(t:ao)(len cap:af):av (af×aq):=
 match P.underlying t,len,cap with
 |some (.slice e),.int _ (.ofNat l),.int _ (.ofNat c)=>
  match aX P e,bV P e,eY P e with
  |some n,some z,some oo=>
   if cb l c&&cb c 4294967296&&cb (oo*c) 4294967296&&bN z&&bC z.cells.toList.length n then aZ s (bB z.cells.toList l) l n else none
  |_,_,_=>none
 |_,_,_=>none
def dV (s:aq)(z:a3):af->av (a3×a4 af)
 | .slice none _ _=>some (0,[])
 | .slice (some ⟨i,off,none⟩) n c=>
  match n with
  |0=>some (0,[])
  |_+1=>
   match s.dr i off c (n*z) with
   |some l=>some (n,l)
   |none=>none
 | .string b=>if bC z 1 then some (b.data.toList.length,ofBytes b.data.toList) else none
 |_=>none
def Im (s:aq)(z oo:a3)(zv:af)(xd:TypeDesc)(y:af):av (a3×a4 af):=
 match xd with
 | .int _=>
  match y with
  | .int _ (.ofNat n)=>if cb (n*oo) 140737488355328&&cb n 140737488355328&&bN zv&&bC zv.cells.toList.length z&&ds 0 z then some (n,bB zv.cells.toList n) else none
  |_=>none
 |_=>dV s z y
def kill (b:jZ):jZ:={b with low:=b.low+b.cells.length+2}
def gW (P:an)(s:aq)(agn ago:ao)(x y:af):av (af×aq):=
 match P.underlying agn,P.underlying ago with
 |some (.slice e),some xd=>
  match (match xd with
   | .slice _=>true
   | .string=>true
   | .int _=>true
   |_=>false) with
  |false=>none
  |true=>
  match aX P e,eY P e,bV P e with
  |some z,some oo,some zv=>
   match Im s z oo zv xd y with
   |some (n,new)=>
    match x with
    | .slice a len c=>
     if cb ((len+n)*oo) 140737488355328&&cb (len+n) 140737488355328&&ds 0 z&&new.all aL&&bC zv.cells.toList.length z then
      match n with
      |0=>some (x,s)
      |_+1=>
       match a with
       |none=>if bC len 0&&bC c 0 then aZ s new n z else none
       |some ⟨i,off,none⟩=>
        match c with
        |0=>if bC len 0 then aZ s new n z else none
        |_+1=>
         match s.bR i with
         |some b=>
          if b.own&&cb b.low c&&bC b.mM z then
           if bC c (b.cells.length+1)&&bC off 0&&bC (len*z) b.cells.length then
            some (.slice a (len+n) ((b.cells++new).length+1),s.put i (.dZ {b with cells:=b.cells++new}))
           else
            match s.dr i off c (len*z) with
            |some old=>aZ (s.put i (.dZ (kill b))) (old++new) (len+n) z
            |none=>none
          else none
         |none=>none
       |_=>none
     else none
    |_=>none
   |none=>none
  |_,_,_=>none
 |_,_=>none
def qF (k:a3):af->av (a3×af)
 | .slice a n c=>some (min n k,.slice a (min n k) c)
 | .string b=>some (min b.data.toList.length k,.string ⟨(b.data.toList.take k).toArray⟩)
 |_=>none
def mN (P:an)(s:aq)(dT:ao)(x y:af):av (af×aq):=
 match P.underlying dT,x with
 |some (.slice e),.slice a Za c=>
  match aX P e,qF Za y with
  |some z,some (k,y2)=>
   match k with
   |0=>some (.int .i64 0,s)
   |_+1=>
    match dV s z y2,a with
    |some (k2,new),some ⟨i,off,none⟩=>
     match bC k2 k,s.storeAt i off c new with
     |true,some t=>some (.int .i64 k,t)
     |_,_=>none
    |_,_=>none
  |_,_=>none
 |_,_=>none
def nG (P:an)(s:aq)(t:ao)(x:af):av (af×aq):=
 match P.underlying t,x with
 |some (.slice _),.slice none _ _=>some (undef,s)
 |some (.slice e),.slice (some ⟨i,off,none⟩) n c=>
  match n with
  |0=>some (undef,s)
  |m+1=>
   match aX P e,bV P e with
   |some z,some zv=>
    if bN zv&&bC zv.cells.toList.length z&&ds 0 z then
     match s.storeAt i off c (bB zv.cells.toList (m+1)) with
     |some s' =>some (undef,s')
     |none=>none
    else none
   |_,_=>none
 |_,_=>none
def bm (P:an)(s:aq)(t:ao)(x:af):av af:=
 match P.underlying t,x with
 |some .string,.string b=>some (.int .i64 b.data.toList.length)
 |some (.array n _),_=>some (.int .i64 n)
 |some (.slice _),.slice _ n _=>some (.int .i64 n)
 |some (.map _ _),.map none=>some (.int .i64 0)
 |some (.map _ _),.map (some r)=>
  match s.dN r with
  |some es=>some (.int .i64 es.length)
  |none=>none
 |_,_=>none
def Zb:af->af->av af
 | .int k x,.int _ y=>some (.int k (if y<x then y else x))
 |_,_=>none
def Zc:af->af->av af
 | .int k x,.int _ y=>some (.int k (if y>x then y else x))
 |_,_=>none
def Gf (g:af->af->av af):af->a4 af->av af
 |x,[]=>some x
 |x,y::r=>
  match g x y with
  |some v=>Gf g v r
  |none=>none
def zM (P:an)(t:ao)(a b:af):av cx:=
 match P.underlying t,a,b with
 |some (.int _),.int k x,.int k' y=>if k=k' then some (x==y) else none
 |some .string,.string x,.string y=>some (x.data.toList==y.data.toList)
 |_,_,_=>none
def BL (P:an)(t:ao)(k:af):a4 (af×af)->av (av af)
 |[]=>some none
 |(k',v)::r=>
  match zM P t k k' with
  |some true=>some (some v)
  |some false=>BL P t k r
  |none=>none
def Nz (P:an)(t:ao)(k v:af):a4 (af×af)->av (a4 (af×af))
 |[]=>some [(k,v)]
 |(k',v')::r=>
  match zM P t k k' with
  |some true=>some ((k',v)::r)
  |some false=>
   match Nz P t k v r with
   |some l=>some ((k',v')::l)
   |none=>none
  |none=>none
def jJ (P:an)(t:ao)(k:af):cx:=
 match P.underlying t,k with
 |some (.int _),.int _ _=>true
 |some .string,.string _=>true
 |_,_=>false
def mT (P:an)(s:aq)(t:ao)(m k:af)(ok:cx):av af:=
 match P.underlying t with
 |some (.map kt et)=>
  match bV P et,jJ P kt k with
  |some z,true=>
   if bN z then
    match (match m with
     | .map none=>some none
     | .map (some r)=>
      match s.dN r with
      |some es=>BL P kt k es
      |none=>none
     |_=>none) with
    |some (some v)=>some (if ok then .tuple #[v,.bool true] else v)
    |some none=>some (if ok then .tuple #[z,.bool false] else z)
    |none=>none
   else none
  |_,_=>none
 |_=>none
def fO (P:an)(s:aq)(t:ao)(m k v:af):av aq:=
 match P.underlying t,m with
 |some (.map kt _),.map (some r)=>
  match s.dN r,jJ P kt k with
  |some es,true=>
   match Nz P kt k v es with
   |some l=>some (s.put r (.map l))
   |none=>none
  |_,_=>none
 |_,_=>none
def BM (P:an)(t:ao):a3:=
 match P.underlying t with
 |some (.array _ e)=>
  match aX P e with
  |some z=>z
  |none=>0
 |_=>0
inductive AR where
 |val (v:af) (s:aq)
 |call (f:eP) (args:a4 af)
def pO (s:aq):av af->av AR
 |some v=>some (.val v s)
 |none=>none
def oF:av (af×aq)->av AR
 |some (v,s)=>some (.val v s)
 |none=>none
def BN:av aq->av AR
 |some s=>some (.val undef s)
 |none=>none
def ae (f:aW):a4 (a3×dc)->av (a4 (a3×af))
 |[]=>some []
 |(i,x)::r=>
  match aS f x,ae f r with
  |some v,some l=>some ((i,v)::l)
  |_,_=>none
def ai (f:aW):av dc->av (av af)
 |none=>some none
 |some x=>
  match aS f x with
  |some v=>some (some v)
  |none=>none
def ju (P:an)(s:aq)(b:Builtin)(ts:a4 ao)(args:a4 af):av AR:=
 match b,ts,args with
 | .len,t::_,x::_=>pO s (bm P s t x)
 | .append,t::u::_,x::y::_=>oF (gW P s t u x y)
 | .copy,t::_,x::y::_=>oF (mN P s t x y)
 | .clear,t::_,x::_=>oF (nG P s t x)
 | .min,_,x::r=>pO s (Gf Zb x r)
 | .max,_,x::r=>pO s (Gf Zc x r)
 |_,_,_=>none
def cS (P:an)(o:dY)(f:aW)(s:aq):av AR:=
 match o.op with
 | .move x=>pO s (aS f x)
 | .assign x=>pO s (aS f x)
 | .pick c a b=>
  match aS f c,aS f a,aS f b with
  |some (.bool t),some u,some v=>some (.val (if t then u else v) s)
  |_,_,_=>none
 | .alloc e=>
  match bV P e with
  |some z=>if bN z then oF (fm s z.cells.toList (BM P e)) else none
  |none=>none
 | .box e x=>
  match aS f x with
  |some v=>oF (fm s v.cells.toList (BM P e))
  |none=>none
 | .build t ps=>
  match ae f ps.toList with
  |some l=>pO s (cC P t l)
  |none=>none
 | .buildSlice t n ps=>
  match ae f ps.toList with
  |some l=>oF (aO P s t n l)
  |none=>none
 | .load t x=>
  match aS f x with
  |some a=>pO s (aJ P s t a)
  |none=>none
 | .store t x y=>
  match aS f x,aS f y with
  |some a,some v=>BN (dR P s t a v)
  |_,_=>none
 | .nilCheck x=>
  match aS f x with
  |some (.pointer (some a))=>some (.val (.pointer (some a)) s)
  |some (.func (.func g) ava bs)=>some (.val (.func (.func g) ava bs) s)
  |_=>none
 | .binOp op t x y _=>
  match aS f x,aS f y with
  |some u,some v=>pO s (cQ P op t u v)
  |_,_=>none
 | .unOp op _ x=>
  match aS f x with
  |some u=>pO s (unA op u)
  |none=>none
 | .convert a b x=>
  match aS f x with
  |some u=>oF (gw P s a b u)
  |none=>none
 | .makeFunc (.func g) ava bs=>
  match aa f ava.toList,aa f bs.toList with
  |some l,some m=>some (.val (.func (.func g) l.toArray m.toArray) s)
  |_,_=>none
 | .makeInterface t x=>
  match P.underlying t,aS f x with
  |some (.interface _),_=>none
  |some _,some v=>some (.val (.iface t v) s)
  |_,_=>none
 | .makeMap _ none=>if s.room then some (.val (.map (some s.next)) (s.new (.map []))) else none
 | .makeSlice t x y=>
  match aS f x,aS f y with
  |some u,some v=>oF (ef P s t u v)
  |_,_=>none
 | .slice t x lo hi mx=>
  match aS f x,ai f lo,ai f hi,ai f mx with
  |some u,some l,some h,some m=>pO s (dj P s t u l h m)
  |_,_,_,_=>none
 | .fieldAddr t x i=>
  match aS f x with
  |some u=>pO s (au P t u i)
  |none=>none
 | .field t x i=>
  match aS f x with
  |some u=>pO s (BK P t u i)
  |none=>none
 | .indexAddr t x y=>
  match aS f x,aS f y with
  |some u,some v=>pO s (bT P t u v)
  |_,_=>none
 | .index t x y=>
  match aS f x,aS f y with
  |some u,some v=>pO s (sA P t u v)
  |_,_=>none
 | .lookup t x y ok=>
  match aS f x,aS f y with
  |some u,some v=>pO s (mT P s t u v ok)
  |_,_=>none
 | .mapUpdate t x y z=>
  match aS f x,aS f y,aS f z with
  |some m,some k,some v=>BN (fO P s t m k v)
  |_,_,_=>none
 | .extract x i=>
  match aS f x with
  |some u=>pO s (ba u i)
  |none=>none
 | .call c=>
  match aa f c.args.toList with
  |some args=>
   match c.callee with
   | .builtin b=>ju P s b c.argTypes.toList args
   | .value x=>
    match aS f x with
    |some (.func (.func g) ava bs)=>some (.call g (ava.toList++args++bs.toList))
    |_=>none
   |_=>none
  |none=>none
 |_=>none
def aP (P:an)(o:dY):cx:=
 match o.op with
 | .move _| .assign _| .pick _ _ _| .build _ _| .load _ _| .nilCheck _| .binOp _ _ _ _ _| .unOp _ _ _| .makeFunc _ _ _| .makeInterface _ _
 | .slice _ _ _ _ _| .fieldAddr _ _ _| .field _ _ _| .indexAddr _ _ _| .index _ _ _| .lookup _ _ _ _| .extract _ _=>true
 | .convert _ b _=>
  match P.underlying b with
  |some (.slice _)=>false
  |_=>true
 | .call c=>
  match c.callee with
  | .builtin .len| .builtin .min| .builtin .max=>true
  |_=>false
 |_=>false
def jv (P:an)(src dst:ao):cx:=
 match P.underlying src,P.underlying dst with
 |some .string,some (.slice _)=>true
 |_,_=>false
def aM (P:an)(o:dY):cx:=
 match o.op with
 | .alloc _| .box _ _| .buildSlice _ _ _| .makeSlice _ _ _=>true
 | .convert a b _=>jv P a b
 |_=>false
def bp (P:an)(o:dY):cx:= !aP P o&& !aM P o
inductive AX where
 |normal
 |exit (id:a3)
 |ret
abbrev Out:=av (AX×aW×aq)
def qG (ops:a4 dY)(f:aW)(j:a3):av cx:=
 match ops.drop j with
 |o::_=>
  match o.dst with
  |some d=>
   if ds d f.n then
    match f.get d with
    | .bool b=>some b
    |_=>none
   else none
  |none=>none
 |[]=>none
def cT (ops:a4 dY)(o:dY)(f:aW):cx:=
 match o.guard with
 |none=>true
 |some (j,want)=>
  match qG ops f j with
  |some b=>b==want
  |none=>false
def kX (f:aW)(d:av Tmp)(v:af):av aW:=
 match d with
 |some t=>if ds t f.n then some (f.put t v) else none
 |none=>some f
def gh (P:an)(call:eP->a4 af->aq->av (af×aq))(all:a4 dY):a4 dY->aW->aq->av (aW×aq)
 |[],f,s=>some (f,s)
 |o::r,f,s=>
  if cT all o f then
   match cS P o f s with
   |some (.val v s')=>
    match kX f o.dst v with
    |some f' =>gh P call all r f' s'
    |none=>none
   |some (.call g args)=>
    match call g args s with
    |some (v,s')=>
     match kX f o.dst v with
     |some f' =>gh P call all r f' s'
     |none=>none
    |none=>none
   |none=>none
  else
   match kX f o.dst undef with
   |some f' =>gh P call all r f' s
   |none=>none
def dg:a4 a3->a3->a3
 |[],_=>0
 |x::_,0=>x
 |_::r,n+1=>dg r n
def qH (acc:a4 a3):a4 Edge->a3->a3
 |[],m=>m
 |e::r,m=>qH acc r (if Region.binds .any e then m|||2^e.on|||dg acc e.on else m)
def cD:a4 dY->a4 a3->a4 a3
 |[],acc=>acc
 |o::r,acc=>cD r (acc++[qH acc o.after.toList 0])
def yG (ops:a4 dY)(o:dY):a4 a3:=
 (o.op.operands.toList.filterMap fun| .tmp t=>some t|_=>none)++
 (match o.guard with
  |some (j,_)=>
   match ops.drop j with
   |p::_=>p.dst.toList
   |[]=>[]
  |none=>[])
def RP (l:a4 a3)(d:av Tmp):cx:=
 match d with
 |some t=>l.any (bC t)
 |none=>false
def mU (P:an)(ops:a4 dY)(x y:dY):cx:=
 bp P x&&bp P y||RP (yG ops y) x.dst||RP (yG ops x) y.dst||RP x.dst.toList y.dst
def sB (P:an)(ops:a4 dY):cx:=
 let ms:=cD ops []
 ops.zipIdx.all fun y=>
  (y.1.after.toList.all fun e=> !Region.binds .any e||ds e.on y.2)&&
  ops.zipIdx.all fun x=> !(ds x.2 y.2&&mU P ops x.1 y.1)||eo (dg ms y.2) x.2
inductive Ev where
 |skip
 |quiet (v:af)
 |made (v:af) (id:a3) (b:jZ)
 |E9 (v:af) (s:aq)
def Ev.val:Ev->af
 | .skip=>undef
 | .quiet v=>v
 | .made v _ _=>v
 | .E9 v _=>v
def fill (p:a3->cx):aq->a4 (a3×a3×jZ)->aq
 |s,[]=>s
 |s,(j,id,b)::r=>
  match p j,s.heap.get id with
  |true,none=>fill p (s.put id (.dZ b)) r
  |_,_=>fill p s r
def ei (P:an)(call:eP->a4 af->aq->av (af×aq))(all:a4 dY)(m id:a3)(ava:a4 (a3×a3×jZ))(o:dY)(f:aW)(T:aq):av Ev:=
 match cT all o f with
 |false=>some .skip
 |true=>
  match aP P o,aM P o with
  |true,_=>
   match cS P o f (fill (eo m) T ava) with
   |some (.val v _)=>some (.quiet v)
   |_=>none
  |false,true=>
   match cS P o f ⟨.nil,id⟩ with
   |some (.val v s1)=>
    match s1.bR id with
    |some b=>some (.made v id b)
    |none=>none
   |_=>none
  |false,false=>
   match cS P o f (fill (eo m) T ava) with
   |some (.val v s1)=>some (.E9 v s1)
   |some (.call g args)=>
    match call g args (fill (eo m) T ava) with
    |some (v,s1)=>some (.E9 v s1)
    |none=>none
   |none=>none
def cO (P:an)(call:eP->a4 af->aq->av (af×aq))(all:a4 dY):a4 a3->a4 dY->a3->a3->aW->aq->a4 (a3×a3×jZ)->av (a4 Ev)
 |m::ms,o::r,i,id,f,T,ava=>
  match ei P call all m id ava o f T with
  |some e=>
   match kX f o.dst e.val with
   |some f' =>
    match cO P call all ms r (i+1) (if aM P o then id+1 else id) f' (match e with| .E9 _ s=>s|_=>T) (match e with| .made _ d b=>ava++[(i,d,b)]|_=>ava) with
    |some es=>some (e::es)
    |none=>none
   |none=>none
  |none=>none
 |_,_,_,_,_,_,_=>some []
def madeOf:a4 Ev->a3->a4 (a3×a3×jZ)
 |[],_=>[]
 | .made _ id b::r,i=>(i,id,b)::madeOf r (i+1)
 |_::r,i=>madeOf r (i+1)
def aH (P:an):a4 dY->a4 Ev->aq->a4 aq
 |o::r,e::es,T=>
  match e with
  | .E9 _ s=>T::aH P r es s
  |_=>if bp P o then T::aH P r es T else aH P r es T
 |_,_,T=>[T]
def cU:a4 dY->a4 Ev->aW->aW
 |o::r,e::es,f=>
  match kX f o.dst e.val with
  |some f' =>cU r es f'
  |none=>f
 |_,_,f=>f
def countP (p:a3->cx)(P:an):a4 dY->a3->a3
 |[],_=>0
 |o::r,i=>if bp P o&&p i then countP p P r (i+1)+1 else countP p P r (i+1)
def cN:af->af->cx
 | .bool a,.bool b=>a==b
 | .int k a,.int k' b=>(if k=k' then true else false)&&a==b
 | .string a,.string b=>a.data.toList==b.data.toList
 | .pointer a,.pointer b=>if a=b then true else false
 | .slice a n c,.slice b m d=>(if a=b then true else false)&&bC n m&&bC c d
 | .map a,.map b=>if a=b then true else false
 | .nilFunc,.nilFunc=>true
 | .nilIface,.nilIface=>true
 |_,_=>false
def fp:a4 af->a4 af->cx
 |[],[]=>true
 |a::r,b::q=>cN a b&&fp r q
 |_,_=>false
def yH:af->af->cx
 | .agg a,.agg b=>fp a.toList b.toList
 |a,b=>cN a b
def qI:a4 af->a4 af->cx
 |[],[]=>true
 |a::r,b::q=>yH a b&&qI r q
 |_,_=>false
def bZ:af->af->cx
 | .agg a,.agg b=>fp a.toList b.toList
 | .tuple a,.tuple b=>qI a.toList b.toList
 | .func (.func g) ava bs,.func (.func g') P4 P5=>bC g g' &&fp ava.toList P4.toList&&fp bs.toList P5.toList
 |a,b=>cN a b
def sameAt (P:an)(m:a3)(ava:a4 (a3×a3×jZ))(o:dY)(f:aW)(v:af):a4 aq->cx
 |[]=>true
 |T::r=>
  match cS P o f (fill (eo m) T ava) with
  |some (.val u _)=>bZ v u&&sameAt P m ava o f v r
  |_=>false
def cE (P:an)(all:a4 dY)(ms:a4 a3)(ava:a4 (a3×a3×jZ))(pQ:a4 aq):a4 a3->a4 dY->a4 Ev->a3->aW->cx
 |m::mr,o::r,e::es,i,f=>
  (match e with
   | .quiet v=>sameAt P m ava o f v ((pQ.take (countP (fun j=> !Nat.testBit (dg ms j) i) P all 0+1)).drop (countP (eo m) P all 0))
   |_=>true)&&
  match kX f o.dst e.val with
  |some f' =>cE P all ms ava pQ mr r es (i+1) f'
  |none=>false
 |_,_,_,_,_=>true
def aT (P:an):a4 dY->a3
 |[]=>0
 |o::r=>if aM P o then aT P r+1 else aT P r
def fH (P:an)(call:eP->a4 af->aq->av (af×aq))(ops:a4 dY)(f:aW)(s:aq):av (aW×aq):=
 match cb 0 16000000 with
 |false=>none
 |true=>
  match cO P call ops (cD ops []) ops 0 s.next f ⟨s.heap,s.next+aT P ops⟩ [] with
  |some es=>
   match cE P ops (cD ops []) (madeOf es 0) (aH P ops es ⟨s.heap,s.next+aT P ops⟩) (cD ops []) ops es 0 f with
   |true=>some (cU ops es f,fill (fun _=>true) ((aH P ops es ⟨s.heap,s.next+aT P ops⟩).getLastD s) (madeOf es 0))
   |false=>none
  |none=>none
def cL (P:an)(f:aW)(s:aq):a4 ResultVar->av (a4 af)
 |[]=>some []
 | .tmp t::r=>
  if ds t f.n then
   match cL P f s r with
   |some l=>some (f.get t::l)
   |none=>none
  else none
 | .cell a t::r=>
  if ds a f.n then
   match aJ P s t (f.get a),cL P f s r with
   |some v,some l=>some (v::l)
   |_,_=>none
  else none
def oneOf:a4 af->af
 |[v]=>v
 |l=> .tuple l.toArray
def BO:Tr af->a3->a4 af->Tr af
 |t,_,[]=>t
 |t,i,v::r=>BO (Tr.set (depth i) t i v) (i+1) r
def nH (fn:Func)(args:a4 af):aW:=⟨BO .nil 0 args,args.length+(fn.ntmps-args.length)⟩
abbrev Prim:=a4 af->aq->av (af×aq)
abbrev aA:=a4 (a3×Prim)
def aA.at (l:aA)(g:a3):av Prim:=
 match l with
 |[]=>none
 |(h,p)::r=>if bC h g then some p else aA.at r g
def eF (P:an)(lib:aA)(exec:Code->aW->aq->Out)(g:eP)(args:a4 af)(s:aq):av (af×aq):=
 match lib.at g with
 |some p=>p args s
 |none=>
 match P.funcs[g]? with
 |some fn=>
  match fn.body,cb (args.length+(fn.ntmps-args.length)) 16000000 with
  |some c,true=>
   match exec c (nH fn args) s with
   |some (.normal,f,s')=>
    match cL P f s' fn.results.toList with
    |some l=>some (oneOf l,s')
    |none=>none
   |some (.ret,f,s')=>
    match cL P f s' fn.results.toList with
    |some l=>some (oneOf l,s')
    |none=>none
   |_=>none
  |_,_=>none
 |none=>none
def step (P:an)(lib:aA)(exec:Code->aW->aq->Out)(c:Code)(f:aW)(s:aq):Out:=
 match c with
 | .skip=>some (.normal,f,s)
 | .label _=>some (.normal,f,s)
 | .region _ ops d=>
  match (match d with
   |false=>gh P (eF P lib exec) ops.toList ops.toList f s
   |true=>fH P (eF P lib exec) ops.toList f s) with
  |some (f',s')=>some (.normal,f',s')
  |none=>none
 | .seq a b=>
  match exec a f s with
  |some (.normal,f',s')=>exec b f' s'
  |r=>r
 | .cond x a b=>
  match aS f x with
  |some (.bool t)=>
   match t with
   |true=>exec a f s
   |false=>exec b f s
  |_=>none
 | .block id a=>
  match exec a f s with
  |some (.exit j,f',s')=>if bC j id then some (.normal,f',s') else some (.exit j,f',s')
  |r=>r
 | .loop a=>
  match exec a f s with
  |some (.normal,f',s')=>exec (.loop a) f' s'
  |r=>r
 | .exit id=>some (.exit id,f,s)
 | .scope a=>exec a f s
 | .ret=>some (.ret,f,s)
 |_=>none
def exec (P:an)(lib:aA):a3->Code->aW->aq->Out
 |0=>fun _ _ _=>none
 |n+1=>step P lib (exec P lib n)
def gX (P:an)(lib:aA)(n:a3)(g:eP)(args:a4 af)(s:aq):av (af×aq):=eF P lib (exec P lib n) g args s
def codeOk (P:an):Code->cx
 | .region _ ops true=>sB P ops.toList
 | .seq a b=>codeOk P a&&codeOk P b
 | .cond _ a b=>codeOk P a&&codeOk P b
 | .block _ a=>codeOk P a
 | .loop a=>codeOk P a
 | .scope a=>codeOk P a
 |_=>true
def RQ (P:an)(lib:aA)(g:a3)(fn:Func):cx:=
 (fn.name != "runtime.NumGoroutine")&&
 ((lib.at g).isSome||match fn.body with
   |some c=>codeOk P c
   |none=>true)
def BP (P:an)(lib:aA):cx:=
 P.follows .mixedOrders&&(P.funcs.toList.zipIdx.all fun x=>RQ P lib x.2 x.1)
def aq.empty:aq:=⟨.nil,0⟩
def oG:av (af×aq)->cx
 |some (.bool b,_)=>b
 |_=>false
end Go.Cl
namespace Go.Cl
open Go.RowKit
theorem Tr.get_eq {α:Type}(t:Tr α)(i:a3):t.get i=match i with
  |0=>t.val
  |k+1=>match k%2 with
   |0=>t.left.get (k/2)
   |_+1=>t.right.get (k/2):=by
 cases t with
 |nil=>cases i with
  |zero=>rfl
  |succ k=>simp only[Tr.get,Tr.left,Tr.right];split<;>rfl
 |node v l r=>cases i with
  |zero=>rfl
  |succ k=>rcases cA k with h|h<;>simp only[Tr.get,Tr.left,Tr.right,h]
theorem Tr.wH {α:Type}(t:Tr α):t.get 0=t.val:=by rw[Tr.get_eq]
theorem Tr.nI {α:Type}(t:Tr α)(k:a3):t.get (k+1)=match k%2 with
   |0=>t.left.get (k/2)
   |_+1=>t.right.get (k/2):=by rw[Tr.get_eq]
theorem Tr.bD {α:Type}:∀(f:a3) (t:Tr α) (i:a3) (u:α),i+1<2^f->(Tr.set f t i u).get i=some u:=by
 intro f
 induction f with
 |zero=>intro t i u h;simp at h
 |succ f ih=>
  intro t i u h
  cases i with
  |zero=>rfl
  |succ k=>
   have hk:k/2+1<2^f:=by rw[Nat.pow_succ] at h;omega
   rw[Tr.nI]
   rcases cA k with hm|hm
   ·simp only[Tr.set,hm,Tr.left];exact ih _ _ _ hk
   ·simp only[Tr.set,hm,Tr.right];exact ih _ _ _ hk
theorem Tr.ch {α:Type}:∀(f:a3) (t:Tr α) (i j:a3) (u:α),i≠j->(Tr.set f t i u).get j=t.get j:=by
 intro f
 induction f with
 |zero=>intro t i j u h;rfl
 |succ f ih=>
  intro t i j u h
  cases i with
  |zero=>
   cases j with
   |zero=>exact c6 rfl h
   |succ m=>rw[Tr.nI,Tr.nI];simp only[Tr.set,Tr.left,Tr.right]
  |succ k=>
   rcases cA k with hm|hm
   ·simp only[Tr.set,hm]
    cases j with
    |zero=>rw[Tr.wH,Tr.wH];rfl
    |succ m=>
     rw[Tr.nI,Tr.nI]
     rcases cA m with hn|hn
     ·simp only[hn,Tr.left];exact ih _ _ _ _ (by omega)
     ·simp only[hn,Tr.right]
   ·simp only[Tr.set,hm]
    cases j with
    |zero=>rw[Tr.wH,Tr.wH];rfl
    |succ m=>
     rw[Tr.nI,Tr.nI]
     rcases cA m with hn|hn
     ·simp only[hn,Tr.left]
     ·simp only[hn,Tr.right];exact ih _ _ _ _ (by omega)
theorem deep {i:a3}(_:0<16000001):i+1<2^depth i:=by unfold depth;exact Nat.lt_log2_self
theorem aq.ck (s:aq)(i:a3)(b:jZ)(h:0<16000001):(s.put i (.dZ b)).bR i=some b:=by
 simp only[aq.bR,aq.put,Tr.bD _ s.heap i _ (deep h)]
theorem aq.bP (s:aq)(i j:a3)(o:AO)(h:i≠j):(s.put i o).heap.get j=s.heap.get j:=by
 simp only[aq.put,Tr.ch _ s.heap i j o h]
structure Emb where
 loc:a3->a3->a3×a3
 mp:a3->a3
structure St where
 s:aq
 e:Emb
 w:bo
def uH (S:St)(i off c:a3)(a:Addr):Prop:=
 ∃b,S.s.bR i=some b/\c<=b.cells.length+1/\(b.low<=c->a=⟨(S.e.loc i c).1,(S.e.loc i c).2+off,none⟩)
def Kh (S:St)(i c:a3)(a:Addr)(cap:a3):Prop:=
 ∀b,S.s.bR i=some b->b.low<=c->∃(arr:bg af) (E:ao) (fr:a3×a3),S.w.heap[a.block]?=some (.cells arr E fr)/\a.off+cap*b.mM<=arr.size
inductive VR (S:St):af->af->Prop
 |bool (b:cx):VR S (.bool b) (.bool b)
 |int (k:eE) (n:fk):VR S (.int k n) (.int k n)
 |string (x:eg):VR S (.string x) (.string x)
 |NA:VR S (.pointer none) (.pointer none)
 |ptr (i off c:a3) (a:Addr) (h:uH S i off c a):VR S (.pointer (some ⟨i,off,some c⟩)) (.pointer (some a))
 |gK:VR S (.slice none 0 0) (.slice none 0 0)
 |slice (i off len c:a3) (a:Addr) (cap:a3) (h0:len<=cap) (hz:c=0->cap=0) (h:0<cap->uH S i off c a/\Kh S i c a cap):
  VR S (.slice (some ⟨i,off,none⟩) len c) (.slice (some a) len cap)
 |NB:VR S (.map none) (.map none)
 |map (r:a3) (h:∃es,S.s.dN r=some es):VR S (.map (some r)) (.map (some (S.e.mp r)))
 |nilFunc:VR S .nilFunc .nilFunc
 |nilIface:VR S .nilIface .nilIface
 |func (g:eP) (ava bs P4 P5:bg af) (ha:ava.toList.length=P4.toList.length) (hb:bs.toList.length=P5.toList.length)
  (h1:∀i,i<ava.toList.length->VR S (ava.toList.getD i undef) (P4.toList.getD i undef)) (h2:∀i,i<bs.toList.length->VR S (bs.toList.getD i undef) (P5.toList.getD i undef)):
  VR S (.func (.func g) ava bs) (.func (.func g) P4 P5)
 |agg (cs ji:bg af) (h1:cs.toList.length=ji.toList.length) (h2:∀i,i<cs.toList.length->VR S (cs.toList.getD i undef) (ji.toList.getD i undef)):VR S (.agg cs) (.agg ji)
 |unk (n:fk):VR S (.chan none) (.int .u8 n)
 |raw (b o:a3):VR S (.pointer (some ⟨b,o,none⟩)) (.pointer (some ⟨b,o,none⟩))
 |iface (t:ao) (v v' :af) (h:VR S v v'):VR S (.iface t v) (.iface t v')
 |tuple (cs ji:bg af) (h1:cs.toList.length=ji.toList.length) (h2:∀i,i<cs.toList.length->VR S (cs.toList.getD i undef) (ji.toList.getD i undef)):VR S (.tuple cs) (.tuple ji)
def eR (S:St)(l l' :a4 af):Prop:=l.length=l'.length/\∀i,i<l.length->VR S (l.getD i undef) (l'.getD i undef)
theorem VR.sC (S:St):VR S undef undef:=VR.tuple #[] #[] rfl (fun i h=>by simp at h)
theorem eR.nil {S:St}:eR S [] []:=⟨rfl,fun i h=>by simp at h⟩
theorem eR.cons {S:St}{v v' :af}{l l' :a4 af}(h:VR S v v')(hl:eR S l l'):eR S (v::l) (v' ::l'):=by
 refine⟨by simp[hl.1],fun i hi=> ?_⟩
 cases i with
 |zero=>simpa using h
 |succ k=>simpa using hl.2 k (by simpa using hi)
theorem eR.cons_inv {S:St}{v:af}{l l' :a4 af}(h:eR S (v::l) l'):∃v' r',l' =v' ::r' /\VR S v v' /\eR S l r' :=by
 cases l' with
 |nil=>have:=h.1;simp at this
 |cons v' r' =>
  refine⟨v',r',rfl,by simpa using h.2 0 (by simp),by simpa using h.1,fun i hi=>by simpa using h.2 (i+1) (by simpa using hi)⟩
theorem eR.jK {S:St}{l' :a4 af}(h:eR S [] l'):l' =[]:=by
 have:=h.1
 cases l' with
 |nil=>rfl
 |cons _ _=>simp at this
theorem eR.append {S:St}{l l' m m' :a4 af}(h:eR S l l')(hm:eR S m m'):eR S (l++m) (l' ++m'):=by
 induction l generalizing l' with
 |nil=>rw[h.jK];exact hm
 |cons v l ih=>
  obtain⟨v',r',rfl,h1,h2⟩:=h.cons_inv
  exact eR.cons h1 (ih h2)
theorem eR.toList {S:St}{cs ji:bg af}(h:eR S cs.toList ji.toList):VR S (.agg cs) (.agg ji):= .agg _ _ h.1 h.2
theorem eR.agg {S:St}{l l' :a4 af}(h:eR S l l'):VR S (.agg l.toArray) (.agg l'.toArray):= .agg _ _ (by simpa using h.1) (by simpa using h.2)
theorem eR.tuple {S:St}{l l' :a4 af}(h:eR S l l'):VR S (.tuple l.toArray) (.tuple l'.toArray):= .tuple _ _ (by simpa using h.1) (by simpa using h.2)
structure Ext (S T:St):Prop where
 dZ:∀i b,S.s.bR i=some b->∃b',T.s.bR i=some b' /\b.cells.length<=b'.cells.length/\b.low<=b'.low/\b'.mM=b.mM/\∀c,c<=b.cells.length+1->b'.low<=c->T.e.loc i c=S.e.loc i c
 map:∀r es,S.s.dN r=some es->(∃fP,T.s.dN r=some fP)/\T.e.mp r=S.e.mp r
 arr:∀(k:a3) (arr:bg af) (E:ao) (fr:a3×a3),S.w.heap[k]?=some (.cells arr E fr)->∃(kn:bg af) (NC:a3×a3),T.w.heap[k]?=some (.cells kn E NC)/\kn.size=arr.size
theorem Ext.refl (S:St):Ext S S:=
 ⟨fun _ b h=>⟨b,h,a6 _,a6 _,rfl,fun _ _ _=>rfl⟩,fun _ es h=>⟨⟨es,h⟩,rfl⟩,fun _ arr _ fr h=>⟨arr,fr,h,rfl⟩⟩
theorem Ext.trans {S T U:St}(h:Ext S T)(k:Ext T U):Ext S U:=by
 refine⟨fun i b hb=> ?_,fun r es hr=> ?_,fun n arr E fr hn=> ?_⟩
 ·obtain⟨b1,h1,h2,h3,h4,h5⟩:=h.dZ i b hb
  obtain⟨b2,k1,k2,k3,k4,k5⟩:=k.dZ i b1 h1
  exact⟨b2,k1,by omega,by omega,by rw[k4,h4],fun c hc hl=>(k5 c (by omega) hl).trans (h5 c hc (by omega))⟩
 ·obtain⟨⟨JZ,h1⟩,h2⟩:=h.map r es hr
  obtain⟨h3,h4⟩:=k.map r JZ h1
  exact⟨h3,h4.trans h2⟩
 ·obtain⟨a1,f1,h1,h2⟩:=h.arr n arr E fr hn
  obtain⟨a2,f2,k1,k2⟩:=k.arr n a1 E f1 h1
  exact⟨a2,f2,k1,k2.trans h2⟩
theorem uH.mono {S T:St}(h:Ext S T){i off c:a3}{a:Addr}(hr:uH S i off c a):uH T i off c a:=by
 obtain⟨b,hb,hc,hl⟩:=hr
 obtain⟨b',h1,h2,h3,_,h5⟩:=h.dZ i b hb
 exact⟨b',h1,by omega,fun jw=>by rw[h5 c hc jw];exact hl (by omega)⟩
theorem Kh.mono {S T:St}(h:Ext S T){i c:a3}{a:Addr}{cap:a3}(hs:∃b,S.s.bR i=some b)(hr:Kh S i c a cap):Kh T i c a cap:=by
 intro b' pL Zd
 obtain⟨b,hb⟩:=hs
 obtain⟨b1,h1,h2,h3,h4,_⟩:=h.dZ i b hb
 rw[pL] at h1
 obtain rfl:=ab h1
 obtain⟨arr,E,fr,ha,cf⟩:=hr b hb (by omega)
 obtain⟨kn,NC,ha',UJ⟩:=h.arr _ _ _ _ ha
 exact⟨kn,E,NC,ha',by rw[h4,UJ];exact cf⟩
theorem VR.mono {S T:St}(h:Ext S T){v v' :af}(hv:VR S v v'):VR T v v' :=by
 induction hv with
 |bool b=>exact .bool b
 |int k n=>exact .int k n
 |string x=>exact .string x
 |NA=>exact .NA
 |ptr i off c a hr=>exact .ptr i off c a (hr.mono h)
 |gK=>exact .gK
 |slice i off len c a cap h0 hz hr=>
  refine .slice i off len c a cap h0 hz fun hc=> ?_
  obtain⟨pd,gx⟩:=hr hc
  exact⟨pd.mono h,gx.mono h (by obtain⟨b,hb,_⟩:=pd;exact⟨b,hb⟩)⟩
 |NB=>exact .NB
 |map r hr=>
  obtain⟨es,zN⟩:=hr
  obtain⟨h1,h2⟩:=h.map r es zN
  rw[<-h2]
  exact .map r h1
 |nilFunc=>exact .nilFunc
 |nilIface=>exact .nilIface
 |func g ava bs P4 P5 ha hb _ _ ih1 ih2=>exact .func g ava bs P4 P5 ha hb ih1 ih2
 |agg cs ji h1 _ ih=>exact .agg cs ji h1 ih
 |unk n=>exact .unk n
 |raw b o=>exact .raw b o
 |iface t v v' _ ih=>exact .iface t v v' ih
 |tuple cs ji h1 _ ih=>exact .tuple cs ji h1 ih
theorem eR.mono {S T:St}(h:Ext S T){l l' :a4 af}(hv:eR S l l'):eR T l l' :=⟨hv.1,fun i hi=>(hv.2 i hi).mono h⟩
def ER (S:St):a4 (af×af)->a4 MapEntry->Prop
 |[],[]=>True
 |(k,v)::r,e::r' =>e.key=k/\VR S v e.val/\ER S r r'
 |_,_=>False
theorem ER.mono {S T:St}(h:Ext S T):∀{l:a4 (af×af)} {l' :a4 MapEntry},ER S l l' ->ER T l l'
 |[],[],_=>trivial
 |(_,_)::_,_::_,hv=>⟨hv.1,hv.2.1.mono h,ER.mono h hv.2.2⟩
 |[],_::_,hv=>hv
 |_::_,[],hv=>hv
def Live (b:jZ)(c:a3):Prop:=b.low<=c/\c<=b.cells.length+1
structure SR (base:a3) (S:St):Prop where
 room:0<=16000000
 bound:∀i o,S.s.heap.get i=some o->i<S.s.next
 low:∀i b,S.s.bR i=some b->1<=b.low
 cell:∀i b,S.s.bR i=some b->∀c,Live b c->∀p,p+1<c->∃v,S.w.cell? ⟨(S.e.loc i c).1,(S.e.loc i c).2+p,none⟩=some v/\VR S (b.cells.getD p undef) v
 own:∀i b,S.s.bR i=some b->b.own=true->∀c,Live b c->
  base<=(S.e.loc i c).1/\(∃(arr:bg af) (E:ao) (fr:a3×a3),S.w.heap[(S.e.loc i c).1]?=some (.cells arr E fr)/\(fr.1=fr.2\/arr.size<=fr.1))/\
  (∀j b',S.s.bR j=some b' ->∀c',Live b' c' ->(S.e.loc j c').1=(S.e.loc i c).1->j=i)/\
  ∀c',Live b c' ->(S.e.loc i c').1=(S.e.loc i c).1->S.e.loc i c' =S.e.loc i c
 map:∀r es,S.s.dN r=some es->base<=S.e.mp r/\∃(fP:bg MapEntry) (sf:a3),S.w.heap[S.e.mp r]?=some (.map fP sf)/\ER S es fP.toList
 Io:∀r r' es fP,S.s.dN r=some es->S.s.dN r' =some fP->S.e.mp r=S.e.mp r' ->r=r'
 size:base<=S.w.heap.size
 Ip:∀i b,S.s.bR i=some b->∀c,Live b c->(S.e.loc i c).1<S.w.heap.size
structure Good (base:a3) (S T:St):Prop where
 sr:SR base T
 ext:Ext S T
 below:Below base S.w T.w
theorem Good.refl {base:a3}{S:St}(h:SR base S):Good base S S:=⟨h,Ext.refl S,Below.refl _ _⟩
theorem Good.trans {base:a3}{S T U:St}(h:Good base S T)(k:Good base T U):Good base S U:=⟨k.sr,h.ext.trans k.ext,h.below.trans k.below⟩
theorem SR.lt {base:a3}{S:St}(h:SR base S){i:a3}{b:jZ}(hb:S.s.bR i=some b):i<S.s.next:=by
 unfold aq.bR at hb
 split at hb
 ·exact h.bound i _ ‹_›
 ·cases hb
theorem SR.mlt {base:a3}{S:St}(h:SR base S){i:a3}{b:a4 (af×af)}(hb:S.s.dN i=some b):i<S.s.next:=by
 unfold aq.dN at hb
 split at hb
 ·exact h.bound i _ ‹_›
 ·cases hb
theorem j5 {s:aq}{i:a3}{b:jZ}{es:a4 (af×af)}(hb:s.bR i=some b)(he:s.dN i=some es):False:=by
 unfold aq.bR at hb
 unfold aq.dN at he
 split at hb
 ·rename_i h;rw[h] at he;cases he
 ·cases hb
theorem SR.change {base:a3}{S:St}(h:SR base S)(i L next:a3)(b' :jZ)(kx:a3->a3->a3×a3)(w' :bo)
  (hi:i<next) (hn:S.s.next<=next) (hr:0<=16000000) (Ki:i<S.s.next\/i+1=next)
  (alc:∀es,S.s.dN i≠some es)
  (agq:1<=b'.low)
  (hold:∀b,S.s.bR i=some b->b.cells.length<=b'.cells.length/\b.low<=b'.low/\b'.mM=b.mM/\∀c,c<=b.cells.length+1->b'.low<=c->kx i c=S.e.loc i c)
  (pf:∀j,j≠i->kx j=S.e.loc j)
  (hw:∀k,k≠L->k<S.w.heap.size->w'.heap[k]?=S.w.heap[k]?)
  (hL:∀j bj c,j≠i->S.s.bR j=some bj->Live bj c->(S.e.loc j c).1≠L)
  (hLm:∀r es,S.s.dN r=some es->S.e.mp r≠L)
  (ald:∀c,Live b' c->(kx i c).1<w'.heap.size)
  (iZ:∀c,Live b' c->∀p,p+1<c->∃v,w'.cell? ⟨(kx i c).1,(kx i c).2+p,none⟩=some v/\VR S (b'.cells.getD p undef) v)
  (lh:b'.own=true->∀c,Live b' c->base<=(kx i c).1/\(∃(arr:bg af) (E:ao) (fr:a3×a3),w'.heap[(kx i c).1]?=some (.cells arr E fr)/\(fr.1=fr.2\/arr.size<=fr.1))/\
   (∀j bj,j≠i->S.s.bR j=some bj->∀c',Live bj c' ->(S.e.loc j c').1≠(kx i c).1)/\
   ∀c',Live b' c' ->(kx i c').1=(kx i c).1->kx i c' =kx i c)
  (ND:∀j bj,j≠i->S.s.bR j=some bj->bj.own=true->∀c',Live bj c' ->∀c,Live b' c->(kx i c).1≠(S.e.loc j c').1)
  (ac2:∀(arr:bg af) (E:ao) (fr:a3×a3),S.w.heap[L]?=some (.cells arr E fr)->∃(kn:bg af) (NC:a3×a3),w'.heap[L]?=some (.cells kn E NC)/\kn.size=arr.size)
  (nJ:Below base S.w w') (cf:S.w.heap.size<=w'.heap.size):
  Good base S ⟨⟨Tr.set (depth i) S.s.heap i (.dZ b'),next⟩,⟨kx,S.e.mp⟩,w'⟩:=by
 have ky:∀j,j≠i->(Tr.set (depth i) S.s.heap i (.dZ b')).get j=S.s.heap.get j:=fun j hj=>Tr.ch _ _ _ _ _ (Ne.symm hj)
 have Kj:(Tr.set (depth i) S.s.heap i (.dZ b')).get i=some (.dZ b'):=Tr.bD _ _ _ _ (deep (by omega))
 have gY:(⟨Tr.set (depth i) S.s.heap i (.dZ b'),next⟩:aq).bR i=some b' :=by simp only[aq.bR,Kj]
 have ot:∀j,j≠i->(⟨Tr.set (depth i) S.s.heap i (.dZ b'),next⟩:aq).bR j=S.s.bR j:=fun j hj=>by simp only[aq.bR,ky j hj]
 have Ut:∀j,j≠i->(⟨Tr.set (depth i) S.s.heap i (.dZ b'),next⟩:aq).dN j=S.s.dN j:=fun j hj=>by simp only[aq.dN,ky j hj]
 have hmi:(⟨Tr.set (depth i) S.s.heap i (.dZ b'),next⟩:aq).dN i=none:=by simp only[aq.dN,Kj]
 have agr:∀(k:a3) (arr:bg af) (E:ao) (fr:a3×a3),S.w.heap[k]?=some (.cells arr E fr)->∃(kn:bg af) (NC:a3×a3),w'.heap[k]?=some (.cells kn E NC)/\kn.size=arr.size:=by
  intro k arr E fr hk
  by_cases hkL:k=L
  ·subst hkL;exact ac2 arr E fr hk
  ·have bd:k<S.w.heap.size:=by
    rcases ea k S.w.heap.size with h' |h'
    ·exact h'
    ·rw[c7 h'] at hk;cases hk
   exact⟨arr,fr,by rw[hw k hkL bd];exact hk,rfl⟩
 have mz:Ext S ⟨⟨Tr.set (depth i) S.s.heap i (.dZ b'),next⟩,⟨kx,S.e.mp⟩,w'⟩:=by
  refine⟨fun j b hb=> ?_,fun r es he=> ?_,agr⟩
  ·by_cases hj:j=i
   ·subst hj
    obtain⟨h1,h2,h3,h4⟩:=hold b hb
    exact⟨b',gY,h1,h2,h3,h4⟩
   ·exact⟨b,by rw[<-hb];exact ot j hj,a6 _,a6 _,rfl,fun c _ _=>by show kx j c=_;rw[pf j hj]⟩
  ·have Fa:r≠i:=fun e=>alc es (e▸he)
   exact⟨⟨es,by rw[<-he];exact Ut r Fa⟩,rfl⟩
 refine⟨⟨hr,?_,?_,?_,?_,?_,?_,fl h.size nJ.size,?_⟩,mz,nJ⟩
 ·intro j o hj
  by_cases gR:j=i
  ·show j<next;omega
  ·have YK:(Tr.set (depth i) S.s.heap i (.dZ b')).get j=some o:=hj
   rw[ky j gR] at YK
   have:=h.bound j o YK
   show j<next;omega
 ·intro j b hb
  by_cases gR:j=i
  ·subst gR;rw[gY] at hb;obtain rfl:=ab hb;exact agq
  ·rw[ot j gR] at hb;exact h.low j b hb
 ·intro j b hb c hc p hp
  by_cases gR:j=i
  ·subst gR
   rw[gY] at hb;obtain rfl:=ab hb
   obtain⟨v,h1,h2⟩:=iZ c hc p hp
   exact⟨v,h1,h2.mono mz⟩
  ·rw[ot j gR] at hb
   obtain⟨v,h1,h2⟩:=h.cell j b hb c hc p hp
   refine⟨v,?_,h2.mono mz⟩
   show w'.cell? ⟨(kx j c).1,(kx j c).2+p,none⟩=some v
   rw[pf j gR,<-h1]
   exact c8 (hw _ (hL j b c gR hb hc) (h.Ip j b hb c hc))
 ·intro j b hb Nh c hc
  by_cases gR:j=i
  ·subst gR
   rw[gY] at hb;obtain rfl:=ab hb
   obtain⟨h1,h2,h3,h5⟩:=lh Nh c hc
   refine⟨h1,h2,fun k bk hk c' gZ hEq=> ?_,h5⟩
   by_cases hkj:k=j
   ·exact hkj
   ·rw[ot k hkj] at hk
    exact c6 (by have:(kx k c').1=(kx j c).1:=hEq;rwa [pf k hkj] at this) (h3 k bk hkj hk c' gZ)
  ·rw[ot j gR] at hb
   obtain⟨h1,⟨arr,E,fr,h2,h2'⟩,h3,h5⟩:=h.own j b hb Nh c hc
   have cH:=hL j b c gR hb hc
   have bd:(S.e.loc j c).1<S.w.heap.size:=by
    rcases ea (S.e.loc j c).1 S.w.heap.size with h' |h'
    ·exact h'
    ·rw[c7 h'] at h2;cases h2
   refine⟨by show base<=(kx j c).1;rw[pf j gR];exact h1,⟨arr,E,fr,?_,h2'⟩,fun k bk hk c' gZ hEq=> ?_,by show∀c',Live b c' ->(kx j c').1=(kx j c).1->kx j c' =kx j c;rw[pf j gR];exact h5⟩
   ·show w'.heap[(kx j c).1]?=_
    rw[pf j gR,hw _ cH bd];exact h2
   ·have BQ:(kx k c').1=(kx j c).1:=hEq
    rw[pf j gR] at BQ
    by_cases UL:k=i
    ·subst UL
     rw[gY] at hk;obtain rfl:=ab hk
     exact c6 BQ (ND j b gR hb Nh c hc c' gZ)
    ·rw[ot k UL] at hk
     rw[pf k UL] at BQ
     exact h3 k bk hk c' gZ BQ
 ·intro r es he
  have Fa:r≠i:=fun e=>by subst e;rw[hmi] at he;cases he
  rw[Ut r Fa] at he
  obtain⟨h1,fP,sf,h2,h3⟩:=h.map r es he
  have bd:S.e.mp r<S.w.heap.size:=by
   rcases ea (S.e.mp r) S.w.heap.size with h' |h'
   ·exact h'
   ·rw[c7 h'] at h2;cases h2
  exact⟨h1,fP,sf,by show w'.heap[S.e.mp r]?=_;rw[hw _ (hLm r es he) bd];exact h2,h3.mono mz⟩
 ·intro r r' es fP he A6 hEq
  have Fa:r≠i:=fun e=>by subst e;rw[hmi] at he;cases he
  have Iq:r' ≠i:=fun e=>by subst e;rw[hmi] at A6;cases A6
  rw[Ut r Fa] at he
  rw[Ut r' Iq] at A6
  exact h.Io r r' es fP he A6 hEq
 ·intro j b hb c hc
  by_cases gR:j=i
  ·subst gR
   rw[gY] at hb;obtain rfl:=ab hb
   exact ald c hc
  ·rw[ot j gR] at hb
   show(kx j c).1<w'.heap.size
   rw[pf j gR]
   exact e9 (h.Ip j b hb c hc) cf
theorem wI:∀(n:a3) (l:a4 af),takeN n l=if n<=l.length then some (l.take n) else none:=by
 intro n
 induction n with
 |zero=>intro l;simp[takeN]
 |succ n ih=>
  intro l
  cases l with
  |nil=>simp[takeN]
  |cons v r=>
   simp only[takeN,ih,eb,Nat.add_le_add_iff_right,List.take_succ_cons]
   by_cases h:n<=r.length<;>simp[h]
theorem sD:∀(n:a3) (l:a4 af),zL n l=l.drop n:=by
 intro n
 induction n with
 |zero=>intro l;cases l<;>simp[zL]
 |succ n ih=>intro l;cases l with
  |nil=>simp[zL]
  |cons v r=>simp[zL,ih]
theorem vu:∀(l:a4 af) (off:a3) (vs r:a4 af),setAt l off vs=some r->
  r.length=l.length/\(vs=[]\/off+vs.length<=l.length)/\∀p,r.getD p undef=if off<=p/\p<off+vs.length then vs.getD (p-off) undef else l.getD p undef:=by
 intro l
 induction l with
 |nil=>
  intro off vs r h
  cases vs with
  |nil=>simp only[setAt] at h;obtain rfl:=ab h;exact⟨rfl,.inl rfl,fun p=>by rw[bn (by simp)]⟩
  |cons v vs=>simp[setAt] at h
 |cons c l ih=>
  intro off vs r h
  cases vs with
  |nil=>simp only[setAt] at h;obtain rfl:=ab h;exact⟨rfl,.inl rfl,fun p=>by rw[bn (by simp)]⟩
  |cons v vs=>
   cases off with
   |zero=>
    simp only[setAt] at h
    split at h
    ·rename_i m hm
     obtain rfl:=ab h
     obtain⟨h1,h2,h3⟩:=ih 0 vs m hm
     refine⟨by simp[h1],.inr ?_,fun p=> ?_⟩
     ·rcases h2 with rfl|h2
      ·simp
      ·simp;omega
     ·cases p with
      |zero=>simp
      |succ p=>
       have:=h3 p
       simp only[Nat.zero_le,fo,ew,gT,ed,eb,Nat.add_lt_add_iff_right] at this|-
       exact this
    ·cases h
   |succ n=>
    simp only[setAt] at h
    split at h
    ·rename_i m hm
     obtain rfl:=ab h
     obtain⟨h1,h2,h3⟩:=ih n (v::vs) m hm
     refine⟨by simp[h1],.inr ?_,fun p=> ?_⟩
     ·rcases h2 with h2|h2
      ·cases h2
      ·simp at h2|-;omega
     ·cases p with
      |zero=>rw[bn (by omega)];simp
      |succ p=>
       have:=h3 p
       simp only[ed]
       rw[this]
       by_cases hc:n<=p/\p<n+(v::vs).length
       ·rw[cg hc,cg (by omega),show p+1-(n+1)=p-n by omega]
       ·rw[bn hc,bn (by omega)]
    ·cases h
def yI (w:bo)(k o n:a3):a4 af:=(List.range n).map fun p=>(w.cell? ⟨k,o+p,none⟩).getD undef
theorem Kk (w:bo)(k o n:a3):(yI w k o n).length=n:=by simp[yI]
theorem yJ (w:bo)(k o n p:a3)(h:p<n):(yI w k o n).getD p undef=(w.cell? ⟨k,o+p,none⟩).getD undef:=by
 simp[yI,a7,h]
theorem RR (w:bo)(k o n:a3):yI w k o (n+1)=(w.cell? ⟨k,o,none⟩).getD undef::yI w k (o+1) n:=by
 simp only[yI,List.range_succ_eq_map,List.map_cons,List.map_map,dO]
 congr 1
 apply List.map_congr_left
 intro p _
 simp only[Function.comp,ev]
 rw[show o+(p+1)=o+1+p by omega]
theorem run_loadCellsFrom (P:an)(w:bo)(k o:a3):∀(n i:a3) (acc:bg af),(∀p,p<n->∃v,w.cell? ⟨k,o+i+p,none⟩=some v)->
  (loadCellsFrom ⟨k,o,none⟩ i n acc).run P w= .ok (acc++(yI w k (o+i) n).toArray) w:=by
 intro n
 induction n with
 |zero=>intro i acc _;simp[loadCellsFrom,yI]
 |succ n ih=>
  intro i acc h
  obtain⟨v,hv⟩:=h 0 (by omega)
  simp only[dO] at hv
  have:=ih (i+1) (acc.push v) (fun p hp=>by have:=h (p+1) (by omega);rwa [show o+i+(p+1)=o+(i+1)+p by omega] at this)
  simp only[loadCellsFrom,Sem.run_bind,run_load,Addr.add_lit,hv,aR,this,RR,Option.getD_some]
  congr 1
  rw[<-cz]
  simp[c9]
theorem run_loadCells (P:an)(w:bo)(k o n:a3)(h:∀p,p<n->∃v,w.cell? ⟨k,o+p,none⟩=some v):
  (loadCells ⟨k,o,none⟩ n).run P w= .ok (yI w k o n).toArray w:=by
 have:=run_loadCellsFrom P w k o n 0 #[] (by simpa using h)
 simpa [loadCells] using this
def setCells (w:bo)(k o:a3):a4 af->bo
 |[]=>w
 |v::r=>setCells (w.setCell ⟨k,o,none⟩ v) k (o+1) r
theorem uI (w:bo)(k o:a3)(v:af)(arr:bg af)(E:ao)(fr:a3×a3)(h:w.heap[k]?=some (.cells arr E fr)):
  (w.setCell ⟨k,o,none⟩ v).heap[k]?=some (.cells (arr.setIfInBounds o v) E fr):=by
 simp only[World.setCell,ek,dX,h]
 rfl
theorem b9 (w:bo)(k o:a3)(arr:bg af)(E:ao)(fr:a3×a3)(h:w.heap[k]?=some (.cells arr E fr)):
  w.cell? ⟨k,o,none⟩=arr[o]?:=by simp[g4,h]
theorem uJ {w:bo}{k o:a3}{v:af}(h:w.cell? ⟨k,o,none⟩=some v):∃(arr:bg af) (E:ao) (fr:a3×a3),w.heap[k]?=some (.cells arr E fr)/\arr[o]?=some v:=by
 unfold g4 at h
 split at h
 ·rename_i c E fr hk
  exact⟨c,E,fr,hk,by simpa using h⟩
 ·cases h
theorem eG {w:bo}{k:a3}{o:Obj}(h:w.heap[k]?=some o):k<w.heap.size:=by
 rcases ea k w.heap.size with h' |h'
 ·exact h'
 ·rw[c7 h'] at h;cases h
theorem fQ:∀(vs:a4 af) (w:bo) (k o:a3),(setCells w k o vs).heap.size=w.heap.size
 |[],_,_,_=>rfl
 |v::r,w,k,o=>by rw[setCells,fQ r];simp
theorem j6:∀(vs:a4 af) (w:bo) (k o j:a3),j≠k->(setCells w k o vs).heap[j]?=w.heap[j]?
 |[],_,_,_,_,_=>rfl
 |v::r,w,k,o,j,h=>by rw[setCells,j6 r _ _ _ _ h];exact Below.heap_setCell _ _ _ _ h
theorem kz:∀(vs:a4 af) (w:bo) (k o B:a3),B<=k->Below B w (setCells w k o vs)
 |[],w,_,_,B,_=>Below.refl B w
 |v::r,w,k,o,B,h=>((Below.refl B w).setCell (p:=⟨k,o,none⟩) h v).trans (kz r _ k (o+1) B h)
theorem iw:∀(vs:a4 af) (w:bo) (k o:a3) (arr:bg af) (E:ao) (fr:a3×a3),w.heap[k]?=some (.cells arr E fr)->o+vs.length<=arr.size->
  ∃kn,(setCells w k o vs).heap[k]?=some (.cells kn E fr)/\kn.size=arr.size/\∀p,kn[p]?=if o<=p/\p<o+vs.length then some (vs.getD (p-o) undef) else arr[p]?:=by
 intro vs
 induction vs with
 |nil=>intro w k o arr E fr h _;exact⟨arr,h,rfl,fun p=>by rw[bn (by simp)]⟩
 |cons v r ih=>
  intro w k o arr E fr h hle
  simp only[eb] at hle
  obtain⟨kn,h1,h2,h3⟩:=ih (w.setCell ⟨k,o,none⟩ v) k (o+1) _ E fr (uI w k o v arr E fr h) (by simp;omega)
  refine⟨kn,h1,by simpa using h2,fun p=> ?_⟩
  rw[h3 p]
  by_cases hp:o+1<=p/\p<o+1+r.length
  ·rw[cg hp,cg (by simp;omega),show p-o=(p-(o+1))+1 by omega,ed]
  ·rw[bn hp]
   by_cases hpo:p=o
   ·subst hpo
    rw[cg (by simp),c4 (by omega),g0,e6]
   ·rw[bn (by simp;omega),c3 (by omega)]
theorem BR {v:af}(h:aL v=true):v.oneCell' =true:=by cases v<;>simp_all[aL,Value.oneCell']
theorem kA (P:an)(k o:a3):∀(vs:a4 af) (w:bo) (i:a3) (arr:bg af) (E:ao) (fr:a3×a3),w.heap[k]?=some (.cells arr E fr)->
  (fr.1=fr.2\/arr.size<=fr.1)->o+i+vs.length<=arr.size->(∀v∈vs,aL v=true)->(storeCells ⟨k,o,none⟩ vs i).run P w= .ok () (setCells w k (o+i) vs):=by
 intro vs
 induction vs with
 |nil=>intro w i arr E fr _ _ _ _;simp[storeCells,setCells]
 |cons v r ih=>
  intro w i arr E fr h pg hle dH
  simp only[eb] at hle
  have hc:w.cell? ⟨k,o+i,none⟩=some arr[o+i]:=by rw[b9 w k _ arr E fr h];simp
  have hfz:w.frozen? ⟨k,o+i,none⟩=false:=by
   simp only[World.frozen?,h]
   rcases pg with h1|h1
   ·rw[eM];simp;omega
   ·rw[eM];simp;omega
  have aE:(store ⟨k,o+i,none⟩ v).run P w= .ok () (w.setCell ⟨k,o+i,none⟩ v):=by
   rw[run_store P w _ v .plain (BR (dH v (by simp)))]
   simp[hc,hfz]
  have:=ih (w.setCell ⟨k,o+i,none⟩ v) (i+1) _ E fr (uI w k (o+i) v arr E fr h) (by simpa using pg) (by simp;omega) (fun u hu=>dH u (by simp[hu]))
  simp only[storeCells,Sem.run_bind,Addr.add_lit,aE,aR,this,setCells,c9]
theorem VR.aL {S:St}{v v' :af}(h:VR S v v'):aL v=aL v' :=by cases h<;>rfl
theorem eR.aL {S:St}{l l' :a4 af}(h:eR S l l')(dH:l.all aL=true):∀v∈l',aL v=true:=by
 induction l generalizing l' with
 |nil=>rw[h.jK];simp
 |cons v l ih=>
  obtain⟨v',r',rfl,h1,h2⟩:=h.cons_inv
  simp only[gB,a5] at dH
  intro u hu
  rcases List.mem_cons.1 hu with rfl|hu
  ·rw[<-h1.aL];exact dH.1
  ·exact ih h2 dH.2 u hu
theorem VR.cells {S:St}{v v' :af}(h:VR S v v'):eR S v.cells.toList v'.cells.toList:=by
 cases h with
 |agg cs ji h1 h2=>exact⟨h1,h2⟩
 |raw b o=>exact eR.cons (.raw b o) eR.nil
 |unk n=>exact eR.cons (.unk n) eR.nil
 |iface t v v' h=>exact eR.cons (.iface t v v' h) eR.nil
 |_=>exact eR.cons (by first|assumption|(constructor<;>assumption)|constructor) eR.nil
theorem Ze {b:jZ}{c n:a3}(h:(cb b.low c&&cb c (b.cells.length+1)&&ds n c)=true):Live b c/\n<c:=by
 simp only[a5,cp,dU] at h
 exact⟨⟨h.1.1,h.1.2⟩,h.2⟩
theorem BS (l:a4 af)(o n p:a3)(h:p<n):((l.drop o).take n).getD p undef=l.getD (o+p) undef:=by
 simp[a7,h]
theorem SR.cells {base:a3}{S:St}(h:SR base S){i off c n:a3}{l:a4 af}(hc:S.s.dr i off c n=some l):
  ∃b,S.s.bR i=some b/\Live b c/\off+n<c/\l=(b.cells.drop off).take n/\l.length=n/\eR S l (yI S.w (S.e.loc i c).1 ((S.e.loc i c).2+off) n)/\
   ∀p,p<n->∃v,S.w.cell? ⟨(S.e.loc i c).1,(S.e.loc i c).2+off+p,none⟩=some v:=by
 unfold aq.dr at hc
 split at hc
 ·rename_i b hb
  split at hc
  ·rename_i iy
   obtain⟨fq,bd⟩:=Ze iy
   rw[wI,sD] at hc
   split at hc
   ·rename_i hn
    obtain rfl:=ab hc
    have wJ:((b.cells.drop off).take n).length=n:=by rw[gf];omega
    have iZ:∀p,p<n->∃v,S.w.cell? ⟨(S.e.loc i c).1,(S.e.loc i c).2+off+p,none⟩=some v/\VR S (b.cells.getD (off+p) undef) v:=fun p hp=>by
     have:=h.cell i b hb c fq (off+p) (by omega)
     rwa [<-c9] at this
    refine⟨b,hb,fq,bd,rfl,wJ,⟨by rw[wJ,Kk],fun p hp=> ?_⟩,fun p hp=>(iZ p hp).imp fun _ h=>h.1⟩
    rw[wJ] at hp
    obtain⟨v,h1,h2⟩:=iZ p hp
    rw[yJ _ _ _ _ _ hp,h1,BS _ _ _ _ hp]
    exact h2
   ·cases hc
  ·cases hc
 ·cases hc
theorem wK {s:aq}(_:s.room=true):0<16000000:=by omega
theorem SR.fresh {base:a3}{S:St}(h:SR base S):S.s.bR S.s.next=none/\S.s.dN S.s.next=none:=by
 constructor
 ·cases hb:S.s.bR S.s.next with
  |none=>rfl
  |some b=>have:=h.lt hb;omega
 ·cases hb:S.s.dN S.s.next with
  |none=>rfl
  |some b=>have:=h.mlt hb;omega
theorem SR.P6 {base:a3}{S:St}(h:SR base S){r:a3}{es:a4 (af×af)}(hr:S.s.dN r=some es):S.e.mp r<S.w.heap.size:=by
 obtain⟨_,fP,sf,h1,_⟩:=h.map r es hr
 exact eG h1
structure lj (w w' :bo) (o:Obj):Prop where
 heap:w'.heap=w.heap.push o
 os:w'.os=w.os
 tape:w'.tape=w.tape
 output:w'.output=w.output
theorem lj.old {w w' :bo}{o:Obj}(h:lj w w' o)(k:a3)(hk:k<w.heap.size):w'.heap[k]?=w.heap[k]?:=by
 rw[h.heap,e7,bn (by omega)]
theorem lj.new {w w' :bo}{o:Obj}(h:lj w w' o):w'.heap[w.heap.size]?=some o:=by
 rw[h.heap,e7,cg rfl]
theorem lj.size {w w' :bo}{o:Obj}(h:lj w w' o):w'.heap.size=w.heap.size+1:=by rw[h.heap];simp
theorem lj.below {w w' :bo}{o:Obj}{B:a3}(h:lj w w' o)(hB:B<=w.heap.size):Below B w w' :=
 ⟨h.os,h.tape,h.output,by rw[h.size];omega,fun k hk=>h.old k (by omega)⟩
structure mV (S:St) (id next:a3):Prop where
 free:S.s.heap.get id=none
 lt:id<next
 le:S.s.next<=next
 room:0<=16000000
 known:id<S.s.next\/id+1=next
theorem mV.dZ {S:St}{id next:a3}(h:mV S id next):S.s.bR id=none:=by simp only[aq.bR,h.free]
theorem mV.map {S:St}{id next:a3}(h:mV S id next):S.s.dN id=none:=by simp only[aq.dN,h.free]
theorem mV.self {base:a3}{S:St}(h:SR base S)(hr:S.s.room=true):mV S S.s.next (S.s.next+1):=by
 have bd:=wK hr
 refine⟨?_,by omega,by omega,by omega,.inr rfl⟩
 cases hg:S.s.heap.get S.s.next with
 |none=>rfl
 |some o=>have:=h.bound _ _ hg;omega
def St.sF (S:St)(id next:a3)(b:jZ)(W:bo):St:=⟨⟨Tr.set (depth id) S.s.heap id (.dZ b),next⟩,⟨fun j c=>if j=id then(S.w.heap.size,0) else S.e.loc j c,S.e.mp⟩,W⟩
theorem Good.UM {base:a3}{S:St}(h:SR base S){id next:a3}(dC:mV S id next)(cs:a4 af)(mM:a3)(arr:bg af)(E:ao)(fr:a3×a3)(W:bo)
  (hW:lj S.w W (.cells arr E fr)) (pg:fr.1=fr.2\/arr.size<=fr.1) (hle:cs.length<=arr.size) (hv:∀p,p<cs.length->VR S (cs.getD p undef) (arr.toList.getD p undef)):
  Good base S (S.sF id next ⟨cs,1,true,mM⟩ W):=by
 refine SR.change h id S.w.heap.size next ⟨cs,1,true,mM⟩ _ W dC.lt dC.le dC.room dC.known (fun es he=>by rw[dC.map] at he;cases he) (a6 _)
  (fun b hb=>by rw[dC.dZ] at hb;cases hb) (fun j hj=>by funext c;rw[bn hj]) (fun k _ hk=>hW.old k hk)
  (fun j bj c _ hj hc=>cB (h.Ip j bj hj c hc)) (fun r es he=>cB (h.P6 he)) (fun c _=>by simp only[dX];rw[hW.size];omega) ?_ ?_ ?_ ?_
  (hW.below h.size) (by rw[hW.size];omega)
 ·intro c hc p hp
  simp only[dX,ew]
  have ph:p<cs.length:=by have:=hc.2;simp only at this;omega
  have UN:p<arr.size:=by omega
  refine⟨arr.toList.getD p undef,?_,hv p ph⟩
  rw[b9 W _ _ arr E fr hW.new]
  simp[a7,UN]
 ·intro _ c _
  simp only[dX]
  exact⟨h.size,⟨arr,E,fr,hW.new,pg⟩,fun j bj _ hj c' gZ=>cB (h.Ip j bj hj c' gZ),by intros;first|rfl|trivial⟩
 ·intro j bj _ hj _ c' gZ c _
  simp only[dX]
  exact fun e=>c6 (h.Ip j bj hj c' gZ) (by omega)
 ·intro arr E fr hk
  exact c6 (eG hk) (by omega)
theorem St.BT {S:St}{id next:a3}(dC:mV S id next)(b:jZ)(W:bo):(S.sF id next b W).s.bR id=some b:=by
 simp only[St.sF,aq.bR,Tr.bD _ _ _ _ (deep (show 0<16000001 by have:=dC.lt;have:=dC.room;omega))]
theorem St.BU {S:St}{id next:a3}(dC:mV S id next)(b:jZ)(W:bo)(off c:a3)(hc:c<=b.cells.length+1):uH (S.sF id next b W) id off c ⟨S.w.heap.size,off,none⟩:=
 ⟨b,St.BT dC b W,hc,fun _=>by simp[St.sF]⟩
theorem St.NF {S:St}{id next:a3}(dC:mV S id next)(b:jZ)(W:bo)(o c cap:a3)(arr:bg af)(E:ao)(fr:a3×a3)(hW:lj S.w W (.cells arr E fr))(pR:o+cap*b.mM<=arr.size):
  Kh (S.sF id next b W) id c ⟨S.w.heap.size,o,none⟩ cap:=by
 intro b' pL _
 rw[St.BT dC b W] at pL
 obtain rfl:=ab pL
 exact⟨arr,E,fr,hW.new,pR⟩
theorem Good.store {base:a3}{S:St}(h:SR base S){i off c:a3}{b:jZ}(hb:S.s.bR i=some b)(ho:b.own=true)(hc:Live b c)(Fb:c=b.cells.length+1){vs P7 l:a4 af}
  (hl:setAt b.cells off vs=some l) (hv:eR S vs P7) (cH:vs≠[]):
  Good base S ⟨S.s.put i (.dZ {b with cells:=l,low:=c}),S.e,setCells S.w (S.e.loc i c).1 ((S.e.loc i c).2+off) P7⟩/\
  ∃(arr:bg af) (E:ao) (fr:a3×a3),S.w.heap[(S.e.loc i c).1]?=some (.cells arr E fr)/\(fr.1=fr.2\/arr.size<=fr.1)/\(S.e.loc i c).2+off+P7.length<=arr.size:=by
 obtain⟨wJ,Kl,ky⟩:=vu _ _ _ _ hl
 have aqZ:off+vs.length<=b.cells.length:=Kl.resolve_left cH
 have Gg:P7.length=vs.length:=hv.1.symm
 obtain⟨ux,⟨arr,E,fr,fN,ou⟩,wz,_⟩:=h.own i b hb ho c hc
 have BV:0<vs.length:=List.length_pos_iff.2 cH
 have ln:(S.e.loc i c).2+off+P7.length<=arr.size:=by
  obtain⟨v,h1,_⟩:=h.cell i b hb c hc (off+vs.length-1) (by omega)
  rw[b9 _ _ _ _ _ _ fN] at h1
  have:=(ey.1 h1).1
  omega
 obtain⟨kn,P8,Zf,ha3⟩:=iw P7 S.w _ _ arr E fr fN ln
 refine⟨?_,arr,E,fr,fN,ou,ln⟩
 have BW:∀c',Live {b with cells:=l,low:=c} c' ->c' =c:=fun c' gZ=>by
  have h1:=gZ.1;have h2:=gZ.2;simp only[wJ] at h1 h2;omega
 refine SR.change h i (S.e.loc i c).1 S.s.next {b with cells:=l,low:=c} S.e.loc _ (h.lt hb) (a6 _) h.room (.inl (h.lt hb)) (fun es he=>j5 hb he) (by show 1<=c;omega) ?_ (fun _ _=>rfl)
  (fun k hk _=>j6 _ _ _ _ _ hk) (fun j bj c' hj si gZ e=>hj (wz j bj si c' gZ e)) ?_ ?_ ?_ ?_ ?_ ?_ (kz _ _ _ _ _ ux) (by rw[fQ];exact a6 _)
 ·intro b0 sG
  rw[hb] at sG;obtain rfl:=ab sG
  exact⟨by simp[wJ],hc.1,rfl,fun _ _ _=>rfl⟩
 ·intro r es he e
  obtain⟨_,fP,sf,h2,_⟩:=h.map r es he
  rw[e,fN] at h2;cases h2
 ·intro c' gZ;rw[BW c' gZ,fQ];exact h.Ip i b hb c hc
 ·intro c' gZ p hp
  obtain rfl:=BW c' gZ
  simp only
  rw[b9 _ _ _ _ _ _ P8,ha3,ky p]
  by_cases qJ:off<=p/\p<off+vs.length
  ·rw[cg qJ,cg (by omega),show(S.e.loc i c').2+p-((S.e.loc i c').2+off)=p-off by omega]
   exact⟨_,rfl,hv.2 (p-off) (by omega)⟩
  ·rw[bn qJ,bn (by omega),<-b9 _ _ _ _ _ _ fN]
   exact h.cell i b hb c' hc p hp
 ·intro _ c' gZ
  obtain rfl:=BW c' gZ
  exact⟨ux,⟨kn,E,fr,P8,by rw[Zf];exact ou⟩,fun j bj hj si c1 iK e=>hj (wz j bj si c1 iK e),fun c1 iK _=>by rw[BW c1 iK]⟩
 ·intro j bj hj si Nh c1 iK c' gZ e
  obtain rfl:=BW c' gZ
  exact hj (wz j bj si c1 iK e.symm)
 ·intro RS E0 fr0 hk
  rw[fN] at hk
  injection hk with hk;injection hk with e1 e2 e3
  subst e1;subst e2
  exact⟨kn,fr,P8,Zf⟩
theorem eH (l m:a4 af)(p:a3)(h:p<l.length):(l++m).getD p undef=l.getD p undef:=by
 simp[a7,eS,h]
theorem kB (l m:a4 af)(p:a3)(h:l.length<=p):(l++m).getD p undef=m.getD (p-l.length) undef:=by
 simp[a7,eS,Nat.not_lt.2 h]
theorem Good.UP {base:a3}{S:St}(h:SR base S){i c:a3}{b:jZ}(hb:S.s.bR i=some b)(ho:b.own=true)(hc:Live b c)(Fb:c=b.cells.length+1){new new' :a4 af}
  (hv:eR S new new') {arr:bg af} {E:ao} {fr:a3×a3} (ha:S.w.heap[(S.e.loc i c).1]?=some (.cells arr E fr)) (ln:(S.e.loc i c).2+b.cells.length+new'.length<=arr.size):
  Good base S ⟨S.s.put i (.dZ {b with cells:=b.cells++new}),⟨fun j c' =>if j=i/\c<c' then S.e.loc i c else S.e.loc j c',S.e.mp⟩,setCells S.w (S.e.loc i c).1 ((S.e.loc i c).2+b.cells.length) new'⟩:=by
 obtain⟨ux,⟨RS,E0,fr0,fN,ou⟩,wz,ho5⟩:=h.own i b hb ho c hc
 rw[ha] at fN
 injection fN with fN;injection fN with e1 e2 e3
 subst e1;subst e2;subst e3
 have Gg:new'.length=new.length:=hv.1.symm
 obtain⟨kn,P8,Zf,ha3⟩:=iw new' S.w _ _ arr E fr ha ln
 have pf:∀c',(if i=i/\c<c' then S.e.loc i c else S.e.loc i c')=if c<c' then S.e.loc i c else S.e.loc i c' :=fun c' =>by simp
 have lh:∀c',Live {b with cells:=b.cells++new} c' ->¬c<c' ->Live b c' :=fun c' gZ bd=>⟨gZ.1,by omega⟩
 refine SR.change h i (S.e.loc i c).1 S.s.next {b with cells:=b.cells++new} _ _ (h.lt hb) (a6 _) h.room (.inl (h.lt hb)) (fun es he=>j5 hb he) (h.low i b hb) ?_
  (fun j hj=>by funext c';rw[bn (by simp[hj])]) (fun k hk _=>j6 _ _ _ _ _ hk) (fun j bj c' hj si gZ e=>hj (wz j bj si c' gZ e)) ?_ ?_ ?_ ?_ ?_ ?_ (kz _ _ _ _ _ ux)
  (by rw[fQ];exact a6 _)
 ·intro b0 sG
  rw[hb] at sG;obtain rfl:=ab sG
  exact⟨by simp,a6 _,rfl,fun c' gZ _=>by rw[bn (by omega)]⟩
 ·intro r es he e
  obtain⟨_,fP,sf,h2,_⟩:=h.map r es he
  rw[e,ha] at h2;cases h2
 ·intro c' gZ
  rw[pf,fQ]
  by_cases bd:c<c'
  ·rw[cg bd];exact h.Ip i b hb c hc
  ·rw[bn bd];exact h.Ip i b hb c' (lh c' gZ bd)
 ·intro c' gZ p hp
  have ph:p<b.cells.length+new.length:=by have:=gZ.2;simp only[b7] at this;omega
  simp only[fo]
  by_cases bd:c<c'
  ·rw[cg bd,b9 _ _ _ _ _ _ P8,ha3]
   by_cases qJ:p<b.cells.length
   ·rw[bn (by omega),eH _ _ _ qJ,<-b9 _ _ _ _ _ _ ha]
    exact h.cell i b hb c hc p (by omega)
   ·rw[cg (by omega),kB _ _ _ (by omega),show(S.e.loc i c).2+p-((S.e.loc i c).2+b.cells.length)=p-b.cells.length by omega]
    exact⟨_,rfl,hv.2 (p-b.cells.length) (by omega)⟩
  ·rw[bn bd]
   have J0:=lh c' gZ bd
   have qJ:p<b.cells.length:=by omega
   obtain⟨v,h1,h2⟩:=h.cell i b hb c' J0 p hp
   rw[eH _ _ _ qJ]
   refine⟨v,?_,h2⟩
   by_cases hcc:c' =c
   ·subst hcc
    rw[b9 _ _ _ _ _ _ P8,ha3,bn (by omega),<-b9 _ _ _ _ _ _ ha];exact h1
   ·by_cases ot:(S.e.loc i c').1=(S.e.loc i c).1
    ·have wL:=ho5 c' J0 ot
     rw[wL] at h1|-
     rw[b9 _ _ _ _ _ _ P8,ha3,bn (by omega),<-b9 _ _ _ _ _ _ ha];exact h1
    ·rw[<-h1];exact c8 (j6 _ _ _ _ _ ot)
 ·intro _ c' gZ
  rw[pf]
  by_cases bd:c<c'
  ·rw[cg bd]
   refine⟨ux,⟨kn,E,fr,P8,by rw[Zf];exact ou⟩,fun j bj hj si c1 iK e=>hj (wz j bj si c1 iK e),fun c1 iK=> ?_⟩
   rw[pf]
   by_cases vv:c<c1
   ·rw[cg vv];exact fun _=>rfl
   ·rw[bn vv];exact ho5 c1 (lh c1 iK vv)
  ·rw[bn bd]
   obtain⟨h1,⟨NG,E1,fr1,h2,h3⟩,h4,h5⟩:=h.own i b hb ho c' (lh c' gZ bd)
   refine⟨h1,?_,fun j bj hj si c1 iK e=>hj (h4 j bj si c1 iK e),fun c1 iK=> ?_⟩
   case refine_2=>
    rw[pf]
    by_cases vv:c<c1
    ·rw[cg vv];exact h5 c hc
    ·rw[bn vv];exact h5 c1 (lh c1 iK vv)
   by_cases ot:(S.e.loc i c').1=(S.e.loc i c).1
   ·rw[ot,ha] at h2
    injection h2 with h2;injection h2 with e1 e2 e3
    subst e1;subst e2;subst e3
    exact⟨kn,E,fr,by rw[ot];exact P8,by rw[Zf];exact h3⟩
   ·exact⟨NG,E1,fr1,by rw[j6 _ _ _ _ _ ot];exact h2,h3⟩
 ·intro j bj hj si Nh c1 iK c' gZ e
  rw[pf] at e
  by_cases bd:c<c'
  ·rw[cg bd] at e;exact hj (wz j bj si c1 iK e.symm)
  ·rw[bn bd] at e
   exact hj ((h.own i b hb ho c' (lh c' gZ bd)).2.2.1 j bj si c1 iK e.symm)
 ·intro RS E0 fr0 hk
  rw[ha] at hk
  injection hk with hk;injection hk with e1 e2 e3
  subst e1;subst e2
  exact⟨kn,fr,P8,Zf⟩
theorem Good.Zg {base:a3}{S:St}(h:SR base S){i c:a3}{b:jZ}(hb:S.s.bR i=some b)(ho:b.own=true)(Fb:c=b.cells.length+1){new:a4 af}
  {arr:bg af} {E:ao} {fr:a3×a3} {W:bo} (hW:lj S.w W (.cells arr E fr)) (pg:fr.1=fr.2\/arr.size<=fr.1) (hle:b.cells.length+new.length<=arr.size)
  (hv:∀p,p<b.cells.length+new.length->VR S ((b.cells++new).getD p undef) (arr.toList.getD p undef)):
  Good base S ⟨S.s.put i (.dZ {b with cells:=b.cells++new}),⟨fun j c' =>if j=i/\c<c' then(S.w.heap.size,0) else S.e.loc j c',S.e.mp⟩,W⟩:=by
 have pf:∀c',(if i=i/\c<c' then(S.w.heap.size,0) else S.e.loc i c')=if c<c' then(S.w.heap.size,0) else S.e.loc i c' :=fun c' =>by simp
 have lh:∀c',Live {b with cells:=b.cells++new} c' ->¬c<c' ->Live b c' :=fun c' gZ bd=>⟨gZ.1,by omega⟩
 refine SR.change h i S.w.heap.size S.s.next {b with cells:=b.cells++new} _ _ (h.lt hb) (a6 _) h.room (.inl (h.lt hb)) (fun es he=>j5 hb he) (h.low i b hb) ?_
  (fun j hj=>by funext c';rw[bn (by simp[hj])]) (fun k _ hk=>hW.old k hk) (fun j bj c' _ si gZ=>cB (h.Ip j bj si c' gZ)) (fun r es he=>cB (h.P6 he)) ?_ ?_ ?_ ?_ ?_
  (hW.below h.size) (by rw[hW.size];omega)
 ·intro b0 sG
  rw[hb] at sG;obtain rfl:=ab sG
  exact⟨by simp,a6 _,rfl,fun c' gZ _=>by rw[bn (by omega)]⟩
 ·intro c' gZ
  rw[pf,hW.size]
  by_cases bd:c<c'
  ·rw[cg bd];exact Nat.lt_succ_self _
  ·rw[bn bd];exact Nat.lt_succ_of_lt (h.Ip i b hb c' (lh c' gZ bd))
 ·intro c' gZ p hp
  have ph:p<b.cells.length+new.length:=by have:=gZ.2;simp only[b7] at this;omega
  simp only[fo]
  by_cases bd:c<c'
  ·rw[cg bd]
   refine⟨arr.toList.getD p undef,?_,hv p ph⟩
   have UN:p<arr.size:=by omega
   rw[b9 W _ _ arr E fr hW.new]
   simp[a7,UN]
  ·rw[bn bd]
   have J0:=lh c' gZ bd
   obtain⟨v,h1,h2⟩:=h.cell i b hb c' J0 p hp
   rw[eH _ _ _ (by omega)]
   exact⟨v,by rw[<-h1];exact c8 (hW.old _ (h.Ip i b hb c' J0)),h2⟩
 ·intro _ c' gZ
  rw[pf]
  by_cases bd:c<c'
  ·rw[cg bd]
   refine⟨h.size,⟨arr,E,fr,hW.new,pg⟩,fun j bj _ si c1 iK=>cB (h.Ip j bj si c1 iK),fun c1 iK=> ?_⟩
   rw[pf]
   by_cases vv:c<c1
   ·rw[cg vv];exact fun _=>rfl
   ·rw[bn vv];exact fun e=>c6 e (cB (h.Ip i b hb c1 (lh c1 iK vv)))
  ·rw[bn bd]
   obtain⟨h1,⟨NG,E1,fr1,h2,h3⟩,h4,h5⟩:=h.own i b hb ho c' (lh c' gZ bd)
   refine⟨h1,⟨NG,E1,fr1,by rw[hW.old _ (eG h2)];exact h2,h3⟩,fun j bj hj si c1 iK e=>hj (h4 j bj si c1 iK e),fun c1 iK=> ?_⟩
   rw[pf]
   by_cases vv:c<c1
   ·rw[cg vv];exact fun e=>c6 e (Ne.symm (cB (eG h2)))
   ·rw[bn vv];exact h5 c1 (lh c1 iK vv)
 ·intro j bj hj si Nh c1 iK c' gZ e
  rw[pf] at e
  by_cases bd:c<c'
  ·rw[cg bd] at e;exact c6 e.symm (cB (h.Ip j bj si c1 iK))
  ·rw[bn bd] at e
   exact hj ((h.own i b hb ho c' (lh c' gZ bd)).2.2.1 j bj si c1 iK e.symm)
 ·intro RS E0 fr0 hk
  exact c6 (eG hk) (by omega)
theorem Good.kill {base:a3}{S:St}(h:SR base S){i:a3}{b:jZ}(hb:S.s.bR i=some b):Good base S ⟨S.s.put i (.dZ (Cl.kill b)),S.e,S.w⟩:=by
 have P9:∀c,¬Live (Cl.kill b) c:=fun c hc=>by have h1:=hc.1;have h2:=hc.2;simp only[Cl.kill] at h1 h2;omega
 refine SR.change h i S.w.heap.size S.s.next (Cl.kill b) S.e.loc S.w (h.lt hb) (a6 _) h.room (.inl (h.lt hb)) (fun es he=>j5 hb he) (by simp[Cl.kill]) ?_ (fun _ _=>rfl) (fun _ _ _=>rfl)
  (fun j bj c' _ si gZ=>cB (h.Ip j bj si c' gZ)) (fun r es he=>cB (h.P6 he)) (fun c hc=>c6 hc (P9 c)) (fun c hc=>c6 hc (P9 c)) (fun _ c hc=>c6 hc (P9 c))
  (fun _ _ _ _ _ _ _ c hc=>c6 hc (P9 c)) (fun arr E fr hk=>c6 (eG hk) (by omega)) (Below.refl _ _) (a6 _)
 intro b0 sG
 rw[hb] at sG;obtain rfl:=ab sG
 exact⟨a6 _,by simp only[Cl.kill];omega,rfl,fun _ _ _=>rfl⟩
theorem Good.reuse {base:a3}{S:St}(h:SR base S)(dd:S.s.room=true){k o:a3}{arr:bg af}{E:ao}{fr:a3×a3}(hk:S.w.heap[k]?=some (.cells arr E fr))(pg:fr.1=fr.2\/arr.size<=fr.1)
  (hb:base<=k) (hex:∀j bj c',S.s.bR j=some bj->Live bj c' ->(S.e.loc j c').1≠k) (mM:a3) {old new new' :a4 af} (hold:∀p,p<old.length->∃v,S.w.cell? ⟨k,o+p,none⟩=some v/\VR S (old.getD p undef) v)
  (hv:eR S new new') (ln:o+old.length+new'.length<=arr.size):
  Good base S ⟨S.s.new (.dZ ⟨old++new,1,true,mM⟩),⟨fun j c=>if j=S.s.next then(k,o) else S.e.loc j c,S.e.mp⟩,setCells S.w k (o+old.length) new'⟩:=by
 have bd:=wK dd
 obtain⟨BX,Ir⟩:=h.fresh
 have Gg:new'.length=new.length:=hv.1.symm
 obtain⟨kn,P8,Zf,ha3⟩:=iw new' S.w k (o+old.length) arr E fr hk ln
 refine SR.change h S.s.next k (S.s.next+1) ⟨old++new,1,true,mM⟩ _ _ (by omega) (by omega) (by omega) (.inr rfl) (fun es he=>by rw[Ir] at he;cases he) (a6 _)
  (fun b hb=>by rw[BX] at hb;cases hb) (fun j hj=>by funext c;rw[bn hj]) (fun j hj _=>j6 _ _ _ _ _ hj) (fun j bj c _ hj hc=>hex j bj c hj hc) ?_
  (fun c _=>by simp only[dX];rw[fQ];exact eG hk) ?_ ?_ ?_ ?_ (kz _ _ _ _ _ hb) (by rw[fQ];exact a6 _)
 ·intro r es he e
  obtain⟨_,fP,sf,h2,_⟩:=h.map r es he
  rw[e,hk] at h2;cases h2
 ·intro c hc p hp
  have ph:p<old.length+new.length:=by have:=hc.2;simp only[b7] at this;omega
  simp only[dX]
  rw[b9 _ _ _ _ _ _ P8,ha3]
  by_cases qJ:p<old.length
  ·rw[bn (by omega),eH _ _ _ qJ,<-b9 _ _ _ _ _ _ hk]
   exact hold p qJ
  ·rw[cg (by omega),kB _ _ _ (by omega),show o+p-(o+old.length)=p-old.length by omega]
   exact⟨_,rfl,hv.2 (p-old.length) (by omega)⟩
 ·intro _ c _
  simp only[dX]
  exact⟨hb,⟨kn,E,fr,P8,by rw[Zf];exact pg⟩,fun j bj _ hj c' gZ=>hex j bj c' hj gZ,by intros;first|rfl|trivial⟩
 ·intro j bj _ hj _ c' gZ c _ e
  simp only[dX] at e
  exact hex j bj c' hj gZ e.symm
 ·intro RS E0 fr0 RT
  rw[hk] at RT
  injection RT with RT;injection RT with e1 e2 e3
  subst e1;subst e2
  exact⟨kn,fr,P8,Zf⟩
theorem SR.Gh {base:a3}{S:St}(h:SR base S)(i next:a3)(es2:a4 (af×af))(RU:a3->a3)(w' :bo)
  (hi:i<next) (hn:S.s.next<=next) (hr:0<=16000000) (Ki:i<S.s.next\/i+1=next) (ot:S.s.bR i=none)
  (hold:∀es,S.s.dN i=some es->RU i=S.e.mp i) (Ut:∀r,r≠i->RU r=S.e.mp r)
  (hw:∀k,k≠RU i->k<S.w.heap.size->w'.heap[k]?=S.w.heap[k]?) (hM:∀(arr:bg af) (E:ao) (fr:a3×a3),S.w.heap[RU i]?≠some (.cells arr E fr)) (hb:base<=RU i)
  (agv:∃(fP:bg MapEntry) (sf:a3),w'.heap[RU i]?=some (.map fP sf)/\ER S es2 fP.toList)
  (ac5:∀r es,r≠i->S.s.dN r=some es->S.e.mp r≠RU i) (nJ:Below base S.w w'):
  Good base S ⟨⟨Tr.set (depth i) S.s.heap i (.map es2),next⟩,⟨S.e.loc,RU⟩,w'⟩:=by
 have ky:∀j,j≠i->(Tr.set (depth i) S.s.heap i (.map es2)).get j=S.s.heap.get j:=fun j hj=>Tr.ch _ _ _ _ _ (Ne.symm hj)
 have Kj:(Tr.set (depth i) S.s.heap i (.map es2)).get i=some (.map es2):=Tr.bD _ _ _ _ (deep (by omega))
 have gY:(⟨Tr.set (depth i) S.s.heap i (.map es2),next⟩:aq).dN i=some es2:=by simp only[aq.dN,Kj]
 have oH:∀j,(⟨Tr.set (depth i) S.s.heap i (.map es2),next⟩:aq).bR j=S.s.bR j:=fun j=>by
  by_cases hj:j=i
  ·subst hj;rw[ot];simp only[aq.bR,Kj]
  ·simp only[aq.bR,ky j hj]
 have hmm:∀j,j≠i->(⟨Tr.set (depth i) S.s.heap i (.map es2),next⟩:aq).dN j=S.s.dN j:=fun j hj=>by simp only[aq.dN,ky j hj]
 have UQ:∀(k:a3) (arr:bg af) (E:ao) (fr:a3×a3),S.w.heap[k]?=some (.cells arr E fr)->w'.heap[k]?=some (.cells arr E fr):=fun k arr E fr hk=>by
  rw[hw k (fun e=>hM arr E fr (e▸hk)) (eG hk)];exact hk
 have mz:Ext S ⟨⟨Tr.set (depth i) S.s.heap i (.map es2),next⟩,⟨S.e.loc,RU⟩,w'⟩:=by
  refine⟨fun j b hb=>⟨b,by rw[<-hb];exact oH j,a6 _,a6 _,rfl,fun _ _ _=>rfl⟩,fun r es he=> ?_,fun k arr E fr hk=>⟨arr,fr,UQ k arr E fr hk,rfl⟩⟩
  by_cases Fa:r=i
  ·subst Fa;exact⟨⟨es2,gY⟩,hold es he⟩
  ·exact⟨⟨es,by rw[<-he];exact hmm r Fa⟩,Ut r Fa⟩
 refine⟨⟨hr,?_,?_,?_,?_,?_,?_,fl h.size nJ.size,?_⟩,mz,nJ⟩
 ·intro j o hj
  by_cases gR:j=i
  ·show j<next;omega
  ·have YK:(Tr.set (depth i) S.s.heap i (.map es2)).get j=some o:=hj
   rw[ky j gR] at YK
   have:=h.bound j o YK
   show j<next
   omega
 ·intro j b hb;rw[oH] at hb;exact h.low j b hb
 ·intro j b hb c hc p hp
  rw[oH] at hb
  obtain⟨v,h1,h2⟩:=h.cell j b hb c hc p hp
  obtain⟨arr,E,fr,h3,h4⟩:=uJ h1
  exact⟨v,by rw[b9 _ _ _ _ _ _ (UQ _ _ _ _ h3)];exact h4,h2.mono mz⟩
 ·intro j b hb Nh c hc
  rw[oH] at hb
  obtain⟨h1,⟨arr,E,fr,h2,h3⟩,h4,h5⟩:=h.own j b hb Nh c hc
  exact⟨h1,⟨arr,E,fr,UQ _ _ _ _ h2,h3⟩,fun k bk hk c' gZ e=>by rw[oH] at hk;exact h4 k bk hk c' gZ e,h5⟩
 ·intro r es he
  by_cases Fa:r=i
  ·subst Fa
   rw[gY] at he;obtain rfl:=ab he
   obtain⟨fP,sf,h1,h2⟩:=agv
   exact⟨hb,fP,sf,h1,h2.mono mz⟩
  ·rw[hmm r Fa] at he
   obtain⟨h1,fP,sf,h2,h3⟩:=h.map r es he
   refine⟨by show base<=RU r;rw[Ut r Fa];exact h1,fP,sf,?_,h3.mono mz⟩
   show w'.heap[RU r]?=_
   rw[Ut r Fa,hw _ (ac5 r es Fa he) (eG h2)];exact h2
 ·intro r r' es fP he A6 hEq
  have BQ:RU r=RU r' :=hEq
  by_cases Fa:r=i
  ·by_cases Iq:r' =i
   ·omega
   ·rw[hmm r' Iq] at A6
    subst Fa
    rw[Ut r' Iq] at BQ
    exact c6 BQ.symm (ac5 r' fP Iq A6)
  ·rw[hmm r Fa] at he
   by_cases Iq:r' =i
   ·subst Iq
    rw[Ut r Fa] at BQ
    exact c6 BQ (ac5 r es Fa he)
   ·rw[hmm r' Iq] at A6
    rw[Ut r Fa,Ut r' Iq] at BQ
    exact h.Io r r' es fP he A6 BQ
 ·intro j b hb c hc
  rw[oH] at hb
  exact e9 (h.Ip j b hb c hc) nJ.size
theorem Good.ac6 {base:a3}{S:St}(h:SR base S)(dd:S.s.room=true):
  Good base S ⟨S.s.new (.map []),⟨S.e.loc,fun r=>if r=S.s.next then S.w.heap.size else S.e.mp r⟩,S.w.alloc (.map #[] 0)⟩:=by
 have bd:=wK dd
 obtain⟨BX,Ir⟩:=h.fresh
 refine SR.Gh h S.s.next (S.s.next+1) [] _ _ (by omega) (by omega) (by omega) (.inr rfl) BX (fun es he=>by rw[Ir] at he;cases he) (fun r hr=>by rw[bn hr]) (fun k _ hk=>Below.heap_alloc _ _ _ hk) ?_
  (by simp only[dX];exact h.size) ?_ ?_ ((Below.refl _ _).alloc h.size _)
 ·intro arr E fr hk
  simp only[dX] at hk
  exact c6 (eG hk) (by omega)
 ·simp only[dX]
  exact⟨#[],0,heap_alloc_new S.w _,trivial⟩
 ·intro r es _ he
  simp only[dX]
  exact cB (h.P6 he)
theorem Gi {S:St}{v:af}(h:gQ v=true):VR S v v:=by
 unfold gQ at h
 split at h
 ·exact .bool _
 ·exact .int _ _
 ·exact .string _
 ·exact .NA
 ·exact .gK
 ·exact .NB
 ·exact .nilFunc
 ·exact .nilIface
 ·cases h
theorem Gj {S:St}{l:a4 af}(h:l.all gQ=true):eR S l l:=by
 induction l with
 |nil=>exact eR.nil
 |cons v l ih=>
  simp only[gB,a5] at h
  exact eR.cons (Gi h.1) (ih h.2)
theorem lq {S:St}{v:af}(h:bN v=true):VR S v v:=by
 unfold bN at h
 split at h
 ·exact eR.toList (Gj h)
 ·have:=Gj (S:=S) h;exact .tuple _ _ this.1 this.2
 ·exact Gi h
structure FR (S:St) (f:aW) (a:Act):Prop where
 n:f.n=a.tmps.size
 small:f.n<=16000000
 get:∀t,t<f.n->VR S (f.get t) (a.tmps.getD t undef)
theorem FR.mono {S T:St}(h:Ext S T){f:aW}{a:Act}(hf:FR S f a):FR T f a:=⟨hf.n,hf.small,fun t ht=>(hf.get t ht).mono h⟩
theorem bJ {S:St}{f:aW}{a:Act}(hf:FR S f a){x:dc}{v:af}(h:aS f x=some v):VR S v (a.eval x):=by
 cases x with
 |tmp t=>
  simp only[aS] at h
  split at h
  ·rename_i ht;obtain rfl:=ab h;exact hf.get t (by simpa [dU] using ht)
  ·cases h
 |const c=>
  simp only[aS] at h
  split at h
  ·rename_i ht;obtain rfl:=ab h;exact lq ht
  ·cases h
 |global g=>simp[aS] at h
 |func g=>
  simp only[aS] at h
  obtain rfl:=ab h
  exact .func g #[] #[] #[] #[] rfl rfl (fun i hi=>by simp at hi) (fun i hi=>by simp at hi)
theorem qK {S:St}{f:aW}{a:Act}(hf:FR S f a):∀{xs:a4 dc} {l:a4 af},aa f xs=some l->eR S l (xs.map a.eval):=by
 intro xs
 induction xs with
 |nil=>intro l h;simp only[aa] at h;obtain rfl:=ab h;exact eR.nil
 |cons x xs ih=>
  intro l h
  simp only[aa] at h
  split at h
  ·rename_i v hv
   split at h
   ·rename_i vs hvs;obtain rfl:=ab h;exact eR.cons (bJ hf hv) (ih hvs)
   ·cases h
  ·cases h
theorem Is {S:St}{f:aW}{a:Act}(hf:FR S f a){x:av dc}{o:av af}(h:ai f x=some o):
  (o=none/\x.map a.eval=none)\/∃v v',o=some v/\x.map a.eval=some v' /\VR S v v' :=by
 cases x with
 |none=>simp only[ai] at h;obtain rfl:=ab h;exact .inl ⟨rfl,rfl⟩
 |some x=>
  simp only[ai] at h
  split at h
  ·rename_i v hv;obtain rfl:=ab h;exact .inr ⟨v,_,rfl,rfl,bJ hf hv⟩
  ·cases h
theorem gP {P:an}{t:ao}{b:cx}(h:bX P t=some b)(w:bo):(isAgg t).run P w= .ok b w:=by
 unfold bX at h
 split at h
 ·rename_i fs hu;obtain rfl:=ab h;simp[isAgg,run_underlying hu]
 ·rename_i n e hu;obtain rfl:=ab h;simp[isAgg,run_underlying hu]
 ·rename_i d h1 h2 hu
  obtain rfl:=ab h
  simp only[isAgg,Sem.run_bind,run_underlying hu,aR]
  cases d<;>first|rfl|(exact c6 hu (h1 _))|(exact c6 hu (h2 _ _))
 ·cases h
theorem wM {P:an}{t:ao}{n:a3}(h:aX P t=some n):∃i,P.info? t=some i/\i.size=n:=by
 unfold aX at h
 split at h
 ·rename_i i hi;exact⟨i,hi,ab h⟩
 ·cases h
theorem run_sizeOf {P:an}{t:ao}{n:a3}(h:aX P t=some n)(w:bo):(sizeOf t).run P w= .ok n w:=by
 obtain⟨i,hi,rfl⟩:=wM h
 simp[sizeOf,typeInfo,hi]
theorem wN {P:an}{t:ao}{z:af}(h:bV P t=some z):∃i,P.info? t=some i/\i.zero=some z:=by
 unfold bV at h
 split at h
 ·rename_i i hi;exact⟨i,hi,h⟩
 ·cases h
theorem dK {P:an}{t:ao}{z:af}(h:bV P t=some z)(w:bo):(zeroValue t).run P w= .ok z w:=by
 obtain⟨i,hi,hz⟩:=wN h
 simp[zeroValue,typeInfo,hi,hz]
theorem pj {P:an}{t:ao}{n:a3}(h:eY P t=some n):∃i,P.info? t=some i/\i.bytes=n:=by
 unfold eY at h
 split at h
 ·rename_i i hi;exact⟨i,hi,ab h⟩
 ·cases h
theorem wO {P:an}{t:ao}(h:E7 P t=true):P.underlying t=some (.int .u8):=by
 unfold E7 at h
 split at h
 ·assumption
 ·cases h
def Reads (P:an)(S:St)(m:Sem af)(v:af):Prop:=∃v',m.run P S.w= .ok v' S.w/\VR S v v'
theorem VR.qL {S:St}{i off c:a3}{v:af}(h:VR S (.pointer (some ⟨i,off,some c⟩)) v):∃a,v= .pointer (some a)/\uH S i off c a:=by
 cases h with|ptr _ _ _ a hr=>exact⟨a,rfl,hr⟩
theorem VR.Bn {S:St}{cs:bg af}{v:af}(h:VR S (.agg cs) v):∃ji,v= .agg ji/\eR S cs.toList ji.toList:=by
 cases h with|agg _ ji h1 h2=>exact⟨ji,rfl,h1,h2⟩
theorem VR.RV {S:St}{cs:bg af}{v:af}(h:VR S (.tuple cs) v):∃ji,v= .tuple ji/\eR S cs.toList ji.toList:=by
 cases h with|tuple _ ji h1 h2=>exact⟨ji,rfl,h1,h2⟩
theorem VR.US {S:St}{g:eP}{ava bs:bg af}{v:af}(h:VR S (.func (.func g) ava bs) v):∃P4 P5,v= .func (.func g) P4 P5/\eR S ava.toList P4.toList/\eR S bs.toList P5.toList:=by
 cases h with|func _ _ _ P4 P5 ha hb h1 h2=>exact⟨P4,P5,rfl,⟨ha,h1⟩,hb,h2⟩
theorem uH.addr {S:St}{i off c:a3}{a:Addr}(h:uH S i off c a){b:jZ}(hb:S.s.bR i=some b)(hc:Live b c):a=⟨(S.e.loc i c).1,(S.e.loc i c).2+off,none⟩:=by
 obtain⟨b',pL,_,hl⟩:=h
 rw[hb] at pL;obtain rfl:=ab pL
 exact hl hc.1
theorem Km {P:an}{base:a3}{S:St}(h:SR base S){t:ao}{a a' v:af}(ha:VR S a a')(hl:aJ P S.s t a=some v):Reads P S (Instr.loadAt t a') v:=by
 unfold aJ at hl
 split at hl
 ·rename_i i off c
  obtain⟨a1,rfl,hr⟩:=ha.qL
  split at hl
  ·rename_i n ow cf
   split at hl
   ·rename_i l hc
    obtain rfl:=ab hl
    obtain⟨b,hb,fq,_,_,zP,Gg,iZ⟩:=h.cells hc
    obtain rfl:=hr.addr hb fq
    refine⟨.agg (yI S.w (S.e.loc i c).1 ((S.e.loc i c).2+off) n).toArray,?_,eR.agg Gg⟩
    simp[Instr.loadAt,Instr.sureAddr,loadVar,gP ow,run_sizeOf cf,run_loadCells P S.w _ _ n iZ]
   ·cases hl
  ·rename_i ow
   split at hl
   ·rename_i v0 r0 hc
    obtain rfl:=ab hl
    obtain⟨b,hb,fq,_,_,zP,Gg,iZ⟩:=h.cells hc
    obtain rfl:=hr.addr hb fq
    obtain⟨u,hu⟩:=iZ 0 (by omega)
    have h0:=Gg.2 0 (by simp)
    rw[yJ _ _ _ _ _ (by omega),hu] at h0
    simp only[dO] at hu
    refine⟨u,?_,by simpa using h0⟩
    simp[Instr.loadAt,Instr.sureAddr,loadVar,gP ow,hu]
   ·cases hl
  ·cases hl
 ·cases hl
theorem UT {P:an}{S:St}{op:BinOp}{k:eE}{x y:fk}{v:af}{t:ao}{ox oy:dc}(h:js op k x y=some v)(hs:op≠ .shl)(BZ:op≠ .shr):
  Reads P S (do eqGuard op t ox oy (.int k x) (.int k y);binOp op t (.int k x) (.int k y)) v:=by
 cases op<;>simp only[js] at h<;>first
  |exact c6 rfl hs
  |exact c6 rfl BZ
  |(obtain rfl:=ab h;refine⟨_,?_,by first|exact .int _ _|exact .bool _⟩;simp[go_sem,g5,g9];done)
  |(split at h
    ·cases h
    ·rename_i hy;obtain rfl:=ab h;refine⟨_,?_,.int _ _⟩;simp[go_sem,Op.intDiv,hy])
theorem B0 {P:an}{S:St}{op:BinOp}{k k' :eE}{x y:fk}{v:af}{t:ao}{ox oy:dc}(h:tY op k x y=some v):
  Reads P S (do eqGuard op t ox oy (.int k x) (.int k' y);binOp op t (.int k x) (.int k' y)) v:=by
 unfold tY at h
 split at h
 ·cases h
 ·rename_i hy
  cases op<;>simp only at h<;>first
   |(cases h;done)
   |(obtain rfl:=ab h;refine⟨_,?_,.int _ _⟩;simp[eqGuard_shl,eqGuard_shr,binOp_shl,binOp_shr,Op.shift,hy])
theorem size_data (x:eg):x.size=x.data.toList.length:=by rw[dt];rfl
theorem yK {x y:eg}(h:x.data.toList=y.data.toList):x=y:=by
 cases x;cases y;simp only at h;congr 1;exact cz.1 h
theorem RW (x y:eg):x++y=⟨(x.data.toList++y.data.toList).toArray⟩:=by
 apply yK
 rw[ByteArray.data_append,dv]
theorem UU {P:an}{S:St}{op:BinOp}{x y:eg}{v:af}{t:ao}{ox oy:dc}(h:PZ op x y=some v):
  Reads P S (do eqGuard op t ox oy (.string x) (.string y);binOp op t (.string x) (.string y)) v:=by
 have hb:∀op,binOp op t (.string x) (.string y)=gg op x y:=fun op=>by cases op<;>rfl
 simp only[eqGuard_at_string,hb]
 cases op<;>simp only[PZ] at h<;>first
  |(cases h;done)
  |(split at h
    ·rename_i hle
     obtain rfl:=ab h
     refine⟨_,?_,.string _⟩
     have agx:x.size+y.size<=4294967296:=by rw[size_data,size_data];simpa [cp] using hle
     have hn:¬((9223372036854775807:fk)<(x.size:fk)+(y.size:fk)):=by omega
     simp[gg,hn,RW]
    ·cases h)
  |(obtain rfl:=ab h;refine⟨_,?_,.bool _⟩;simp[gg,ByteArray.toList_eq])
theorem RX {P:an}{S:St}{t:ao}{x y x' y' :af}{b:cx}(d:a3)(hx:VR S x x')(hy:VR S y y')(h:rM P t x y=some b):(b8 (d+1) t x' y').run P S.w= .ok b S.w:=by
 unfold rM at h
 split at h
 ·rename_i a1 a2 hu;cases hx;cases hy;obtain rfl:=ab h;simp[b8,run_underlying hu]
 ·rename_i e q hu;cases hx;obtain rfl:=ab h;cases hy<;>simp[b8,run_underlying hu]
 ·rename_i e q hu;obtain rfl:=ab h;cases hx<;>(cases hy;simp[b8,run_underlying hu])
 ·rename_i e n c q m d hu;obtain rfl:=ab h;cases hx;cases hy<;>simp[b8,run_underlying hu]
 ·rename_i e q n c m d hu;obtain rfl:=ab h;cases hx;cases hy;simp[b8,run_underlying hu]
 ·rename_i e1 e2 q hu;obtain rfl:=ab h;cases hx;cases hy<;>simp[b8,run_underlying hu]
 ·rename_i e1 e2 q hu;obtain rfl:=ab h;cases hx;cases hy;simp[b8,run_underlying hu]
 ·rename_i hu;obtain rfl:=ab h;cases hx;cases hy;simp[b8,run_underlying hu]
 ·rename_i hu;obtain rfl:=ab h;cases hx;cases hy;simp[b8,run_underlying hu]
 ·rename_i hu;obtain rfl:=ab h;cases hx;cases hy;simp[b8,run_underlying hu]
 ·cases h
theorem UW {P:an}{S:St}{t:ao}{x y x' y' :af}{b:cx}(hx:VR S x x')(hy:VR S y y')(h:rM P t x y=some b):(g6 t x' y').run P S.w= .ok b S.w:=
 RX 9999 hx hy h
def lQ:af->cx
 | .bool _| .pointer _| .slice _ _ _| .map _| .nilFunc| .func _ _ _=>true
 |_=>false
theorem NH {P:an}{t:ao}{x y:af}{b:cx}(h:rM P t x y=some b):lQ x=true:=by
 unfold rM at h
 split at h<;>first|rfl|(cases h;done)
theorem A7 (op:BinOp)(t:ao)(ox oy:dc)(x y:af)(h:lQ x=true):eqGuard op t ox oy x y=pure ():=by
 cases x<;>first|(simp[lQ] at h;done)|(cases op<;>rfl)
theorem VR.kind {S:St}{v v' :af}(h:VR S v v'):lQ v=lQ v' :=by cases h<;>rfl
theorem Fe (t:ao)(x y:af)(h:lQ x=true):binOp .eql t x y=(do pure (.bool (<-g6 t x y))):=by
 cases x<;>first|(simp[lQ] at h;done)|(cases y<;>rfl)
theorem Ff (t:ao)(x y:af)(h:lQ x=true):binOp .neq t x y=(do pure (.bool (!(<-g6 t x y)))):=by
 cases x<;>first|(simp[lQ] at h;done)|(cases y<;>rfl)
theorem Zh {P:an}{S:St}{op:BinOp}{t:ao}{x y x' y' v:af}{ox oy:dc}(hx:VR S x x')(hy:VR S y y')
  (h:(match op with
   | .eql=>match rM P t x y with|some b=>some (.bool b)|none=>none
   | .neq=>match rM P t x y with|some b=>some (.bool (!b))|none=>none
   |_=>none)=some v):Reads P S (do eqGuard op t ox oy x' y';binOp op t x' y') v:=by
 cases op<;>simp only at h<;>first
  |(cases h;done)
  |(split at h
    ·rename_i b hb
     obtain rfl:=ab h
     have hk:lQ x' =true:=by rw[<-hx.kind];exact NH hb
     refine⟨_,?_,.bool _⟩
     simp[A7 _ _ _ _ _ _ hk,Fe _ _ _ hk,Ff _ _ _ hk,UW hx hy hb]
    ·cases h)
theorem vw {S:St}:∀{xs ys Kn Ko:a4 af} {b:cx},ga xs ys=some b->eR S xs Kn->eR S ys Ko->ga Kn Ko=some b
 |[],[],Kn,Ko,b,h,hx,hy=>by rw[hx.jK,hy.jK];exact h
 |x::r,y::q,Kn,Ko,b,h,hx,hy=>by
  obtain⟨x',r',rfl,nk,ko⟩:=hx.cons_inv
  obtain⟨y',q',rfl,Qa,wQ⟩:=hy.cons_inv
  unfold ga at h
  split at h
  ·rename_i B1 RY;cases B1
  ·rename_i k a r0 k' b0 q0 B1 RY
   injection B1 with e1 e2;injection RY with e3 e4
   subst e1;subst e2;subst e3;subst e4
   cases nk;cases Qa
   split at h
   ·rename_i t hk ht
    have:=vw ht ko wQ
    unfold ga
    simp only[hk,this]
    exact h
   ·cases h
  ·cases h
 |[],y::q,_,_,b,h,_,_=>by simp[ga] at h
 |x::r,[],_,_,b,h,_,_=>by simp[ga] at h
theorem Kp {P:an}{e:ao}{k' :eE}(he:P.underlying e=some (.int k'))(ow:bX P e=some false)(w:bo)(d:a3)(xs ys:bg af):∀(len i:a3) (b:cx),ga (xs.toList.drop i) (ys.toList.drop i)=some b->xs.size=i+len->ys.size=i+len->
  (forIn (gj i len 1) ((none:av cx),()) fun i __s=>do
   let a<-part e xs (i*1)
   let c<-part e ys (i*1)
   let r<-b8 (d+1) e a c
   if(!r)=true then pure (ForInStep.done (some false,())) else pure (ForInStep.yield (none,()))).run P w= .ok (if b then none else some false,()) w:=by
 intro len
 induction len with
 |zero=>
  intro i b h hx hy
  rw[ca (by simp;omega),ca (by simp;omega)] at h
  simp only[ga] at h
  obtain rfl:=ab h
  simp
 |succ len ih=>
  intro i b h hx hy
  have Zi:i<xs.toList.length:=by simp;omega
  have It:i<ys.toList.length:=by simp;omega
  rw[b5 Zi,b5 It] at h
  unfold ga at h
  split at h
  ·rename_i B1 _;cases B1
  ·rename_i k a r0 k2 b0 q0 B1 RY
   injection B1 with e1 e2;injection RY with e3 e4
   subst e2;subst e4
   split at h
   case h_2=>cases h
   rename_i t hk ht
   have sj:k=k2:=by split at hk;assumption;cases hk
   subst sj
   obtain rfl:=ab h
   have hpx:(part e xs (i*1)).run P w= .ok (.int k a) w:=by
    have:xs[i]?=some (.int k a):=by rw[<-a8,cc Zi,e1]
    simp[part,gP ow,this]
   have hpy:(part e ys (i*1)).run P w= .ok (.int k b0) w:=by
    have:ys[i]?=some (.int k b0):=by rw[<-a8,cc It,e3]
    simp[part,gP ow,this]
   have heq:(b8 (d+1) e (.int k a) (.int k b0)).run P w= .ok (a==b0) w:=by simp[b8,run_underlying he]
   rw[List.range'_succ,List.forIn_cons]
   simp only[Sem.run_bind,hpx,hpy,heq,aR]
   cases Iu:(a==b0) with
   |false=>simp
   |true=>
    simp only[e8,ee,gv,Sem.run_pure,aR,eC]
    exact ih (i+1) t ht (by omega) (by omega)
  ·cases h
theorem yL {P:an}(w:bo)(d:a3){n:a3}{t e:ao}{k:eE}{xs ys:bg af}{b:cx}(hu:P.underlying t=some (.array n e))(cf:aX P e=some 1)(Fg:P.underlying e=some (.int k))(ow:bX P e=some false)
  (h:ga (xs.toList.drop 0) (ys.toList.drop 0)=some b) (hx:xs.size=0+n) (hy:ys.size=0+n):(b8 (d+1+1) t (.agg xs) (.agg ys)).run P w= .ok b w:=by
 rw[b8]
 simp only[Sem.run_bind,run_underlying hu,aR,run_sizeOf cf]
 rw[Std.Legacy.Range.forIn_eq_forIn_range']
 have:=Kp Fg ow w d xs ys n 0 b h hx hy
 have hr:gj [:n].start [:n].size [:n].step=gj 0 n 1:=by simp[Std.Legacy.Range.size]
 rw[hr,this]
 cases b<;>simp
theorem uK {P:an}(w:bo)(d:a3){xs ys:bg af}:∀(fs:a4 Field) (i:a3) (b:cx),tZ P fs i=true->ga (xs.toList.drop i) (ys.toList.drop i)=some b->xs.size=i+fs.length->ys.size=i+fs.length->
  (ep (d+1) xs ys fs).run P w= .ok b w
 |[],i,b,_,h,hx,hy=>by
  rw[ca (by simp at hx;simp;omega),ca (by simp at hy;simp;omega)] at h
  simp only[ga] at h
  obtain rfl:=ab h
  simp[ep]
 |f::r,i,b,hf,h,hx,hy=>by
  have Zi:i<xs.toList.length:=by simp at hx;simp;omega
  have It:i<ys.toList.length:=by simp at hy;simp;omega
  rw[b5 Zi,b5 It] at h
  unfold tZ at hf
  rw[a5] at hf
  obtain⟨BX,Ir⟩:=hf
  split at BX
  case h_2=>cases BX
  rename_i k' Fg
  simp only[a5,bz] at BX
  obtain⟨B2,fy⟩:=BX
  have NI:f.name≠ "_" :=by simpa using B2
  have ow:bX P f.type=some false:=by unfold bX;rw[Fg]
  unfold ga at h
  split at h
  ·rename_i B1 _;cases B1
  ·rename_i k a r0 k2 b0 q0 B1 RY
   injection B1 with e1 e2;injection RY with e3 e4
   subst e2;subst e4
   split at h
   case h_2=>cases h
   rename_i t hk ht
   have sj:k=k2:=by split at hk;assumption;cases hk
   subst sj
   obtain rfl:=ab h
   have hpx:(part f.type xs f.offset).run P w= .ok (.int k a) w:=by
    have:xs[i]?=some (.int k a):=by rw[<-a8,cc Zi,e1]
    simp[part,gP ow,fy,this]
   have hpy:(part f.type ys f.offset).run P w= .ok (.int k b0) w:=by
    have:ys[i]?=some (.int k b0):=by rw[<-a8,cc It,e3]
    simp[part,gP ow,fy,this]
   have heq:(b8 (d+1) f.type (.int k a) (.int k b0)).run P w= .ok (a==b0) w:=by simp[b8,run_underlying Fg]
   rw[ep,cg NI]
   simp only[Sem.run_bind,hpx,hpy,heq,aR]
   cases Iu:(a==b0) with
   |false=>simp
   |true=>
    simp only[e8,ee,gv,eC]
    exact uK w d r (i+1) t Ir ht (by simp at hx;omega) (by simp at hy;omega)
  ·cases h
theorem sH {x y:af}{b:cx}(h:Bm x y=some b):(∃k a c,x= .int k a/\y= .int k c/\b=(a==c))\/(∃a c,x= .string a/\y= .string c/\b=(a.toList==c.toList)):=by
 unfold Bm at h
 split at h
 ·rename_i k a k' c
  split at h
  ·rename_i hk
   subst hk
   exact .inl ⟨k,a,c,rfl,rfl,(ab h).symm⟩
  ·cases h
 ·rename_i a c
  exact .inr ⟨a,c,rfl,rfl,(ab h).symm⟩
 ·cases h
theorem uL {x y:af}{r q:a4 af}{b:cx}(h:jt (x::r) (y::q)=some b):∃a t,Bm x y=some a/\jt r q=some t/\b=(a&&t):=by
 simp only[jt] at h
 split at h
 ·rename_i a t h1 h2
  exact⟨a,t,h1,h2,(ab h).symm⟩
 ·cases h
theorem zQ {S:St}:∀{xs ys Kn Ko:a4 af} {b:cx},jt xs ys=some b->eR S xs Kn->eR S ys Ko->Kn=xs/\Ko=ys
 |[],[],Kn,Ko,b,h,hx,hy=>⟨hx.jK,hy.jK⟩
 |x::r,y::q,Kn,Ko,b,h,hx,hy=>by
  obtain⟨x',r',rfl,nk,ko⟩:=hx.cons_inv
  obtain⟨y',q',rfl,Qa,wQ⟩:=hy.cons_inv
  obtain⟨a,t,h1,h2,_⟩:=uL h
  obtain⟨e1,e2⟩:=zQ h2 ko wQ
  rw[e1,e2]
  rcases sH h1 with ⟨k,a,c,rfl,rfl,_⟩|⟨a,c,rfl,rfl,_⟩
  ·cases nk;cases Qa;exact⟨rfl,rfl⟩
  ·cases nk;cases Qa;exact⟨rfl,rfl⟩
 |[],y::q,_,_,b,h,_,_=>by simp[jt] at h
 |x::r,[],_,_,b,h,_,_=>by simp[jt] at h
theorem sI {P:an}(w:bo)(d:a3){xs ys:bg af}:∀(fs:a4 Field) (i:a3) (b:cx),qE P fs (xs.toList.drop i) i=true->jt (xs.toList.drop i) (ys.toList.drop i)=some b->xs.size=i+fs.length->ys.size=i+fs.length->
  (ep (d+1) xs ys fs).run P w= .ok b w
 |[],i,b,_,h,hx,hy=>by
  rw[ca (by simp at hx;simp;omega),ca (by simp at hy;simp;omega)] at h
  simp only[jt] at h
  obtain rfl:=ab h
  simp[ep]
 |f::r,i,b,hf,h,hx,hy=>by
  have Zi:i<xs.toList.length:=by simp at hx;simp;omega
  have It:i<ys.toList.length:=by simp at hy;simp;omega
  rw[b5 Zi,b5 It] at h
  rw[b5 Zi] at hf
  simp only[qE] at hf
  rw[a5] at hf
  obtain⟨BX,Ir⟩:=hf
  obtain⟨a,t,h1,h2,rfl⟩:=uL h
  have key:f.name≠ "_" /\(part f.type xs f.offset).run P w= .ok xs.toList[i] w/\(part f.type ys f.offset).run P w= .ok ys.toList[i] w/\(b8 (d+1) f.type xs.toList[i] ys.toList[i]).run P w= .ok a w:=by
   have hpx:∀(ow:bX P f.type=some false) (fy:f.offset=i),(part f.type xs f.offset).run P w= .ok xs.toList[i] w:=fun ow fy=>by
    have:xs[i]?=some xs.toList[i]:=by rw[<-a8,cc Zi]
    simp only[part,Sem.run_bind,gP ow,fy,this,aR]
    simp
   have hpy:∀(ow:bX P f.type=some false) (fy:f.offset=i),(part f.type ys f.offset).run P w= .ok ys.toList[i] w:=fun ow fy=>by
    have:ys[i]?=some ys.toList[i]:=by rw[<-a8,cc It]
    simp only[part,Sem.run_bind,gP ow,fy,this,aR]
    simp
   split at BX
   ·rename_i k' k0 n0 Fg YL
    simp only[a5,bz] at BX
    obtain⟨B2,fy⟩:=BX
    have ow:bX P f.type=some false:=by unfold bX;rw[Fg]
    refine⟨by simpa using B2,hpx ow fy,hpy ow fy,?_⟩
    rcases sH h1 with ⟨k,a1,c1,e1,e2,rfl⟩|⟨a1,c1,e1,e2,rfl⟩
    ·rw[e1,e2];exact run_equalIn_int w d f.type k k' a1 c1 Fg
    ·rw[YL] at e1;cases e1
   ·rename_i k0 Fg YL
    simp only[a5,bz] at BX
    obtain⟨B2,fy⟩:=BX
    have ow:bX P f.type=some false:=by unfold bX;rw[Fg]
    refine⟨by simpa using B2,hpx ow fy,hpy ow fy,?_⟩
    rcases sH h1 with ⟨k,a1,c1,e1,e2,rfl⟩|⟨a1,c1,e1,e2,rfl⟩
    ·rw[YL] at e1;cases e1
    ·rw[e1,e2];exact run_equalIn_string w d f.type a1 c1 Fg
   ·cases BX
  obtain⟨NI,hpx,hpy,heq⟩:=key
  rw[ep,cg NI]
  simp only[Sem.run_bind,hpx,hpy,heq,aR]
  cases a with
  |false=>simp
  |true=>
   simp only[e8,ee,gv,eC]
   exact sI w d r (i+1) t Ir h2 (by simp at hx;omega) (by simp at hy;omega)
theorem Gk {P:an}{S:St}{op:BinOp}{t:ao}{xs ys Kn Ko:bg af}{b:cx}{ox oy:dc}(hx:eR S xs.toList Kn.toList)(hy:eR S ys.toList Ko.toList)(h:BJ P t xs ys=some b):
  (eqGuard op t ox oy (.agg Kn) (.agg Ko)).run P S.w= .ok () S.w/\(b8 10000 t (.agg Kn) (.agg Ko)).run P S.w= .ok b S.w:=by
 unfold BJ at h
 split at h
 case h_3=>cases h
 case h_2=>
  rename_i fs hu
  split at h
  case isFalse=>cases h
  rename_i hc
  simp only[a5,bz,fw] at hc
  obtain⟨⟨⟨uM,Iv⟩,hg⟩,aE⟩:=hc
  have wA:Kn.size=0+fs.toList.length:=by have:=hx.1;simp at this uM;simp;omega
  have NJ:Ko.size=0+fs.toList.length:=by have:=hy.1;simp at this Iv;simp;omega
  have hfo:P.fieldsOf t=fs:=by simp[Program.fieldsOf,hu]
  refine⟨by cases op<;>simp[eqGuard,hg],?_⟩
  have:=run_equalIn_struct (P:=P) S.w 9999 t Kn Ko (by rw[hfo];exact hu) aE
  split at h
  ·rename_i hfi
   have h2:=vw h hx hy
   rw[hfo,uK S.w 9998 fs.toList 0 b hfi (by simpa using h2) wA NJ] at this
   exact this
  ·split at h
   case isFalse=>cases h
   rename_i hfi
   obtain⟨e1,e2⟩:=zQ h hx hy
   rw[hfo,sI S.w 9998 fs.toList 0 b (by rw[e1];simpa using hfi) (by rw[e1,e2];simpa using h) wA NJ] at this
   exact this
 rename_i n e hu
 split at h
 case h_2=>cases h
 rename_i k Fg cf
 split at h
 case isFalse=>cases h
 rename_i hc
 simp only[a5,bz,fw] at hc
 obtain⟨⟨uM,Iv⟩,hg⟩:=hc
 have ow:bX P e=some false:=by unfold bX;rw[Fg]
 have h2:=vw h hx hy
 have wA:Kn.size=n:=by have:=hx.1;simp at this uM;omega
 have NJ:Ko.size=n:=by have:=hy.1;simp at this Iv;omega
 constructor
 ·cases op<;>simp[eqGuard,hg]
 ·exact yL S.w 9998 hu cf Fg ow (by simpa using h2) (by omega) (by omega)
theorem Zj {P:an}{S:St}{op:BinOp}{t:ao}{x y x' y' v:af}{ox oy:dc}(hx:VR S x x')(hy:VR S y y')(h:cQ P op t x y=some v):
  Reads P S (do eqGuard op t ox oy x' y';binOp op t x' y') v:=by
 unfold cQ at h
 split at h
 ·rename_i xs ys
  obtain⟨Kn,rfl,hxv⟩:=hx.Bn
  obtain⟨Ko,rfl,hyv⟩:=hy.Bn
  split at h
  ·split at h
   ·rename_i b hb
    obtain rfl:=ab h
    obtain⟨h1,h2⟩:=Gk (op:= .eql) (ox:=ox) (oy:=oy) hxv hyv hb
    exact⟨_,by simp only[Sem.run_bind,h1,aR,run_eql_struct,h2],.bool _⟩
   ·cases h
  ·split at h
   ·rename_i b hb
    obtain rfl:=ab h
    obtain⟨h1,h2⟩:=Gk (op:= .neq) (ox:=ox) (oy:=oy) hxv hyv hb
    exact⟨_,by simp only[Sem.run_bind,h1,aR,run_neq_struct,h2],.bool _⟩
   ·cases h
  ·cases h
 ·rename_i k a k' b
  cases hx;cases hy
  split at h
  ·exact B0 h
  ·exact B0 h
  ·rename_i h1 h2
   split at h
   ·rename_i hk;subst hk;exact UT h (fun e=>h1 e) (fun e=>h2 e)
   ·cases h
 ·cases hx;cases hy;exact UU h
 ·exact Zh hx hy h
theorem ac7 {P:an}{S:St}{op:UnOp}{x x' v:af}(hx:VR S x x')(h:unA op x=some v):Reads P S (gz op x') v:=by
 unfold unA at h
 split at h
 ·cases hx;simp only[js] at h;obtain rfl:=ab h;exact⟨_,by simp[gz,g5],.int _ _⟩
 ·cases hx;simp only[js] at h;obtain rfl:=ab h;exact⟨_,by simp[gz,g9],.int _ _⟩
 ·cases hx;obtain rfl:=ab h;exact⟨_,by simp[gz],.bool _⟩
 ·cases h
theorem Fh {P:an}{S:St}{t:ao}{x ix x' ix' v:af}(hx:VR S x x')(hi:VR S ix ix')(h:bT P t x ix=some v):Reads P S (Instr.indexAt t x' ix') v:=by
 unfold bT at h
 split at h
 ·rename_i e i off len c k n hu
  cases hi
  cases hx with
  |slice _ _ _ _ a cap h0 hz hr=>
  split at h
  ·rename_i z vx
   split at h
   ·rename_i bd
    obtain rfl:=ab h
    have UX:n<len:=by simpa [dU] using bd
    obtain⟨⟨b,hb,hc,hl⟩,_⟩:=hr (by omega)
    refine⟨.pointer (some (a.add (n*z))),?_,.ptr _ _ _ _ ⟨b,hb,hc,fun jw=> ?_⟩⟩
    ·have yM:((Int.ofNat n)<(len:fk)):=by simp only[Int.ofNat_eq_natCast];omega
     have Uu:(0:fk)<=Int.ofNat n:=by simp
     simp[Instr.indexAt,run_underlying hu,asIntOf,run_sizeOf vx]
     omega
    ·rw[hl jw,Addr.add_lit,c9]
   ·cases h
  ·cases h
 ·rename_i len e i off c k n hu
  cases hi
  obtain⟨a,rfl,b,hb,hc,hl⟩:=hx.qL
  split at h
  ·rename_i z vx
   split at h
   ·rename_i bd
    obtain rfl:=ab h
    have UX:n<len:=by simpa [dU] using bd
    refine⟨.pointer (some (a.add (n*z))),?_,.ptr _ _ _ _ ⟨b,hb,hc,fun jw=> ?_⟩⟩
    ·simp[Instr.indexAt,run_underlying hu,asIntOf,run_sizeOf vx,Instr.sureAddr]
     omega
    ·rw[hl jw,Addr.add_lit,c9]
   ·cases h
  ·cases h
 ·cases h
theorem Fi {P:an}{S:St}{t:ao}{x x' v:af}{f:a3}(hx:VR S x x')(h:au P t x f=some v):Reads P S (Instr.fieldAt t x' f) v:=by
 unfold au at h
 split at h
 ·rename_i fs i off c hu
  obtain⟨a,rfl,b,hb,hc,hl⟩:=hx.qL
  split at h
  ·rename_i fd hf
   split at h
   ·rename_i z vx
    obtain rfl:=ab h
    refine⟨.pointer (some (a.add fd.offset)),?_,.ptr _ _ _ _ ⟨b,hb,hc,fun jw=> ?_⟩⟩
    ·simp[Instr.fieldAt,run_underlying hu,hf,Instr.sureAddr,fieldPlace,run_sizeOf vx]
    ·rw[hl jw,Addr.add_lit,c9]
   ·cases h
  ·cases h
 ·cases h
theorem Kq {P:an}{S:St}{t:ao}{cs ji:bg af}{off:a3}{v:af}(hv:eR S cs.toList ji.toList)(h:PY P t cs.toList off=some v):Reads P S (part t ji off) v:=by
 unfold PY at h
 split at h
 ·rename_i n ow cf
  rw[wI,sD] at h
  split at h
  ·rename_i l hl
   split at hl
   ·rename_i hn
    obtain rfl:=ab hl
    obtain rfl:=ab h
    refine⟨.agg (ji.extract off (off+n)),by simp[part,gP ow,run_sizeOf cf],?_⟩
    have hlen:=hv.1
    refine .agg _ _ (by simp;simp at hlen;omega) (fun i hi=> ?_)
    simp only[gf,List.length_drop] at hi
    have wB:i<n:=by simp at hi;omega
    have:=hv.2 (off+i) (by simp at hn|-;omega)
    simp only[a7,a8] at this|-
    simp only[List.getElem?_take,wB,dX,eA,a8,Array.getElem?_extract]
    rw[cg (by simp at hn hlen;omega)]
    exact this
   ·cases hl
  ·cases h
 ·rename_i ow
  rw[sD] at h
  split at h
  ·rename_i v0 r hd
   obtain rfl:=ab h
   have fy:off<cs.toList.length:=by
    rcases ea off cs.toList.length with h' |h'
    ·exact h'
    ·rw[ca h'] at hd;cases hd
   have h0:cs.toList.getD off undef=v0:=by
    have:=congrArg (fun l=>l.getD 0 undef) hd
    simpa [a7,eA] using this
   have agA:off<ji.size:=by have:=hv.1;simp at this fy;omega
   have:=hv.2 off fy
   rw[h0] at this
   refine⟨ji.toList.getD off undef,?_,this⟩
   simp[part,gP ow,a7,agA]
  ·cases h
 ·cases h
theorem RZ {P:an}{S:St}{t:ao}{x x' v:af}{f:a3}(hx:VR S x x')(h:BK P t x f=some v):Reads P S (Instr.field t x' f) v:=by
 unfold BK at h
 split at h
 ·rename_i fs cs hu
  obtain⟨ji,rfl,wR⟩:=hx.Bn
  split at h
  ·rename_i fd hf
   obtain⟨v',h1,h2⟩:=Kq (P:=P) wR h
   exact⟨v',by simp[Instr.field,run_underlying hu,hf,asAgg,h1],h2⟩
  ·cases h
 ·cases h
theorem R0 {P:an}{S:St}{t:ao}{x ix x' ix' v:af}(hx:VR S x x')(hi:VR S ix ix')(h:sA P t x ix=some v):Reads P S (Instr.index t x' ix') v:=by
 unfold sA at h
 split at h
 ·rename_i bs k n hu
  cases hi;cases hx
  split at h
  ·rename_i c r hd
   obtain rfl:=ab h
   have hn:n<bs.data.toList.length:=by
    rcases ea n bs.data.toList.length with h' |h'
    ·exact h'
    ·rw[ca h'] at hd;cases hd
   have h0:bs[n]?=some c:=by
    have:=congrArg (fun l=>l[0]?) hd
    simp only[eA,dO,List.getElem?_cons_zero] at this
    have bd:n<bs.size:=by rw[size_data];exact hn
    rw[getElem?_pos bs n bd]
    rw[cc hn] at this
    rw[<-ab this,Array.getElem_toList]
    rfl
   refine⟨_,?_,.int _ _⟩
   simp[Instr.index,run_underlying hu,asIntOf,h0]
  ·cases h
 ·rename_i len e cs k n hu
  cases hi
  obtain⟨ji,rfl,wR⟩:=hx.Bn
  split at h
  ·rename_i z vx
   split at h
   ·rename_i bd
    have UX:n<len:=by simpa [dU] using bd
    obtain⟨v',h1,h2⟩:=Kq (P:=P) wR h
    refine⟨v',?_,h2⟩
    simp[Instr.index,run_underlying hu,asIntOf,run_sizeOf vx,h1]
    omega
   ·cases h
  ·cases h
 ·cases h
theorem Kr {P:an}{S:St}{x x' v:af}{i:a3}(hx:VR S x x')(h:ba x i=some v):Reads P S (Instr.extract x' i) v:=by
 unfold ba at h
 split at h
 ·rename_i vs
  obtain⟨P7,rfl,hvs⟩:=hx.RV
  have hi:i<vs.size:=by
   rcases ea i vs.size with h' |h'
   ·exact h'
   ·rw[c7 h'] at h;cases h
  have wB:i<P7.size:=by have:=hvs.1;simp at this;omega
  have:=hvs.2 i (by simpa using hi)
  simp only[a7,a8,h] at this
  refine⟨P7[i],by simp[Instr.extract,wB],by simpa [wB] using this⟩
 ·cases h
def OV (S:St)(o o' :av af):Prop:=(o=none/\o' =none)\/∃v v',o=some v/\o' =some v' /\VR S v v'
theorem sJ {S:St}{o o' :av af}{d n:a3}(hv:OV S o o')(h:gV o d=some n):(o=none/\o' =none/\n=d)\/∃k,o=some (.int k n)/\o' =some (.int k n):=by
 unfold gV at h
 split at h
 ·rcases hv with ⟨_,h2⟩|⟨v,v',h1,_,_⟩
  ·exact .inl ⟨rfl,h2,(ab h).symm⟩
  ·cases h1
 ·rename_i k m
  rcases hv with ⟨h1,_⟩|⟨v,v',h1,h2,h3⟩
  ·cases h1
  ·obtain rfl:=ab h1
   cases h3
   obtain rfl:=ab h
   exact .inr ⟨k,rfl,h2⟩
 ·cases h
theorem run_sliceBound {P:an}(w:bo)(k:eE)(n y:a3)(code:BoundsCode)(h:n<=y):(Instr.sliceBound (.int k n) y code).run P w= .ok n w:=by
 simp[Instr.sliceBound,asIntOf]
 omega
theorem iM {P:an}{S:St}(w:bo)(isS:cx)(len cap:a3){lo hi lo' wB:av af}{l h:a3}(oI:OV S lo lo')(Uv:OV S hi wB)(h1:gV lo 0=some l)(h2:gV hi len=some h)(hlh:l<=h)(hh:h<=cap):
  (Instr.sliceBounds isS len cap lo' wB none).run P w= .ok (l,h,cap) w:=by
 rcases sJ oI h1 with ⟨_,rfl,rfl⟩|⟨k1,_,rfl⟩<;>rcases sJ Uv h2 with ⟨_,rfl,rfl⟩|⟨k2,_,rfl⟩<;>
  simp[Instr.sliceBounds,run_sliceBound,hlh,hh]
theorem pS {P:an}{S:St}(w:bo)(isS:cx)(len cap:a3){lo hi mx lo' wB mx' :av af}{l h m:a3}(oI:OV S lo lo')(Uv:OV S hi wB)(hmx:OV S mx mx')(h1:gV lo 0=some l)(h2:gV hi len=some h)
  (h3:gV mx 0=some m) (hmn:mx≠none) (Kl:hi≠none) (hlh:l<=h) (hhm:h<=m) (hm:m<=cap):
  (Instr.sliceBounds isS len cap lo' wB mx').run P w= .ok (l,h,m) w:=by
 rcases sJ hmx h3 with ⟨e,_,_⟩|⟨k3,_,rfl⟩
 ·exact c6 e hmn
 ·rcases sJ Uv h2 with ⟨e,_,_⟩|⟨k2,_,rfl⟩
  ·exact c6 e Kl
  ·rcases sJ oI h1 with ⟨_,rfl,rfl⟩|⟨k1,_,rfl⟩<;>simp[Instr.sliceBounds,run_sliceBound,hlh,hhm,hm]
theorem UY {s:aq}{i c z:a3}(h:kv s i c z=true):c=0\/∃b,s.bR i=some b/\b.mM=z:=by
 unfold kv at h
 split at h
 ·exact .inl rfl
 ·split at h
  ·rename_i b hb;exact .inr ⟨b,hb,by simpa [bz] using h⟩
  ·cases h
theorem VR.sub {S:St}{i off len c:a3}{a:Addr}{cap:a3}(hv:VR S (.slice (some ⟨i,off,none⟩) len c) (.slice (some a) len cap)){l h m z:a3}(hlh:l<=h)(hhm:h<=m)(hm:m<=cap)(hz:kv S.s i c z=true)(c' :a3)(gZ:c' =c\/(c' =0/\m=l)):
  VR S (.slice (some ⟨i,off+l*z,none⟩) (h-l) c') (.slice (some (if m=l then a else a.add (l*z))) (h-l) (m-l)):=by
 cases hv with
 |slice _ _ _ _ _ _ h0 wC hr=>
 refine .slice _ _ _ _ _ _ (by omega) (fun e=> ?_) (fun BV=> ?_)
 ·rcases gZ with rfl|⟨_,h2⟩
  ·have:=wC e;omega
  ·omega
 ·have cH:¬m=l:=by omega
  obtain rfl:c' =c:=by rcases gZ with h' |⟨_,h'⟩<;>omega
  rw[bn cH]
  obtain⟨⟨b,hb,J0,hl⟩,pR⟩:=hr (by omega)
  refine⟨⟨b,hb,J0,fun jw=>by rw[hl jw,Addr.add_lit,c9]⟩,fun b' pL jw=> ?_⟩
  rw[hb] at pL;obtain rfl:=ab pL
  obtain⟨arr,E,fr,h1,h2⟩:=pR b hb jw
  have hzz:b.mM=z:=by
   rcases UY hz with rfl|⟨b2,dI,h3⟩
   ·have:=wC rfl;omega
   ·rw[hb] at dI;obtain rfl:=ab dI;exact h3
  have ha:=hl jw
  rw[ha] at h1 h2|-
  rw[Addr.add_lit]
  refine⟨arr,E,fr,h1,?_⟩
  simp only at h2|-
  rw[hzz] at h2|-
  have:l*z+(m-l)*z<=cap*z:=by rw[<-dD];exact cd _ (by omega)
  omega
theorem R1 {P:an}{base:a3}{S:St}(hs:SR base S){t:ao}{x x' v:af}{lo hi mx lo' wB mx' :av af}(hx:VR S x x')(oI:OV S lo lo')(Uv:OV S hi wB)(hmx:OV S mx mx')(h:dj P S.s t x lo hi mx=some v):
  Reads P S (Instr.sliceAt t x' lo' wB mx') v:=by
 unfold dj at h
 split at h
 ·rename_i b hu
  cases hx
  split at h
  ·rename_i l hh h1 h2
   rcases hmx with ⟨_,rfl⟩|⟨_,_,e,_,_⟩
   case inr=>cases e
   split at h
   ·rename_i hc
    simp only[a5,cp] at hc
    obtain rfl:=ab h
    have cf:=size_data b
    have hb:=iM (P:=P) S.w false b.size b.size oI Uv h1 (by rw[cf];exact h2) hc.1 (by rw[cf];exact hc.2)
    refine⟨_,?_,.string _⟩
    simp only[Instr.sliceAt,Instr.slice,Sem.run_bind,run_underlying hu,aR,hb,Option.isSome_none,ee,gv,Sem.run_pure]
    congr 2
    apply yK
    rw[ByteArray.data_extract,eT]
    simp only[g1,List.drop_take]
   ·cases h
  ·cases h
 ·rename_i e a len c hu
  split at h
  ·rename_i l hh z h1 h2 hz
   split at h
   ·rename_i hc
    simp only[a5,cp] at hc
    split at h
    ·
     rcases hmx with ⟨_,rfl⟩|⟨_,_,e,_,_⟩
     case inr=>cases e
     split at h
     ·obtain rfl:=ab h
      cases hx
      have hb:=iM (P:=P) S.w true 0 0 oI Uv h1 h2 hc.1 hc.2
      obtain rfl:hh=0:=by omega
      obtain rfl:l=0:=by omega
      refine⟨_,?_,.gK⟩
      simp[Instr.sliceAt,Instr.slice,run_underlying hu,hb,run_sizeOf hz]
     ·rename_i i off
      split at h
      ·rename_i zN
       obtain rfl:=ab h
       have Bo:=hx
       cases hx with
       |slice _ _ _ _ a1 cap h0 wC hr=>
       have hb:=iM (P:=P) S.w true len cap oI Uv h1 h2 hc.1 (by omega)
       refine⟨_,?_,Bo.sub hc.1 (by omega:hh<=cap) (a6 _) zN c (.inl rfl)⟩
       simp[Instr.sliceAt,Instr.slice,run_underlying hu,hb,run_sizeOf hz]
       split<;>rfl
      ·cases h
     ·cases h
    ·rename_i m
     split at h
     ·rename_i m' hv hm
      split at h
      ·rename_i kY
       simp only[a5,cp] at kY
       split at h
       ·obtain rfl:=ab h
        cases hx
        have hb:=pS (P:=P) S.w true 0 0 oI Uv hmx h1 h2 hm (by simp) (by simp) hc.1 kY.1 kY.2
        obtain rfl:hh=0:=by omega
        obtain rfl:l=0:=by omega
        obtain rfl:m' =0:=by omega
        refine⟨_,?_,.gK⟩
        simp[Instr.sliceAt,Instr.slice,run_underlying hu,hb,run_sizeOf hz]
       ·rename_i i off
        split at h
        ·rename_i zN
         obtain rfl:=ab h
         have Bo:=hx
         cases hx with
         |slice _ _ _ _ a1 cap h0 wC hr=>
         have hb:=pS (P:=P) S.w true len cap oI Uv hmx h1 h2 hm (by simp) (by simp) hc.1 kY.1 (by omega)
         refine⟨_,?_,Bo.sub hc.1 kY.1 (by omega) zN _ ?_⟩
         ·simp[Instr.sliceAt,Instr.slice,run_underlying hu,hb,run_sizeOf hz]
          split<;>rfl
         ·by_cases hlm:l=m'
          ·rw[cg (by simp[hlm])];exact .inr ⟨rfl,hlm.symm⟩
          ·rw[bn (by simp[hlm])];exact .inl rfl
        ·cases h
       ·cases h
      ·cases h
     ·cases h
   ·cases h
  ·cases h
 ·rename_i n e i off c hu
  split at h
  ·rename_i l hh z b h1 h2 hz hb
   rcases hmx with ⟨_,rfl⟩|⟨_,_,e,_,_⟩
   case inr=>cases e
   split at h
   ·rename_i hc
    simp only[a5,cp,dU,bz] at hc
    obtain⟨⟨⟨⟨⟨⟨iK,kY⟩,jw⟩,hle⟩,bd⟩,R2⟩,wC⟩:=hc
    obtain rfl:=ab h
    obtain⟨a1,rfl,hr⟩:=hx.qL
    have fq:Live b c:=⟨jw,hle⟩
    obtain rfl:=hr.addr hb fq
    have hbd:=iM (P:=P) S.w false n n oI Uv h1 h2 iK kY
    refine⟨.slice (some (if n=l then⟨(S.e.loc i c).1,(S.e.loc i c).2+off,none⟩ else(⟨(S.e.loc i c).1,(S.e.loc i c).2+off,none⟩:Addr).add (l*z))) (hh-l) (n-l),?_,?_⟩
    ·simp[Instr.sliceAt,run_underlying hu,Instr.sureAddr,hbd,run_sizeOf hz]
    ·refine .slice _ _ _ _ _ _ (by omega) (fun e=>by omega) (fun BV=> ?_)
     have J1:¬n=l:=by omega
     rw[bn J1,Addr.add_lit]
     refine⟨⟨b,hb,hle,fun _=>by rw[c9]⟩,fun b2 dI _=> ?_⟩
     rw[hb] at dI;obtain rfl:=ab dI
     have hnz:0<n*z:=eX (by omega) wC
     obtain⟨v,hv,_⟩:=hs.cell i b hb c fq (off+n*z-1) (by omega)
     obtain⟨arr,E,fr,hk,ha⟩:=uJ hv
     have yM:=(ey.1 ha).1
     refine⟨arr,E,fr,hk,?_⟩
     simp only
     rw[R2]
     have:l*z+(n-l)*z=n*z:=by rw[<-dD];congr 1;omega
     omega
   ·cases h
  ·cases h
 ·cases h
def oz (P:an)(base:a3)(S:St)(m:Sem af)(v:af)(s' :aq):Prop:=
 ∃T v',T.s=s' /\m.run P S.w= .ok v' T.w/\VR T v v' /\Good base S T
def sK (P:an)(base:a3)(S:St)(m:Sem af)(v:af)(s0 s' :aq)(next:a3):Prop:=
 ∃b,s' =s0.new (.dZ b)/\∃T v',T.s=⟨Tr.set (depth s0.next) S.s.heap s0.next (.dZ b),next⟩/\m.run P S.w= .ok v' T.w/\VR T v v' /\Good base S T
theorem sK.Ks {P:an}{base:a3}{S:St}{m:Sem af}{v:af}{s' :aq}(h:sK P base S m v S.s s' (S.s.next+1)):oz P base S m v s' :=by
 obtain⟨b,rfl,T,v',h1,h2,h3,h4⟩:=h
 exact⟨T,v',h1,h2,h3,h4⟩
theorem oJ {base:a3}{S:St}(h:SR base S){s0:aq}{next:a3}(dC:mV S s0.next next){cs:a4 af}{len mM:a3}{v:af}{s' :aq}(hn:aZ s0 cs len mM=some (v,s'))(arr:bg af)(E:ao)(fr:a3×a3)(W:bo)(cap:a3)
  (hW:lj S.w W (.cells arr E fr)) (pg:fr.1=fr.2\/arr.size<=fr.1) (hle:cs.length<=arr.size) (hv:∀p,p<cs.length->VR S (cs.getD p undef) (arr.toList.getD p undef)) (pR:len<=cap) (kY:cap*mM<=arr.size):
  ∃b,s' =s0.new (.dZ b)/\∃T,T.s=⟨Tr.set (depth s0.next) S.s.heap s0.next (.dZ b),next⟩/\T.w=W/\VR T v (.slice (some ⟨S.w.heap.size,0,none⟩) len cap)/\Good base S T:=by
 unfold aZ at hn
 split at hn
 ·injection hn with hn;injection hn with e1 e2
  subst e1;subst e2
  exact⟨⟨cs,1,true,mM⟩,rfl,S.sF s0.next next ⟨cs,1,true,mM⟩ W,rfl,rfl,.slice _ _ _ _ _ _ pR (fun e=>by omega) (fun _=>⟨St.BU dC _ W 0 _ (a6 _),St.NF dC _ W 0 _ cap arr E fr hW (by simpa using kY)⟩),
   Good.UM h dC cs mM arr E fr W hW pg hle hv⟩
 ·cases hn
theorem sL {base:a3}{S:St}(h:SR base S){cs:a4 af}{len mM:a3}{v:af}{s' :aq}(hn:aZ S.s cs len mM=some (v,s'))(arr:bg af)(E:ao)(fr:a3×a3)(W:bo)(cap:a3)
  (hW:lj S.w W (.cells arr E fr)) (pg:fr.1=fr.2\/arr.size<=fr.1) (hle:cs.length<=arr.size) (hv:∀p,p<cs.length->VR S (cs.getD p undef) (arr.toList.getD p undef)) (pR:len<=cap) (kY:cap*mM<=arr.size):
  ∃T,T.s=s' /\T.w=W/\VR T v (.slice (some ⟨S.w.heap.size,0,none⟩) len cap)/\Good base S T:=by
 have dd:S.s.room=true:=by
  unfold aZ at hn
  split at hn
  ·assumption
  ·cases hn
 obtain⟨b,rfl,T,h1,h2,h3,h4⟩:=oJ h (mV.self h dd) hn arr E fr W cap hW pg hle hv pR kY
 exact⟨T,h1,h2,h3,h4⟩
theorem Gl {base:a3}{S:St}(h:SR base S){s0:aq}{next:a3}(dC:mV S s0.next next){cs:a4 af}{mM:a3}{v:af}{s' :aq}(hn:fm s0 cs mM=some (v,s'))(arr:bg af)(E:ao)
  (hv:eR S cs arr.toList):∃b,s' =s0.new (.dZ b)/\∃T,T.s=⟨Tr.set (depth s0.next) S.s.heap s0.next (.dZ b),next⟩/\T.w=S.w.alloc (.cells arr E)/\VR T v (.pointer (some ⟨S.w.heap.size,0,none⟩))/\Good base S T:=by
 unfold fm at hn
 split at hn
 ·injection hn with hn;injection hn with e1 e2
  subst e1;subst e2
  have hl:=hv.1
  exact⟨⟨cs,1,true,mM⟩,rfl,S.sF s0.next next ⟨cs,1,true,mM⟩ _,rfl,rfl,.ptr _ _ _ _ (St.BU dC _ _ 0 _ (a6 _)),
   Good.UM h dC cs mM arr E (0,0) _ ⟨rfl,rfl,rfl,rfl⟩ (.inl rfl) (by simp at hl;omega) hv.2⟩
 ·cases hn
theorem B3 {P:an}(w:bo)(t:ao)(v:af):(newVar t v).run P w= .ok ⟨w.heap.size,0,none⟩ (w.alloc (.cells v.cells t)):=by simp[newVar,newRow]
theorem Kt {P:an}{base:a3}{S:St}(h:SR base S){s0:aq}{next:a3}(dC:mV S s0.next next){e:ao}{z v:af}{mM:a3}{s' :aq}(hz:bV P e=some z)(hp:bN z=true)(hn:fm s0 z.cells.toList mM=some (v,s')):
  sK P base S (Instr.alloc e true (.tuple #[])) v s0 s' next:=by
 obtain⟨b,h0,T,h1,h2,h3,h4⟩:=Gl h dC hn z.cells e (lq hp).cells
 exact⟨b,h0,T,_,h1,by rw[h2];simp[Instr.alloc,dK hz,B3],h3,h4⟩
theorem UZ {P:an}{base:a3}{S:St}(h:SR base S){s0:aq}{next:a3}(dC:mV S s0.next next){e:ao}{x x' v:af}{mM:a3}{s' :aq}(hx:VR S x x')(hn:fm s0 x.cells.toList mM=some (v,s')):sK P base S (Instr.box e x') v s0 s' next:=by
 obtain⟨b,h0,T,h1,h2,h3,h4⟩:=Gl h dC hn x'.cells e hx.cells
 exact⟨b,h0,T,_,h1,by rw[h2];simp[Instr.box,B3],h3,h4⟩
theorem Good.freeze {base:a3}{S:St}(h:SR base S){i c:a3}{b:jZ}(hb:S.s.bR i=some b)(ho:b.own=true)(hc:Live b c){arr:bg af}{E:ao}{fr:a3×a3}
  (ha:S.w.heap[(S.e.loc i c).1]?=some (.cells arr E fr)):
  Good base S ⟨S.s.put i (.dZ b),S.e,S.w.freeze ⟨(S.e.loc i c).1,arr.size,none⟩ 1⟩:=by
 obtain⟨ux,⟨RS,E0,fr0,fN,ou⟩,wz,ho5⟩:=h.own i b hb ho c hc
 rw[ha] at fN
 injection fN with fN;injection fN with e1 e2 e3
 subst e1;subst e2;subst e3
 have cH:∀k,k≠(S.e.loc i c).1->(S.w.freeze ⟨(S.e.loc i c).1,arr.size,none⟩ 1).heap[k]?=S.w.heap[k]?:=fun k hk=>by
  unfold eK
  rw[bn (by decide)]
  simp only[ek]
  rw[bn (by omega)]
 have gY:∃NC:a3×a3,(S.w.freeze ⟨(S.e.loc i c).1,arr.size,none⟩ 1).heap[(S.e.loc i c).1]?=some (.cells arr E NC)/\(NC.1=NC.2\/arr.size<=NC.1):=by
  unfold eK
  rw[bn (by decide)]
  simp only[ek,dX,ha,Option.map_some]
  refine⟨_,rfl,?_⟩
  by_cases pg:fr.1=fr.2
  ·rw[cg (by simp[pg])];exact .inr (a6 _)
  ·rw[bn (by simp[pg])]
   refine .inr ?_
   have:arr.size<=fr.1:=ou.resolve_left pg
   show arr.size<=min fr.1 arr.size
   omega
 obtain⟨NC,kC,cR⟩:=gY
 have cf:(S.w.freeze ⟨(S.e.loc i c).1,arr.size,none⟩ 1).heap.size=S.w.heap.size:=by
  unfold eK
  rw[bn (by decide)]
  simp
 have iZ:∀k o,(S.w.freeze ⟨(S.e.loc i c).1,arr.size,none⟩ 1).cell? ⟨k,o,none⟩=S.w.cell? ⟨k,o,none⟩:=fun k o=>by
  by_cases hk:k=(S.e.loc i c).1
  ·subst hk;rw[b9 _ _ _ _ _ _ kC,b9 _ _ _ _ _ _ ha]
  ·exact c8 (cH k hk)
 have nJ:Below base S.w (S.w.freeze ⟨(S.e.loc i c).1,arr.size,none⟩ 1):=by
  refine⟨?_,?_,?_,by rw[cf];exact a6 _,fun k hk=>cH k (by omega)⟩<;>(unfold eK;rw[bn (by decide)])
 refine SR.change h i (S.e.loc i c).1 S.s.next b S.e.loc _ (h.lt hb) (a6 _) h.room (.inl (h.lt hb)) (fun es he=>j5 hb he) (h.low i b hb) ?_ (fun _ _=>rfl)
  (fun k hk _=>cH k hk) (fun j bj c' hj si gZ e=>hj (wz j bj si c' gZ e)) ?_ (fun c' gZ=>by rw[cf];exact h.Ip i b hb c' gZ) ?_ ?_ ?_ ?_ nJ (by rw[cf];exact a6 _)
 ·intro b0 sG
  rw[hb] at sG;obtain rfl:=ab sG
  exact⟨a6 _,a6 _,rfl,fun _ _ _=>rfl⟩
 ·intro r es he e
  obtain⟨_,fP,sf,h2,_⟩:=h.map r es he
  rw[e,ha] at h2;cases h2
 ·intro c' gZ p hp
  rw[iZ]
  exact h.cell i b hb c' gZ p hp
 ·intro _ c' gZ
  obtain⟨h1,⟨NG,E1,fr1,h2,h3⟩,h4,h5⟩:=h.own i b hb ho c' gZ
  refine⟨h1,?_,fun j bj hj si c1 iK e=>hj (h4 j bj si c1 iK e),h5⟩
  by_cases hk:(S.e.loc i c').1=(S.e.loc i c).1
  ·rw[hk,ha] at h2
   injection h2 with h2;injection h2 with e1 e2 e3
   subst e1
   exact⟨arr,E,NC,by rw[hk];exact kC,cR⟩
  ·exact⟨NG,E1,fr1,by rw[cH _ hk];exact h2,h3⟩
 ·intro j bj hj si Nh c1 iK c' gZ e
  exact hj ((h.own i b hb ho c' gZ).2.2.1 j bj si c1 iK e.symm)
 ·intro RS E0 fr0 hk
  rw[ha] at hk
  injection hk with hk;injection hk with e1 e2 e3
  subst e1;subst e2
  exact⟨arr,NC,kC,rfl⟩
theorem NK {S:St}:∀{l l' :a4 af} {bs:a4 hC},eR S l l' ->oE l=some bs->∃ns:a4 fk,l' =ns.map (Value.int .u8)/\bs=ns.map (fun n=>UInt8.ofNat n.toNat):=by
 intro l
 induction l with
 |nil=>intro l' bs hv h;simp only[oE] at h;obtain rfl:=ab h;exact⟨[],hv.jK,rfl⟩
 |cons v l ih=>
  intro l' bs hv h
  obtain⟨v',r',rfl,h1,h2⟩:=hv.cons_inv
  simp only[oE] at h
  split at h
  ·rename_i b hb
   split at h
   ·rename_i m hm
    obtain rfl:=ab h
    obtain⟨ns,h3,h4⟩:=ih h2 hm
    unfold toByte at hb
    split at hb
    ·rename_i n
     cases h1
     obtain rfl:=ab hb
     exact⟨n::ns,by simp[h3],by simp[h4]⟩
    ·cases hb
   ·cases h
  ·cases h
theorem uN {S:St}(l:a4 hC):eR S (ofBytes l) (ofBytes l):=by
 induction l with
 |nil=>exact eR.nil
 |cons b l ih=>exact eR.cons (.int _ _) ih
def sM:av TypeDesc->cx
 |some (.slice _)=>true
 |_=>false
theorem NL {P:an}{base:a3}{S:St}(h:SR base S){src dst:ao}{x x' v:af}{s' :aq}(hx:VR S x x')(hc:gw P S.s src dst x=some (v,s'))(hq:sM (P.underlying dst)=false):
  s' =S.s/\Reads P S (convert src dst x') v:=by
 unfold gw at hc
 split at hc
 ·rename_i d1 k k2 n hs hd
  injection hc with hc;injection hc with e1 e2;subst e1;subst e2
  cases hx
  exact⟨rfl,_,by simp[convert,run_underlying hs,run_underlying hd,Conv.intToInt],.int _ _⟩
 ·rename_i d1 b hs hd
  injection hc with hc;injection hc with e1 e2;subst e1;subst e2
  cases hx
  exact⟨rfl,_,by simp[convert,run_underlying hs,run_underlying hd],.string _⟩
 ·rename_i e b hs hd;rw[hd] at hq;cases hq
 ·rename_i e1 e2 i off len c hs hd;rw[hd] at hq;cases hq
 ·rename_i e n c hs hd
  split at hc
  ·rename_i hu
   injection hc with hc;injection hc with e1 e2;subst e1;subst e2
   cases hx
   refine⟨rfl,_,?_,.string _⟩
   rw[run_convert_bytes_string _ _ _ _ _ _ _ hs (wO hu) hd]
   simp[Conv.bytesToString]
   rfl
  ·cases hc
 ·rename_i e i off len c hs hd
  split at hc
  ·rename_i hu
   cases hx with
   |slice _ _ _ _ a cap h0 hz hr=>
   split at hc
   ·injection hc with hc;injection hc with e1 e2;subst e1;subst e2
    refine⟨rfl,_,?_,.string _⟩
    rw[run_convert_bytes_string _ _ _ _ _ _ _ hs (wO hu) hd,run_bytesToString S.w a 0 cap [] (by simp[loadCells,loadCellsFrom])]
    rfl
   ·rename_i m
    split at hc
    ·rename_i l hl
     split at hc
     ·rename_i bs oA
      injection hc with hc;injection hc with e1 e2;subst e1;subst e2
      obtain⟨b,hb,fq,_,_,zP,Gg,iZ⟩:=h.cells hl
      obtain⟨⟨b',pL,_,Iw⟩,_⟩:=hr (by omega)
      rw[hb] at pL;obtain rfl:=ab pL
      obtain rfl:=Iw fq.1
      obtain⟨ns,h1,h2⟩:=NK Gg oA
      refine⟨rfl,_,?_,.string _⟩
      have fz:=run_loadCells P S.w _ _ _ iZ
      rw[h1] at fz
      rw[run_convert_bytes_string _ _ _ _ _ _ _ hs (wO hu) hd,run_bytesToString S.w _ _ cap ns fz,foldl_push_bytes,h2]
      congr 2
      apply yK
      rw[dv]
      rfl
     ·cases hc
    ·cases hc
  ·cases hc
 ·cases hc
theorem zR {P:an}{base:a3}{S:St}(h:SR base S){s0:aq}{next:a3}(dC:mV S s0.next next){src dst:ao}{x x' v:af}{s' :aq}(hx:VR S x x')(hc:gw P s0 src dst x=some (v,s'))(hq:jv P src dst=true):
  sK P base S (convert src dst x') v s0 s' next:=by
 unfold jv at hq
 split at hq
 case h_2=>cases hq
 rename_i e0 pk U0
 unfold gw at hc
 split at hc
 ·rename_i hs hd;rw[U0] at hd;cases hd
 ·rename_i hs hd;rw[U0] at hd;cases hd
 ·rename_i e b hs hd
  split at hc
  ·rename_i hu
   simp only[a5,cp] at hu
   cases hx
   have gp:=run_bytes_of_string (P:=P) S.w src dst e b hs hd (wO hu.1)
   have Ku:=grownCap_ge S.w b.size 0 e
   have cf:(bytesRow b (grownCap S.w b.size 0 e)).size=grownCap S.w b.size 0 e:=by
    simp only[bytesRow,fB,Array.size_map,Array.size_replicate]
    have:b.data.size=b.size:=rfl
    omega
   have hlen:(ofBytes b.data.toList).length=b.size:=by simp only[ofBytes,gq];exact(size_data b).symm
   obtain⟨bk,h0,T,h1,h2,h3,h4⟩:=oJ h dC hc (bytesRow b (grownCap S.w b.size 0 e)) e ((bytesRow b (grownCap S.w b.size 0 e)).size,(bytesRow b (grownCap S.w b.size 0 e)).size+1)
    (S.w.drew.alloc (.cells (bytesRow b (grownCap S.w b.size 0 e)) e ((bytesRow b (grownCap S.w b.size 0 e)).size,(bytesRow b (grownCap S.w b.size 0 e)).size+1))) (grownCap S.w b.size 0 e) ⟨rfl,rfl,rfl,rfl⟩ (.inr (a6 _)) (by omega) (fun p hp=>by
     have hr:(bytesRow b (grownCap S.w b.size 0 e)).toList.getD p undef=(ofBytes b.data.toList).getD p undef:=by
      simp only[bytesRow,dv,cm]
      rw[eH _ _ _ (by rw[gq];rw[hlen,size_data] at hp;exact hp)]
      rfl
     rw[hr]
     exact(uN (S:=S) b.data.toList).2 p hp) (by rw[<-size_data];exact Ku) (by omega)
   rw[<-size_data] at h3
   exact⟨bk,h0,T,_,h1,by rw[h2];exact gp,h3,h4⟩
  ·cases hc
 ·rename_i hs hd;rw[pk] at hs;cases hs
 ·rename_i hs hd;rw[U0] at hd;cases hd
 ·rename_i hs hd;rw[U0] at hd;cases hd
 ·cases hc
theorem NM {P:an}{base:a3}{S:St}(h:SR base S){src dst:ao}{x x' v:af}{s' :aq}(hx:VR S x x')(hc:gw P S.s src dst x=some (v,s'))(hq:sM (P.underlying dst)=true)(B4:jv P src dst=false):
  oz P base S (convert src dst x') v s' :=by
 unfold gw at hc
 split at hc
 ·rename_i d1 k k2 n hs hd;rw[hd] at hq;cases hq
 ·rename_i d1 b hs hd;rw[hd] at hq;cases hq
 ·rename_i e b hs hd;simp only[jv,hs,hd] at B4;cases B4
 ·rename_i e1 e2 i off len c hs hd
  split at hc
  ·cases hc
  ·rename_i m
   split at hc
   ·rename_i b hb
    split at hc
    ·rename_i iy
     simp only[a5,cp,bz] at iy
     obtain⟨⟨⟨⟨hsd,hu⟩,ho⟩,jw⟩,hle⟩:=iy
     injection hc with hc;injection hc with e3 e4;subst e3;subst e4
     have Bo:=hx
     cases hx with
     |slice _ _ _ _ a cap h0 hz hr=>
     have fq:Live b c:=⟨jw,hle⟩
     obtain⟨ux,⟨arr,E,fr,fN,ou⟩,wz,ho5⟩:=h.own i b hb ho c fq
     obtain⟨⟨b',pL,_,Iw⟩,_⟩:=hr (by omega)
     rw[hb] at pL;obtain rfl:=ab pL
     obtain rfl:=Iw jw
     have hg:=Good.freeze h hb ho fq fN
     refine⟨_,_,rfl,?_,Bo.mono hg.ext,hg⟩
     have ac8:S.w.shape? (S.e.loc i c).1=some (E,arr.size):=by simp[World.shape?,fN]
     subst hsd
     obtain rfl:e1=e2:=by rw[hs] at hd;injection hd with hd;injection hd
     simp[convert,run_underlying hs,run_underlying (wO hu),markStringish,ac8]
    ·cases hc
   ·cases hc
 ·rename_i e n c hs hd;rw[hd] at hq;cases hq
 ·rename_i e i off len c hs hd;rw[hd] at hq;cases hq
 ·cases hc
theorem R3:∀(vs:a4 af) (k off:a3) (cs:bg af) (p:a3),off+k+vs.length<=cs.size->
  ((vs.zipIdx k).foldl (fun(cs:bg af) (x:af×a3)=>cs.setIfInBounds (off+x.2) x.1) cs).size=cs.size/\
  ((vs.zipIdx k).foldl (fun(cs:bg af) (x:af×a3)=>cs.setIfInBounds (off+x.2) x.1) cs)[p]?=if off+k<=p/\p<off+k+vs.length then some (vs.getD (p-(off+k)) undef) else cs[p]?:=by
 intro vs
 induction vs with
 |nil=>intro k off cs p _;exact⟨rfl,by rw[bn (by simp)];rfl⟩
 |cons v r ih=>
  intro k off cs p h
  simp only[eb] at h
  simp only[List.zipIdx_cons,List.foldl_cons]
  obtain⟨h1,h2⟩:=ih (k+1) off (cs.setIfInBounds (off+k) v) p (by simp;omega)
  refine⟨by rw[h1];simp,?_⟩
  rw[h2]
  by_cases hp:off+(k+1)<=p/\p<off+(k+1)+r.length
  ·rw[cg hp,cg (by simp;omega),show p-(off+k)=(p-(off+(k+1)))+1 by omega,ed]
  ·rw[bn hp]
   by_cases hpo:p=off+k
   ·subst hpo
    rw[cg (by simp),c4 (by omega),g0,e6]
   ·rw[bn (by simp;omega),c3 (by omega)]
def PR (S:St):a4 (a3×af)->a4 (a3×af)->Prop
 |[],[]=>True
 |(i,v)::r,(j,u)::r' =>i=j/\VR S v u/\PR S r r'
 |_,_=>False
theorem Ix {S:St}(place U2:a3->av (a3×a3))(ph:∀i,place i=U2 i):∀(parts jR:a4 (a3×af)) (cs:a4 af) (ji:bg af) (l:a4 af),
  PR S parts jR->eR S cs ji.toList->fG place cs parts=some l->∃l',Instr.fill U2 ji jR=some l' /\eR S l l'.toList:=by
 intro parts
 induction parts with
 |nil=>
  intro jR cs ji l hp hc h
  cases jR with
  |nil=>simp only[fG] at h;obtain rfl:=ab h;exact⟨ji,rfl,hc⟩
  |cons _ _=>exact hp.elim
 |cons x r ih=>
  intro jR cs ji l hp hc h
  obtain⟨i,v⟩:=x
  cases jR with
  |nil=>exact hp.elim
  |cons y r' =>
   obtain⟨j,u⟩:=y
   obtain⟨rfl,hv,hr⟩:=hp
   simp only[fG] at h
   split at h
   ·rename_i off size Qb
    split at h
    ·rename_i cf
     simp only[a5,bz,cp] at cf
     obtain⟨UJ,ln⟩:=cf
     split at h
     ·rename_i m hm
      obtain⟨h1,_,h3⟩:=vu _ _ _ _ hm
      have zS:=hv.cells
      have U3:u.cells.size=size:=by have:=zS.1;simp at this UJ;omega
      have jS:ji.size=cs.length:=by have:=hc.1;simp at this;omega
      have wR:m.length=cs.length:=h1
      have hf:=fun p=>R3 u.cells.toList 0 off ji p (by simp;omega)
      have Uw:u.cells.zipIdx.foldl (fun cs x=>cs.setIfInBounds (off+x.2) x.1) ji=(u.cells.toList.zipIdx 0).foldl (fun cs x=>cs.setIfInBounds (off+x.2) x.1) ji:=by
       rw[show u.cells.zipIdx=(u.cells.toList.zipIdx 0).toArray by rw[<-cz];simp,List.foldl_toArray]
      generalize hF:(u.cells.toList.zipIdx 0).foldl (fun cs x=>cs.setIfInBounds (off+x.2) x.1) ji=F at hf Uw
      obtain⟨l',jn,g7⟩:=ih r' m F l hr (by
       have hF1:=(hf 0).1
       have Zk:F.toList.length=F.size:=dt
       refine⟨by omega,fun p hp=> ?_⟩
       rw[h3 p]
       have hFp:F.toList.getD p undef=if off+0<=p/\p<off+0+u.cells.toList.length then u.cells.toList.getD (p-(off+0)) undef else ji.toList.getD p undef:=by
        rw[a7,a8,(hf p).2]
        split
        ·rfl
        ·rw[a7,a8]
       rw[hFp]
       by_cases U4:off<=p/\p<off+v.cells.toList.length
       ·rw[cg U4,cg (by rw[dt,U3];rw[UJ] at U4;omega)]
        exact zS.2 (p-off) (by omega)
       ·rw[bn U4,bn (by rw[dt,U3];rw[UJ] at U4;omega)]
        exact hc.2 p (by omega)) h
      refine⟨l',?_,g7⟩
      simp only[Instr.fill]
      rw[<-ph i,Qb]
      simp only
      rw[bn (by simp;omega),Uw]
      exact jn
     ·cases h
    ·cases h
   ·cases h
theorem yN {S:St}{f:aW}{a:Act}(hf:FR S f a):∀{ps:a4 (a3×dc)} {l:a4 (a3×af)},ae f ps=some l->PR S l (ps.map fun x=>(x.1,a.eval x.2)):=by
 intro ps
 induction ps with
 |nil=>intro l h;simp only[ae] at h;obtain rfl:=ab h;trivial
 |cons x ps ih=>
  intro l h
  obtain⟨i,x⟩:=x
  simp only[ae] at h
  split at h
  ·rename_i v r hv hr;obtain rfl:=ab h;exact⟨rfl,bJ hf hv,ih hr⟩
  ·cases h
theorem U5 {α β:Type}{P:an}(w:bo)(g:α->Sem β)(g' :α->β):∀(l:a4 α),(∀x∈l,(g x).run P w= .ok (g' x) w)->(l.mapM g).run P w= .ok (l.map g') w:=by
 intro l
 induction l with
 |nil=>intro _;simp
 |cons x l ih=>
  intro h
  simp[List.mapM_cons,h x (by simp),ih (fun y hy=>h y (by simp[hy]))]
theorem R4 {P:an}{S:St}{t:ao}{parts jR:a4 (a3×af)}{v:af}(hp:PR S parts jR)(h:cC P t parts=some v):Reads P S (Instr.build t jR.toArray) v:=by
 unfold cC at h
 split at h
 ·rename_i fs z hu hz
  split at h
  ·rename_i hc
   simp only[a5,List.all_eq_true] at hc
   split at h
   ·rename_i l hl
    obtain rfl:=ab h
    let g' :Field->a3×a3:=fun f=>(f.offset,(aX P f.type).getD 0)
    have Zl:(fs.mapM (fun f=>Prod.mk f.offset<$>sizeOf f.type):Sem (bg (a3×a3))).run P S.w= .ok (fs.map g') S.w:=by
     rw[Array.mapM_eq_mapM_toList]
     have:=U5 (P:=P) S.w (fun f:Field=>(Prod.mk f.offset<$>sizeOf f.type:Sem (a3×a3))) g' fs.toList (fun f hf=>by
      obtain⟨n,hn⟩:=Option.isSome_iff_exists.1 (hc.2 f hf)
      simp[run_sizeOf hn,g',hn])
     simp only[Sem.run_map,this,aR]
     congr 1
     rw[<-cz];simp
    obtain⟨l',h1,h2⟩:=Ix (placeOf P fs) ((fs.map g')[·]?) (fun i=>by
     simp only[placeOf,fb]
     cases hfi:fs[i]? with
     |none=>rfl
     |some f=>
      have pT:f∈fs.toList:=by
       have:=Array.mem_of_getElem? hfi
       simpa using this
      obtain⟨n,hn⟩:=Option.isSome_iff_exists.1 (hc.2 f pT)
      simp[hn,g']) parts jR _ z.cells l hp (lq hc.1).cells hl
    refine⟨.agg l',?_,.agg _ _ h2.1 h2.2⟩
    simp only[fb] at h1
    simp[Instr.build,dK hz,run_underlying hu,Zl,h1]
   ·cases h
  ·cases h
 ·rename_i n e z hu hz
  split at h
  ·rename_i sz hs
   split at h
   ·rename_i hc
    split at h
    ·rename_i l hl
     obtain rfl:=ab h
     obtain⟨l',h1,h2⟩:=Ix (fun i=>some (i*sz,sz)) (fun i=>some (i*sz,sz)) (fun _=>rfl) parts jR _ z.cells l hp (lq hc).cells hl
     refine⟨.agg l',?_,.agg _ _ h2.1 h2.2⟩
     simp[Instr.build,dK hz,run_underlying hu,run_sizeOf hs,h1]
    ·cases h
   ·cases h
  ·cases h
 ·cases h
theorem dL (z:a4 af):∀n,(bB z n).length=n*z.length
 |0=>by simp[bB]
 |n+1=>by rw[bB,b7,dL z n,Nat.succ_mul];omega
theorem wS (z:a4 af)(hz:0<z.length):∀n p,p<n*z.length->(bB z n).getD p undef=z.getD (p%z.length) undef
 |0,p,h=>by simp at h
 |n+1,p,h=>by
  rw[bB]
  by_cases hp:p<z.length
  ·rw[eH _ _ _ hp,Nat.mod_eq_of_lt hp]
  ·rw[kB _ _ _ (by omega),wS z hz n (p-z.length) (by rw[dD,Nat.one_mul] at h;omega),<-Nat.mod_eq_sub_mod (by omega)]
theorem R5 (z:bg af)(n p:a3)(h:p<n)(hz:0<z.size):((eB n).map (z[·%z.size]!)).toList.getD p undef=z.toList.getD (p%z.size) undef:=by
 have h2:p%z.size<z.size:=hA _ hz
 simp[a7,h,h2]
theorem wT {S:St}{z:af}(hp:bN z=true){n:a3}(hn:z.cells.toList.length=n)(len m:a3)(hle:len*n<=m):∀p,p<len*n->VR S ((bB z.cells.toList len).getD p undef) (((eB m).map (z.cells[·%z.cells.size]!)).toList.getD p undef):=by
 intro p h
 have BV:0<n:=by
  rcases Nat.eq_zero_or_pos n with h0|h0
  ·subst h0;simp at h
  ·exact h0
 have cf:z.cells.size=n:=by simpa using hn
 rw[wS _ (by omega) len p (by rw[hn];exact h),R5 _ _ _ (by omega) (by omega),hn,cf]
 exact((lq hp).cells (S:=S)).2 _ (by rw[hn];exact hA _ BV)
theorem sO {P:an}{base:a3}{S:St}(h:SR base S){s0:aq}{next:a3}(dC:mV S s0.next next){t:ao}{len:a3}{parts jR:a4 (a3×af)}{v:af}{s' :aq}(hp:PR S parts jR)(hb:aO P s0 t len parts=some (v,s')):
  sK P base S (Instr.buildSlice t len jR.toArray) v s0 s' next:=by
 unfold aO at hb
 split at hb
 ·rename_i e hu
  split at hb
  ·rename_i n z hn hz
   split at hb
   ·rename_i hc
    simp only[a5,cp,bz] at hc
    obtain⟨⟨hle,ph⟩,Ni⟩:=hc
    split at hb
    ·rename_i l hl
     have mO:(bB z.cells.toList len).length=len*n:=by rw[dL,Ni]
     obtain⟨l',h1,h2⟩:=Ix (fun i=>some (i*n,n)) (fun i=>some (i*n,n)) (fun _=>rfl) parts jR _ ((eB (len*n)).map (z.cells[·%z.cells.size]!)) l hp
      ⟨by rw[mO];simp,fun p hp=>wT ph Ni len (len*n) (a6 _) p (by rw[mO] at hp;exact hp)⟩ hl
     have wJ:l.length=l'.size:=by have:=h2.1;simpa using this
     have aq2:l'.size=len*n:=by
      have:∀(ps:a4 (a3×af)) (cs:a4 af) (l:a4 af),fG (fun i=>some (i*n,n)) cs ps=some l->l.length=cs.length:=by
       intro ps
       induction ps with
       |nil=>intro cs l h;simp only[fG] at h;obtain rfl:=ab h;rfl
       |cons x r ih=>
        intro cs l h
        obtain⟨i,v⟩:=x
        simp only[fG] at h
        split at h
        ·split at h
         ·rename_i m hm
          rw[ih m l h];exact(vu _ _ _ _ hm).1
         ·cases h
        ·cases h
      rw[<-wJ,this _ _ _ hl,mO]
     obtain⟨b,k0,T,k1,k2,k3,k4⟩:=oJ h dC hb l' e (0,0) (S.w.alloc (.cells l' e)) len ⟨rfl,rfl,rfl,rfl⟩ (.inl rfl) (by omega) h2.2 (a6 _) (by omega)
     refine⟨b,k0,T,_,k1,?_,k3,k4⟩
     rw[k2]
     have ali:¬(16777216<len*n):=by omega
     by_cases h0:len*n=0
     ·have hr:eB (len*n)= #[]:=by rw[h0];rfl
      rw[hr] at h1
      simp only[Array.map_empty] at h1
      simp[Instr.buildSlice,run_underlying hu,run_sizeOf hn,h0]
      rw[show eB 0= #[] from rfl]
      simp[h1,newRow]
     ·have h2' :¬len*n>2^24:=by omega
      simp only[Instr.buildSlice,Sem.run_bind,run_underlying hu,aR,run_sizeOf hn,bn h2',Sem.run_pure,bn h0,dK hz]
      rw[h1]
      simp[newRow]
    ·cases hb
   ·cases hb
  ·cases hb
 ·cases hb
theorem uO {P:an}{base:a3}{S:St}(h:SR base S){s0:aq}{next:a3}(dC:mV S s0.next next){t:ao}{x y x' y' v:af}{s' :aq}(hx:VR S x x')(hy:VR S y y')(hb:ef P s0 t x y=some (v,s')):
  sK P base S (Instr.makeSlice t x' y') v s0 s' next:=by
 unfold ef at hb
 split at hb
 ·rename_i e k l k2 c hu
  cases hx;cases hy
  split at hb
  ·rename_i n z oo hn hz sQ
   split at hb
   ·rename_i hc
    simp only[a5,cp,bz] at hc
    obtain⟨⟨⟨⟨jL,iK⟩,kY⟩,ph⟩,Ni⟩:=hc
    obtain⟨i,hi,hiz⟩:=wN hz
    have his:i.size=n:=by obtain⟨i2,Ki,h3⟩:=wM hn;rw[hi] at Ki;obtain rfl:=ab Ki;exact h3
    have hib:i.bytes=oo:=by obtain⟨i2,Ki,h3⟩:=pj sQ;rw[hi] at Ki;obtain rfl:=ab Ki;exact h3
    have gp:=run_make (P:=P) S.w t e i z hu hi hiz k k2 (Int.ofNat l) (Int.ofNat c) (Int.natCast_nonneg _) (Int.ofNat_le.2 jL) (by rw[hib];exact(show((oo*c:a3):fk)<=((281474976710656:a3):fk) from Int.ofNat_le.2 (by omega))) (show((c:a3):fk)<=((9223372036854775807:a3):fk) from Int.ofNat_le.2 (by omega))
    have mO:(bB z.cells.toList l).length=l*n:=by rw[dL,Ni]
    have zP:l*n<=c*n:=cd _ jL
    obtain⟨b,k0,T,k1,J2,k3,k4⟩:=oJ h dC hb (madeCells z.cells (c*n)) e (0,0) (S.w.alloc (.cells (madeCells z.cells (c*n)) e)) c ⟨rfl,rfl,rfl,rfl⟩ (.inl rfl) (by rw[mO,size_madeCells];exact zP)
     (fun p hp=>wT ph Ni l (c*n) zP p (by rw[mO] at hp;exact hp)) jL (by rw[size_madeCells];exact a6 _)
    refine⟨b,k0,T,_,k1,?_,k3,k4⟩
    rw[J2,gp,his]
    rfl
   ·cases hb
  ·cases hb
 ·cases hb
theorem Kv (s:eg):s.extract 0 s.size=s:=by
 apply yK
 rw[ByteArray.data_extract,eT]
 simp only[g1,List.drop_zero,gT]
 rw[List.take_of_length_le (by rw[<-size_data];exact a6 _)]
theorem B5 {P:an}{base:a3}{S:St}(h:SR base S){z n:a3}{y y' :af}{new:a4 af}(hy:VR S y y')(hs:dV S.s z y=some (n,new)):
  ∃new',eR S new new' /\new.length=n*z/\∀W:bo,W.heap=S.w.heap->(c5 y').run P W= .ok n W/\(a9 z n y').run P W= .ok new'.toArray W:=by
 unfold dV at hs
 split at hs
 ·injection hs with hs;injection hs with e1 e2;subst e1;subst e2
  cases hy
  exact⟨[],eR.nil,by simp,fun W _=>by simp[c5,a9]⟩
 ·rename_i i off m c
  cases hy with
  |slice _ _ _ _ a cap h0 hz hr=>
  split at hs
  ·injection hs with hs;injection hs with e1 e2;subst e1;subst e2
   exact⟨[],eR.nil,by simp,fun W _=>by simp[c5,a9,loadCells,loadCellsFrom]⟩
  ·rename_i m
   split at hs
   ·rename_i l hl
    injection hs with hs;injection hs with e1 e2;subst e1;subst e2
    obtain⟨b,hb,fq,_,_,zP,Gg,iZ⟩:=h.cells hl
    obtain⟨⟨b',pL,_,Iw⟩,_⟩:=hr (by omega)
    rw[hb] at pL;obtain rfl:=ab pL
    obtain rfl:=Iw fq.1
    refine⟨_,Gg,zP,fun W hW=>⟨by simp[c5],?_⟩⟩
    have hc:∀k o,W.cell? ⟨k,o,none⟩=S.w.cell? ⟨k,o,none⟩:=fun k o=>c8 (by rw[hW])
    have:=run_loadCells P W (S.e.loc i c).1 ((S.e.loc i c).2+off) _ (fun p hp=>by rw[hc];exact iZ p hp)
    simp only[a9]
    rw[this]
    congr 2
    simp only[yI,hc]
   ·cases hs
 ·rename_i b
  cases hy
  split at hs
  ·rename_i hz
   obtain rfl:z=1:=by simpa [bz] using hz
   injection hs with hs;injection hs with e1 e2;subst e1;subst e2
   refine⟨ofBytes b.data.toList,uN _,by simp[ofBytes],fun W _=> ?_⟩
   rw[<-size_data]
   refine⟨by simp[c5],?_⟩
   simp only[a9,Kv,Sem.run_pure]
   congr 1
   rw[<-cz]
   simp[ofBytes]
  ·cases hs
 ·cases hs
section
variable {P:an} {w:bo} {ts:bg ao} {ava:bg af} {st xt e ty:ao} {xd:TypeDesc} {z oo n pn wU:a3} {zv:af} {bs:av Addr} {y:af} {new:a4 af}
def Src (P:an)(w w2:bo)(e:ao)(z:a3)(xd:TypeDesc)(y:af)(n:a3)(new:a4 af):Prop:=
 (((∃e2,xd= .slice e2)\/xd= .string)/\(c5 y).run P w= .ok n w/\(a9 z n y).run P w2= .ok new.toArray w2)\/
 (∃k kk i zv,xd= .int k/\y= .int kk n/\P.info? e=some i/\n*i.bytes<=140737488355328/\n<=140737488355328/\bV P e=some zv/\zv.cells.size=z/\0<z/\new=(bl zv.cells n).toList)
theorem wrap_small {n:a3}(h:n<=140737488355328):IntKind.i64.wrap (n:fk)=n:=by
 have e1:IntKind.i64.bits=64:=rfl
 have e2:IntKind.i64.signed=true:=rfl
 simp only[IntKind.wrap,e1,e2,eC]
 simp
 omega
theorem rN (h0:ts[0]?=some st)(h1:ts[1]?=some xt)(a0:ava[0]?=some (.slice bs pn wU))(a1:ava[1]?=some y)(hu:P.underlying st=some (.slice e))(hx:P.underlying xt=some xd)
  (hz:aX P e=some z) (Iy:Src P w w e z xd y n new) (dd:pn+n<=wU) (hn:n=0) (mA:new=[]):
  (bq ts ty ava).run P w= .ok (.slice bs pn wU) w:=by
 subst hn;subst mA
 have hr:pn<=wU:=by omega
 rcases Iy with ⟨Ux,hlen,YM⟩|⟨k,kk,i,zv,rfl,rfl,hi,gL,dI,uP,Nj,hzp,mA⟩
 ·cases bs with
  |none=>rcases Ux with ⟨e2,rfl⟩|rfl<;>simp[bq,h0,h1,a0,a1,run_underlying hu,run_underlying hx,run_sizeOf hz,hlen,hr,YM]
  |some a=>rcases Ux with ⟨e2,rfl⟩|rfl<;>simp[bq,h0,h1,a0,a1,run_underlying hu,run_underlying hx,run_sizeOf hz,hlen,hr,YM,storeCells]
 ·have hw:IntKind.i64.wrap 0=0:=wrap_small (n:=0) (by omega)
  have YN:∀W:bo,(typeInfo e).run P W= .ok i W:=fun W=>by simp[typeInfo,hi]
  cases bs with
  |none=>simp[bq,h0,h1,a0,a1,run_underlying hu,run_underlying hx,run_sizeOf hz,hr,asInt,asIntOf,hw,YN]
  |some a=>simp[bq,h0,h1,a0,a1,run_underlying hu,run_underlying hx,run_sizeOf hz,hr,asInt,asIntOf,hw,YN,storeCells]
theorem uQ {a:Addr}{w' :bo}(h0:ts[0]?=some st)(h1:ts[1]?=some xt)(a0:ava[0]?=some (.slice (some a) pn wU))(a1:ava[1]?=some y)(hu:P.underlying st=some (.slice e))(hx:P.underlying xt=some xd)
  (hz:aX P e=some z) (Iy:Src P w w e z xd y n new) (BV:0<n) (dd:pn+n<=wU) (aE:(storeCells (a.add (pn*z)) new).run P w= .ok () w'):
  (bq ts ty ava).run P w= .ok (.slice (some a) (pn+n) wU) w' :=by
 rcases Iy with ⟨Ux,hlen,YM⟩|⟨k,kk,i,zv,rfl,rfl,hi,gL,dI,uP,Nj,hzp,mA⟩
 ·rcases Ux with ⟨e2,rfl⟩|rfl<;>simp[bq,h0,h1,a0,a1,run_underlying hu,run_underlying hx,run_sizeOf hz,hlen,dd,YM,aE]
 ·have hw:=wrap_small dI
  have YN:∀W:bo,(typeInfo e).run P W= .ok i W:=fun W=>by simp[typeInfo,hi]
  have R6:¬(n:fk)<0:=by omega
  have mv:¬(281474976710656<(n:fk)*(i.bytes:fk)):=by
   have:((n*i.bytes:a3):fk)=(n:fk)*(i.bytes:fk):=by push_cast;rfl
   omega
  have hnz:¬n*z=0:=by have:=eX BV hzp;omega
  subst mA
  simp[bq,h0,h1,a0,a1,run_underlying hu,run_underlying hx,run_sizeOf hz,dd,aE,asInt,asIntOf,hw,YN,R6,mv,hnz,dK uP]
theorem pr {old:bg af}(h0:ts[0]?=some st)(h1:ts[1]?=some xt)(a0:ava[0]?=some (.slice bs pn wU))(a1:ava[1]?=some y)(hu:P.underlying st=some (.slice e))(hx:P.underlying xt=some xd)
  (hz:aX P e=some z) (hb8:eY P e=some oo) (uP:bV P e=some zv) (Iy:Src P w w.drew e z xd y n new) (BV:0<n)
  (dd:¬pn+n<=wU) (hold:(a9 z pn (.slice bs pn wU)).run P w.drew= .ok old w.drew) (yO:pn+n<=140737488355328) (Fj:(pn+n)*oo<=140737488355328):
  (bq ts ty ava).run P w= .ok (.slice (some ⟨w.heap.size,0,none⟩) (pn+n) (grownCap w (pn+n) wU e))
   (w.drew.alloc (.cells (old++new.toArray++bl zv.cells (grownCap w (pn+n) wU e-(pn+n))) e)):=by
 obtain⟨i,hi,rfl⟩:=pj hb8
 have Zm:¬(9223372036854775807<((pn:fk)+(n:fk))):=by omega
 have ln:e5 (pn+n) wU*i.bytes<=281474976710656:=growslice_fits (by omega) (by omega)
 have mv:¬(281474976710656<e5 (pn+n) wU*i.bytes):=by omega
 have YN:∀W:bo,(typeInfo e).run P W= .ok i W:=fun W=>by simp[typeInfo,hi]
 have Iz:∀(W:bo) (k:a3),(askRoom k).run P W= .ok () W:=fun W k=>by
  unfold askRoom
  split
  ·rfl
  ·rfl
 rcases Iy with ⟨Ux,hlen,YM⟩|⟨k,kk,i2,zv2,rfl,rfl,Ki,gL,dI,agD,Nj,hzp,mA⟩
 ·rcases Ux with ⟨e2,rfl⟩|rfl<;>simp[bq,h0,h1,a0,a1,run_underlying hu,run_underlying hx,run_sizeOf hz,hlen,dd,YM,hold,YN,Zm,mv,dK uP,Question.forced,Iz,newRow,grownCap]
 ·rw[uP] at agD
  obtain rfl:=ab agD
  rw[hi] at Ki
  obtain rfl:=ab Ki
  have hw:=wrap_small dI
  have R6:¬(n:fk)<0:=by omega
  have alk:¬(281474976710656<(n:fk)*(i.bytes:fk)):=by
   have:((n*i.bytes:a3):fk)=(n:fk)*(i.bytes:fk):=by push_cast;rfl
   omega
  have hnz:¬n*z=0:=by have:=eX BV hzp;omega
  subst mA
  simp[bq,h0,h1,a0,a1,run_underlying hu,run_underlying hx,run_sizeOf hz,dd,hold,YN,Zm,mv,dK uP,Question.forced,Iz,newRow,grownCap,asInt,asIntOf,hw,R6,alk,hnz]
end
theorem Zn {P:an}{base:a3}{S:St}(h:SR base S){e:ao}{z n oo:a3}{zv:af}{xd:TypeDesc}{y y' :af}{new:a4 af}(hz:aX P e=some z)(sQ:eY P e=some oo)(uP:bV P e=some zv)
  (Qc:(match xd with| .slice _=>true| .string=>true| .int _=>true|_=>false)=true) (hy:VR S y y') (hs:Im S.s z oo zv xd y=some (n,new)):
  ∃new',eR S new new' /\new.length=n*z/\∀W W2:bo,W.heap=S.w.heap->W2.heap=S.w.heap->Src P W W2 e z xd y' n new' :=by
 cases xd<;>try (cases Qc;done)
 case int k=>
  simp only[Im] at hs
  split at hs
  case h_2=>cases hs
  rename_i kk m
  split at hs
  case isFalse=>cases hs
  rename_i hc
  simp only[a5,cp,bz,dU] at hc
  obtain⟨⟨⟨⟨gL,dI⟩,ph⟩,Ni⟩,hzp⟩:=hc
  injection hs with hs;injection hs with e1 e2;subst e1;subst e2
  cases hy
  obtain⟨i,hi,hib⟩:=pj sQ
  have Nj:zv.cells.size=z:=by simpa using Ni
  refine⟨(bl zv.cells m).toList,⟨by rw[dL,Ni];simp[bl,Nj],fun p hp=> ?_⟩,by rw[dL,Ni],fun W W2 _ _=> .inr ⟨k,kk,i,zv,rfl,rfl,hi,by rw[hib];exact gL,dI,uP,Nj,hzp,rfl⟩⟩
  rw[dL,Ni] at hp
  exact wT (S:=S) ph Ni m (m*zv.cells.size) (by rw[Nj];exact a6 _) p hp
 case slice e2=>
  obtain⟨new',h1,h2,h3⟩:=B5 (P:=P) h hy (by simpa [Im] using hs)
  exact⟨new',h1,h2,fun W W2 hW hW2=> .inl ⟨.inl ⟨e2,rfl⟩,(h3 W hW).1,(h3 W2 hW2).2⟩⟩
 case string=>
  obtain⟨new',h1,h2,h3⟩:=B5 (P:=P) h hy (by simpa [Im] using hs)
  exact⟨new',h1,h2,fun W W2 hW hW2=> .inl ⟨.inr rfl,(h3 W hW).1,(h3 W2 hW2).2⟩⟩
theorem wV {base:a3}{S:St}(h:SR base S){i off c len z:a3}{old:a4 af}(hc:S.s.dr i off c (len*z)=some old):dV S.s z (.slice (some ⟨i,off,none⟩) len c)=some (len,old):=by
 cases len with
 |zero=>
  obtain⟨_,_,_,_,_,hl,_⟩:=h.cells hc
  have:old=[]:=eu (by simpa using hl)
  simp[dV,this]
 |succ m=>simp[dV,hc]
theorem B6 (z:bg af)(n:a3):(bl z n).size=n*z.size:=by simp[bl]
theorem B7 {old new:a4 af}{zv:af}{z len n cap:a3}(ho:old.length=len*z)(hn:new.length=n*z)(hz:zv.cells.toList.length=z)(pR:len+n<=cap):
  (old.toArray++new.toArray++bl zv.cells (cap-(len+n))).size=cap*z:=by
 simp only[fB,List.size_toArray,B6]
 have:zv.cells.size=z:=by simpa using hz
 rw[this,ho,hn,<-dD,<-dD]
 congr 1
 omega
theorem B8 {old new:a4 af}{zs:bg af}(p:a3)(h:p<old.length+new.length):(old.toArray++new.toArray++zs).toList.getD p undef=(old++new).getD p undef:=by
 simp only[dv]
 rw[eH _ _ _ (by simpa using h)]
theorem NN {P:an}{base:a3}{S:St}(h:SR base S){st xt ty:ao}{x y x' y' v:af}{s' :aq}(hx:VR S x x')(hy:VR S y y')(ha:gW P S.s st xt x y=some (v,s')){ts:bg ao}{ava:bg af}
  (h0:ts[0]?=some st) (h1:ts[1]?=some xt) (a0:ava[0]?=some x') (a1:ava[1]?=some y'):oz P base S (bq ts ty ava) v s' :=by
 unfold gW at ha
 split at ha
 case h_2=>cases ha
 rename_i e xd hu hxu
 split at ha
 case h_1=>cases ha
 rename_i Qc
 split at ha
 case h_2=>cases ha
 rename_i z oo zv hz sQ uP
 split at ha
 case h_2=>cases ha
 rename_i n new Iy
 obtain⟨new',U6,J1,gp⟩:=Zn (P:=P) h hz sQ uP Qc hy Iy
 have B9:new'.length=n*z:=by rw[<-U6.1];exact J1
 have Nk:=gp S.w S.w rfl rfl
 have hsd:=gp S.w S.w.drew rfl rfl
 split at ha
 case h_2=>cases ha
 rename_i a len c
 split at ha
 case isFalse=>cases ha
 rename_i iy
 simp only[a5,cp,dU,bz] at iy
 obtain⟨⟨⟨⟨Fj,yO⟩,abK⟩,ade⟩,oK⟩:=iy
 have agE:=U6.aL ade
 cases n with
 |zero=>
  simp only at ha
  injection ha with ha;injection ha with e1 e2;subst e1;subst e2
  have uy:new' =[]:=eu (by rw[B9];simp)
  have Bo:=hx
  cases hx with
  |gK=>exact⟨S,_,rfl,rN h0 h1 a0 a1 hu hxu hz Nk (a6 _) rfl uy,Bo,Good.refl h⟩
  |slice i off _ _ a cap hle _ _=>exact⟨S,_,rfl,rN h0 h1 a0 a1 hu hxu hz Nk hle rfl uy,Bo,Good.refl h⟩
 |succ m=>
  simp only at ha
  have g8:0<m+1:=Nat.succ_pos _
  generalize m+1=n at*
  have fresh:∀(bs:av Addr),ava[0]?=some (.slice bs 0 0)->aZ S.s new n z=some (v,s')->oz P base S (bq ts ty ava) v s' :=by
   intro bs hb hn
   have hold:(a9 z 0 (.slice bs 0 0)).run P S.w.drew= .ok #[] S.w.drew:=by cases bs<;>simp[a9,loadCells,loadCellsFrom]
   have agF:(0+n)*oo<=140737488355328:=fl (cd _ (by omega)) Fj
   have hr:=pr (ty:=ty) h0 h1 hb a1 hu hxu hz sQ uP hsd g8 (by omega) hold (by omega) agF
   have Ku:=grownCap_ge S.w (0+n) 0 e
   have cf:=B7 (old:=[]) (new:=new') (zv:=zv) (z:=z) (len:=0) (n:=n) (cap:=grownCap S.w (0+n) 0 e) (by simp) B9 oK Ku
   obtain⟨T,k1,k2,k3,k4⟩:=sL h hn ([].toArray++new'.toArray++bl zv.cells (grownCap S.w (0+n) 0 e-(0+n))) e (0,0)
    (S.w.drew.alloc (.cells ([].toArray++new'.toArray++bl zv.cells (grownCap S.w (0+n) 0 e-(0+n))) e)) (grownCap S.w (0+n) 0 e) ⟨rfl,rfl,rfl,rfl⟩ (.inl rfl)
    (by rw[cf,J1];exact cd _ (by omega)) (fun p hp=>by rw[B8 p (by simp;rw[B9];omega),List.nil_append];exact U6.2 p hp) (by omega) (by rw[cf];exact a6 _)
   rw[ew] at hr
   refine⟨T,_,k1,?_,k3,k4⟩
   rw[k2,hr]
   simp
  split at ha
  ·
   split at ha
   ·cases hx;exact fresh none a0 ha
   ·cases ha
  ·rename_i i off
   cases hx with
   |slice _ _ _ _ a1' cap hle wC hr=>
   split at ha
   ·split at ha
    ·rename_i kW
     obtain rfl:len=0:=by simpa [bz] using kW
     obtain rfl:=wC rfl
     exact fresh (some a1') a0 ha
    ·cases ha
   ·rename_i c0
    simp only[ev] at ha hr wC
    split at ha
    case h_2=>cases ha
    rename_i b hb
    split at ha
    case isFalse=>cases ha
    rename_i kY
    simp only[a5,cp,bz] at kY
    obtain⟨⟨lh,jw⟩,R2⟩:=kY
    split at ha
    ·
     rename_i yP
     simp only[a5,bz] at yP
     obtain⟨⟨Fb,rfl⟩,kD⟩:=yP
     injection ha with ha;injection ha with e1 e2;subst e1;subst e2
     have fq:Live b (c0+1):=⟨jw,Nat.le_of_eq Fb⟩
     have ajX:0<n*z:=eX g8 abK
     by_cases dd:len+n<=cap
     ·obtain⟨⟨b',pL,_,Iw⟩,pR⟩:=hr (by omega)
      rw[hb] at pL;obtain rfl:=ab pL
      obtain rfl:=Iw fq.1
      obtain⟨arr,E,fr,hk,ln⟩:=pR b hb jw
      obtain⟨_,⟨adf,E2,fr2,oB,Fk⟩,_⟩:=h.own i b hb lh _ fq
      have sj:=hk
      simp only at sj
      rw[sj] at oB
      injection oB with oB;injection oB with q1 q2 q3
      subst q1;subst q2;subst q3
      simp only[dO] at ln
      rw[R2] at ln
      have hmul:(len+n)*z<=cap*z:=cd _ dd
      rw[dD] at hmul
      have abL:(S.e.loc i (c0+1)).2+b.cells.length+new'.length<=arr.size:=by rw[B9,<-kD];omega
      have hg:=Good.UP h hb lh fq Fb U6 sj abL
      have aE:=kA P (S.e.loc i (c0+1)).1 ((S.e.loc i (c0+1)).2+0+len*z) new' S.w 0 arr E fr sj Fk (by omega) agE
      rw[show(S.e.loc i (c0+1)).2+0+len*z+0=(S.e.loc i (c0+1)).2+b.cells.length by omega] at aE
      have U7:=uQ (ty:=ty) h0 h1 a0 a1 hu hxu hz Nk g8 dd (by rw[Addr.add_lit];exact aE)
      refine⟨_,_,rfl,U7,.slice _ _ _ _ _ _ (by omega) (fun q=>by omega) (fun _=>⟨⟨{b with cells:=b.cells++new},aq.ck _ _ _ (by have:=h.lt hb;have:=h.room;omega),a6 _,fun _=> ?_⟩,fun b2 dI _=> ?_⟩),hg⟩
      ·simp only[fo,b7]
       rw[cg (by rw[J1];omega)]
      ·rw[aq.ck _ _ _ (by have:=h.lt hb;have:=h.room;omega)] at dI
       obtain rfl:=ab dI
       obtain⟨kn,q1,q2,_⟩:=iw new' S.w _ _ arr E fr sj abL
       exact⟨kn,E,fr,q1,by rw[q2];simp only[dO];rw[R2];exact ln⟩
     ·have mB:S.s.dr i 0 (c0+1) (len*z)=some b.cells:=by
       simp only[aq.dr,hb]
       rw[cg (by simp only[a5,cp,dU];exact⟨⟨jw,by omega⟩,by omega⟩),wI,sD,kD]
       simp
      obtain⟨Kw,hvo,Bp,U8⟩:=B5 (P:=P) h (VR.slice i 0 len (c0+1) a1' cap hle wC hr) (wV h mB)
      have U9:Kw.length=len*z:=by rw[<-hvo.1];exact Bp
      have A8:=pr (ty:=ty) h0 h1 a0 a1 hu hxu hz sQ uP hsd g8 dd (U8 S.w.drew rfl).2 yO Fj
      have Ku:=grownCap_ge S.w (len+n) cap e
      have cf:=B7 (old:=Kw) (new:=new') (zv:=zv) (z:=z) (len:=len) (n:=n) (cap:=grownCap S.w (len+n) cap e) U9 B9 oK Ku
      have hg:=Good.Zg (new:=new) (W:=S.w.drew.alloc (.cells (Kw.toArray++new'.toArray++bl zv.cells (grownCap S.w (len+n) cap e-(len+n))) e)) h hb lh Fb ⟨rfl,rfl,rfl,rfl⟩ (.inl rfl)
       (by rw[cf,J1,<-kD,<-dD];exact cd _ Ku) (fun p hp=>by
        rw[B8 p (by rw[U9,B9,kD,<-J1];exact hp)]
        exact(hvo.append U6).2 p (by rw[b7];exact hp))
      refine⟨_,_,rfl,A8,.slice _ _ _ _ _ _ Ku (fun q=>by omega) (fun _=>⟨⟨{b with cells:=b.cells++new},aq.ck _ _ _ (by have:=h.lt hb;have:=h.room;omega),a6 _,fun _=> ?_⟩,fun b2 dI _=> ?_⟩),hg⟩
      ·simp only[fo,b7]
       rw[cg (by rw[J1];omega)]
      ·rw[aq.ck _ _ _ (by have:=h.lt hb;have:=h.room;omega)] at dI
       obtain rfl:=ab dI
       refine⟨_,e,(0,0),heap_alloc_new S.w.drew _,?_⟩
       simp only
       rw[cf,R2,ew]
       exact a6 _
    ·
     split at ha
     case h_2=>cases ha
     rename_i old mB
     obtain⟨b2,dI,fq,_,_,Bp,_⟩:=h.cells mB
     rw[hb] at dI;obtain rfl:=ab dI
     obtain⟨Kw,hvo,_,U8⟩:=B5 (P:=P) h (VR.slice i off len (c0+1) a1' cap hle wC hr) (wV h mB)
     have U9:Kw.length=len*z:=by rw[<-hvo.1];exact Bp
     have zT:=Good.kill h hb
     generalize hS1:(⟨S.s.put i (.dZ (Cl.kill b)),S.e,S.w⟩:St)=S1 at zT
     have e1s:S1.s=S.s.put i (.dZ (Cl.kill b)):=by rw[<-hS1]
     have e1e:S1.e=S.e:=by rw[<-hS1]
     have e1w:S1.w=S.w:=by rw[<-hS1]
     have hv1:=(hvo.append U6).mono zT.ext
     rw[<-e1s] at ha
     by_cases dd:len+n<=cap
     ·obtain⟨⟨b',pL,_,Iw⟩,pR⟩:=hr (by omega)
      rw[hb] at pL;obtain rfl:=ab pL
      obtain rfl:=Iw fq.1
      obtain⟨arr,E,fr,hk,ln⟩:=pR b hb jw
      obtain⟨zU,⟨adf,E2,fr2,oB,Fk⟩,hex,_⟩:=h.own i b hb lh _ fq
      have sj:=hk
      simp only at sj ln
      rw[sj] at oB
      injection oB with oB;injection oB with q1 q2 q3
      subst q1;subst q2;subst q3
      rw[R2] at ln
      have hmul:(len+n)*z<=cap*z:=cd _ dd
      rw[dD] at hmul
      unfold aZ at ha
      split at ha
      case isFalse=>cases ha
      rename_i hrm
      injection ha with ha;injection ha with e1 e2;subst e1;subst e2
      have cH:∀j bj c',S1.s.bR j=some bj->Live bj c' ->(S1.e.loc j c').1≠(S.e.loc i (c0+1)).1:=by
       intro j bj c' si gZ heq
       rw[e1e] at heq
       rw[e1s] at si
       by_cases gR:j=i
       ·subst gR
        rw[aq.ck _ _ _ (by have:=h.lt hb;have:=h.room;omega)] at si
        obtain rfl:=ab si
        have q1:=gZ.1;have q2:=gZ.2;simp only[Cl.kill] at q1 q2;omega
       ·simp only[aq.bR,aq.bP _ _ _ _ (Ne.symm gR)] at si
        exact gR (hex j bj (by simpa [aq.bR] using si) c' gZ heq)
      have jS:=h.cells mB
      obtain⟨b3,sx,_,_,_,_,hvc,hcc⟩:=jS
      have hg:=Good.reuse zT.sr hrm (k:=(S.e.loc i (c0+1)).1) (o:=(S.e.loc i (c0+1)).2+off) (arr:=arr) (E:=E) (fr:=fr) (by rw[e1w];exact sj) Fk zU cH z (old:=old) (new:=new) (new' :=new') (fun p hp=>by
        rw[Bp] at hp
        obtain⟨u,YO⟩:=hcc p hp
        have:=hvc.2 p (by omega)
        rw[yJ _ _ _ _ _ hp,YO] at this
        exact⟨u,by rw[e1w];exact YO,this.mono zT.ext⟩) (U6.mono zT.ext) (by rw[Bp,B9];omega)
      have aE:=kA P (S.e.loc i (c0+1)).1 ((S.e.loc i (c0+1)).2+off+len*z) new' S.w 0 arr E fr sj Fk (by rw[B9];omega) agE
      rw[dO] at aE
      have U7:=uQ (ty:=ty) h0 h1 a0 a1 hu hxu hz Nk g8 dd (by rw[Addr.add_lit];exact aE)
      have bd:=wK hrm
      have gY:∀(bb:jZ),(S1.s.new (.dZ bb)).bR S1.s.next=some bb:=fun bb=>by simp only[aq.new,aq.bR,Tr.bD _ _ _ _ (deep (show 0<16000001 by omega))]
      rw[e1w,Bp] at hg
      refine⟨_,_,rfl,U7,.slice _ _ _ _ _ _ dd (fun q=>by omega) (fun _=>⟨⟨_,gY _,a6 _,fun _=>by simp⟩,fun b4 R7 _=> ?_⟩),zT.trans hg⟩
      rw[gY] at R7
      obtain rfl:=ab R7
      obtain⟨kn,q1,q2,_⟩:=iw new' S.w _ ((S.e.loc i (c0+1)).2+off+len*z) arr E fr sj (by rw[B9];omega)
      exact⟨kn,E,fr,q1,by rw[q2];exact ln⟩
     ·have A8:=pr (ty:=ty) h0 h1 a0 a1 hu hxu hz sQ uP hsd g8 dd (U8 S.w.drew rfl).2 yO Fj
      have Ku:=grownCap_ge S.w (len+n) cap e
      have cf:=B7 (old:=Kw) (new:=new') (zv:=zv) (z:=z) (len:=len) (n:=n) (cap:=grownCap S.w (len+n) cap e) U9 B9 oK Ku
      obtain⟨T,k1,k2,k3,k4⟩:=sL zT.sr ha (Kw.toArray++new'.toArray++bl zv.cells (grownCap S.w (len+n) cap e-(len+n))) e (0,0)
       (S.w.drew.alloc (.cells (Kw.toArray++new'.toArray++bl zv.cells (grownCap S.w (len+n) cap e-(len+n))) e)) (grownCap S.w (len+n) cap e) (by rw[e1w];exact⟨rfl,rfl,rfl,rfl⟩) (.inl rfl)
       (by rw[cf,b7,Bp,J1,<-dD];exact cd _ Ku) (fun p hp=>by
        rw[b7] at hp
        rw[B8 p (by rw[U9,B9,<-Bp,<-J1];exact hp)]
        exact hv1.2 p (by rw[b7];exact hp)) Ku (by rw[cf];exact a6 _)
      rw[e1w] at k3
      exact⟨T,_,k1,by rw[k2];exact A8,k3,zT.trans k4⟩
  ·cases ha
theorem ER.length {S:St}:∀{l:a4 (af×af)} {l' :a4 MapEntry},ER S l l' ->l'.length=l.length
 |[],[],_=>rfl
 |(_,_)::_,_::_,h=>by simp[ER.length h.2.2]
 |[],_::_,h=>h.elim
 |_::_,[],h=>h.elim
theorem nK {P:an}{w:bo}{r:a3}{es:bg MapEntry}{sf:a3}(h:w.heap[r]?=some (.map es sf)):(getObj r).run P w= .ok (.map es sf) w:=by
 simp only[getObj,Sem.run,h]
theorem Zo {P:an}{base:a3}{S:St}(h:SR base S){t ty:ao}{x x' v:af}(hx:VR S x x')(hl:bm P S.s t x=some v){ts:bg ao}{ava:bg af}(h0:ts[0]?=some t)(a0:ava[0]?=some x'):
  Reads P S (ec ts ty ava) v:=by
 unfold bm at hl
 split at hl
 ·rename_i b hu
  cases hx
  obtain rfl:=ab hl
  rw[<-size_data b]
  exact⟨_,by simp[ec,h0,a0,run_underlying hu,goInt],.int _ _⟩
 ·rename_i n e hu
  obtain rfl:=ab hl
  exact⟨_,by simp[ec,h0,a0,run_underlying hu,goInt],.int _ _⟩
 ·rename_i e a n c hu
  obtain rfl:=ab hl
  cases hx<;>exact⟨_,by simp[ec,h0,a0,run_underlying hu,goInt],.int _ _⟩
 ·rename_i k e hu
  cases hx
  obtain rfl:=ab hl
  exact⟨_,by simp[ec,h0,a0,run_underlying hu,goInt],.int _ _⟩
 ·rename_i k e r hu
  cases hx
  split at hl
  ·rename_i es he
   obtain rfl:=ab hl
   obtain⟨_,fP,sf,h1,h2⟩:=h.map r es he
   have hlen:=h2.length
   refine⟨_,?_,.int _ _⟩
   simp only[dt] at hlen
   simp[ec,h0,a0,run_underlying hu,nK h1,goInt,hlen]
  ·cases hl
 ·cases hl
theorem Zp {P:an}{S:St}{x y x' y' v:af}(hx:VR S x x')(hy:VR S y y')(h:Zb x y=some v):Reads P S (fY x' y') v:=by
 unfold Zb at h
 split at h
 ·cases hx;cases hy
  obtain rfl:=ab h
  exact⟨_,by simp[fY],.int _ _⟩
 ·cases h
theorem Zq {P:an}{S:St}{x y x' y' v:af}(hx:VR S x x')(hy:VR S y y')(h:Zc x y=some v):Reads P S (gd x' y') v:=by
 unfold Zc at h
 split at h
 ·cases hx;cases hy
  obtain rfl:=ab h
  exact⟨_,by simp[gd],.int _ _⟩
 ·cases h
theorem Kx {P:an}{S:St}(g:af->af->av af)(g' :af->af->Sem af)(hg:∀{x y x' y' v:af},VR S x x' ->VR S y y' ->g x y=some v->Reads P S (g' x' y') v):
  ∀{l l' :a4 af} {x x' v:af},VR S x x' ->eR S l l' ->Gf g x l=some v->Reads P S (l'.foldlM g' x') v:=by
 intro l
 induction l with
 |nil=>intro l' x x' v hx hl h;rw[hl.jK];simp only[Gf] at h;obtain rfl:=ab h;exact⟨_,by simp,hx⟩
 |cons y l ih=>
  intro l' x x' v hx hl h
  obtain⟨y',r',rfl,h1,h2⟩:=hl.cons_inv
  simp only[Gf] at h
  split at h
  ·rename_i u hu
   obtain⟨u',k1,k2⟩:=hg hx h1 hu
   obtain⟨v',k3,k4⟩:=ih k2 h2 h
   exact⟨v',by simp[List.foldlM_cons,k1,k3],k4⟩
  ·cases h
theorem Va (a b:eg):(a==b)=(a.data.toList==b.data.toList):=by
 show(a.data==b.data)=(a.data.toList==b.data.toList)
 by_cases h:a.data=b.data
 ·rw[h];simp
 ·have h2:¬a.data.toList=b.data.toList:=fun e=>h (cz.1 e)
  rw[beq_eq_false_iff_ne.2 h,beq_eq_false_iff_ne.2 h2]
theorem Ky (a:eg):(a==a)=true:=by rw[Va];simp
theorem wW {P:an}{t:ao}{a b:af}{r:cx}(h:zM P t a b=some r):∃d,P.underlying t=some d/\Instr.sameNow d a b=some r/\(r=true->a=b)/\(∀n,r=true->Instr.sameBits n b a=true):=by
 unfold zM at h
 split at h
 ·rename_i k0 k x k' y hu
  split at h
  ·rename_i hk
   subst hk
   obtain rfl:=ab h
   refine⟨_,hu,by simp[Instr.sameNow],fun e=> ?_,fun n e=> ?_⟩
   ·simp at e;rw[e]
   ·simp at e;cases n<;>simp[Instr.sameBits,e]
  ·cases h
 ·rename_i x y hu
  obtain rfl:=ab h
  refine⟨_,hu,by simp only[Instr.sameNow,Va],fun e=> ?_,fun n e=> ?_⟩
  ·rw[yK (eq_of_beq e)]
  ·have:=yK (eq_of_beq e)
   subst this
   cases n<;>simp[Instr.sameBits,Ky]
 ·cases h
theorem Ca {P:an}{S:St}{t:ao}{k:af}{d:TypeDesc}(hd:P.underlying t=some d):∀{es:a4 (af×af)} {fP:a4 MapEntry} {r:av af} (i:a3),ER S es fP->BL P t k es=some r->
  (r=none/\Instr.findNow d k fP i=some none)\/∃v v' j,r=some v/\Instr.findNow d k fP i=some (some (j,v'))/\VR S v v'
 |[],[],r,i,_,h=>by simp only[BL] at h;obtain rfl:=ab h;exact .inl ⟨rfl,rfl⟩
 |(k1,v1)::es,e::fP,r,i,he,h=>by
  obtain⟨h1,h2,h3⟩:=he
  simp only[BL] at h
  split at h
  ·rename_i hk
   obtain rfl:=ab h
   obtain⟨d',Vb,hs,_⟩:=wW hk
   rw[hd] at Vb;obtain rfl:=ab Vb
   exact .inr ⟨v1,e.val,i,rfl,by simp only[Instr.findNow,h1,hs],h2⟩
  ·rename_i hk
   obtain⟨d',Vb,hs,_⟩:=wW hk
   rw[hd] at Vb;obtain rfl:=ab Vb
   have:=Ca hd (i+1) h3 h
   simp only[Instr.findNow,h1,hs]
   exact this
  ·cases h
 |[],_::_,_,_,he,_=>he.elim
 |_::_,[],_,_,he,_=>he.elim
theorem run_findKey {P:an}{w:bo}{t:ao}{d:TypeDesc}{k:af}{es:a4 MapEntry}{r:av (a3×af)}(hd:P.underlying t=some d)(h:Instr.findNow d k es 0=some r):(Instr.findKey t k es).run P w= .ok r w:=by
 simp[Instr.findKey,run_underlying hd,h]
theorem Cb {P:an}{w:bo}{t:ao}{k:af}(h:jJ P t k=true)(e:cx)(n:a3):(Instr.checkKey e (n+1) t k).run P w= .ok () w:=by
 unfold jJ at h
 split at h
 ·rename_i hu;simp[Instr.checkKey,run_underlying hu]
 ·rename_i hu;simp[Instr.checkKey,run_underlying hu]
 ·cases h
theorem wX {P:an}{t:ao}{k:af}(h:jJ P t k=true):∃d,P.underlying t=some d:=by
 unfold jJ at h
 split at h
 ·exact⟨_,‹_›⟩
 ·exact⟨_,‹_›⟩
 ·cases h
theorem Cc {P:an}{S:St}{t:ao}{k k' :af}(h:jJ P t k=true)(hk:VR S k k'):k' =k:=by
 unfold jJ at h
 split at h
 ·cases hk;rfl
 ·cases hk;rfl
 ·cases h
theorem NO {P:an}{base:a3}{S:St}(h:SR base S){t:ao}{m k m' k' v:af}{ok:cx}(hm:VR S m m')(hk:VR S k k')(hl:mT P S.s t m k ok=some v):Reads P S (Instr.lookup t m' k' ok) v:=by
 unfold mT at hl
 split at hl
 case h_2=>cases hl
 rename_i kt et hu
 split at hl
 case h_2=>cases hl
 rename_i z hz sj
 obtain rfl:=Cc sj hk
 obtain⟨d,hd⟩:=wX sj
 split at hl
 case isFalse=>cases hl
 rename_i ph
 have J3:∀(e:cx),(Instr.checkKey e 10000 kt k').run P S.w= .ok () S.w:=fun e=>Cb sj e 9999
 have main:∀(fP:a4 MapEntry) (r:av (a3×af)) (rv:av af) (arr:bg MapEntry),arr.toList=fP->Instr.findNow d k' fP 0=some r->((rv=none/\r=none)\/∃u u' j,rv=some u/\r=some (j,u')/\VR S u u')->
   (match rv with|some v=>some (if ok then Value.tuple #[v,.bool true] else v)|none=>some (if ok then Value.tuple #[z,.bool false] else z))=some v->
   ((m' = .map none/\arr= #[])\/∃r sf,m' = .map (some r)/\S.w.heap[r]?=some (.map arr sf))->Reads P S (Instr.lookup t m' k' ok) v:=by
  intro fP r rv arr ac2 hf alo hv ky
  have hfk:(Instr.findKey kt k' arr.toList).run P S.w= .ok r S.w:=run_findKey hd (by rw[ac2];exact hf)
  rcases alo with ⟨rfl,rfl⟩|⟨u,u',j,rfl,rfl,J4⟩
  ·simp only at hv
   obtain rfl:=ab hv
   refine⟨if ok then .tuple #[z,.bool false] else z,?_,?_⟩
   ·rcases ky with ⟨rfl,rfl⟩|⟨r,sf,rfl,hr⟩
    ·simp only[Instr.lookup,Sem.run_bind,run_underlying hu,aR,J3,hfk,dK hz,Sem.run_pure]
    ·simp only[Instr.lookup,Sem.run_bind,run_underlying hu,aR,nK hr,J3,hfk,dK hz,Sem.run_pure]
   ·cases ok
    ·exact lq ph
    ·exact eR.tuple (l:=[z,.bool false]) (l' :=[z,.bool false]) (eR.cons (lq ph) (eR.cons (.bool _) eR.nil))
  ·simp only at hv
   obtain rfl:=ab hv
   refine⟨if ok then .tuple #[u',.bool true] else u',?_,?_⟩
   ·rcases ky with ⟨rfl,rfl⟩|⟨r,sf,rfl,hr⟩
    ·simp only[Instr.lookup,Sem.run_bind,run_underlying hu,aR,J3,hfk,Sem.run_pure]
    ·simp only[Instr.lookup,Sem.run_bind,run_underlying hu,aR,nK hr,J3,hfk,Sem.run_pure]
   ·cases ok
    ·exact J4
    ·exact eR.tuple (l:=[u,.bool true]) (l' :=[u',.bool true]) (eR.cons J4 (eR.cons (.bool _) eR.nil))
 split at hl
 ·rename_i v0 rO
  split at rO
  ·cases rO
  ·rename_i r
   cases hm
   split at rO
   ·rename_i es he
    obtain⟨_,fP,sf,h1,h2⟩:=h.map r es he
    rcases Ca hd 0 h2 rO with ⟨e,_⟩|⟨u,u',j,e,hf,hvr⟩
    ·cases e
    ·exact main fP.toList _ (some v0) fP rfl hf (.inr ⟨u,u',j,e,rfl,hvr⟩) hl (.inr ⟨_,sf,rfl,h1⟩)
   ·cases rO
  ·cases rO
 ·rename_i rO
  split at rO
  ·cases hm
   exact main [] none none #[] rfl rfl (.inl ⟨rfl,rfl⟩) hl (.inl ⟨rfl,rfl⟩)
  ·rename_i r
   cases hm
   split at rO
   ·rename_i es he
    obtain⟨_,fP,sf,h1,h2⟩:=h.map r es he
    rcases Ca hd 0 h2 rO with ⟨_,hf⟩|⟨u,u',j,e,_,_⟩
    ·exact main fP.toList none none fP rfl hf (.inl ⟨rfl,rfl⟩) hl (.inr ⟨_,sf,rfl,h1⟩)
    ·cases e
   ·cases rO
  ·cases rO
 ·cases hl
theorem Qd {P:an}{S:St}{t:ao}{k v v' :af}{d:TypeDesc}(hd:P.underlying t=some d)(hv:VR S v v'):∀{es l:a4 (af×af)} {fP:a4 MapEntry} (i:a3),ER S es fP->Nz P t k v es=some l->
  (Instr.findNow d k fP i=some none/\∀born,ER S l (fP++[{key:=k,val:=v',born}]))\/
  ∃j u e,Instr.findNow d k fP i=some (some (i+j,u))/\fP[j]?=some e/\(∀n,Instr.sameBits n e.key k=true)/\ER S l (fP.modify j fun e=>{e with key:=k,val:=v' })
 |[],l,[],i,_,h=>by
  simp only[Nz] at h
  obtain rfl:=ab h
  exact .inl ⟨rfl,fun born=>⟨rfl,hv,trivial⟩⟩
 |(k1,v1)::es,l,e::fP,i,he,h=>by
  obtain⟨h1,h2,h3⟩:=he
  simp only[Nz] at h
  split at h
  ·rename_i hk
   obtain rfl:=ab h
   obtain⟨d',Vb,hs,heq,YP⟩:=wW hk
   rw[hd] at Vb;obtain rfl:=ab Vb
   refine .inr ⟨0,e.val,e,by simp only[Instr.findNow,h1,hs,dO],rfl,fun n=>by rw[h1];exact YP n rfl,?_⟩
   simp only[List.modify_zero_cons]
   exact⟨heq rfl,hv,h3⟩
  ·rename_i hk
   obtain⟨d',Vb,hs,heq,YP⟩:=wW hk
   rw[hd] at Vb;obtain rfl:=ab Vb
   split at h
   ·rename_i l2 g7
    obtain rfl:=ab h
    rcases Qd hd hv (i+1) h3 g7 with ⟨q1,q2⟩|⟨j,u,e2,q1,q2,q3,q4⟩
    ·exact .inl ⟨by simp only[Instr.findNow,h1,hs];exact q1,fun born=>⟨h1,h2,q2 born⟩⟩
    ·refine .inr ⟨j+1,u,e2,by simp only[Instr.findNow,h1,hs];rw[q1];congr 3;omega,by simpa using q2,q3,?_⟩
     simp only[List.modify_succ_cons]
     exact⟨h1,h2,q4⟩
   ·cases h
  ·cases h
 |[],_,_::_,_,he,_=>he.elim
 |_::_,_,[],_,he,_=>he.elim
def Qe (P:an)(base:a3)(S:St)(m:Sem Unit)(s' :aq):Prop:=∃T,T.s=s' /\m.run P S.w= .ok () T.w/\Good base S T
theorem Cd {P:an}{w:bo}{r:a3}{es:bg MapEntry}{sf:a3}(h:w.heap[r]?=some (.map es sf))(o:Obj):(setObj r o).run P w= .ok () {w with heap:=w.heap.setIfInBounds r o}:=by
 simp only[setObj,Sem.run,h]
theorem zV {base:a3}{S:St}(h:SR base S){r:a3}{es l:a4 (af×af)}(he:S.s.dN r=some es){fP es2:bg MapEntry}{sf clk2:a3}(h1:S.w.heap[S.e.mp r]?=some (.map fP sf))(h2:ER S l es2.toList):
  Good base S ⟨S.s.put r (.map l),S.e,{S.w with heap:=S.w.heap.setIfInBounds (S.e.mp r) (.map es2 clk2)}⟩:=by
 have bd:=eG h1
 have hb:S.s.bR r=none:=by
  cases hq:S.s.bR r with
  |none=>rfl
  |some b=>exact(j5 hq he).elim
 refine SR.Gh h r S.s.next l S.e.mp _ (h.mlt he) (a6 _) h.room (.inl (h.mlt he)) hb (fun _ _=>rfl) (fun _ _=>rfl) (fun k hk _=>by simp only;rw[c3 (Ne.symm hk)]) ?_ (h.map r es he).1 ?_ ?_ ?_
 ·intro arr E fr hk;rw[h1] at hk;cases hk
 ·exact⟨es2,clk2,by simp only;rw[c4 bd],h2⟩
 ·intro r' alq hr hq e
  exact hr (h.Io r' r alq es hq he e)
 ·exact⟨rfl,rfl,rfl,by simp,fun k hk=>by simp only;rw[c3 (by have:=(h.map r es he).1;omega)]⟩
theorem Fm {P:an}{base:a3}{S:St}(h:SR base S){t:ao}{m k v m' k' v' :af}{s' :aq}(hm:VR S m m')(hk:VR S k k')(hv:VR S v v')(hu:fO P S.s t m k v=some s'):Qe P base S (Instr.mapUpdate t m' k' v') s' :=by
 unfold fO at hu
 split at hu
 case h_2=>cases hu
 rename_i kt et r hut
 cases hm
 split at hu
 case h_2=>cases hu
 rename_i es he sj
 obtain rfl:=Cc sj hk
 obtain⟨d,hd⟩:=wX sj
 have J3:∀(e:cx),(Instr.checkKey e 10000 kt k').run P S.w= .ok () S.w:=fun e=>Cb sj e 9999
 split at hu
 case h_2=>cases hu
 rename_i l hl
 obtain rfl:=ab hu
 obtain⟨_,fP,sf,h1,h2⟩:=h.map r es he
 rcases Qd hd hv 0 h2 hl with ⟨q1,q2⟩|⟨j,u,e,q1,q2,q3,q4⟩
 ·refine⟨_,rfl,?_,zV h he h1 (es2:=fP.push {key:=k',val:=v',born:=sf}) (clk2:=sf+1) (by rw[Array.toList_push];exact q2 sf)⟩
  simp only[Instr.mapUpdate,Sem.run_bind,run_underlying hut,aR,nK h1,J3,run_findKey hd q1,Cd h1]
 ·refine⟨_,rfl,?_,zV h he h1 (es2:=fP.modify j fun e=>{e with key:=k',val:=v' }) (clk2:=sf) (by rw[Array.toList_modify];exact q4)⟩
  rw[ew] at q1
  have alr:((fP[j]?).map (·.key)).getD k' =e.key:=by
   have:fP[j]?=some e:=by rw[<-a8];exact q2
   simp[this]
  have agJ:(Instr.keyThatStays e.key k').run P S.w= .ok k' S.w:=by simp[Instr.keyThatStays,q3]
  simp only[Instr.mapUpdate,Sem.run_bind,run_underlying hut,aR,nK h1,J3,run_findKey hd q1,alr,agJ,Cd h1]
theorem Ce {P:an}{base:a3}{S:St}(h:SR base S){i off c:a3}{a1:Addr}(hr:uH S i off c a1){vs P7:a4 af}(hv:eR S vs P7){s' :aq}(hs:S.s.storeAt i off c vs=some s'):Qe P base S (storeCells a1 P7) s' :=by
 unfold aq.storeAt at hs
 split at hs
 case h_2=>cases hs
 rename_i b hb
 split at hs
 case isFalse=>cases hs
 rename_i hc
 simp only[a5,cp,bz] at hc
 obtain⟨⟨⟨lh,jw⟩,Fb⟩,dH⟩:=hc
 split at hs
 ·cases hs
 rename_i sk
 split at hs
 case h_2=>cases hs
 rename_i l hl
 obtain rfl:=ab hs
 have fq:Live b c:=⟨jw,by omega⟩
 obtain rfl:=hr.addr hb fq
 have adh:=hv.aL dH
 obtain⟨hg,arr,E,fr,h1,h2,h3⟩:=Good.store h hb lh fq Fb hl hv (by simp)
 refine⟨_,rfl,?_,hg⟩
 have:=kA P (S.e.loc i c).1 ((S.e.loc i c).2+off) P7 S.w 0 arr E fr h1 h2 (by omega) adh
 exact this
theorem R8 {P:an}{S:St}{y y' y2:af}{d k:a3}(hy:VR S y y')(hc:qF d y=some (k,y2)):
  ∃y2' m,VR S y2 y2' /\(∀W:bo,(c5 y').run P W= .ok m W)/\Nat.min m d=k/\∀z,a9 z k y' =a9 z k y2' :=by
 unfold qF at hc
 split at hc
 ·rename_i a n c
  injection hc with hc;injection hc with e1 e2;subst e1;subst e2
  cases hy with
  |gK=>exact⟨_,0,by rw[Nat.zero_min];exact .gK,fun W=>by simp[c5],rfl,fun z=>rfl⟩
  |slice i off _ _ a' cap h0 hz hr=>exact⟨.slice (some a') (min n d) cap,n,.slice i off _ c a' cap (by omega) hz hr,fun W=>by simp[c5],rfl,fun z=>rfl⟩
 ·rename_i b
  injection hc with hc;injection hc with e1 e2;subst e1;subst e2
  cases hy
  refine⟨_,b.data.toList.length,.string _,fun W=>by rw[<-size_data];simp[c5],rfl,fun z=> ?_⟩
  simp only[a9]
  congr 2
  rw[<-cz]
  simp[List.take_take]
 ·cases hc
theorem R9 {P:an}{base:a3}{S:St}(h:SR base S){t ty:ao}{x x' v:af}{s' :aq}(hx:VR S x x')(ha:nG P S.s t x=some (v,s')){ts:bg ao}{ava:bg af}
  (h0:ts[0]?=some t) (a0:ava[0]?=some x'):oz P base S (eh ts ty ava) v s' :=by
 unfold nG at ha
 split at ha
 ·rename_i e n c hu
  cases hx
  injection ha with ha;injection ha with e1 e2;subst e1;subst e2
  exact⟨S,_,rfl,by simp only[eh,h0,a0,Sem.run_bind,run_underlying hu,aR];rfl,VR.sC S,Good.refl h⟩
 ·rename_i e i off n c hu
  cases hx with
  |slice _ _ _ _ a cap jL hz hr=>
  split at ha
  ·injection ha with ha;injection ha with e1 e2;subst e1;subst e2
   exact⟨S,_,rfl,by simp only[eh,h0,a0,Sem.run_bind,run_underlying hu,aR];rfl,VR.sC S,Good.refl h⟩
  ·rename_i m
   split at ha
   case h_2=>cases ha
   rename_i z zv cf uP
   split at ha
   case isFalse=>cases ha
   rename_i hc
   simp only[a5,bz,dU] at hc
   obtain⟨⟨ph,Ni⟩,abK⟩:=hc
   split at ha
   case h_2=>cases ha
   rename_i s1 aE
   injection ha with ha;injection ha with e1 e2;subst e1;subst e2
   have pR:0<cap:=by omega
   have Nj:zv.cells.size=z:=by simpa using Ni
   have U6:eR S (bB zv.cells.toList (m+1)) (bl zv.cells (m+1)).toList:=by
    refine⟨by rw[dL,Ni];simp[bl,Nj],fun p hp=> ?_⟩
    rw[dL,Ni] at hp
    have:=wT (S:=S) ph Ni (m+1) ((m+1)*zv.cells.size) (by rw[Nj];exact a6 _) p hp
    exact this
   obtain⟨T,hT,NP,hg⟩:=Ce (P:=P) h (hr pR).1 U6 aE
   refine⟨T,_,hT,?_,VR.sC T,hg⟩
   simp only[eh,h0,a0,Sem.run_bind,run_underlying hu,aR,dK uP,NP]
   rfl
 ·cases ha
theorem Vc {P:an}{base:a3}{S:St}(h:SR base S){dT ty:ao}{x y x' y' v:af}{s' :aq}(hx:VR S x x')(hy:VR S y y')(ha:mN P S.s dT x y=some (v,s')){ts:bg ao}{ava:bg af}
  (h0:ts[0]?=some dT) (a0:ava[0]?=some x') (a1:ava[1]?=some y'):oz P base S (en ts ty ava) v s' :=by
 unfold mN at ha
 split at ha
 case h_2=>cases ha
 rename_i e a Za c hu
 split at ha
 case h_2=>cases ha
 rename_i z k y2 hz dx
 obtain⟨y2',m,wQ,hlen,Cf,IA⟩:=R8 (P:=P) hy dx
 split at ha
 ·injection ha with ha;injection ha with e1 e2;subst e1;subst e2
  have hf:(a9 z 0 y2').run P S.w= .ok #[] S.w:=by
   cases wQ with
   |gK=>simp[a9]
   |slice=>simp[a9,loadCells,loadCellsFrom]
   |string=>simp[a9]
   |_=>exfalso;unfold qF at dx;split at dx<;>simp at dx
  have abM:Nat.min m Za=0:=Cf
  refine⟨S,.int .i64 0,rfl,?_,.int _ _,Good.refl h⟩
  cases hx with
  |gK=>simp only[en,h0,a0,a1,Sem.run_bind,run_underlying hu,aR,hlen,abM,run_sizeOf hz,IA,hf];simp[goInt]
  |slice=>simp only[en,h0,a0,a1,Sem.run_bind,run_underlying hu,aR,hlen,abM,run_sizeOf hz,IA,hf];simp[storeCells,goInt]
 ·rename_i k
  split at ha
  case h_2=>cases ha
  rename_i k2 new i off hs
  split at ha
  case h_2=>cases ha
  rename_i t hk aE
  have hk' :k2=k+1:=Nat.eq_of_beq_eq_true hk
  subst hk'
  injection ha with ha;injection ha with e1 e2;subst e1;subst e2
  obtain⟨new',U6,_,gp⟩:=B5 (P:=P) h wQ hs
  cases hx with
  |slice _ _ _ _ a' cap h0' vx hr=>
  have pR:0<cap:=by have:k+1<=Za:=by rw[<-ev,<-Cf];exact Nat.min_le_right _ _
                    omega
  obtain⟨T,hT,NP,hg⟩:=Ce (P:=P) h (hr pR).1 U6 aE
  refine⟨T,.int .i64 (k+1),hT,?_,.int _ _,hg⟩
  simp only[en,h0,a0,a1,Sem.run_bind,run_underlying hu,aR,hlen,Cf,run_sizeOf hz,IA,(gp S.w rfl).2,NP]
  simp[goInt]
theorem Qf {P:an}{w w' :bo}{s:Sem af}{v:af}(h:s.run P w= .ok v w'):(do pure (Next.value (<-s)):Sem Next).run P w= .ok (.value v) w' :=by
 simp[h]
theorem agK {P:an}{w w' :bo}{s:Sem Unit}(h:s.run P w= .ok () w'):(do s;pure Next.skip:Sem Next).run P w= .ok .skip w' :=by
 simp[h]
def Vd (P:an)(S:St)(a:Act)(o:dY)(s:aq)(r:av AR):Prop:=
 ∀x,r=some x->∃v,x= .val v s/\∃v',VR S v v' /\(execOp a.eval o).run P S.w= .ok (.value v') S.w
theorem fe {P:an}{S:St}{a:Act}{o:dY}{m:Sem af}{r:av af}(he:execOp a.eval o=(do pure (Next.value (<-m))))(h:∀v,r=some v->Reads P S m v):Vd P S a o S.s (pO S.s r):=by
 intro x hx
 cases r with
 |none=>simp[pO] at hx
 |some v=>
  simp only[pO] at hx
  obtain rfl:=ab hx
  obtain⟨v',h1,h2⟩:=h v rfl
  exact⟨v,rfl,v',h2,by rw[he];exact Qf h1⟩
theorem cW {P:an}{S:St}{a:Act}{o:dY}:Vd P S a o S.s none:=fun x hx=>by cases hx
theorem gy {α:Type}{a:bg α}{x:α}{r:a4 α}(h:a.toList=x::r):a[0]?=some x:=by rw[<-a8,h];rfl
theorem sR {α:Type}{a:bg α}{x y:α}{r:a4 α}(h:a.toList=x::y::r):a[1]?=some y:=by rw[<-a8,h];rfl
theorem Gm {P:an}{base:a3}{S:St}(h:SR base S){f:aW}{a:Act}(hf:FR S f a){o:dY}(hq:aP P o=true):Vd P S a o S.s (cS P o f S.s):=by
 obtain⟨dst,op,type,pos,after,guard⟩:=o
 cases op<;>try (simp[aP] at hq;done)
 case move x=>
  refine fe (m:=pure (a.eval x)) (by simp[execOp]) (fun v hv=>⟨_,by simp,bJ hf hv⟩)
 case assign x=>
  refine fe (m:=pure (a.eval x)) (by simp[execOp]) (fun v hv=>⟨_,by simp,bJ hf hv⟩)
 case pick c x y=>
  intro r hr
  simp only[cS] at hr
  split at hr
  ·rename_i t u v h1 h2 h3
   obtain rfl:=ab hr
   have hc:=bJ hf h1
   have hx:=bJ hf h2
   have hy:=bJ hf h3
   generalize zS:a.eval c=cv at hc
   cases hc
   refine⟨_,rfl,if t then a.eval x else a.eval y,by cases t<;>assumption,?_⟩
   simp[execOp,zS,asBool]
  ·cases hr
 case build t ps=>
  simp only[cS]
  split
  ·rename_i l hl
   refine fe (m:=Instr.build t (ps.map fun(i,x)=>(i,a.eval x))) rfl (fun v hv=> ?_)
   have:=R4 (P:=P) (yN hf hl) hv
   have e:(ps.map fun(x:a3×dc)=>(x.1,a.eval x.2))=(ps.toList.map fun x=>(x.1,a.eval x.2)).toArray:=by rw[<-cz];simp
   rw[e];exact this
  ·exact cW
 case load t x=>
  simp only[cS]
  split
  ·rename_i u hu
   exact fe rfl (fun v hv=>Km h (bJ hf hu) hv)
  ·exact cW
 case nilCheck x=>
  intro r hr
  simp only[cS] at hr
  split at hr
  ·rename_i p hp
   obtain rfl:=ab hr
   have hx:=bJ hf hp
   refine⟨_,rfl,a.eval x,hx,?_⟩
   generalize zS:a.eval x=cv at hx
   cases hx<;>simp[execOp,zS]
  ·rename_i g ava bs hp
   obtain rfl:=ab hr
   have hx:=bJ hf hp
   refine⟨_,rfl,a.eval x,hx,?_⟩
   generalize zS:a.eval x=cv at hx
   cases hx
   simp[execOp,zS]
  ·cases hr
 case binOp op t x y yt=>
  simp only[cS]
  split
  ·rename_i u v hu hv
   exact fe rfl (fun r hr=>Zj (bJ hf hu) (bJ hf hv) hr)
  ·exact cW
 case unOp op t x=>
  simp only[cS]
  split
  ·rename_i u hu
   exact fe rfl (fun r hr=>ac7 (bJ hf hu) hr)
  ·exact cW
 case convert s d x=>
  simp only[cS]
  split
  ·rename_i u hu
   intro r hr
   cases hc:gw P S.s s d u with
   |none=>rw[hc] at hr;simp[oF] at hr
   |some p=>
    obtain⟨v,s'⟩:=p
    rw[hc] at hr
    simp only[oF] at hr
    obtain rfl:=ab hr
    have Uy:sM (P.underlying d)=false:=by
     simp only[aP] at hq
     unfold sM
     cases hd:P.underlying d with
     |none=>rfl
     |some e=>rw[hd] at hq;cases e<;>first|rfl|cases hq
    obtain⟨rfl,v',h1,h2⟩:=NL h (bJ hf hu) hc Uy
    exact⟨v,rfl,v',h2,Qf h1⟩
  ·exact cW
 case makeFunc fn ava bs=>
  intro r hr
  cases fn<;>simp only[cS] at hr<;>try (cases hr;done)
  rename_i g
  split at hr
  ·rename_i l m h1 h2
   obtain rfl:=ab hr
   have hl:=qK hf h1
   have hm:=qK hf h2
   refine⟨_,rfl,.func (.func g) (ava.map a.eval) (bs.map a.eval),?_,by simp[execOp,Instr.makeFunc]⟩
   refine .func g _ _ _ _ (by simpa using hl.1) (by simpa using hm.1) (fun i hi=> ?_) (fun i hi=> ?_)
   ·simpa using hl.2 i (by simpa using hi)
   ·simpa using hm.2 i (by simpa using hi)
  ·cases hr
 case makeInterface t x=>
  intro r hr
  simp only[cS] at hr
  split at hr
  ·cases hr
  ·rename_i d v Ux hd hv
   obtain rfl:=ab hr
   refine⟨_,rfl,.iface t (a.eval x),.iface t _ _ (bJ hf hv),?_⟩
   cases d<;>first
    |exact c6 rfl (Ux _)
    |simp[execOp,Instr.makeInterface,run_underlying hd]
  ·cases hr
 case slice t x lo hi mx=>
  simp only[cS]
  split
  ·rename_i u l h' m h1 h2 h3 h4
   refine fe rfl (fun r hr=>R1 h (bJ hf h1) ?_ ?_ ?_ hr)
   ·rcases Is hf h2 with ⟨q1,q2⟩|⟨v,v',q1,q2,q3⟩
    ·exact .inl ⟨q1,q2⟩
    ·exact .inr ⟨v,v',q1,q2,q3⟩
   ·rcases Is hf h3 with ⟨q1,q2⟩|⟨v,v',q1,q2,q3⟩
    ·exact .inl ⟨q1,q2⟩
    ·exact .inr ⟨v,v',q1,q2,q3⟩
   ·rcases Is hf h4 with ⟨q1,q2⟩|⟨v,v',q1,q2,q3⟩
    ·exact .inl ⟨q1,q2⟩
    ·exact .inr ⟨v,v',q1,q2,q3⟩
  ·exact cW
 case fieldAddr t x i=>
  simp only[cS]
  split
  ·rename_i u hu
   exact fe rfl (fun r hr=>Fi (bJ hf hu) hr)
  ·exact cW
 case field t x i=>
  simp only[cS]
  split
  ·rename_i u hu
   exact fe rfl (fun r hr=>RZ (bJ hf hu) hr)
  ·exact cW
 case indexAddr t x y=>
  simp only[cS]
  split
  ·rename_i u v hu hv
   exact fe rfl (fun r hr=>Fh (bJ hf hu) (bJ hf hv) hr)
  ·exact cW
 case index t x y=>
  simp only[cS]
  split
  ·rename_i u v hu hv
   exact fe rfl (fun r hr=>R0 (bJ hf hu) (bJ hf hv) hr)
  ·exact cW
 case lookup t x y ok=>
  simp only[cS]
  split
  ·rename_i u v hu hv
   exact fe rfl (fun r hr=>NO h (bJ hf hu) (bJ hf hv) hr)
  ·exact cW
 case extract x i=>
  simp only[cS]
  split
  ·rename_i u hu
   exact fe rfl (fun r hr=>Kr (bJ hf hu) hr)
  ·exact cW
 case call c=>
  obtain⟨callee,args,ts⟩:=c
  simp only[cS]
  split
  case h_2=>exact cW
  rename_i l hl
  have Gg:=qK hf hl
  cases callee with
  |value x=>simp[aP] at hq
  |invoke x m=>simp[aP] at hq
  |builtin b=>
   simp only
   cases b<;>try (simp[aP] at hq;done)
   case len=>
    cases ht:ts.toList with
    |nil=>exact cW
    |cons t tr=>
     cases l with
     |nil=>exact cW
     |cons x xr=>
      obtain⟨x',r',e,hx',_⟩:=Gg.cons_inv
      refine fe (m:=ec ts type (args.map a.eval)) rfl (fun v hv=>Zo h hx' hv (gy ht) ?_)
      exact gy (by rw[cm];exact e)
   case min=>
    cases l with
    |nil=>exact cW
    |cons x xr=>
     obtain⟨x',r',e,hx',NQ⟩:=Gg.cons_inv
     refine fe (m:=g2 ts type (args.map a.eval)) rfl (fun v hv=> ?_)
     obtain⟨v',k1,k2⟩:=Kx (P:=P) Zb fY Zp hx' NQ hv
     exact⟨v',by simp only[g2,cm,e];exact k1,k2⟩
   case max=>
    cases l with
    |nil=>exact cW
    |cons x xr=>
     obtain⟨x',r',e,hx',NQ⟩:=Gg.cons_inv
     refine fe (m:=g3 ts type (args.map a.eval)) rfl (fun v hv=> ?_)
     obtain⟨v',k1,k2⟩:=Kx (P:=P) Zc gd Zq hx' NQ hv
     exact⟨v',by simp only[g3,cm,e];exact k1,k2⟩
theorem pt {s:aq}{cs:a4 af}{len mM:a3}{r:af×aq}(h:aZ s cs len mM=some r):s.room=true:=by
 unfold aZ at h
 split at h
 ·assumption
 ·cases h
theorem zW {s:aq}{cs:a4 af}{mM:a3}{r:af×aq}(h:fm s cs mM=some r):s.room=true:=by
 unfold fm at h
 split at h
 ·assumption
 ·cases h
theorem Fo {P:an}{s:aq}{t:ao}{n:a3}{ps:a4 (a3×af)}{r:af×aq}(h:aO P s t n ps=some r):s.room=true:=by
 unfold aO at h
 split at h
 ·split at h
  ·split at h
   ·split at h
    ·exact pt h
    ·cases h
   ·cases h
  ·cases h
 ·cases h
theorem IB {P:an}{s:aq}{t:ao}{x y:af}{r:af×aq}(h:ef P s t x y=some r):s.room=true:=by
 unfold ef at h
 split at h
 ·split at h
  ·split at h
   ·exact pt h
   ·cases h
  ·cases h
 ·cases h
theorem IC {P:an}{s:aq}{a b:ao}{x:af}{r:af×aq}(h:gw P s a b x=some r)(ht:jv P a b=true):s.room=true:=by
 unfold jv at ht
 split at ht
 case h_2=>cases ht
 rename_i e0 pk U0
 unfold gw at h
 split at h
 ·rename_i hs hd;rw[U0] at hd;cases hd
 ·rename_i hs hd;rw[U0] at hd;cases hd
 ·split at h
  ·exact pt h
  ·cases h
 ·rename_i hs hd;rw[pk] at hs;cases hs
 ·rename_i hs hd;rw[U0] at hd;cases hd
 ·rename_i hs hd;rw[U0] at hd;cases hd
 ·cases h
def NR (P:an)(base:a3)(S:St)(a:Act)(o:dY):AR->Prop
 | .val v s' =>∃T v',T.s=s' /\VR T v v' /\Good base S T/\((execOp a.eval o).run P S.w= .ok (.value v') T.w\/((execOp a.eval o).run P S.w= .ok .skip T.w/\v' =undef))
 | .call g args=>∃args' :bg af,eR S args args'.toList/\execOp a.eval o=callFunc g args'
theorem lY {P:an}{base:a3}{S:St}{a:Act}{o:dY}{m:Sem af}{r:av (af×aq)}(he:execOp a.eval o=(do pure (Next.value (<-m))))(h:∀v s',r=some (v,s')->oz P base S m v s'):
  ∀x,oF r=some x->NR P base S a o x:=by
 intro x hx
 cases r with
 |none=>simp[oF] at hx
 |some p=>
  obtain⟨v,s'⟩:=p
  simp only[oF] at hx
  obtain rfl:=ab hx
  obtain⟨T,v',h1,h2,h3,h4⟩:=h v s' rfl
  exact⟨T,v',h1,h3,h4,.inl (by rw[he];exact Qf h2)⟩
theorem Gn {P:an}{base:a3}{S:St}{a:Act}{o:dY}{m:Sem Unit}{r:av aq}(he:execOp a.eval o=(do m;pure Next.skip))(h:∀s',r=some s' ->Qe P base S m s'):
  ∀x,BN r=some x->NR P base S a o x:=by
 intro x hx
 cases r with
 |none=>simp[BN] at hx
 |some s' =>
  simp only[BN] at hx
  obtain rfl:=ab hx
  obtain⟨T,h1,h2,h3⟩:=h s' rfl
  exact⟨T,undef,h1,VR.sC T,h3,.inr ⟨by rw[he];exact agK h2,rfl⟩⟩
theorem Sa {P:an}{base:a3}{S:St}(h:SR base S){t:ao}{a v a' v' :af}{s' :aq}(ha:VR S a a')(hv:VR S v v')(hs:dR P S.s t a v=some s'):Qe P base S (Instr.storeAt t a' v') s' :=by
 unfold dR at hs
 split at hs
 ·rename_i i off c hn
  obtain⟨a1,rfl,hr⟩:=ha.qL
  split at hs
  ·rename_i hlen
   obtain rfl:=ab hs
   have eU:v.cells.toList.length=0:=by simpa [bz] using hlen
   have zS:=hv.cells
   have cf:v'.cells.size=0:=by have:=zS.1;rw[eU] at this;simpa using this.symm
   have sk:v'.cells.toList=[]:=by simpa using cf
   refine⟨S,rfl,?_,Good.refl h⟩
   simp[Instr.storeAt,Instr.sureAddr,storeVar,run_sizeOf hn,cf]
   rw[sk]
   rfl
  ·cases hs
 ·rename_i i off c n cH hn
  obtain⟨a1,rfl,hr⟩:=ha.qL
  split at hs
  ·rename_i hlen
   have eU:v.cells.toList.length=n:=by simpa [bz] using hlen
   unfold aq.storeAt at hs
   split at hs
   ·rename_i b hb
    split at hs
    ·rename_i hc
     simp only[a5,cp,bz] at hc
     obtain⟨⟨⟨lh,jw⟩,Fb⟩,dH⟩:=hc
     split at hs
     ·cases hs
     rename_i sk
     split at hs
     ·rename_i l hl
      obtain rfl:=ab hs
      have fq:Live b c:=⟨jw,by omega⟩
      obtain rfl:=hr.addr hb fq
      have zS:=hv.cells
      have cf:v'.cells.size=n:=by have:=zS.1;simp at this eU;omega
      have adh:=zS.aL dH
      obtain⟨hg,arr,E,fr,h1,h2,h3⟩:=Good.store h hb lh fq Fb hl zS (by rw[sk];simp)
      refine⟨_,rfl,?_,hg⟩
      have:=kA P (S.e.loc i c).1 ((S.e.loc i c).2+off) v'.cells.toList S.w 0 arr E fr h1 h2 (by omega) adh
      simp[Instr.storeAt,Instr.sureAddr,storeVar,run_sizeOf hn,cf,this]
     ·cases hs
    ·cases hs
   ·cases hs
  ·cases hs
 ·cases hs
theorem ID {P:an}{base:a3}{S:St}(h:SR base S){f:aW}{a:Act}(hf:FR S f a){o:dY}:∀x,cS P o f S.s=some x->NR P base S a o x:=by
 by_cases hq:aP P o=true
 ·intro x hx
  obtain⟨v,rfl,v',h1,h2⟩:=Gm h hf hq x hx
  exact⟨S,v',rfl,h1,Good.refl h,.inl h2⟩
 obtain⟨dst,op,type,pos,after,guard⟩:=o
 cases op<;>try (simp[aP] at hq;done)
 all_goals try (intro x hx;simp[cS] at hx;done)
 case alloc e=>
  simp only[cS]
  intro x hx
  split at hx
  ·rename_i z hz
   split at hx
   ·rename_i hp
    exact lY rfl (fun v s' hv=>(Kt h (mV.self h (zW hv)) hz hp hv).Ks) x hx
   ·cases hx
  ·cases hx
 case box e y=>
  simp only[cS]
  intro x hx
  split at hx
  ·rename_i u hu
   exact lY rfl (fun v s' hv=>(UZ h (mV.self h (zW hv)) (bJ hf hu) hv).Ks) x hx
  ·cases hx
 case buildSlice t n ps=>
  simp only[cS]
  intro x hx
  split at hx
  ·rename_i l hl
   refine lY (m:=Instr.buildSlice t n (ps.map fun(i,x)=>(i,a.eval x))) rfl (fun v s' hv=> ?_) x hx
   have:=(sO (P:=P) h (mV.self h (Fo hv)) (yN hf hl) hv).Ks
   have e:(ps.map fun(x:a3×dc)=>(x.1,a.eval x.2))=(ps.toList.map fun x=>(x.1,a.eval x.2)).toArray:=by rw[<-cz];simp
   rw[e];exact this
  ·cases hx
 case store t y z=>
  simp only[cS]
  intro x hx
  split at hx
  ·rename_i u v hu hv
   exact Gn rfl (fun s' hs=>Sa h (bJ hf hu) (bJ hf hv) hs) x hx
  ·cases hx
 case convert s d y=>
  simp only[cS]
  intro x hx
  split at hx
  ·rename_i u hu
   refine lY rfl (fun v s' hv=> ?_) x hx
   cases EY:jv P s d with
   |true=>exact(zR h (mV.self h (IC hv EY)) (bJ hf hu) hv EY).Ks
   |false=>
    refine NM h (bJ hf hu) hv ?_ EY
    simp only[aP] at hq
    unfold sM
    cases hd:P.underlying d with
    |none=>rw[hd] at hq;exact c6 rfl hq
    |some e=>rw[hd] at hq;cases e<;>first|rfl|exact c6 rfl hq
  ·cases hx
 case makeMap t r=>
  cases r with
  |some _=>intro x hx;simp[cS] at hx
  |none=>
   simp only[cS]
   intro x hx
   split at hx
   ·rename_i hr
    obtain rfl:=ab hx
    have hg:=Good.ac6 h hr
    have bd:=wK hr
    refine⟨_,.map (some S.w.heap.size),rfl,?_,hg,.inl (by simp[execOp,Instr.makeMap,newObj,Sem.run])⟩
    have:=VR.map (S:=⟨S.s.new (.map []),⟨S.e.loc,fun r=>if r=S.s.next then S.w.heap.size else S.e.mp r⟩,S.w.alloc (.map #[] 0)⟩) S.s.next ⟨[],by simp only[aq.new,aq.dN,Tr.bD _ _ _ _ (deep (show 0<16000001 by omega))]⟩
    simpa using this
   ·cases hx
 case makeSlice t y z=>
  simp only[cS]
  intro x hx
  split at hx
  ·rename_i u v hu hv
   exact lY rfl (fun r s' hr=>(uO h (mV.self h (IB hr)) (bJ hf hu) (bJ hf hv) hr).Ks) x hx
  ·cases hx
 case mapUpdate t y z u=>
  simp only[cS]
  intro x hx
  split at hx
  ·rename_i m k v h1 h2 h3
   exact Gn rfl (fun s' hs=>Fm h (bJ hf h1) (bJ hf h2) (bJ hf h3) hs) x hx
  ·cases hx
 case call c=>
  obtain⟨callee,args,ts⟩:=c
  simp only[cS]
  intro x hx
  split at hx
  case h_2=>cases hx
  rename_i l hl
  have Gg:=qK hf hl
  cases callee with
  |invoke y m=>cases hx
  |value y=>
   simp only at hx
   split at hx
   ·rename_i g ava bs hy
    obtain rfl:=ab hx
    obtain⟨P4,P5,e,h1,h2⟩:=(bJ hf hy).US
    refine⟨P4++args.map a.eval++P5,?_,?_⟩
    ·simp only[dv,cm]
     exact(h1.append Gg).append h2
    ·simp[execOp,resolve,e,Deferred.ofValue,invoke]
   ·cases hx
  |builtin b=>
   simp only at hx
   cases b<;>try (simp[aP] at hq;done)
   all_goals try (simp[ju] at hx;done)
   case append=>
    cases ht:ts.toList with
    |nil=>rw[ht] at hx;cases hx
    |cons t tr=>
     cases tr with
     |nil=>rw[ht] at hx;cases hx
     |cons t2 tr2=>
      cases l with
      |nil=>rw[ht] at hx;cases hx
      |cons y yr=>
       cases yr with
       |nil=>rw[ht] at hx;cases hx
       |cons z zr=>
        rw[ht] at hx
        obtain⟨y',r',e,hy',NQ⟩:=Gg.cons_inv
        obtain⟨z',r2',e2,vx,_⟩:=NQ.cons_inv
        rw[e2] at e
        refine lY (m:=bq ts type (args.map a.eval)) rfl (fun v s' hv=>NN h hy' vx hv (gy ht) (sR ht) ?_ ?_) x hx
        ·exact gy (by rw[cm];exact e)
        ·exact sR (by rw[cm];exact e)
   case clear=>
    cases ht:ts.toList with
    |nil=>rw[ht] at hx;cases hx
    |cons t tr=>
     cases l with
     |nil=>rw[ht] at hx;cases hx
     |cons y yr=>
      rw[ht] at hx
      obtain⟨y',r',e,hy',_⟩:=Gg.cons_inv
      refine lY (m:=eh ts type (args.map a.eval)) rfl (fun v s' hv=>R9 h hy' hv (gy ht) ?_) x hx
      exact gy (by rw[cm];exact e)
   case copy=>
    cases ht:ts.toList with
    |nil=>rw[ht] at hx;cases hx
    |cons t tr=>
     cases l with
     |nil=>rw[ht] at hx;cases hx
     |cons y yr=>
      cases yr with
      |nil=>rw[ht] at hx;cases hx
      |cons z zr=>
       rw[ht] at hx
       obtain⟨y',r',e,hy',NQ⟩:=Gg.cons_inv
       obtain⟨z',r2',e2,vx,_⟩:=NQ.cons_inv
       rw[e2] at e
       refine lY (m:=en ts type (args.map a.eval)) rfl (fun v s' hv=>Vc h hy' vx hv (gy ht) ?_ ?_) x hx
       ·exact gy (by rw[cm];exact e)
       ·exact sR (by rw[cm];exact e)
end Go.Cl
