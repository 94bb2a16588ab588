/-
 The clean machine, first part: what it is, and that it is true to the model, operation by operation.
-/
import GoSem.Step
import Derived.Orders
import Derived.Below
import Derived.Test.YtgpmffbleaphkaaGreatOm
import Derived.WalkKit
import Derived.Deep.QuietTactic
import Derived.WalkSpells
import Derived.WalkLawsBesides
import Derived.Laws.StructEq
open Option.some renaming inj->Se
open Go renaming Value->Sf,Program->Sg,TypeId->Sh,World->St,Operand->SU,Oper->SZ,FuncId->Ti,IntKind->Tt
open _root_ renaming Option->Si,Nat->Sk,List->Sl,if_neg->Sq,Array->Sr,if_pos->SC,absurd->SI,Bool->SL,if_true->SY,ByteArray->S5,Int->Tq,true_and->Tv,UInt8->TP
open Nat renaming le_refl->Sj,ble->Sv,mul_le_mul_right->Sx,beq->Sz,ble_eq->SA,beq_eq->SB,mod_two_eq_zero_or_one->SD,ne_of_lt->SE,add_assoc->SN,blt->SP,add_mul->SS,add_zero->SW,blt_eq->SX,lt_or_ge->S0,testBit->S8,zero_add->Ta,mul_pos->Tl,succ_eq_add_one->Tn,lt_of_lt_of_le->Tr,le_trans->Tu,sub_zero->TF,sub_self->TG,mod_lt->TO
open List renaming getD_eq_getElem?_getD->Sm,length_append->Su,length_cons->S1,getD_cons_succ->S3,eq_nil_of_length_eq_zero->S9,getElem?_drop->Tc,drop_eq_nil_of_le->Tf,getElem?_append->Tj,getD_cons_zero->To,length_take->Ty,length_map->TB,all_cons->TD,extract->TH
open Bool renaming and_eq_true->Sn,and_eq_false_iff->Th
open Go.Result renaming andThen_ok->So
open Go.Builtin renaming zeroCells->Sp,append_->Ss,firstCells->Sy,len_->S2,lenOf->S4,clear_->S6,nextslicecap->Tm,max2->Tx,max_->TI
open Array renaming getElem?_toList->Sw,getElem?_setIfInBounds_ne->SF,toList_inj->SG,getElem?_setIfInBounds_self_of_lt->SH,getElem?_eq_none->SJ,toList_map->SK,length_toList->SQ,toList_append->SR,getElem?_modify->S7,getElem?_eq_some_iff->Tb,range->Td,toList_extract->Tk,getElem?_push->Tp,getElem?_map->Ts,size_append->Tw
open Go.World renaming cell?_of_block->SM,freeze->Tg,cell?->TJ
open Go.Op renaming equalIn->SO,bytesLess->Te,stringOp->Tz,unary->TC,intArith->TK,equal->TL,intBits->TN
open BitVec renaming ofInt->SV
set_option linter.unusedSimpArgs false
set_option linter.unusedVariables false
set_option maxHeartbeats 1000000
namespace Go.Cl
inductive a5 (α:Type) where
 |al
 |pB (v:Si α) (l r:a5 α)
def a5.a8 {a:Type}:a5 a->Si a
 | .al=>none
 | .pB v _ _=>v
def a5.mX {a:Type}:a5 a->a5 a
 | .al=> .al
 | .pB _ l _=>l
def a5.mY {a:Type}:a5 a->a5 a
 | .al=> .al
 | .pB _ _ r=>r
def a5.N {a:Type}:a5 a->Sk->Si a
 | .al,_=>none
 | .pB v l r,i=>
  match i with
  |0=>v
  |k+1=>
   match k%2 with
   |0=>l.N (k/2)
   |_+1=>r.N (k/2)
def a5.ek {a:Type}:Sk->a5 a->Sk->a->a5 a
 |0,t,_,_=>t
 |f+1,t,i,u=>
  match i with
  |0=> .pB (some u) t.mX t.mY
  |k+1=>
   match k%2 with
   |0=> .pB t.a8 (a5.ek f t.mX (k/2) u) t.mY
   |_+1=> .pB t.a8 t.mX (a5.ek f t.mY (k/2) u)
def fo (i:Sk):Sk:=Nat.log2 (i+1)+1
structure cF where
 aJ:Sl Sf
 bT:Sk
 br:SL
 ju:Sk
inductive dK where
 |bl (b:cF)
 |cv (es:Sl (Sf×Sf))
structure J where
 i:a5 dK
 Y:Sk
structure an where
 BK:a5 Sf
 e:Sk
def J.t (s:J)(i:Sk):Si cF:=
 match s.i.N i with
 |some (.bl b)=>some b
 |_=>none
def J.S (s:J)(i:Sk):Si (Sl (Sf×Sf)):=
 match s.i.N i with
 |some (.cv a)=>some a
 |_=>none
def J.u (s:J)(i:Sk)(o:dK):J:=⟨a5.ek (fo i) s.i i o,s.Y⟩
def J.x (s:J)(o:dK):J:=⟨a5.ek (fo s.Y) s.i s.Y o,s.Y+1⟩
def J.bE (_:J):SL:=true
def an.N (f:an)(t:Sk):Sf:=
 match f.BK.N t with
 |some v=>v
 |none=>undef
def an.u (f:an)(t:Sk)(v:Sf):an:=⟨a5.ek (fo t) f.BK t v,f.e⟩
def hO:Sf->SL
 | .bool _| .int _ _| .string _| .pointer none| .slice none 0 0| .map none| .nilFunc| .nilIface=>true
 |_=>false
def cp:Sf->SL
 | .agg a=>a.toList.all hO
 | .tuple a=>a.toList.all hO
 |v=>hO v
def ba (f:an):SU->Si Sf
 | .tmp t=>if SP t f.e then some (f.N t) else none
 | .const v=>if cp v then some v else none
 | .global _=>none
 | .func g=>some (.func (.func g) #[] #[])
def bB (f:an):Sl SU->Si (Sl Sf)
 |[]=>some []
 |x::r=>
  match ba f x with
  |some v=>
   match bB f r with
   |some a=>some (v::a)
   |none=>none
  |none=>none
def qH:Sk->Sl Sf->Si (Sl Sf)
 |0,_=>some []
 |_+1,[]=>none
 |n+1,v::r=>
  match qH n r with
  |some l=>some (v::l)
  |none=>none
def pC:Sk->Sl Sf->Sl Sf
 |0,l=>l
 |_+1,[]=>[]
 |n+1,_::r=>pC n r
def di:Sl Sf->Sk->Sl Sf->Si (Sl Sf)
 |l,_,[]=>some l
 |[],_,_::_=>none
 |c::r,n+1,a=>
  match di r n a with
  |some l=>some (c::l)
  |none=>none
 |_::r,0,v::a=>
  match di r 0 a with
  |some l=>some (v::l)
  |none=>none
def aN:Sf->SL
 | .agg _| .tuple _=>false
 |_=>true
def J.fL (s:J)(i a c n:Sk):Si (Sl Sf):=
 match s.t i with
 |some b=>
  if Sv b.bT c&&Sv c (b.aJ.length+1)&&SP (a+n) c then qH n (pC a b.aJ) else none
 |none=>none
def J.la (s:J)(i d c:Sk)(a:Sl Sf):Si J:=
 match s.t i with
 |some b=>
  if b.br&&Sv b.bT c&&Sz c (b.aJ.length+1)&&a.all aN then
   match a with
   |[]=>none
   |_::_=>
   match di b.aJ d a with
   |some l=>some (s.u i (.bl {b with aJ:=l,bT:=c}))
   |none=>none
  else none
 |none=>none
def c3 (P:Sg)(t:Sh):Si SL:=
 match P.underlying t with
 |some (.struct _)|some (.array _ _)=>some true
 |some _=>some false
 |none=>none
def bc (P:Sg)(t:Sh):Si Sk:=
 match P.info? t with
 |some i=>some i.size
 |none=>none
def bK (P:Sg)(t:Sh):Si Sf:=
 match P.info? t with
 |some i=>i.zero
 |none=>none
def e2 (P:Sg)(t:Sh):Si Sk:=
 match P.info? t with
 |some i=>some i.bytes
 |none=>none
def vC (P:Sg)(t:Sh)(a:Sl Sf)(b:Sk):Si Sf:=
 match c3 P t,bc P t with
 |some true,some n=>
  match qH n (pC b a) with
  |some l=>some (.agg l.toArray)
  |none=>none
 |some false,_=>
  match pC b a with
  |v::_=>some v
  |[]=>none
 |_,_=>none
def aD (P:Sg)(s:J)(t:Sh)(a:Sf):Si Sf:=
 match a with
 | .pointer (some ⟨i,a,some c⟩)=>
  match c3 P t,bc P t with
  |some true,some n=>
   match s.fL i a c n with
   |some l=>some (.agg l.toArray)
   |none=>none
  |some false,_=>
   match s.fL i a c 1 with
   |some (v::_)=>some v
   |_=>none
  |_,_=>none
 |_=>none
def fp (P:Sg)(s:J)(t:Sh)(a v:Sf):Si J:=
 match a,bc P t with
 | .pointer (some ⟨_,_,some _⟩),some 0=>if Sz v.cells.toList.length 0 then some s else none
 | .pointer (some ⟨i,a,some c⟩),some n=>
  if Sz v.cells.toList.length n then s.la i a c v.cells.toList else none
 |_,_=>none
def iA (s:J)(a:Sl Sf)(b:Sk):Si (Sf×J):=
 if s.bE then some (.pointer (some ⟨s.Y,0,some (a.length+1)⟩),s.x (.bl ⟨a,1,true,b⟩)) else none
def cL (s:J)(a:Sl Sf)(b c:Sk):Si (Sf×J):=
 if s.bE then some (.slice (some ⟨s.Y,0,none⟩) b (a.length+1),s.x (.bl ⟨a,1,true,c⟩)) else none
def cM (z:Sl Sf):Sk->Sl Sf
 |0=>[]
 |n+1=>z++cM z n
def h7 (a:BinOp)(k:Tt)(x y:Tq):Si Sf:=
 match a with
 | .add=>some (.int k (k.wrap (x+y)))
 | .sub=>some (.int k (k.wrap (x-y)))
 | .mul=>some (.int k (k.wrap (x*y)))
 | .quo=>if y=0 then none else some (.int k (k.wrap (x.tdiv y)))
 | .rem=>if y=0 then none else some (.int k (x.tmod y))
 | .and=>some (.int k (k.wrap (SV k.bits x&&&SV k.bits y).toNat))
 | .or=>some (.int k (k.wrap (SV k.bits x|||SV k.bits y).toNat))
 | .xor=>some (.int k (k.wrap (SV k.bits x^^^SV k.bits y).toNat))
 | .andNot=>some (.int k (k.wrap (SV k.bits x&&& ~~~SV k.bits y).toNat))
 | .eql=>some (.bool (x==y))
 | .neq=>some (.bool (x !=y))
 | .lss=>some (.bool (x<y))
 | .leq=>some (.bool (x<=y))
 | .gtr=>some (.bool (x>y))
 | .geq=>some (.bool (x>=y))
 |_=>none
def r3 (a:BinOp)(k:Tt)(x y:Tq):Si Sf:=
 if y<0 then none else
 match a with
 | .shl=>some (.int k (k.wrap (x*2^(min y.toNat k.bits))))
 | .shr=>some (.int k (x.fdiv (2^(min y.toNat k.bits))))
 |_=>none
def r4 (a:BinOp)(x y:S5):Si Sf:=
 match a with
 | .add=>if Sv (x.data.toList.length+y.data.toList.length) 4294967296 then some (.string ⟨(x.data.toList++y.data.toList).toArray⟩) else none
 | .eql=>some (.bool (x.data.toList==y.data.toList))
 | .neq=>some (.bool (!(x.data.toList==y.data.toList)))
 | .lss=>some (.bool (Te x.data.toList y.data.toList))
 | .leq=>some (.bool (Te x.data.toList y.data.toList||x.data.toList==y.data.toList))
 | .gtr=>some (.bool (!(Te x.data.toList y.data.toList||x.data.toList==y.data.toList)))
 | .geq=>some (.bool (!(Te x.data.toList y.data.toList)))
 |_=>none
def lO (P:Sg)(t:Sh)(x y:Sf):Si SL:=
 match P.underlying t,x,y with
 |some .bool,.bool a,.bool b=>some (a==b)
 |some (.pointer _),.pointer none,.pointer b=>some b.isNone
 |some (.pointer _),.pointer (some _),.pointer none=>some false
 |some (.slice _),.slice none _ _,.slice b _ _=>some b.isNone
 |some (.slice _),.slice (some _) _ _,.slice none _ _=>some false
 |some (.map _ _),.map none,.map b=>some b.isNone
 |some (.map _ _),.map (some _),.map none=>some false
 |some (.func _ _ _),.nilFunc,.nilFunc=>some true
 |some (.func _ _ _),.nilFunc,.func _ _ _=>some false
 |some (.func _ _ _),.func _ _ _,.nilFunc=>some false
 |_,_,_=>none
def bN (P:Sg)(a:BinOp)(t:Sh)(x y:Sf):Si Sf:=
 match x,y with
 | .int k b,.int d c=>
  match a with
  | .shl=>r3 .shl k b c
  | .shr=>r3 .shr k b c
  |_=>if k=d then h7 a k b c else none
 | .string b,.string c=>r4 a b c
 |_,_=>
  match a with
  | .eql=>
   match lO P t x y with
   |some b=>some (.bool b)
   |none=>none
  | .neq=>
   match lO P t x y with
   |some b=>some (.bool (!b))
   |none=>none
  |_=>none
def qI (a:UnOp)(x:Sf):Si Sf:=
 match a,x with
 | .neg,.int k n=>h7 .sub k 0 n
 | .xor,.int k n=>h7 .xor k (if k.signed then-1 else k.max) n
 | .not,.bool b=>some (.bool (!b))
 |_,_=>none
def yE:Sf->Si TP
 | .int .u8 n=>some (UInt8.ofNat n.toNat)
 |_=>none
def pD:Sl Sf->Si (Sl TP)
 |[]=>some []
 |v::r=>
  match yE v with
  |some b=>
   match pD r with
   |some l=>some (b::l)
   |none=>none
  |none=>none
def aM (l:Sl TP):Sl Sf:=l.map fun b=> .int .u8 b.toNat
def nG (P:Sg)(t:Sh):SL:=
 match P.underlying t with
 |some (.int .u8)=>true
 |_=>false
def fM (P:Sg)(s:J)(a c:Sh)(x:Sf):Si (Sf×J):=
 match P.underlying a,P.underlying c,x with
 |some _,some (.int k),.int _ n=>some (.int k (k.wrap n),s)
 |some _,some .string,.string b=>some (.string b,s)
 |some .string,some (.slice e),.string b=>
  if nG P e&&Sv b.data.toList.length 9223372036854775807 then cL s (aM b.data.toList) b.data.toList.length 1 else none
 |some (.slice _),some (.slice e),.slice (some ⟨i,_,none⟩) b d=>
  match b with
  |0=>none
  |_+1=>
   match s.t i with
   |some b=>if Sz a c&&nG P e&&b.br&&Sv b.bT d&&Sv d (b.aJ.length+1)&&Sz b.ju 1 then some (x,s.u i (.bl b)) else none
   |none=>none
 |some (.slice e),some .string,.slice none _ _=>if nG P e then some (.string ⟨#[]⟩,s) else none
 |some (.slice e),some .string,.slice (some ⟨i,b,none⟩) a c=>
  if nG P e then
   match a with
   |0=>some (.string ⟨#[]⟩,s)
   |_+1=>
    match s.fL i b c a with
    |some l=>
     match pD l with
     |some a=>some (.string ⟨a.toArray⟩,s)
     |none=>none
    |none=>none
  else none
 |_,_,_=>none
def h8:Si Sf->Sk->Si Sk
 |none,d=>some d
 |some (.int _ (.ofNat n)),_=>some n
 |some _,_=>none
def jV (s:J)(i c z:Sk):SL:=
 match c with
 |0=>true
 |_+1=>
  match s.t i with
  |some b=>Sz b.ju z
  |none=>false
def fN (P:Sg)(s:J)(t:Sh)(x:Sf)(b a d:Si Sf):Si Sf:=
 match P.underlying t,x with
 |some .string,.string c=>
  match d,h8 b 0,h8 a c.data.toList.length with
  |none,some l,some h=>if Sv l h&&Sv h c.data.toList.length then some (.string ⟨((c.data.toList.take h).drop l).toArray⟩) else none
  |_,_,_=>none
 |some (.slice g),.slice f e c=>
  match h8 b 0,h8 a e,bc P g with
  |some l,some h,some z=>
   if Sv l h&&Sv h e then
    match d with
    |none=>
     match f with
     |none=>some (.slice none 0 0)
     |some ⟨i,g,none⟩=>if jV s i c z then some (.slice (some ⟨i,g+l*z,none⟩) (h-l) c) else none
     |_=>none
    |some m=>
     match h8 (some m) 0,a with
     |some m,some _=>
      if Sv h m&&Sv m e then
       match f with
       |none=>some (.slice none 0 0)
       |some ⟨i,e,none⟩=>if jV s i c z then some (.slice (some ⟨i,e+l*z,none⟩) (h-l) (if Sz l m then 0 else c)) else none
       |_=>none
      else none
     |_,_=>none
   else none
  |_,_,_=>none
 |some (.array n f),.pointer (some ⟨i,e,some c⟩)=>
  match h8 b 0,h8 a n,bc P f,s.t i,d with
  |some l,some h,some z,some b,none=>
   if Sv l h&&Sv h n&&Sv b.bT c&&Sv c (b.aJ.length+1)&&SP (e+n*z) c&&Sz b.ju z&&SP 0 z then some (.slice (some ⟨i,e+l*z,none⟩) (h-l) c) else none
  |_,_,_,_,_=>none
 |_,_=>none
def eM (P:Sg)(t:Sh)(x a:Sf):Si Sf:=
 match P.underlying t,x,a with
 |some (.slice e),.slice (some ⟨i,a,none⟩) b c,.int _ (.ofNat n)=>
  match bc P e with
  |some z=>if SP n b then some (.pointer (some ⟨i,a+n*z,some c⟩)) else none
  |none=>none
 |some (.array a e),.pointer (some ⟨i,b,some c⟩),.int _ (.ofNat n)=>
  match bc P e with
  |some z=>if SP n a then some (.pointer (some ⟨i,b+n*z,some c⟩)) else none
  |none=>none
 |_,_,_=>none
def tB (P:Sg)(t:Sh)(x a:Sf):Si Sf:=
 match P.underlying t,x,a with
 |some .string,.string b,.int _ (.ofNat n)=>
  match (b.data.toList.drop n) with
  |c::_=>some (.int .u8 c.toNat)
  |[]=>none
 |some (.array a e),.agg b,.int _ (.ofNat n)=>
  match bc P e with
  |some z=>if SP n a then vC P e b.toList (n*z) else none
  |none=>none
 |_,_,_=>none
def aY (P:Sg)(t:Sh)(x:Sf)(f:Sk):Si Sf:=
 match P.underlying t,x with
 |some (.struct a),.pointer (some ⟨i,b,some c⟩)=>
  match a[f]? with
  |some a=>
   match bc P a.type with
   |some (_+1)=>some (.pointer (some ⟨i,b+a.offset,some c⟩))
   |_=>none
  |none=>none
 |_,_=>none
def tC (P:Sg)(t:Sh)(x:Sf)(f:Sk):Si Sf:=
 match P.underlying t,x with
 |some (.struct a),.agg b=>
  match a[f]? with
  |some a=>vC P a.type b.toList a.offset
  |none=>none
 |_,_=>none
def bm (x:Sf)(i:Sk):Si Sf:=
 match x with
 | .tuple a=>a[i]?
 |_=>none
def eT (a:Sk->Si (Sk×Sk)):Sl Sf->Sl (Sk×Sf)->Si (Sl Sf)
 |b,[]=>some b
 |b,(i,v)::r=>
  match a i with
  |some (c,d)=>
   if Sz v.cells.toList.length d&&Sv (c+d) b.length then
    match di b c v.cells.toList with
    |some l=>eT a l r
    |none=>none
   else none
  |none=>none
def jW (P:Sg)(a:Sr Field)(i:Sk):Si (Sk×Sk):=
 match a[i]? with
 |some f=>
  match bc P f.type with
  |some z=>some (f.offset,z)
  |none=>none
 |none=>none
def cP (P:Sg)(t:Sh)(a:Sl (Sk×Sf)):Si Sf:=
 match P.underlying t,bK P t with
 |some (.struct b),some z=>
  if cp z&&b.toList.all (fun f=>(bc P f.type).isSome) then
   match eT (jW P b) z.cells.toList a with
   |some l=>some (.agg l.toArray)
   |none=>none
  else none
 |some (.array _ e),some z=>
  match bc P e with
  |some n=>
   if cp z then
    match eT (fun i=>some (i*n,n)) z.cells.toList a with
    |some l=>some (.agg l.toArray)
    |none=>none
   else none
  |none=>none
 |_,_=>none
def dj (P:Sg)(s:J)(t:Sh)(a:Sk)(b:Sl (Sk×Sf)):Si (Sf×J):=
 match P.underlying t with
 |some (.slice e)=>
  match bc P e,bK P e with
  |some n,some z=>
   if Sv (a*n) 65536&&cp z&&Sz z.cells.toList.length n then
    match eT (fun i=>some (i*n,n)) (cM z.cells.toList a) b with
    |some l=>cL s l a n
    |none=>none
   else none
  |_,_=>none
 |_=>none
def iU (P:Sg)(s:J)(t:Sh)(a b:Sf):Si (Sf×J):=
 match P.underlying t,a,b with
 |some (.slice e),.int _ (.ofNat l),.int _ (.ofNat c)=>
  match bc P e,bK P e,e2 P e with
  |some n,some z,some a=>
   if Sv l c&&Sv c 4294967296&&Sv (a*c) 4294967296&&cp z&&Sz z.cells.toList.length n then cL s (cM z.cells.toList l) l n else none
  |_,_,_=>none
 |_,_,_=>none
def iB (s:J)(z:Sk):Sf->Si (Sk×Sl Sf)
 | .slice none _ _=>some (0,[])
 | .slice (some ⟨i,a,none⟩) n c=>
  match n with
  |0=>some (0,[])
  |_+1=>
   match s.fL i a c (n*z) with
   |some l=>some (n,l)
   |none=>none
 | .string b=>if Sz z 1 then some (b.data.toList.length,aM b.data.toList) else none
 |_=>none
def mm (s:J)(z b:Sk)(a:Sf)(c:TypeDesc)(y:Sf):Si (Sk×Sl Sf):=
 match c with
 | .int _=>
  match y with
  | .int _ (.ofNat n)=>if Sv (n*b) 140737488355328&&Sv n 140737488355328&&cp a&&Sz a.cells.toList.length z&&SP 0 z then some (n,cM a.cells.toList n) else none
  |_=>none
 |_=>iB s z y
def jX (b:cF):cF:={b with bT:=b.bT+b.aJ.length+2}
def gQ (P:Sg)(s:J)(a b:Sh)(x y:Sf):Si (Sf×J):=
 match P.underlying a,P.underlying b with
 |some (.slice e),some a=>
  match (match a with
   | .slice _=>true
   | .string=>true
   | .int _=>true
   |_=>false) with
  |false=>none
  |true=>
  match bc P e,e2 P e,bK P e with
  |some z,some b,some e=>
   match mm s z b e a y with
   |some (n,c)=>
    match x with
    | .slice f a d=>
     if Sv ((a+n)*b) 140737488355328&&Sv (a+n) 140737488355328&&SP 0 z&&c.all aN&&Sz e.cells.toList.length z then
      match n with
      |0=>some (x,s)
      |_+1=>
       match f with
       |none=>if Sz a 0&&Sz d 0 then cL s c n z else none
       |some ⟨i,e,none⟩=>
        match d with
        |0=>if Sz a 0 then cL s c n z else none
        |_+1=>
         match s.t i with
         |some b=>
          if b.br&&Sv b.bT d&&Sz b.ju z then
           if Sz d (b.aJ.length+1)&&Sz e 0&&Sz (a*z) b.aJ.length then
            some (.slice f (a+n) ((b.aJ++c).length+1),s.u i (.bl {b with aJ:=b.aJ++c}))
           else
            match s.fL i e d (a*z) with
            |some d=>cL (s.u i (.bl (jX b))) (d++c) (a+n) z
            |none=>none
          else none
         |none=>none
       |_=>none
     else none
    |_=>none
   |none=>none
  |_,_,_=>none
 |_,_=>none
def mZ (P:Sg)(s:J)(t:Sh)(x:Sf):Si (Sf×J):=
 match P.underlying t,x with
 |some (.slice _),.slice none _ _=>some (undef,s)
 |some (.slice e),.slice (some ⟨i,b,none⟩) n c=>
  match n with
  |0=>some (undef,s)
  |m+1=>
   match bc P e,bK P e with
   |some z,some a=>
    if cp a&&Sz a.cells.toList.length z&&SP 0 z then
     match s.la i b c (cM a.cells.toList (m+1)) with
     |some a=>some (undef,a)
     |none=>none
    else none
   |_,_=>none
 |_,_=>none
def cd (P:Sg)(s:J)(t:Sh)(x:Sf):Si Sf:=
 match P.underlying t,x with
 |some .string,.string b=>some (.int .i64 b.data.toList.length)
 |some (.array n _),_=>some (.int .i64 n)
 |some (.slice _),.slice _ n _=>some (.int .i64 n)
 |some (.map _ _),.map none=>some (.int .i64 0)
 |some (.map _ _),.map (some r)=>
  match s.S r with
  |some a=>some (.int .i64 a.length)
  |none=>none
 |_,_=>none
def vD:Sf->Sf->Si Sf
 | .int k x,.int _ y=>some (.int k (if y>x then y else x))
 |_,_=>none
def tD (g:Sf->Sf->Si Sf):Sf->Sl Sf->Si Sf
 |x,[]=>some x
 |x,y::r=>
  match g x y with
  |some v=>tD g v r
  |none=>none
def pF (P:Sg)(t:Sh)(a b:Sf):Si SL:=
 match P.underlying t,a,b with
 |some (.int _),.int k x,.int a y=>if k=a then some (x==y) else none
 |some .string,.string x,.string y=>some (x.data.toList==y.data.toList)
 |_,_,_=>none
def qJ (P:Sg)(t:Sh)(k:Sf):Sl (Sf×Sf)->Si (Si Sf)
 |[]=>some none
 |(a,v)::r=>
  match pF P t k a with
  |some true=>some (some v)
  |some false=>qJ P t k r
  |none=>none
def qK (P:Sg)(t:Sh)(k v:Sf):Sl (Sf×Sf)->Si (Sl (Sf×Sf))
 |[]=>some [(k,v)]
 |(a,b)::r=>
  match pF P t k a with
  |some true=>some ((a,v)::r)
  |some false=>
   match qK P t k v r with
   |some l=>some ((a,b)::l)
   |none=>none
  |none=>none
def lb (P:Sg)(t:Sh)(k:Sf):SL:=
 match P.underlying t,k with
 |some (.int _),.int _ _=>true
 |some .string,.string _=>true
 |_,_=>false
def m0 (P:Sg)(s:J)(t:Sh)(m k:Sf)(a:SL):Si Sf:=
 match P.underlying t with
 |some (.map b c)=>
  match bK P c,lb P b k with
  |some z,true=>
   if cp z then
    match (match m with
     | .map none=>some none
     | .map (some r)=>
      match s.S r with
      |some c=>qJ P b k c
      |none=>none
     |_=>none) with
    |some (some v)=>some (if a then .tuple #[v,.bool true] else v)
    |some none=>some (if a then .tuple #[z,.bool false] else z)
    |none=>none
   else none
  |_,_=>none
 |_=>none
def m1 (P:Sg)(s:J)(t:Sh)(m k v:Sf):Si J:=
 match P.underlying t,m with
 |some (.map a _),.map (some r)=>
  match s.S r,lb P a k with
  |some b,true=>
   match qK P a k v b with
   |some l=>some (s.u r (.cv l))
   |none=>none
  |_,_=>none
 |_,_=>none
def vE (P:Sg)(t:Sh):Sk:=
 match P.underlying t with
 |some (.array _ e)=>
  match bc P e with
  |some z=>z
  |none=>0
 |_=>0
inductive iV where
 |a8 (v:Sf) (s:J)
 |jY (f:Ti) (args:Sl Sf)
def dE (s:J):Si Sf->Si iV
 |some v=>some (.a8 v s)
 |none=>none
def dL:Si (Sf×J)->Si iV
 |some (v,s)=>some (.a8 v s)
 |none=>none
def gu:Si J->Si iV
 |some s=>some (.a8 undef s)
 |none=>none
def bC (f:an):Sl (Sk×SU)->Si (Sl (Sk×Sf))
 |[]=>some []
 |(i,x)::r=>
  match ba f x,bC f r with
  |some v,some l=>some ((i,v)::l)
  |_,_=>none
def eU (f:an):Si SU->Si (Si Sf)
 |none=>some none
 |some x=>
  match ba f x with
  |some v=>some (some v)
  |none=>none
def pG (P:Sg)(s:J)(b:Builtin)(a:Sl Sh)(c:Sl Sf):Si iV:=
 match b,a,c with
 | .len,t::_,x::_=>dE s (cd P s t x)
 | .append,t::u::_,x::y::_=>dL (gQ P s t u x y)
 | .clear,t::_,x::_=>dL (mZ P s t x)
 | .max,_,x::r=>dE s (tD vD x r)
 |_,_,_=>none
def a4 (P:Sg)(o:SZ)(f:an)(s:J):Si iV:=
 match o.op with
 | .move x=>dE s (ba f x)
 | .assign x=>dE s (ba f x)
 | .pick c a b=>
  match ba f c,ba f a,ba f b with
  |some (.bool t),some u,some v=>some (.a8 (if t then u else v) s)
  |_,_,_=>none
 | .alloc h=>
  match bK P h with
  |some z=>if cp z then dL (iA s z.cells.toList (vE P h)) else none
  |none=>none
 | .box h x=>
  match ba f x with
  |some v=>dL (iA s v.cells.toList (vE P h))
  |none=>none
 | .build t j=>
  match bC f j.toList with
  |some l=>dE s (cP P t l)
  |none=>none
 | .buildSlice t p j=>
  match bC f j.toList with
  |some l=>dL (dj P s t p l)
  |none=>none
 | .load t x=>
  match ba f x with
  |some a=>dE s (aD P s t a)
  |none=>none
 | .store t x y=>
  match ba f x,ba f y with
  |some a,some v=>gu (fp P s t a v)
  |_,_=>none
 | .nilCheck x=>
  match ba f x with
  |some (.pointer (some a))=>some (.a8 (.pointer (some a)) s)
  |some (.func (.func g) d e)=>some (.a8 (.func (.func g) d e) s)
  |_=>none
 | .binOp k t x y _=>
  match ba f x,ba f y with
  |some u,some v=>dE s (bN P k t u v)
  |_,_=>none
 | .unOp k _ x=>
  match ba f x with
  |some u=>dE s (qI k u)
  |none=>none
 | .convert a b x=>
  match ba f x with
  |some u=>dL (fM P s a b u)
  |none=>none
 | .makeFunc (.func g) d e=>
  match bB f d.toList,bB f e.toList with
  |some l,some m=>some (.a8 (.func (.func g) l.toArray m.toArray) s)
  |_,_=>none
 | .makeInterface t x=>
  match P.underlying t,ba f x with
  |some (.interface _),_=>none
  |some _,some v=>some (.a8 (.iface t v) s)
  |_,_=>none
 | .makeMap _ none=>if s.bE then some (.a8 (.map (some s.Y)) (s.x (.cv []))) else none
 | .makeSlice t x y=>
  match ba f x,ba f y with
  |some u,some v=>dL (iU P s t u v)
  |_,_=>none
 | .slice t x q r w=>
  match ba f x,eU f q,eU f r,eU f w with
  |some u,some l,some A,some m=>dE s (fN P s t u l A m)
  |_,_,_,_=>none
 | .fieldAddr t x i=>
  match ba f x with
  |some u=>dE s (aY P t u i)
  |none=>none
 | .field t x i=>
  match ba f x with
  |some u=>dE s (tC P t u i)
  |none=>none
 | .indexAddr t x y=>
  match ba f x,ba f y with
  |some u,some v=>dE s (eM P t u v)
  |_,_=>none
 | .index t x y=>
  match ba f x,ba f y with
  |some u,some v=>dE s (tB P t u v)
  |_,_=>none
 | .lookup t x y B=>
  match ba f x,ba f y with
  |some u,some v=>dE s (m0 P s t u v B)
  |_,_=>none
 | .mapUpdate t x y z=>
  match ba f x,ba f y,ba f z with
  |some m,some D,some v=>gu (m1 P s t m D v)
  |_,_,_=>none
 | .extract x i=>
  match ba f x with
  |some u=>dE s (bm u i)
  |none=>none
 | .call c=>
  match bB f c.args.toList with
  |some n=>
   match c.callee with
   | .builtin b=>pG P s b c.argTypes.toList n
   | .value x=>
    match ba f x with
    |some (.func (.func g) d e)=>some (.jY g (d.toList++n++e.toList))
    |_=>none
   |_=>none
  |none=>none
 |_=>none
def bU (P:Sg)(o:SZ):SL:=
 match o.op with
 | .move _| .assign _| .pick _ _ _| .build _ _| .load _ _| .nilCheck _| .binOp _ _ _ _ _| .unOp _ _ _| .makeFunc _ _ _| .makeInterface _ _
 | .slice _ _ _ _ _| .fieldAddr _ _ _| .field _ _ _| .indexAddr _ _ _| .index _ _ _| .lookup _ _ _ _| .extract _ _=>true
 | .convert _ b _=>
  match P.underlying b with
  |some (.slice _)=>false
  |_=>true
 | .call c=>
  match c.callee with
  | .builtin .len| .builtin .max=>true
  |_=>false
 |_=>false
def m2 (P:Sg)(a b:Sh):SL:=
 match P.underlying a,P.underlying b with
 |some .string,some (.slice _)=>true
 |_,_=>false
def bQ (P:Sg)(o:SZ):SL:=
 match o.op with
 | .alloc _| .box _ _| .buildSlice _ _ _| .makeSlice _ _ _=>true
 | .convert a b _=>m2 P a b
 |_=>false
def c6 (P:Sg)(o:SZ):SL:= !bU P o&& !bQ P o
inductive dw where
 |b2
 |bb (id:Sk)
 |bF
abbrev nH:=Si (dw×an×J)
def oA (a:Sl SZ)(f:an)(j:Sk):Si SL:=
 match a.drop j with
 |o::_=>
  match o.dst with
  |some d=>
   if SP d f.e then
    match f.N d with
    | .bool b=>some b
    |_=>none
   else none
  |none=>none
 |[]=>none
def ff (a:Sl SZ)(o:SZ)(f:an):SL:=
 match o.guard with
 |none=>true
 |some (j,b)=>
  match oA a f j with
  |some a=>a==b
  |none=>false
def fO (f:an)(d:Si Tmp)(v:Sf):Si an:=
 match d with
 |some t=>if SP t f.e then some (f.u t v) else none
 |none=>some f
def jZ (P:Sg)(a:Ti->Sl Sf->J->Si (Sf×J))(b:Sl SZ):Sl SZ->an->J->Si (an×J)
 |[],f,s=>some (f,s)
 |o::r,f,s=>
  if ff b o f then
   match a4 P o f s with
   |some (.a8 v c)=>
    match fO f o.dst v with
    |some d=>jZ P a b r d c
    |none=>none
   |some (.jY g c)=>
    match a g c s with
    |some (v,c)=>
     match fO f o.dst v with
     |some d=>jZ P a b r d c
     |none=>none
    |none=>none
   |none=>none
  else
   match fO f o.dst undef with
   |some c=>jZ P a b r c s
   |none=>none
def cN:Sl Sk->Sk->Sk
 |[],_=>0
 |x::_,0=>x
 |_::r,n+1=>cN r n
def oB (a:Sl Sk):Sl Edge->Sk->Sk
 |[],m=>m
 |e::r,m=>oB a r (if Region.binds .any e then m|||2^e.on|||cN a e.on else m)
def cZ:Sl SZ->Sl Sk->Sl Sk
 |[],a=>a
 |o::r,a=>cZ r (a++[oB a o.after.toList 0])
def r5 (a:Sl SZ)(o:SZ):Sl Sk:=
 (o.op.operands.toList.filterMap fun| .tmp t=>some t|_=>none)++
 (match o.guard with
  |some (j,_)=>
   match a.drop j with
   |p::_=>p.dst.toList
   |[]=>[]
  |none=>[])
def r6 (l:Sl Sk)(d:Si Tmp):SL:=
 match d with
 |some t=>l.any (Sz t)
 |none=>false
def oC (P:Sg)(a:Sl SZ)(x y:SZ):SL:=
 c6 P x&&c6 P y||r6 (r5 a y) x.dst||r6 (r5 a x) y.dst||r6 x.dst.toList y.dst
def m3 (P:Sg)(a:Sl SZ):SL:=
 let b:=cZ a []
 a.zipIdx.all fun y=>
  (y.1.after.toList.all fun e=> !Region.binds .any e||SP e.on y.2)&&
  a.zipIdx.all fun x=> !(SP x.2 y.2&&oC P a x.1 y.1)||S8 (cN b y.2) x.2
inductive cc where
 |e3
 |ki (v:Sf)
 |hP (v:Sf) (id:Sk) (b:cF)
 |iW (v:Sf) (s:J)
def cc.a8:cc->Sf
 | .e3=>undef
 | .ki v=>v
 | .hP v _ _=>v
 | .iW v _=>v
def b3 (p:Sk->SL):J->Sl (Sk×Sk×cF)->J
 |s,[]=>s
 |s,(j,a,b)::r=>
  match p j,s.i.N a with
  |true,none=>b3 p (s.u a (.bl b)) r
  |_,_=>b3 p s r
def jv (P:Sg)(c:Ti->Sl Sf->J->Si (Sf×J))(d:Sl SZ)(m a:Sk)(b:Sl (Sk×Sk×cF))(o:SZ)(f:an)(T:J):Si cc:=
 match ff d o f with
 |false=>some .e3
 |true=>
  match bU P o,bQ P o with
  |true,_=>
   match a4 P o f (b3 (S8 m) T b) with
   |some (.a8 v _)=>some (.ki v)
   |_=>none
  |false,true=>
   match a4 P o f ⟨.al,a⟩ with
   |some (.a8 v d)=>
    match d.t a with
    |some d=>some (.hP v a d)
    |none=>none
   |_=>none
  |false,false=>
   match a4 P o f (b3 (S8 m) T b) with
   |some (.a8 v a)=>some (.iW v a)
   |some (.jY g a)=>
    match c g a (b3 (S8 m) T b) with
    |some (v,a)=>some (.iW v a)
    |none=>none
   |none=>none
def iC (P:Sg)(c:Ti->Sl Sf->J->Si (Sf×J))(d:Sl SZ):Sl Sk->Sl SZ->Sk->Sk->an->J->Sl (Sk×Sk×cF)->Si (Sl cc)
 |m::g,o::r,i,a,f,T,b=>
  match jv P c d m a b o f T with
  |some e=>
   match fO f o.dst e.a8 with
   |some f=>
    match iC P c d g r (i+1) (if bQ P o then a+1 else a) f (match e with| .iW _ s=>s|_=>T) (match e with| .hP _ d a=>b++[(i,d,a)]|_=>b) with
    |some a=>some (e::a)
    |none=>none
   |none=>none
  |none=>none
 |_,_,_,_,_,_,_=>some []
def cf:Sl cc->Sk->Sl (Sk×Sk×cF)
 |[],_=>[]
 | .hP _ a b::r,i=>(i,a,b)::cf r (i+1)
 |_::r,i=>cf r (i+1)
def cw (P:Sg):Sl SZ->Sl cc->J->Sl J
 |o::r,e::a,T=>
  match e with
  | .iW _ s=>T::cw P r a s
  |_=>if c6 P o then T::cw P r a T else cw P r a T
 |_,_,T=>[T]
def j0:Sl SZ->Sl cc->an->an
 |o::r,e::a,f=>
  match fO f o.dst e.a8 with
  |some b=>j0 r a b
  |none=>f
 |_,_,f=>f
def dM (p:Sk->SL)(P:Sg):Sl SZ->Sk->Sk
 |[],_=>0
 |o::r,i=>if c6 P o&&p i then dM p P r (i+1)+1 else dM p P r (i+1)
def b9:Sf->Sf->SL
 | .bool a,.bool b=>a==b
 | .int k a,.int b c=>(if k=b then true else false)&&a==c
 | .string a,.string b=>a.data.toList==b.data.toList
 | .pointer a,.pointer b=>if a=b then true else false
 | .slice a n c,.slice b m d=>(if a=b then true else false)&&Sz n m&&Sz c d
 | .map a,.map b=>if a=b then true else false
 | .nilFunc,.nilFunc=>true
 | .nilIface,.nilIface=>true
 |_,_=>false
def dF:Sl Sf->Sl Sf->SL
 |[],[]=>true
 |a::r,b::q=>b9 a b&&dF r q
 |_,_=>false
def oD:Sf->Sf->SL
 | .agg a,.agg b=>dF a.toList b.toList
 |a,b=>b9 a b
def mn:Sl Sf->Sl Sf->SL
 |[],[]=>true
 |a::r,b::q=>oD a b&&mn r q
 |_,_=>false
def bn:Sf->Sf->SL
 | .agg a,.agg b=>dF a.toList b.toList
 | .tuple a,.tuple b=>mn a.toList b.toList
 | .func (.func g) a b,.func (.func c) d e=>Sz g c&&dF a.toList d.toList&&dF b.toList e.toList
 |a,b=>b9 a b
def mo (P:Sg)(m:Sk)(a:Sl (Sk×Sk×cF))(o:SZ)(f:an)(v:Sf):Sl J->SL
 |[]=>true
 |T::r=>
  match a4 P o f (b3 (S8 m) T a) with
  |some (.a8 u _)=>bn v u&&mo P m a o f v r
  |_=>false
def iD (P:Sg)(a:Sl SZ)(b:Sl Sk)(c:Sl (Sk×Sk×cF))(d:Sl J):Sl Sk->Sl SZ->Sl cc->Sk->an->SL
 |m::g,o::r,e::h,i,f=>
  (match e with
   | .ki v=>mo P m c o f v ((d.take (dM (fun j=> !Nat.testBit (cN b j) i) P a 0+1)).drop (dM (S8 m) P a 0))
   |_=>true)&&
  match fO f o.dst e.a8 with
  |some e=>iD P a b c d g r h (i+1) e
  |none=>false
 |_,_,_,_,_=>true
def bW (P:Sg):Sl SZ->Sk
 |[]=>0
 |o::r=>if bQ P o then bW P r+1 else bW P r
def lP (P:Sg)(c:Ti->Sl Sf->J->Si (Sf×J))(a:Sl SZ)(f:an)(s:J):Si (an×J):=
 match Sv 0 16000000 with
 |false=>none
 |true=>
  match iC P c a (cZ a []) a 0 s.Y f ⟨s.i,s.Y+bW P a⟩ [] with
  |some b=>
   match iD P a (cZ a []) (cf b 0) (cw P a b ⟨s.i,s.Y+bW P a⟩) (cZ a []) a b 0 f with
   |true=>some (j0 a b f,b3 (fun _=>true) ((cw P a b ⟨s.i,s.Y+bW P a⟩).getLastD s) (cf b 0))
   |false=>none
  |none=>none
def gb (P:Sg)(f:an)(s:J):Sl ResultVar->Si (Sl Sf)
 |[]=>some []
 | .tmp t::r=>
  if SP t f.e then
   match gb P f s r with
   |some l=>some (f.N t::l)
   |none=>none
  else none
 | .cell a t::r=>
  if SP a f.e then
   match aD P s t (f.N a),gb P f s r with
   |some v,some l=>some (v::l)
   |_,_=>none
  else none
def b6:Sl Sf->Sf
 |[v]=>v
 |l=> .tuple l.toArray
def tE:a5 Sf->Sk->Sl Sf->a5 Sf
 |t,_,[]=>t
 |t,i,v::r=>tE (a5.ek (fo i) t i v) (i+1) r
def m4 (b:Func)(a:Sl Sf):an:=⟨tE .al 0 a,a.length+(b.ntmps-a.length)⟩
abbrev nI:=Sl Sf->J->Si (Sf×J)
abbrev bg:=Sl (Sk×nI)
def bg.M (l:bg)(g:Sk):Si nI:=
 match l with
 |[]=>none
 |(h,p)::r=>if Sz h g then some p else bg.M r g
def ld (P:Sg)(a:bg)(c:Code->an->J->nH)(g:Ti)(b:Sl Sf)(s:J):Si (Sf×J):=
 match a.M g with
 |some p=>p b s
 |none=>
 match P.funcs[g]? with
 |some a=>
  match a.body,Sv (b.length+(a.ntmps-b.length)) 16000000 with
  |some d,true=>
   match c d (m4 a b) s with
   |some (.b2,f,b)=>
    match gb P f b a.results.toList with
    |some l=>some (b6 l,b)
    |none=>none
   |some (.bF,f,b)=>
    match gb P f b a.results.toList with
    |some l=>some (b6 l,b)
    |none=>none
   |_=>none
  |_,_=>none
 |none=>none
def fg (P:Sg)(c:bg)(a:Code->an->J->nH)(b:Code)(f:an)(s:J):nH:=
 match b with
 | .skip=>some (.b2,f,s)
 | .label _=>some (.b2,f,s)
 | .region _ b d=>
  match (match d with
   |false=>jZ P (ld P c a) b.toList b.toList f s
   |true=>lP P (ld P c a) b.toList f s) with
  |some (b,c)=>some (.b2,b,c)
  |none=>none
 | .seq b c=>
  match a b f s with
  |some (.b2,b,d)=>a c b d
  |r=>r
 | .cond x b c=>
  match ba f x with
  |some (.bool t)=>
   match t with
   |true=>a b f s
   |false=>a c f s
  |_=>none
 | .block d b=>
  match a b f s with
  |some (.bb j,b,c)=>if Sz j d then some (.b2,b,c) else some (.bb j,b,c)
  |r=>r
 | .loop b=>
  match a b f s with
  |some (.b2,c,d)=>a (.loop b) c d
  |r=>r
 | .exit b=>some (.bb b,f,s)
 | .scope b=>a b f s
 | .ret=>some (.bF,f,s)
 |_=>none
def ds (P:Sg)(a:bg):Sk->Code->an->J->nH
 |0=>fun _ _ _=>none
 |n+1=>fg P a (ds P a n)
def kz (P:Sg)(a:bg)(n:Sk)(g:Ti)(b:Sl Sf)(s:J):Si (Sf×J):=ld P a (ds P a n) g b s
def j1 (P:Sg):Code->SL
 | .region _ a true=>m3 P a.toList
 | .seq a b=>j1 P a&&j1 P b
 | .cond _ a b=>j1 P a&&j1 P b
 | .block _ a=>j1 P a
 | .loop a=>j1 P a
 | .scope a=>j1 P a
 |_=>true
def r8 (P:Sg)(b:bg)(g:Sk)(a:Func):SL:=
 (a.name != "runtime.NumGoroutine")&&
 ((b.M g).isSome||match a.body with
   |some c=>j1 P c
   |none=>true)
def tF (P:Sg)(a:bg):SL:=
 P.follows .mixedOrders&&(P.funcs.toList.zipIdx.all fun x=>r8 P a x.2 x.1)
def J.vF:J:=⟨.al,0⟩
end Go.Cl
namespace Go.Cl
open Go.RowKit
theorem a5.BL {a:Type}(t:a5 a)(i:Sk):t.N i=match i with
  |0=>t.a8
  |k+1=>match k%2 with
   |0=>t.mX.N (k/2)
   |_+1=>t.mY.N (k/2):=by
 cases t with
 |al=>cases i with
  |zero=>rfl
  |succ a=>simp only[a5.N,a5.mX,a5.mY];split<;>rfl
 |pB v l r=>cases i with
  |zero=>rfl
  |succ a=>rcases SD a with h|h<;>simp only[a5.N,a5.mX,a5.mY,h]
theorem a5.vG {a:Type}(t:a5 a):t.N 0=t.a8:=by rw[a5.BL]
theorem a5.qL {a:Type}(t:a5 a)(k:Sk):t.N (k+1)=match k%2 with
   |0=>t.mX.N (k/2)
   |_+1=>t.mY.N (k/2):=by rw[a5.BL]
theorem a5.gR {a:Type}:∀(f:Sk) (t:a5 a) (i:Sk) (u:a),i+1<2^f->(a5.ek f t i u).N i=some u:=by
 intro f
 induction f with
 |zero=>intro t a u h;simp at h
 |succ f a=>
  intro t b u h;cases b with
  |zero=>rfl
  |succ k=>
   have b:k/2+1<2^f:=by rw[Nat.pow_succ] at h;omega
   rw[a5.qL];rcases SD k with c|d
   ·simp only[a5.ek,c,a5.mX];exact a _ _ _ b
   simp only[a5.ek,d,a5.mY];exact a _ _ _ b
theorem a5.hp {a:Type}:∀(f:Sk) (t:a5 a) (i j:Sk) (u:a),i≠j->(a5.ek f t i u).N j=t.N j:=by
 intro f
 induction f with
 |zero=>intro t a j u h;rfl
 |succ f a=>
  intro t b j u h;cases b with
  |zero=>
   cases j with
   |zero=>exact SI rfl h
   |succ m=>rw[a5.qL,a5.qL];simp only[a5.ek,a5.mX,a5.mY]
  |succ k=>
   rcases SD k with b|c
   ·simp only[a5.ek,b];cases j with
    |zero=>rw[a5.vG,a5.vG];rfl
    |succ m=>
     rw[a5.qL,a5.qL];rcases SD m with b|d
     ·simp only[b,a5.mX];exact a _ _ _ _ Z
     simp only[d,a5.mY]
   simp only[a5.ek,c];cases j with
   |zero=>rw[a5.vG,a5.vG];rfl
   |succ m=>
    rw[a5.qL,a5.qL];rcases SD m with b|c
    ·simp only[b,a5.mX]
    simp only[c,a5.mY];exact a _ _ _ _ Z
theorem hq {i:Sk}(_:0<16000001):i+1<2^fo i:=by unfold fo;exact Nat.lt_log2_self
theorem J.kA (s:J)(i:Sk)(b:cF)(h:0<16000001):(s.u i (.bl b)).t i=some b:=by
 simp only[J.t,J.u,a5.gR _ s.i i _ (hq h)]
theorem J.gS (s:J)(i j:Sk)(o:dK)(h:i≠j):(s.u i o).i.N j=s.i.N j:=by
 simp only[J.u,a5.hp _ s.i i j o h]
structure K6 where
 s:Sk->Sk->Sk×Sk
 fP:Sk->Sk
structure aC where
 h:J
 l:K6
 k:St
def nJ (S:aC)(i a c:Sk)(d:Addr):Prop:=
 ∃b,S.h.t i=some b/\c<=b.aJ.length+1/\(b.bT<=c->d=⟨(S.l.s i c).1,(S.l.s i c).2+a,none⟩)
def tG (S:aC)(i c:Sk)(a:Addr)(d:Sk):Prop:=
 ∀b,S.h.t i=some b->b.bT<=c->∃(c:Sr Sf) (E:Sh) (e:Sk×Sk),S.k.heap[a.block]?=some (.cells c E e)/\a.off+d*b.ju<=c.size
inductive aX (S:aC):Sf->Sf->Prop
 |oE (b:SL):aX S (.bool b) (.bool b)
 |gf (k:Tt) (n:Tq):aX S (.int k n) (.int k n)
 |nK (x:S5):aX S (.string x) (.string x)
 |yF:aX S (.pointer none) (.pointer none)
 |qM (i off c:Sk) (a:Addr) (h:nJ S i off c a):aX S (.pointer (some ⟨i,off,some c⟩)) (.pointer (some a))
 |qN:aX S (.slice none 0 0) (.slice none 0 0)
 |e4 (i off len c:Sk) (a:Addr) (cap:Sk) (h0:len<=cap) (hz:c=0->cap=0) (h:0<cap->nJ S i off c a/\tG S i c a cap):
  aX S (.slice (some ⟨i,off,none⟩) len c) (.slice (some a) len cap)
 |yG:aX S (.map none) (.map none)
 |cv (r:Sk) (h:∃es,S.h.S r=some es):aX S (.map (some r)) (.map (some (S.l.fP r)))
 |yH:aX S .nilFunc .nilFunc
 |yI:aX S .nilIface .nilIface
 |tH (g:Ti) (aGl bs VY VZ:Sr Sf) (ha:aGl.toList.length=VY.toList.length) (hb:bs.toList.length=VZ.toList.length)
  (h1:∀i,i<aGl.toList.length->aX S (aGl.toList.getD i undef) (VY.toList.getD i undef)) (h2:∀i,i<bs.toList.length->aX S (bs.toList.getD i undef) (VZ.toList.getD i undef)):
  aX S (.func (.func g) aGl bs) (.func (.func g) VY VZ)
 |mq (cs fZ:Sr Sf) (h1:cs.toList.length=fZ.toList.length) (h2:∀i,i<cs.toList.length->aX S (cs.toList.getD i undef) (fZ.toList.getD i undef)):aX S (.agg cs) (.agg fZ)
 |vH (n:Tq):aX S (.chan none) (.int .u8 n)
 |vI (b o:Sk):aX S (.pointer (some ⟨b,o,none⟩)) (.pointer (some ⟨b,o,none⟩))
 |tI (t:Sh) (v v' :Sf) (h:aX S v v'):aX S (.iface t v) (.iface t v')
 |m5 (cs fZ:Sr Sf) (h1:cs.toList.length=fZ.toList.length) (h2:∀i,i<cs.toList.length->aX S (cs.toList.getD i undef) (fZ.toList.getD i undef)):aX S (.tuple cs) (.tuple fZ)
def bo (S:aC)(l a:Sl Sf):Prop:=l.length=a.length/\∀i,i<l.length->aX S (l.getD i undef) (a.getD i undef)
theorem aX.pH (S:aC):aX S undef undef:=aX.m5 #[] #[] rfl (fun i h=>by simp at h)
theorem bo.al {S:aC}:bo S [] []:=⟨rfl,fun i h=>by simp at h⟩
theorem bo.ed {S:aC}{v a:Sf}{l b:Sl Sf}(h:aX S v a)(c:bo S l b):bo S (v::l) (a::b):=by
 refine⟨by simp[c.1],fun i a=> ?_⟩;cases i with
 |zero=>simpa using h
 |succ k=>simpa using c.2 k (by simpa using a)
theorem bo.lQ {S:aC}{v:Sf}{l a:Sl Sf}(h:bo S (v::l) a):∃b c,a=b::c/\aX S v b/\bo S l c:=by
 cases a with
 |nil=>have:=h.1;simp at this
 |cons a b=>
  refine⟨a,b,rfl,by simpa using h.2 0 aA,by simpa using h.1,fun i a=>by simpa using h.2 (i+1) (by simpa using a)⟩
theorem bo.qO {S:aC}{a:Sl Sf}(h:bo S [] a):a=[]:=by
 have:=h.1;cases a with
 |nil=>rfl
 |cons _ _=>simp at this
theorem bo.hQ {S:aC}{l a m b:Sl Sf}(h:bo S l a)(c:bo S m b):bo S (l++m) (a++b):=by
 induction l generalizing a with
 |nil=>rw[h.qO];exact c
 |cons v l a=>
  obtain⟨d,e,rfl,b,c⟩:=h.lQ;exact bo.ed b (a c)
theorem bo.K7 {S:aC}{a b:Sr Sf}(h:bo S a.toList b.toList):aX S (.agg a) (.agg b):= .mq _ _ h.1 h.2
theorem bo.mq {S:aC}{l a:Sl Sf}(h:bo S l a):aX S (.agg l.toArray) (.agg a.toArray):= .mq _ _ (by simpa using h.1) (by simpa using h.2)
theorem bo.m5 {S:aC}{l a:Sl Sf}(h:bo S l a):aX S (.tuple l.toArray) (.tuple a.toArray):= .m5 _ _ (by simpa using h.1) (by simpa using h.2)
structure hr (S T:aC):Prop where
 bl:∀i b,S.h.t i=some b->∃b',T.h.t i=some b' /\b.aJ.length<=b'.aJ.length/\b.bT<=b'.bT/\b'.ju=b.ju/\∀c,c<=b.aJ.length+1->b'.bT<=c->T.l.s i c=S.l.s i c
 cv:∀r es,S.h.S r=some es->(∃kJ,T.h.S r=some kJ)/\T.l.fP r=S.l.fP r
 vJ:∀(k:Sk) (arr:Sr Sf) (E:Sh) (fr:Sk×Sk),S.k.heap[k]?=some (.cells arr E fr)->∃(pU:Sr Sf) (TE:Sk×Sk),T.k.heap[k]?=some (.cells pU E TE)/\pU.size=arr.size
theorem hr.p (S:aC):hr S S:=
 ⟨fun _ b h=>⟨b,h,Sj _,Sj _,rfl,fun _ _ _=>rfl⟩,fun _ a h=>⟨⟨a,h⟩,rfl⟩,fun _ a _ b h=>⟨a,b,h,rfl⟩⟩
theorem hr.a {S T U:aC}(h:hr S T)(k:hr T U):hr S U:=by
 refine⟨fun i b a=> ?_,fun r d e=> ?_,fun n f E g j=> ?_⟩
 ·have⟨c,l,p,q,m,o⟩:=h.bl i b a;have⟨a,b,s,t,p,q⟩:=k.bl i c l;exact⟨a,b,Z,Z,by rw[p,m],fun c a b=>(q c Z b).trans (o c a Z)⟩
 ·have⟨⟨a,b⟩,c⟩:=h.cv r d e;have⟨d,e⟩:=k.cv r a b;exact⟨d,e.trans c⟩
 have⟨a,b,c,d⟩:=h.vJ n f E g j;have⟨e,f,g,h⟩:=k.vJ n a E b c;exact⟨e,f,g,h.trans d⟩
theorem nJ.b {S T:aC}(h:hr S T){i a c:Sk}{b:Addr}(d:nJ S i a c b):nJ T i a c b:=by
 have⟨b,a,e,f⟩:=d;have⟨d,g,k,l,_,j⟩:=h.bl i b a;exact⟨d,g,Z,fun a=>by rw[j c e a];exact f Z⟩
theorem tG.b {S T:aC}(h:hr S T){i c:Sk}{a:Addr}{b:Sk}(d:∃e,S.h.t i=some e)(f:tG S i c a b):tG T i c a b:=by
 intro a e a;have⟨b,a⟩:=d;have⟨g,c,j,k,d,_⟩:=h.bl i b a;rw[e] at c;obtain rfl:=Se c;have⟨g,E,j,c,e⟩:=f b a Z;have⟨a,b,f,g⟩:=h.vJ _ _ _ _ c;exact⟨a,E,b,f,by rw[d,g];exact e⟩
theorem aX.b {S T:aC}(h:hr S T){v a:Sf}(b:aX S v a):aX T v a:=by
 induction b with
 |oE b=>exact .oE b
 |gf k n=>exact .gf k n
 |nK x=>exact .nK x
 |yF=>exact .yF
 |qM i a c b d=>exact .qM i a c b (d.b h)
 |qN=>exact .qN
 |e4 i a b c d e f g j=>
  refine .e4 i a b c d e f g fun b=> ?_
  have⟨a,c⟩:=j b;exact⟨a.b h,c.b h (by have⟨b,c,_⟩:=a;exact⟨b,c⟩)⟩
 |yG=>exact .yG
 |cv r a=>
  have⟨b,c⟩:=a;have⟨a,d⟩:=h.cv r b c;rw[<-d];exact .cv r a
 |yH=>exact .yH
 |yI=>exact .yI
 |tH g a b c d e f _ _ h i=>exact .tH g a b c d e f h i
 |mq a b c _ d=>exact .mq a b c d
 |vH n=>exact .vH n
 |vI b o=>exact .vI b o
 |tI t v a _ b=>exact .tI t v a b
 |m5 a b c _ d=>exact .m5 a b c d
theorem bo.b {S T:aC}(h:hr S T){l a:Sl Sf}(b:bo S l a):bo T l a:=⟨b.1,fun i a=>(b.2 i a).b h⟩
def kB (S:aC):Sl (Sf×Sf)->Sl MapEntry->Prop
 |[],[]=>True
 |(k,v)::r,e::a=>e.key=k/\aX S v e.val/\kB S r a
 |_,_=>False
theorem kB.b {S T:aC}(h:hr S T):∀{l:Sl (Sf×Sf)} {a:Sl MapEntry},kB S l a->kB T l a
 |[],[],_=>trivial
 |(_,_)::_,_::_,a=>⟨a.1,a.2.1.b h,kB.b h a.2.2⟩
 |[],_::_,a=>a
 |_::_,[],a=>a
def dX (b:cF)(c:Sk):Prop:=b.bT<=c/\c<=b.aJ.length+1
structure bR (base:Sk) (S:aC):Prop where
 bE:0<=16000000
 fB:∀i o,S.h.i.N i=some o->i<S.h.Y
 bT:∀i b,S.h.t i=some b->1<=b.bT
 mr:∀i b,S.h.t i=some b->∀c,dX b c->∀p,p+1<c->∃v,S.k.cell? ⟨(S.l.s i c).1,(S.l.s i c).2+p,none⟩=some v/\aX S (b.aJ.getD p undef) v
 br:∀i b,S.h.t i=some b->b.br=true->∀c,dX b c->
  base<=(S.l.s i c).1/\(∃(arr:Sr Sf) (E:Sh) (fr:Sk×Sk),S.k.heap[(S.l.s i c).1]?=some (.cells arr E fr)/\(fr.1=fr.2\/arr.size<=fr.1/\b.ju=1))/\
  (∀j b',S.h.t j=some b' ->∀c',dX b' c' ->(S.l.s j c').1=(S.l.s i c).1->j=i)/\
  ∀c',dX b c' ->(S.l.s i c').1=(S.l.s i c).1->S.l.s i c' =S.l.s i c
 cv:∀r es,S.h.S r=some es->base<=S.l.fP r/\∃(kJ:Sr MapEntry) (yD:Sk),S.k.heap[S.l.fP r]?=some (.map kJ yD)/\kB S es kJ.toList
 vK:∀r r' es kJ,S.h.S r=some es->S.h.S r' =some kJ->S.l.fP r=S.l.fP r' ->r=r'
 hR:base<=S.k.heap.size
 iX:∀i b,S.h.t i=some b->∀c,dX b c->(S.l.s i c).1<S.k.heap.size
structure bH (base:Sk) (S T:aC):Prop where
 fQ:bR base T
 gv:hr S T
 eV:Below base S.k T.k
theorem bH.p {a:Sk}{S:aC}(h:bR a S):bH a S S:=⟨h,hr.p S,Below.refl _ _⟩
theorem bH.a {a:Sk}{S T U:aC}(h:bH a S T)(k:bH a T U):bH a S U:=⟨k.fQ,h.gv.a k.gv,h.eV.trans k.eV⟩
theorem bR.n {b:Sk}{S:aC}(h:bR b S){i:Sk}{c:cF}(a:S.h.t i=some c):i<S.h.Y:=by
 unfold J.t at a;split at a
 ·exact h.fB i _ ‹_›
 cases a
theorem bR.yJ {b:Sk}{S:aC}(h:bR b S){i:Sk}{c:Sl (Sf×Sf)}(a:S.h.S i=some c):i<S.h.Y:=by
 unfold J.S at a;split at a
 ·exact h.fB i _ ‹_›
 cases a
theorem r9 {s:J}{i:Sk}{c:cF}{d:Sl (Sf×Sf)}(a:s.t i=some c)(b:s.S i=some d):False:=by
 unfold J.t at a;unfold J.S at b;split at a
 ·rename_i h;rw[h] at b;cases b
 cases a
theorem bR.qP {K:Sk}{S:aC}(x:bR K S)(i L s:Sk)(d:cF)(a:Sk->Sk->Sk×Sk)(l:St)
  (W7:i<s) (W8:S.h.Y<=s) (WR:0<=16000000) (W9:i<S.h.Y\/i+1=s)
  (WS:∀t,S.h.S i≠some t)
  (WT:1<=d.bT)
  (WU:∀f,S.h.t i=some f->f.aJ.length<=d.aJ.length/\f.bT<=d.bT/\d.ju=f.ju/\∀c,c<=f.aJ.length+1->d.bT<=c->a i c=S.l.s i c)
  (y:∀j,j≠i->a j=S.l.s j)
  (Q:∀k,k≠L->k<S.k.heap.size->l.heap[k]?=S.k.heap[k]?)
  (WJ:∀j z c,j≠i->S.h.t j=some z->dX z c->(S.l.s j c).1≠L)
  (WV:∀r t,S.h.S r=some t->S.l.fP r≠L)
  (WW:∀c,dX d c->(a i c).1<l.heap.size)
  (WX:∀c,dX d c->∀A,A+1<c->∃B,l.cell? ⟨(a i c).1,(a i c).2+A,none⟩=some B/\aX S (d.aJ.getD A undef) B)
  (WY:d.br=true->∀c,dX d c->K<=(a i c).1/\(∃(m:Sr Sf) (E:Sh) (n:Sk×Sk),l.heap[(a i c).1]?=some (.cells m E n)/\(n.1=n.2\/m.size<=n.1/\d.ju=1))/\
   (∀j z,j≠i->S.h.t j=some z->∀g,dX z g->(S.l.s j g).1≠(a i c).1)/\
   ∀g,dX d g->(a i g).1=(a i c).1->a i g=a i c)
  (WZ:∀j z,j≠i->S.h.t j=some z->z.br=true->∀g,dX z g->∀c,dX d c->(a i c).1≠(S.l.s j g).1)
  (W0:∀(m:Sr Sf) (E:Sh) (n:Sk×Sk),S.k.heap[L]?=some (.cells m E n)->∃(M:Sr Sf) (Wz:Sk×Sk),l.heap[L]?=some (.cells M E Wz)/\M.size=m.size)
  (WK:Below K S.k l) (W1:S.k.heap.size<=l.heap.size):
  bH K S ⟨⟨a5.ek (fo i) S.h.i i (.bl d),s⟩,⟨a,S.l.fP⟩,l⟩:=by
 have WA:∀j,j≠i->(a5.ek (fo i) S.h.i i (.bl d)).N j=S.h.i.N j:=fun j u=>a5.hp _ _ _ _ _ (Ne.symm u)
 have WL:(a5.ek (fo i) S.h.i i (.bl d)).N i=some (.bl d):=a5.gR _ _ _ _ (hq Z);have H:(⟨a5.ek (fo i) S.h.i i (.bl d),s⟩:J).t i=some d:=by simp only[J.t,WL]
 have D:∀j,j≠i->(⟨a5.ek (fo i) S.h.i i (.bl d),s⟩:J).t j=S.h.t j:=fun j u=>by simp only[J.t,WA j u]
 have R:∀j,j≠i->(⟨a5.ek (fo i) S.h.i i (.bl d),s⟩:J).S j=S.h.S j:=fun j u=>by simp only[J.S,WA j u]
 have WB:(⟨a5.ek (fo i) S.h.i i (.bl d),s⟩:J).S i=none:=by simp only[J.S,WL]
 have W2:∀(k:Sk) (m:Sr Sf) (E:Sh) (n:Sk×Sk),S.k.heap[k]?=some (.cells m E n)->∃(M:Sr Sf) (Wz:Sk×Sk),l.heap[k]?=some (.cells M E Wz)/\M.size=m.size:=by
  intro k m E n p;by_cases WM:k=L
  ·subst WM;exact W0 m E n p
  have O:k<S.k.heap.size:=by
   rcases S0 k S.k.heap.size with v|v
   ·exact v
   rw[SJ v] at p;cases p
  exact⟨m,n,by rw[Q k WM O];exact p,rfl⟩
 have T:hr S ⟨⟨a5.ek (fo i) S.h.i i (.bl d),s⟩,⟨a,S.l.fP⟩,l⟩:=by
  refine⟨fun j f b=> ?_,fun r t o=> ?_,W2⟩
  ·by_cases u:j=i
   ·subst u;have⟨w,h,F,W3⟩:=WU f b;exact⟨d,H,w,h,F,W3⟩
   exact⟨f,by rw[<-b];exact D j u,Sj _,Sj _,rfl,fun c _ _=>by show a j c=_;rw[y j u]⟩
  have W4:r≠i:=fun G=>WS t (G▸o)
  exact⟨⟨t,by rw[<-o];exact R r W4⟩,rfl⟩
 refine⟨⟨WR,?_,?_,?_,?_,?_,?_,Tu x.hR WK.size,?_⟩,T,WK⟩
 ·intro j WN u;by_cases e:j=i
  ·show j<s;omega
  have WO:(a5.ek (fo i) S.h.i i (.bl d)).N j=some WN:=u;rw[WA j e] at WO;have:=x.fB j WN WO;show j<s;omega
 ·intro j f b;by_cases e:j=i
  ·subst e;rw[H] at b;obtain rfl:=Se b;exact WT
  rw[D j e] at b;exact x.bT j f b
 ·intro j f b c q A WQ;by_cases e:j=i
  ·subst e;rw[H] at b;obtain rfl:=Se b
   have⟨B,w,h⟩:=WX c q A WQ;exact⟨B,w,h.b T⟩
  rw[D j e] at b;have⟨B,w,h⟩:=x.mr j f b c q A WQ;refine⟨B,?_,h.b T⟩;show l.cell? ⟨(a j c).1,(a j c).2+A,none⟩=some B;rw[y j e,<-w];exact SM (Q _ (WJ j f c e b q) (x.iX j f b c q))
 ·intro j f b WC c q;by_cases e:j=i
  ·subst e;rw[H] at b;obtain rfl:=Se b
   have⟨w,h,F,WD⟩:=WY WC c q;refine⟨w,h,fun k WE p g U P=> ?_,WD⟩;by_cases W:k=j
   ·exact W
   rw[D k W] at p;exact SI (by have:(a k g).1=(a j c).1:=P;rwa [y k W] at this) (F k WE W p g U)
  rw[D j e] at b;have⟨w,⟨m,E,n,h,W5⟩,F,WD⟩:=x.br j f b WC c q;have O:(S.l.s j c).1<S.k.heap.size:=by
   rcases S0 (S.l.s j c).1 S.k.heap.size with v|v
   ·exact v
   rw[SJ v] at h;cases h
  refine⟨by show K<=(a j c).1;rw[y j e];exact w,⟨m,E,n,?_,W5⟩,fun k WE p g U P=> ?_,by show∀g,dX f g->(a j g).1=(a j c).1->a j g=a j c;rw[y j e];exact WD⟩
  ·show l.heap[(a j c).1]?=_;rw[y j e,Q _ (WJ j f c e b q) O];exact h
  have X:(a k g).1=(a j c).1:=P;rw[y j e] at X;by_cases WG:k=i
  ·subst WG;rw[H] at p;obtain rfl:=Se p
   exact SI X (WZ j f e b WC c q g U)
  rw[D k WG] at p;rw[y k WG] at X;exact F k WE p g U X
 ·intro r t o;rw[R r ((fun G=>by subst G;rw[WB] at o;cases o):r≠i)] at o;have⟨w,WH,W6,h,F⟩:=x.cv r t o;have O:S.l.fP r<S.k.heap.size:=by
   rcases S0 (S.l.fP r) S.k.heap.size with v|v
   ·exact v
   rw[SJ v] at h;cases h
  exact⟨w,WH,W6,by show l.heap[S.l.fP r]?=_;rw[Q _ (WV r t o) O];exact h,F.b T⟩
 ·intro r WI t WH o Wy P;rw[R r ((fun G=>by subst G;rw[WB] at o;cases o):r≠i)] at o;rw[R WI ((fun G=>by subst G;rw[WB] at Wy;cases Wy):WI≠i)] at Wy;exact x.vK r WI t WH o Wy P
 intro j f b c q;by_cases e:j=i
 ·subst e;rw[H] at b;obtain rfl:=Se b
  exact WW c q
 rw[D j e] at b;show(a j c).1<l.heap.size;rw[y j e];exact Tr (x.iX j f b c q) W1
theorem vL:∀(n:Sk) (l:Sl Sf),qH n l=if n<=l.length then some (l.take n) else none:=by
 intro n
 induction n with
 |zero=>intro l;simp[qH]
 |succ n a=>
  intro l;cases l with
  |nil=>simp[qH]
  |cons v r=>
   simp only[qH,a,S1,Nat.add_le_add_iff_right,List.take_succ_cons];by_cases h:n<=r.length<;>simp[h]
theorem tJ:∀(n:Sk) (l:Sl Sf),pC n l=l.drop n:=by
 intro n
 induction n with
 |zero=>intro l;cases l<;>simp[pC]
 |succ n a=>intro l;cases l with
  |nil=>simp[pC]
  |cons v r=>simp[pC,a]
theorem yK:∀(l:Sl Sf) (b:Sk) (a r:Sl Sf),di l b a=some r->
  r.length=l.length/\(a=[]\/b+a.length<=l.length)/\∀p,r.getD p undef=if b<=p/\p<b+a.length then a.getD (p-b) undef else l.getD p undef:=by
 intro l
 induction l with
 |nil=>
  intro b a r h;cases a with
  |nil=>simp only[di] at h;obtain rfl:=Se h;exact⟨rfl,.inl rfl,fun p=>by rw[Sq aA]⟩
  |cons v a=>simp[di] at h
 |cons j l g=>
  intro b a r h;cases a with
  |nil=>simp only[di] at h;obtain rfl:=Se h;exact⟨rfl,.inl rfl,fun p=>by rw[Sq aA]⟩
  |cons v a=>
   cases b with
   |zero=>
    simp only[di] at h;split at h
    ·rename_i m d;obtain rfl:=Se h;have⟨e,c,f⟩:=g 0 a m d;refine⟨by simp[e],.inr ?_,fun p=> ?_⟩
     ·rcases c with rfl|c
      ·simp
      simp;omega
     cases p with
     |zero=>simp
     |succ p=>
      have:=f p;simp only[Nat.zero_le,Tv,Ta,TF,S3,S1,Nat.add_lt_add_iff_right] at this|-
      exact this
    cases h
   |succ n=>
    simp only[di] at h;split at h
    ·rename_i m d;obtain rfl:=Se h;have⟨e,c,f⟩:=g n (v::a) m d;refine⟨by simp[e],.inr ?_,fun p=> ?_⟩
     ·rcases c with c|c
      ·cases c
      simp at c|-;omega
     cases p with
     |zero=>rw[Sq Z];simp
     |succ p=>
      have:=f p;simp only[S3];rw[this];by_cases i:n<=p/\p<n+(v::a).length
      ·rw[SC i,SC Z,show p+1-(n+1)=p-n from Z]
      rw[Sq i,Sq Z]
    cases h
def lR (w:St)(k o n:Sk):Sl Sf:=(List.range n).map fun p=>(w.cell? ⟨k,o+p,none⟩).getD undef
theorem K8 (w:St)(k o n:Sk):(lR w k o n).length=n:=by simp[lR]
theorem yL (w:St)(k o n p:Sk)(h:p<n):(lR w k o n).getD p undef=(w.cell? ⟨k,o+p,none⟩).getD undef:=by
 simp[lR,Sm,h]
theorem K9 (w:St)(k o n:Sk):lR w k o (n+1)=(w.cell? ⟨k,o,none⟩).getD undef::lR w k (o+1) n:=by
 simp only[lR,List.range_succ_eq_map,List.map_cons,List.map_map,SW]
 congr 1
 apply List.map_congr_left;intro p _;simp only[Function.comp,Tn];rw[show o+(p+1)=o+1+p from Z]
theorem La (P:Sg)(w:St)(k o:Sk):∀(n i:Sk) (a:Sr Sf),(∀p,p<n->∃v,w.cell? ⟨k,o+i+p,none⟩=some v)->
  (loadCellsFrom ⟨k,o,none⟩ i n a).run P w= .ok (a++(lR w k (o+i) n).toArray) w:=by
 intro n
 induction n with
 |zero=>intro a a _;simp[loadCellsFrom,lR]
 |succ n c=>
  intro a d h;have⟨v,b⟩:=h 0 Z;simp only[SW] at b;have:=c (a+1) (d.push v) (fun p c=>by have:=h (p+1) Z;rwa [show o+a+(p+1)=o+(a+1)+p from Z] at this);simp only[loadCellsFrom,Sem.run_bind,run_load,Addr.add_lit,b,So,this,K9,Option.getD_some]
  congr 1
  rw[<-SG];simp[SN]
theorem yM (P:Sg)(w:St)(k o n:Sk)(h:∀p,p<n->∃v,w.cell? ⟨k,o+p,none⟩=some v):
  (loadCells ⟨k,o,none⟩ n).run P w= .ok (lR w k o n).toArray w:=by
 have:=La P w k o n 0 #[] (by simpa using h)
 simpa [loadCells] using this
def lS (w:St)(k o:Sk):Sl Sf->St
 |[]=>w
 |v::r=>lS (w.setCell ⟨k,o,none⟩ v) k (o+1) r
theorem BM (w:St)(k o:Sk)(v:Sf)(a:Sr Sf)(E:Sh)(b:Sk×Sk)(h:w.heap[k]?=some (.cells a E b)):
  (w.setCell ⟨k,o,none⟩ v).heap[k]?=some (.cells (a.setIfInBounds o v) E b):=by
 simp only[World.setCell,S7,SY,h];rfl
theorem j2 (w:St)(k o:Sk)(a:Sr Sf)(E:Sh)(b:Sk×Sk)(h:w.heap[k]?=some (.cells a E b)):
  w.cell? ⟨k,o,none⟩=a[o]?:=by simp[TJ,h]
theorem BN {w:St}{k o:Sk}{v:Sf}(h:w.cell? ⟨k,o,none⟩=some v):∃(b:Sr Sf) (E:Sh) (a:Sk×Sk),w.heap[k]?=some (.cells b E a)/\b[o]?=some v:=by
 unfold TJ at h;split at h
 ·rename_i c E a d;exact⟨c,E,a,d,by simpa using h⟩
 cases h
theorem m8 {w:St}{k:Sk}{o:Obj}(h:w.heap[k]?=some o):k<w.heap.size:=by
 rcases S0 k w.heap.size with a|b
 ·exact a
 rw[SJ b] at h;cases h
theorem qQ:∀(a:Sl Sf) (w:St) (k o:Sk),(lS w k o a).heap.size=w.heap.size
 |[],_,_,_=>rfl
 |v::r,w,a,o=>by rw[lS,qQ r];simp
theorem sa:∀(a:Sl Sf) (w:St) (k o j:Sk),j≠k->(lS w k o a).heap[j]?=w.heap[j]?
 |[],_,_,_,_,_=>rfl
 |v::r,w,a,o,j,h=>by rw[lS,sa r _ _ _ _ h];exact Below.heap_setCell _ _ _ _ h
theorem vM:∀(a:Sl Sf) (w:St) (k o B:Sk),B<=k->Below B w (lS w k o a)
 |[],w,_,_,B,_=>Below.refl B w
 |v::r,w,a,o,B,h=>((Below.refl B w).setCell (p:=⟨a,o,none⟩) h v).trans (vM r _ a (o+1) B h)
theorem tK:∀(a:Sl Sf) (w:St) (k o:Sk) (b:Sr Sf) (E:Sh) (d:Sk×Sk),w.heap[k]?=some (.cells b E d)->o+a.length<=b.size->
  ∃c,(lS w k o a).heap[k]?=some (.cells c E d)/\c.size=b.size/\∀p,c[p]?=if o<=p/\p<o+a.length then some (a.getD (p-o) undef) else b[p]?:=by
 intro a
 induction a with
 |nil=>intro w a o a E b h _;exact⟨a,h,rfl,fun p=>by rw[Sq aA]⟩
 |cons v r c=>
  intro w a o d E b h e;simp only[S1] at e;have⟨e,f,g,i⟩:=c (w.setCell ⟨a,o,none⟩ v) a (o+1) _ E b (BM w a o v d E b h) (by simp;omega);refine⟨e,f,by simpa using g,fun p=> ?_⟩;rw[i p];by_cases a:o+1<=p/\p<o+1+r.length
  ·rw[SC a,SC (by simp;omega),show p-o=(p-(o+1))+1 from Z,S3]
  rw[Sq a];by_cases a:p=o
  ·subst a;rw[SC aA,SH Z,TG,To]
  rw[Sq (by simp;omega),SF Z]
theorem Lb {v:Sf}(h:aN v=true):v.oneCell' =true:=by cases v<;>simp_all[aN,Value.oneCell']
theorem vN (P:Sg)(k o:Sk):∀(a:Sl Sf) (w:St) (i:Sk) (c:Sr Sf) (E:Sh) (b:Sk×Sk),w.heap[k]?=some (.cells c E b)->
  (b.1=b.2\/c.size<=b.1)->o+i+a.length<=c.size->(∀v∈a,aN v=true)->(storeCells ⟨k,o,none⟩ a i).run P w= .ok () (lS w k (o+i) a):=by
 intro a
 induction a with
 |nil=>intro w a a E a _ _ _ _;simp[storeCells,lS]
 |cons v r f=>
  intro w a b E c h d g e;simp only[S1] at g;have g:w.frozen? ⟨k,o+a,none⟩=false:=by
   simp only[World.frozen?,h];rcases d with j|j
   ·rw[Th];simp;omega
   rw[Th];simp;omega
  have j:(store ⟨k,o+a,none⟩ v).run P w= .ok () (w.setCell ⟨k,o+a,none⟩ v):=by
   rw[run_store P w _ v .plain (Lb (e v aA))];simp[(show w.cell? ⟨k,o+a,none⟩=some b[o+a] by rw[j2 w k _ b E c h];simp),g]
  have:=f (w.setCell ⟨k,o+a,none⟩ v) (a+1) _ E c (BM w k (o+a) v b E c h) (by simpa using d) (by simp;omega) (fun u a=>e u (by simp[a]));simp only[storeCells,Sem.run_bind,Addr.add_lit,j,So,this,lS,SN]
theorem aX.aN {S:aC}{v a:Sf}(h:aX S v a):aN v=aN a:=by cases h<;>rfl
theorem bo.aN {S:aC}{l a:Sl Sf}(h:bo S l a)(b:l.all aN=true):∀v∈a,aN v=true:=by
 induction l generalizing a with
 |nil=>rw[h.qO];simp
 |cons v l a=>
  obtain⟨e,f,rfl,c,d⟩:=h.lQ;simp only[TD,Sn] at b;intro u e;rcases List.mem_cons.1 e with rfl|e
  ·rw[<-c.aN];exact b.1
  exact a d b.2 u e
theorem aX.aJ {S:aC}{v a:Sf}(h:aX S v a):bo S v.cells.toList a.cells.toList:=by
 cases h with
 |mq c d a b=>exact⟨a,b⟩
 |vI b o=>exact bo.ed (.vI b o) bo.al
 |vH n=>exact bo.ed (.vH n) bo.al
 |tI t v a h=>exact bo.ed (.tI t v a h) bo.al
 |_=>exact bo.ed (by first|assumption|(constructor<;>assumption)|constructor) bo.al
theorem Lc {b:cF}{c n:Sk}(h:(Sv b.bT c&&Sv c (b.aJ.length+1)&&SP n c)=true):dX b c/\n<c:=by
 simp only[Sn,SA,SX] at h;exact⟨⟨h.1.1,h.1.2⟩,h.2⟩
theorem Ld (l:Sl Sf)(o n p:Sk)(h:p<n):((l.drop o).take n).getD p undef=l.getD (o+p) undef:=by
 simp[Sm,h]
theorem bR.aJ {m:Sk}{S:aC}(h:bR m S){i a c n:Sk}{l:Sl Sf}(b:S.h.fL i a c n=some l):
  ∃d,S.h.t i=some d/\dX d c/\a+n<c/\l=(d.aJ.drop a).take n/\l.length=n/\bo S l (lR S.k (S.l.s i c).1 ((S.l.s i c).2+a) n)/\
   ∀p,p<n->∃v,S.k.cell? ⟨(S.l.s i c).1,(S.l.s i c).2+a+p,none⟩=some v:=by
 unfold J.fL at b;split at b
 ·rename_i d g;split at b
  ·rename_i o;have⟨j,q⟩:=Lc o;rw[vL,tJ] at b;split at b
   ·rename_i t;obtain rfl:=Se b;have f:((d.aJ.drop a).take n).length=n:=by rw[Ty];omega
    have k:∀p,p<n->∃v,S.k.cell? ⟨(S.l.s i c).1,(S.l.s i c).2+a+p,none⟩=some v/\aX S (d.aJ.getD (a+p) undef) v:=fun p e=>by
     have:=h.mr i d g c j (a+p) Z
     rwa [<-SN] at this
    refine⟨d,g,j,q,rfl,f,⟨by rw[f,K8],fun p e=> ?_⟩,fun p e=>(k p e).imp fun _ h=>h.1⟩;rw[f] at e;have⟨v,r,s⟩:=k p e;rw[yL _ _ _ _ _ e,r,Ld _ _ _ _ e];exact s
   cases b
  cases b
 cases b
theorem tL {s:J}(_:s.bE=true):0<16000000:=Z
theorem bR.Q {b:Sk}{S:aC}(h:bR b S):S.h.t S.h.Y=none/\S.h.S S.h.Y=none:=by
 constructor
 ·cases a:S.h.t S.h.Y with
  |none=>rfl
  |some c=>have:=h.n a;omega
 cases a:S.h.S S.h.Y with
 |none=>rfl
 |some c=>have:=h.yJ a;omega
theorem bR.vO {b:Sk}{S:aC}(h:bR b S){r:Sk}{a:Sl (Sf×Sf)}(c:S.h.S r=some a):S.l.fP r<S.k.heap.size:=by
 have⟨_,d,e,b,_⟩:=h.cv r a c;exact m8 b
structure lT (w w' :St) (o:Obj):Prop where
 i:w'.heap=w.heap.push o
 Le:w'.os=w.os
 Lf:w'.tape=w.tape
 Lg:w'.output=w.output
theorem lT.kj {w a:St}{o:Obj}(h:lT w a o)(k:Sk)(b:k<w.heap.size):a.heap[k]?=w.heap[k]?:=by
 rw[h.i,Tp,Sq Z]
theorem lT.x {w a:St}{o:Obj}(h:lT w a o):a.heap[w.heap.size]?=some o:=by
 rw[h.i,Tp,SC rfl]
theorem lT.hR {w a:St}{o:Obj}(h:lT w a o):a.heap.size=w.heap.size+1:=by rw[h.i];simp
theorem lT.eV {w a:St}{o:Obj}{B:Sk}(h:lT w a o)(b:B<=w.heap.size):Below B w a:=
 ⟨h.Le,h.Lf,h.Lg,by rw[h.hR];omega,fun k a=>h.kj k Z⟩
structure gT (S:aC) (id next:Sk):Prop where
 jw:S.h.i.N id=none
 n:id<next
 mu:S.h.Y<=next
 bE:0<=16000000
 Lh:id<S.h.Y\/id+1=next
theorem gT.bl {S:aC}{a b:Sk}(h:gT S a b):S.h.t a=none:=by simp only[J.t,h.jw]
theorem gT.cv {S:aC}{a b:Sk}(h:gT S a b):S.h.S a=none:=by simp only[J.S,h.jw]
theorem gT.m {a:Sk}{S:aC}(h:bR a S)(b:S.h.bE=true):gT S S.h.Y (S.h.Y+1):=by
 have d:=tL b;refine⟨?_,Z,Z,Z,.inr rfl⟩;cases c:S.h.i.N S.h.Y with
 |none=>rfl
 |some o=>have:=h.fB _ _ c;omega
def aC.pI (S:aC)(a b:Sk)(c:cF)(W:St):aC:=⟨⟨a5.ek (fo a) S.h.i a (.bl c),b⟩,⟨fun j d=>if j=a then(S.k.heap.size,0) else S.l.s j d,S.l.fP⟩,W⟩
theorem bH.BO {t:Sk}{S:aC}(h:bR t S){l m:Sk}(d:gT S l m)(e:Sl Sf)(n:Sk)(a:Sr Sf)(E:Sh)(b:Sk×Sk)(W:St)
  (f:lT S.k W (.cells a E b)) (v:b.1=b.2\/a.size<=b.1/\n=1) (B:e.length<=a.size) (w:∀p,p<e.length->aX S (e.getD p undef) (a.toList.getD p undef)):
  bH t S (S.pI l m ⟨e,1,true,n⟩ W):=by
 refine bR.qP h l S.k.heap.size m ⟨e,1,true,n⟩ _ W d.n d.mu d.bE d.Lh (fun x k=>by rw[d.cv] at k;cases k) (Sj _)
  (fun D u=>by rw[d.bl] at u;cases u) (fun j c=>by funext g;rw[Sq c]) (fun y _ o=>f.kj y o)
  (fun j i g _ c q=>SE (h.iX j i c g q)) (fun F x k=>SE (h.vO k)) (fun g _=>by simp only[SY];rw[f.hR];omega) ?_ ?_ ?_ ?_
  (f.eV h.hR) (by rw[f.hR];omega)
 ·intro g q p G;simp only[SY,Ta];have z:p<e.length:=by have:=q.2;simp only at this;omega
  have A:p<a.size:=Z;refine⟨a.toList.getD p undef,?_,w p z⟩;rw[j2 W _ _ a E b f.x];simp[Sm,A]
 ·intro _ g _;simp only[SY];exact⟨h.hR,⟨a,E,b,f.x,v⟩,fun j i _ c r s=>SE (h.iX j i c r s),by intros;first|rfl|trivial⟩
 ·intro j i _ c _ r s g _;simp only[SY];exact fun H=>SI (h.iX j i c r s) Z
 intro a E b o;exact SI (m8 o) Z
theorem aC.BP {S:aC}{a b:Sk}(c:gT S a b)(d:cF)(W:St):(S.pI a b d W).h.t a=some d:=by
 simp only[aC.pI,J.t,a5.gR _ _ _ _ (hq (show 0<16000001 by have:=c.n;have:=c.bE;omega))]
theorem aC.BQ {S:aC}{a c:Sk}(f:gT S a c)(b:cF)(W:St)(d e:Sk)(g:e<=b.aJ.length+1):nJ (S.pI a c b W) a d e ⟨S.k.heap.size,d,none⟩:=
 ⟨b,aC.BP f b W,g,fun _=>by simp[aC.pI]⟩
theorem aC.Li {S:aC}{a d:Sk}(h:gT S a d)(b:cF)(W:St)(o i e:Sk)(c:Sr Sf)(E:Sh)(f:Sk×Sk)(j:lT S.k W (.cells c E f))(k:o+e*b.ju<=c.size):
  tG (S.pI a d b W) a i ⟨S.k.heap.size,o,none⟩ e:=by
 intro l g _;rw[aC.BP h b W] at g;obtain rfl:=Se g;exact⟨c,E,f,j.x,k⟩
theorem bH.tM {G:Sk}{S:aC}(h:bR G S){i e c:Sk}{b:cF}(g:S.h.t i=some b)(X:b.br=true)(q:dX b c)(WH:c=b.aJ.length+1){j m y:Sl Sf}
  (Wy:di b.aJ e j=some y) (H:bo S j m) (K:j≠[]):
  bH G S ⟨S.h.u i (.bl {b with aJ:=y,bT:=c}),S.l,lS S.k (S.l.s i c).1 ((S.l.s i c).2+e) m⟩/\
  ∃(k:Sr Sf) (E:Sh) (f:Sk×Sk),S.k.heap[(S.l.s i c).1]?=some (.cells k E f)/\(f.1=f.2\/k.size<=f.1)/\(S.l.s i c).2+e+m.length<=k.size:=by
 have⟨L,Wz,WA⟩:=yK _ _ _ _ Wy;have WI:e+j.length<=b.aJ.length:=Wz.resolve_left K;have WJ:m.length=j.length:=H.1.symm;have⟨M,⟨k,E,f,n,O⟩,B,_⟩:=h.br i b g X c q;have WK:0<j.length:=List.length_pos_iff.2 K;have P:(S.l.s i c).2+e+m.length<=k.size:=by
  have⟨WL,z,_⟩:=h.mr i b g c q (e+j.length-1) Z;rw[j2 _ _ _ _ _ _ n] at z;have:=(Tb.1 z).1;omega
 have⟨Q,D,R,WB⟩:=tK m S.k _ _ k E f n P;refine⟨?_,k,E,f,n,O.imp id And.left,P⟩;have r:∀a,dX {b with aJ:=y,bT:=c} a->a=c:=fun a d=>by
  have z:=d.1;have A:=d.2;simp only[L] at z A;omega
 refine bR.qP h i (S.l.s i c).1 S.h.Y {b with aJ:=y,bT:=c} S.l.s _ (h.n g) (Sj _) h.bE (.inl (h.n g)) (fun T F=>r9 g F) (by show 1<=c;omega) ?_ (fun _ _=>rfl)
  (fun WM o _=>sa _ _ _ _ _ o) (fun s t a u v d l=>u (B s t v a d l)) ?_ ?_ ?_ ?_ ?_ ?_ (vM _ _ _ _ _ M) (by rw[qQ];exact Sj _)
 ·intro WN U;rw[g] at U;obtain rfl:=Se U
  exact⟨by simp[L],q.1,rfl,fun _ _ _=>rfl⟩
 ·intro WC T F l;have⟨_,WO,WQ,A,_⟩:=h.cv WC T F;rw[l,n] at A;cases A
 ·intro a d;rw[r a d,qQ];exact h.iX i b g c q
 ·intro a d p WD;obtain rfl:=r a d;simp only;rw[j2 _ _ _ _ _ _ D,WB,WA p];by_cases W:e<=p/\p<e+j.length
  ·rw[SC W,SC Z,show(S.l.s i a).2+p-((S.l.s i a).2+e)=p-e from Z];exact⟨_,rfl,H.2 (p-e) Z⟩
  rw[Sq W,Sq Z,<-j2 _ _ _ _ _ _ n];exact h.mr i b g a q p WD
 ·intro _ a d;obtain rfl:=r a d;exact⟨M,⟨Q,E,f,D,by rw[R];exact O⟩,fun s t u v w x l=>u (B s t v w x l),fun w x _=>by rw[r w x]⟩
 ·intro s t u v WR w x a d l;obtain rfl:=r a d;exact u (B s t v w x l.symm)
 intro WS WT WU o;rw[n] at o;injection o with o;injection o with WE WG iY
 subst WE;subst WG
 exact⟨Q,f,D,R⟩
theorem qR (l m:Sl Sf)(p:Sk)(h:p<l.length):(l++m).getD p undef=l.getD p undef:=by
 simp[Sm,Tj,h]
theorem yN (l m:Sl Sf)(p:Sk)(h:l.length<=p):(l++m).getD p undef=m.getD (p-l.length) undef:=by
 simp[Sm,Tj,Nat.not_lt.2 h]
theorem bH.Lj {U:Sk}{S:aC}(h:bR U S){i c:Sk}{b:cF}(j:S.h.t i=some b)(L:b.br=true)(F:dX b c)(WV:c=b.aJ.length+1){t z:Sl Sf}
  (W:bo S t z) {M:Sr Sf} {G:Sh} {A:Sk×Sk} (o:S.k.heap[(S.l.s i c).1]?=some (.cells M G A)) (WE:(S.l.s i c).2+b.aJ.length+z.length<=M.size):
  bH U S ⟨S.h.u i (.bl {b with aJ:=b.aJ++t}),⟨fun k a=>if k=i/\c<a then S.l.s i c else S.l.s k a,S.l.fP⟩,lS S.k (S.l.s i c).1 ((S.l.s i c).2+b.aJ.length) z⟩:=by
 have⟨X,⟨WG,WH,WI,H,WJ⟩,O,Wy⟩:=h.br i b j L c F;rw[o] at H;injection H with H;injection H with B D K
 subst B;subst D;subst K
 have WW:z.length=t.length:=W.1.symm;have⟨P,u,Q,R⟩:=tK z S.k _ _ M G A o WE;have E:∀a,(if i=i/\c<a then S.l.s i c else S.l.s i a)=if c<a then S.l.s i c else S.l.s i a:=fun a=>by simp
 have v:∀a,dX {b with aJ:=b.aJ++t} a->¬c<a->dX b a:=fun a f d=>⟨f.1,Z⟩
 refine bR.qP h i (S.l.s i c).1 S.h.Y {b with aJ:=b.aJ++t} _ _ (h.n j) (Sj _) h.bE (.inl (h.n j)) (fun Wz T=>r9 j T) (h.bT i b j) ?_
  (fun k l=>by funext a;rw[Sq (by simp[l])]) (fun WX w _=>sa _ _ _ _ _ w) (fun k p a l q f g=>l (O k p q a f g)) ?_ ?_ ?_ ?_ ?_ ?_ (vM _ _ _ _ _ X)
  (by rw[qQ];exact Sj _)
 ·intro WY WA;rw[j] at WA;obtain rfl:=Se WA
  exact⟨aA,Sj _,rfl,fun a f _=>by rw[Sq Z]⟩
 ·intro WK Wz T g;have⟨_,WZ,W0,m,_⟩:=h.cv WK Wz T;rw[g,o] at m;cases m
 ·intro a f;rw[E,qQ];by_cases d:c<a
  ·rw[SC d];exact h.iX i b j c F
  rw[Sq d];exact h.iX i b j a (v a f d)
 ·intro a f r WL;have W1:r<b.aJ.length+t.length:=by have:=f.2;simp only[Su] at this;omega
  simp only[Tv];by_cases d:c<a
  ·rw[SC d,j2 _ _ _ _ _ _ u,R];by_cases WM:r<b.aJ.length
   ·rw[Sq Z,qR _ _ _ WM,<-j2 _ _ _ _ _ _ o];exact h.mr i b j c F r Z
   rw[SC Z,yN _ _ _ Z,show(S.l.s i c).2+r-((S.l.s i c).2+b.aJ.length)=r-b.aJ.length from Z];exact⟨_,rfl,W.2 (r-b.aJ.length) Z⟩
  rw[Sq d];have WB:=v a f d;have⟨WN,x,m⟩:=h.mr i b j a WB r WL;rw[qR _ _ _ (Z:r<b.aJ.length)];refine⟨WN,?_,m⟩;by_cases WO:a=c
  ·subst WO;rw[j2 _ _ _ _ _ _ u,R,Sq Z,<-j2 _ _ _ _ _ _ o];exact x
  by_cases y:(S.l.s i a).1=(S.l.s i c).1
  ·have WQ:=Wy a WB y;rw[WQ] at x|-
   rw[j2 _ _ _ _ _ _ u,R,Sq Z,<-j2 _ _ _ _ _ _ o];exact x
  rw[<-x];exact SM (sa _ _ _ _ _ y)
 ·intro _ a f;rw[E];by_cases d:c<a
  ·rw[SC d];refine⟨X,⟨P,G,A,u,by rw[Q];exact WJ⟩,fun k p l q e n g=>l (O k p q e n g),fun e n=> ?_⟩;rw[E];by_cases s:c<e
   ·rw[SC s];exact fun _=>rfl
   rw[Sq s];exact Wy e (v e n s)
  rw[Sq d];have⟨x,⟨WR,WS,WT,m,WC⟩,WU,WD⟩:=h.br i b j L a (v a f d);refine⟨x,?_,fun k p l q e n g=>l (WU k p q e n g),fun e n=> ?_⟩
  case refine_2=>
   rw[E];by_cases s:c<e
   ·rw[SC s];exact WD c F
   rw[Sq s];exact WD e (v e n s)
  by_cases y:(S.l.s i a).1=(S.l.s i c).1
  ·rw[y,o] at m;injection m with m;injection m with B D K
   subst B;subst D;subst K
   exact⟨P,G,A,by rw[y];exact u,by rw[Q];exact WC⟩
  exact⟨WR,WS,WT,by rw[sa _ _ _ _ _ y];exact m,WC⟩
 ·intro k p l q W2 e n a f g;rw[E] at g;by_cases d:c<a
  ·rw[SC d] at g;exact l (O k p q e n g.symm)
  rw[Sq d] at g;exact l ((h.br i b j L a (v a f d)).2.2.1 k p q e n g.symm)
 intro WG WH WI w;rw[o] at w;injection w with w;injection w with B D K
 subst B;subst D
 exact⟨P,A,u,Q⟩
theorem bH.Lk {B:Sk}{S:aC}(h:bR B S){i f:Sk}{b:cF}(g:S.h.t i=some b)(D:b.br=true)(WB:f=b.aJ.length+1){m:Sl Sf}
  {n:Sr Sf} {E:Sh} {t:Sk×Sk} {W:St} (o:lT S.k W (.cells n E t)) (H:t.1=t.2\/n.size<=t.1/\b.ju=1) (WC:b.aJ.length+m.length<=n.size)
  (K:∀p,p<b.aJ.length+m.length->aX S ((b.aJ++m).getD p undef) (n.toList.getD p undef)):
  bH B S ⟨S.h.u i (.bl {b with aJ:=b.aJ++m}),⟨fun j a=>if j=i/\f<a then(S.k.heap.size,0) else S.l.s j a,S.l.fP⟩,W⟩:=by
 have v:∀a,(if i=i/\f<a then(S.k.heap.size,0) else S.l.s i a)=if f<a then(S.k.heap.size,0) else S.l.s i a:=fun a=>by simp
 have u:∀a,dX {b with aJ:=b.aJ++m} a->¬f<a->dX b a:=fun a e c=>⟨e.1,Z⟩
 refine bR.qP h i S.k.heap.size S.h.Y {b with aJ:=b.aJ++m} _ _ (h.n g) (Sj _) h.bE (.inl (h.n g)) (fun L y=>r9 g y) (h.bT i b g) ?_
  (fun j w=>by funext a;rw[Sq (by simp[w])]) (fun M _ z=>o.kj M z) (fun j q a _ r e=>SE (h.iX j q r a e)) (fun WD L y=>SE (h.vO y)) ?_ ?_ ?_ ?_ ?_
  (o.eV h.hR) (by rw[o.hR];omega)
 ·intro WE F;rw[g] at F;obtain rfl:=Se F
  exact⟨aA,Sj _,rfl,fun a e _=>by rw[Sq Z]⟩
 ·intro a e;rw[v,o.hR];by_cases c:f<a
  ·rw[SC c];exact Nat.lt_succ_self _
  rw[Sq c];exact Nat.lt_succ_of_lt (h.iX i b g a (u a e c))
 ·intro a e p O;have P:p<b.aJ.length+m.length:=by have:=e.2;simp only[Su] at this;omega
  simp only[Tv];by_cases c:f<a
  ·rw[SC c];refine⟨n.toList.getD p undef,?_,K p P⟩;have Q:p<n.size:=Z;rw[j2 W _ _ n E t o.x];simp[Sm,Q]
  rw[Sq c];have G:=u a e c;have⟨R,A,x⟩:=h.mr i b g a G p O;rw[qR _ _ _ Z];exact⟨R,by rw[<-A];exact SM (o.kj _ (h.iX i b g a G)),x⟩
 ·intro _ a e;rw[v];by_cases c:f<a
  ·rw[SC c];refine⟨h.hR,⟨n,E,t,o.x,H⟩,fun j q _ r d l=>SE (h.iX j q r d l),fun d l=> ?_⟩;rw[v];by_cases s:f<d
   ·rw[SC s];exact fun _=>rfl
   rw[Sq s];exact fun k=>SI k (SE (h.iX i b g d (u d l s)))
  rw[Sq c];have⟨A,⟨T,U,X,x,Wy⟩,Wz,WA⟩:=h.br i b g D a (u a e c);refine⟨A,⟨T,U,X,by rw[o.kj _ (m8 x)];exact x,Wy⟩,fun j q w r d l k=>w (Wz j q r d l k),fun d l=> ?_⟩;rw[v];by_cases s:f<d
  ·rw[SC s];exact fun k=>SI k (Ne.symm (SE (m8 x)))
  rw[Sq s];exact WA d (u d l s)
 ·intro j q w r WG d l a e k;rw[v] at k;by_cases c:f<a
  ·rw[SC c] at k;exact SI k.symm (SE (h.iX j q r d l))
  rw[Sq c] at k;exact w ((h.br i b g D a (u a e c)).2.2.1 j q r d l k.symm)
 intro WH WI WJ z;exact SI (m8 z) Z
theorem bH.jX {g:Sk}{S:aC}(h:bR g S){i:Sk}{b:cF}(d:S.h.t i=some b):bH g S ⟨S.h.u i (.bl (Cl.jX b)),S.l,S.k⟩:=by
 have e:∀c,¬dX (Cl.jX b) c:=fun c a=>by have k:=a.1;have l:=a.2;simp only[Cl.jX] at k l;omega
 refine bR.qP h i S.k.heap.size S.h.Y (Cl.jX b) S.l.s S.k (h.n d) (Sj _) h.bE (.inl (h.n d)) (fun m f=>r9 d f) (by simp[Cl.jX]) ?_ (fun _ _=>rfl) (fun _ _ _=>rfl)
  (fun n o p _ q r=>SE (h.iX n o q p r)) (fun t m f=>SE (h.vO f)) (fun c a=>SI a (e c)) (fun c a=>SI a (e c)) (fun _ c a=>SI a (e c))
  (fun _ _ _ _ _ _ _ c a=>SI a (e c)) (fun u E v s=>SI (m8 s) Z) (Below.refl _ _) (Sj _)
 intro w j;rw[d] at j;obtain rfl:=Se j
 exact⟨Sj _,by simp only[Cl.jX];omega,rfl,fun _ _ _=>rfl⟩
theorem bH.Ll {s:Sk}{S:aC}(t:bR s S)(K:S.h.bE=true)(u:Sk){k o:Sk}{i:Sr Sf}{E:Sh}{c:Sk×Sk}(l:S.k.heap[k]?=some (.cells i E c))(L:c.1=c.2\/i.size<=c.1/\u=1)
  (m:s<=k) (v:∀j d f,S.h.t j=some d->dX d f->(S.l.s j f).1≠k) {a g h:Sl Sf} (M:∀p,p<a.length->∃z,S.k.cell? ⟨k,o+p,none⟩=some z/\aX S (a.getD p undef) z)
  (A:bo S g h) (O:o+a.length+h.length<=i.size):
  bH s S ⟨S.h.x (.bl ⟨a++g,1,true,u⟩),⟨fun j e=>if j=S.h.Y then(k,o) else S.l.s j e,S.l.fP⟩,lS S.k k (o+a.length) h⟩:=by
 have X:=tL K;have⟨P,Q⟩:=t.Q;have Wy:h.length=g.length:=A.1.symm;have⟨B,w,D,R⟩:=tK h S.k k (o+a.length) i E c l O;refine bR.qP t S.h.Y k (S.h.Y+1) ⟨a++g,1,true,u⟩ _ _ Z Z Z (.inr rfl) (fun F n=>by rw[Q] at n;cases n) (Sj _)
  (fun Wz m=>by rw[P] at m;cases m) (fun j b=>by funext e;rw[Sq b]) (fun j b _=>sa _ _ _ _ _ b) (fun j d e _ b x=>v j d e b x) ?_
  (fun e _=>by simp only[SY];rw[qQ];exact m8 l) ?_ ?_ ?_ ?_ (vM _ _ _ _ _ m) (by rw[qQ];exact Sj _)
 ·intro T F n q;have⟨_,WA,WB,G,_⟩:=t.cv T F n;rw[q,l] at G;cases G
 ·intro e x p WC;have WD:p<a.length+g.length:=by have:=x.2;simp only[Su] at this;omega
  simp only[SY];rw[j2 _ _ _ _ _ _ w,R];by_cases H:p<a.length
  ·rw[Sq Z,qR _ _ _ H,<-j2 _ _ _ _ _ _ l];exact M p H
  rw[SC Z,yN _ _ _ Z,show o+p-(o+a.length)=p-a.length from Z];exact⟨_,rfl,A.2 (p-a.length) Z⟩
 ·intro _ e _;simp only[SY];exact⟨m,⟨B,E,c,w,by rw[D];exact L⟩,fun j d _ b f y=>v j d f b y,by intros;first|rfl|trivial⟩
 ·intro j d _ b _ f y e _ q;simp only[SY] at q;exact v j d f b y q.symm
 intro WE WG WH r;rw[l] at r;injection r with r;injection r with U W iY
 subst U;subst W
 exact⟨B,c,w,D⟩
theorem bR.BR {A:Sk}{S:aC}(p:bR A S)(i l:Sk)(d:Sl (Sf×Sf))(c:Sk->Sk)(u:St)
  (WR:i<l) (WS:S.h.Y<=l) (WA:0<=16000000) (WT:i<S.h.Y\/i+1=l) (WB:S.h.t i=none)
  (WC:∀e,S.h.S i=some e->c i=S.l.fP i) (v:∀r,r≠i->c r=S.l.fP r)
  (U:∀k,k≠c i->k<S.k.heap.size->u.heap[k]?=S.k.heap[k]?) (WD:∀(f:Sr Sf) (E:Sh) (g:Sk×Sk),S.k.heap[c i]?≠some (.cells f E g)) (a:A<=c i)
  (WE:∃(m:Sr MapEntry) (B:Sk),u.heap[c i]?=some (.map m B)/\kB S d m.toList)
  (M:∀r e,r≠i->S.h.S r=some e->S.l.fP r≠c i) (O:Below A S.k u):
  bH A S ⟨⟨a5.ek (fo i) S.h.i i (.cv d),l⟩,⟨S.l.s,c⟩,u⟩:=by
 have P:∀j,j≠i->(a5.ek (fo i) S.h.i i (.cv d)).N j=S.h.i.N j:=fun j q=>a5.hp _ _ _ _ _ (Ne.symm q)
 have W:(a5.ek (fo i) S.h.i i (.cv d)).N i=some (.cv d):=a5.gR _ _ _ _ (hq Z);have X:(⟨a5.ek (fo i) S.h.i i (.cv d),l⟩:J).S i=some d:=by simp only[J.S,W]
 have y:∀j,(⟨a5.ek (fo i) S.h.i i (.cv d),l⟩:J).t j=S.h.t j:=fun j=>by
  by_cases q:j=i
  ·subst q;rw[WB];simp only[J.t,W]
  simp only[J.t,P j q]
 have D:∀j,j≠i->(⟨a5.ek (fo i) S.h.i i (.cv d),l⟩:J).S j=S.h.S j:=fun j q=>by simp only[J.S,P j q]
 have Q:∀(k:Sk) (f:Sr Sf) (E:Sh) (g:Sk×Sk),S.k.heap[k]?=some (.cells f E g)->u.heap[k]?=some (.cells f E g):=fun k f E g s=>by
  rw[U k (fun R=>WD f E g (R▸s)) (m8 s)];exact s
 have K:hr S ⟨⟨a5.ek (fo i) S.h.i i (.cv d),l⟩,⟨S.l.s,c⟩,u⟩:=by
  refine⟨fun j n a=>⟨n,by rw[<-a];exact y j,Sj _,Sj _,rfl,fun _ _ _=>rfl⟩,fun r e h=> ?_,fun k f E g s=>⟨f,g,Q k f E g s,rfl⟩⟩;by_cases b:r=i
  ·subst b;exact⟨⟨d,X⟩,WC e h⟩
  exact⟨⟨e,by rw[<-h];exact D r b⟩,v r b⟩
 refine⟨⟨WA,?_,?_,?_,?_,?_,?_,Tu p.hR O.size,?_⟩,K,O⟩
 ·intro j Wy q;by_cases WG:j=i
  ·show j<l;omega
  have Wz:(a5.ek (fo i) S.h.i i (.cv d)).N j=some Wy:=q;rw[P j WG] at Wz;have:=p.fB j Wy Wz;show j<l;omega
 ·intro j n a;rw[y] at a;exact p.bT j n a
 ·intro j n a F G WH WI;rw[y] at a;have⟨WJ,w,t⟩:=p.mr j n a F G WH WI;have⟨f,E,g,H,T⟩:=BN w;exact⟨WJ,by rw[j2 _ _ _ _ _ _ (Q _ _ _ _ H)];exact T,t.b K⟩
 ·intro j n a WK F G;rw[y] at a;have⟨w,⟨f,E,g,t,H⟩,T,WL⟩:=p.br j n a WK F G;exact⟨w,⟨f,E,g,Q _ _ _ _ t,H⟩,fun k WM s WN WO R=>by rw[y] at s;exact T k WM s WN WO R,WL⟩
 ·intro r e h;by_cases b:r=i
  ·subst b;rw[X] at h;obtain rfl:=Se h
   have⟨m,B,w,t⟩:=WE;exact⟨a,m,B,w,t.b K⟩
  rw[D r b] at h;have⟨w,m,B,t,H⟩:=p.cv r e h;refine⟨by show A<=c r;rw[v r b];exact w,m,B,?_,H.b K⟩;show u.heap[c r]?=_;rw[v r b,U _ (M r e b h) (m8 t)];exact t
 ·intro r o e m h L WQ;have z:c r=c o:=WQ;by_cases b:r=i
  ·by_cases x:o=i
   ·omega
   rw[D o x] at L;subst b;rw[v o x] at z;exact SI z.symm (M o m x L)
  rw[D r b] at h;by_cases x:o=i
  ·subst x;rw[v r b] at z;exact SI z (M r e b h)
  rw[D o x] at L;rw[v r b,v o x] at z;exact p.vK r o e m h L z
 intro j n a F G;rw[y] at a;exact Tr (p.iX j n a F G) O.size
theorem bH.Lm {c:Sk}{S:aC}(h:bR c S)(d:S.h.bE=true):
  bH c S ⟨S.h.x (.cv []),⟨S.l.s,fun r=>if r=S.h.Y then S.k.heap.size else S.l.fP r⟩,S.k.alloc (.map #[] 0)⟩:=by
 have j:=tL d;have⟨e,f⟩:=h.Q;refine bR.BR h S.h.Y (S.h.Y+1) [] _ _ Z Z Z (.inr rfl) e (fun g a=>by rw[f] at a;cases a) (fun r i=>by rw[Sq i]) (fun k _ b=>Below.heap_alloc _ _ _ b) ?_
  (by simp only[SY];exact h.hR) ?_ ?_ ((Below.refl _ _).alloc h.hR _)
 ·intro l E m b;simp only[SY] at b;exact SI (m8 b) Z
 ·simp only[SY];exact⟨#[],0,heap_alloc_new S.k _,trivial⟩
 intro r g _ a;simp only[SY];exact SE (h.vO a)
theorem BS {S:aC}{v:Sf}(h:hO v=true):aX S v v:=by
 unfold hO at h;split at h
 ·exact .oE _
 ·exact .gf _ _
 ·exact .nK _
 ·exact .yF
 ·exact .qN
 ·exact .yG
 ·exact .yH
 ·exact .yI
 cases h
theorem BT {S:aC}{l:Sl Sf}(h:l.all hO=true):bo S l l:=by
 induction l with
 |nil=>exact bo.al
 |cons v l a=>
  simp only[TD,Sn] at h;exact bo.ed (BS h.1) (a h.2)
theorem qS {a:aC}{v:Sf}(h:cp v=true):aX a v v:=by
 unfold cp at h;split at h
 ·exact bo.K7 (BT h)
 ·have:=BT (S:=a) h;exact .m5 _ _ this.1 this.2
 exact BS h
structure eN (S:aC) (f:an) (a:Act):Prop where
 e:f.e=a.tmps.size
 pJ:f.e<=16000000
 N:∀t,t<f.e->aX S (f.N t) (a.tmps.getD t undef)
theorem eN.b {S T:aC}(h:hr S T){f:an}{b:Act}(a:eN S f b):eN T f b:=⟨a.e,a.pJ,fun t b=>(a.N t b).b h⟩
theorem dt {S:aC}{f:an}{c:Act}(d:eN S f c){x:SU}{v:Sf}(h:ba f x=some v):aX S v (c.eval x):=by
 cases x with
 |tmp t=>
  simp only[ba] at h;split at h
  ·rename_i a;obtain rfl:=Se h;exact d.N t (by simpa [SX] using a)
  cases h
 |const e=>
  simp only[ba] at h;split at h
  ·rename_i a;obtain rfl:=Se h;exact qS a
  cases h
 |global g=>simp[ba] at h
 |func g=>
  simp only[ba] at h;obtain rfl:=Se h;exact .tH g #[] #[] #[] #[] rfl rfl (fun i b=>by simp at b) (fun i b=>by simp at b)
theorem vP {S:aC}{f:an}{b:Act}(c:eN S f b):∀{a:Sl SU} {l:Sl Sf},bB f a=some l->bo S l (a.map b.eval):=by
 intro a
 induction a with
 |nil=>intro l h;simp only[bB] at h;obtain rfl:=Se h;exact bo.al
 |cons x a d=>
  intro l h;simp only[bB] at h;split at h
  ·rename_i v e;split at h
   ·rename_i i g;obtain rfl:=Se h;exact bo.ed (dt c e) (d g)
   cases h
  cases h
theorem yO {S:aC}{f:an}{a:Act}(c:eN S f a){x:Si SU}{o:Si Sf}(h:eU f x=some o):
  (o=none/\x.map a.eval=none)\/∃v b,o=some v/\x.map a.eval=some b/\aX S v b:=by
 cases x with
 |none=>simp only[eU] at h;obtain rfl:=Se h;exact .inl ⟨rfl,rfl⟩
 |some x=>
  simp only[eU] at h;split at h
  ·rename_i v d;obtain rfl:=Se h;exact .inr ⟨v,_,rfl,rfl,dt c d⟩
  cases h
theorem vQ {P:Sg}{t:Sh}{b:SL}(h:c3 P t=some b)(w:St):(isAgg t).run P w= .ok b w:=by
 unfold c3 at h;split at h
 ·rename_i f a;obtain rfl:=Se h;simp[isAgg,run_underlying a]
 ·rename_i n g a;obtain rfl:=Se h;simp[isAgg,run_underlying a]
 ·rename_i d c e a;obtain rfl:=Se h;simp only[isAgg,Sem.run_bind,run_underlying a,So];cases d<;>first|rfl|(exact SI a (c _))|(exact SI a (e _ _))
 cases h
theorem BU {P:Sg}{t:Sh}{n:Sk}(h:bc P t=some n):∃i,P.info? t=some i/\i.size=n:=by
 unfold bc at h;split at h
 ·rename_i i a;exact⟨i,a,Se h⟩
 cases h
theorem gw {P:Sg}{t:Sh}{n:Sk}(h:bc P t=some n)(w:St):(sizeOf t).run P w= .ok n w:=by
 obtain⟨i,a,rfl⟩:=BU h;simp[sizeOf,typeInfo,a]
theorem BV {P:Sg}{t:Sh}{z:Sf}(h:bK P t=some z):∃i,P.info? t=some i/\i.zero=some z:=by
 unfold bK at h;split at h
 ·rename_i i a;exact⟨i,a,h⟩
 cases h
theorem nL {P:Sg}{t:Sh}{z:Sf}(h:bK P t=some z)(w:St):(zeroValue t).run P w= .ok z w:=by
 have⟨i,a,b⟩:=BV h;simp[zeroValue,typeInfo,a,b]
theorem yP {P:Sg}{t:Sh}{n:Sk}(h:e2 P t=some n):∃i,P.info? t=some i/\i.bytes=n:=by
 unfold e2 at h;split at h
 ·rename_i i a;exact⟨i,a,Se h⟩
 cases h
theorem tN {P:Sg}{t:Sh}(h:nG P t=true):P.underlying t=some (.int .u8):=by
 unfold nG at h;split at h
 ·assumption
 cases h
def hs (P:Sg)(S:aC)(m:Sem Sf)(v:Sf):Prop:=∃a,m.run P S.k= .ok a S.k/\aX S v a
theorem aX.qT {S:aC}{i a c:Sk}{v:Sf}(h:aX S (.pointer (some ⟨i,a,some c⟩)) v):∃b,v= .pointer (some b)/\nJ S i a c b:=by
 cases h with|qM _ _ _ a b=>exact⟨a,rfl,b⟩
theorem aX.BW {S:aC}{a:Sr Sf}{v:Sf}(h:aX S (.agg a) v):∃b,v= .agg b/\bo S a.toList b.toList:=by
 cases h with|mq _ a b c=>exact⟨a,rfl,b,c⟩
theorem aX.Ln {S:aC}{a:Sr Sf}{v:Sf}(h:aX S (.tuple a) v):∃b,v= .tuple b/\bo S a.toList b.toList:=by
 cases h with|m5 _ a b c=>exact⟨a,rfl,b,c⟩
theorem aX.Lo {S:aC}{g:Ti}{a b:Sr Sf}{v:Sf}(h:aX S (.func (.func g) a b) v):∃c d,v= .func (.func g) c d/\bo S a.toList c.toList/\bo S b.toList d.toList:=by
 cases h with|tH _ _ _ a b c d e f=>exact⟨a,b,rfl,⟨c,e⟩,d,f⟩
theorem nJ.tO {S:aC}{i a c:Sk}{b:Addr}(h:nJ S i a c b){d:cF}(e:S.h.t i=some d)(f:dX d c):b=⟨(S.l.s i c).1,(S.l.s i c).2+a,none⟩:=by
 have⟨c,a,_,b⟩:=h;rw[e] at a;obtain rfl:=Se a
 exact b f.1
theorem BX {P:Sg}{q:Sk}{S:aC}(i:bR q S){t:Sh}{j k v:Sf}(r:aX S j k)(a:aD P S.h t j=some v):hs P S (Instr.loadAt t k) v:=by
 unfold aD at a;split at a
 ·rename_i l s m;obtain⟨z,rfl,n⟩:=r.qT;split at a
  ·rename_i o b u;split at a
   ·rename_i A c;obtain rfl:=Se a;have⟨w,d,e,_,_,x,f,g⟩:=i.aJ c;obtain rfl:=n.tO d e;refine⟨.agg (lR S.k (S.l.s l m).1 ((S.l.s l m).2+s) o).toArray,?_,bo.mq f⟩;simp[Instr.loadAt,Instr.sureAddr,loadVar,vQ b,gw u,yM P S.k _ _ o g]
   cases a
  ·rename_i b;split at a
   ·rename_i B D c;obtain rfl:=Se a;have⟨w,d,e,_,_,x,f,g⟩:=i.aJ c;obtain rfl:=n.tO d e;have⟨y,h⟩:=g 0 Z;have p:=f.2 0 aA;rw[yL _ _ _ _ _ Z,h] at p;simp only[SW] at h;refine⟨y,?_,by simpa using p⟩;simp[Instr.loadAt,Instr.sureAddr,loadVar,vQ b,h]
   cases a
  cases a
 cases a
theorem Lp {P:Sg}{S:aC}{a:BinOp}{k:Tt}{x y:Tq}{v:Sf}{t:Sh}{b c:SU}(h:h7 a k x y=some v)(d:a≠ .shl)(e:a≠ .shr):
  hs P S (do eqGuard a t b c (.int k x) (.int k y);binOp a t (.int k x) (.int k y)) v:=by
 cases a<;>simp only[h7] at h<;>first
  |exact SI rfl d
  |exact SI rfl e
  |(obtain rfl:=Se h;refine⟨_,?_,by first|exact .gf _ _|exact .oE _⟩;simp[go_sem,TK,TN];done)
  |(split at h
    ·cases h
    rename_i f;obtain rfl:=Se h;refine⟨_,?_,.gf _ _⟩;simp[go_sem,Op.intDiv,f])
theorem BY {P:Sg}{S:aC}{a:BinOp}{k b:Tt}{x y:Tq}{v:Sf}{t:Sh}{c d:SU}(h:r3 a k x y=some v):
  hs P S (do eqGuard a t c d (.int k x) (.int b y);binOp a t (.int k x) (.int b y)) v:=by
 unfold r3 at h;split at h
 ·cases h
 rename_i e;cases a<;>simp only at h<;>first
  |(cases h;done)
  |(obtain rfl:=Se h;refine⟨_,?_,.gf _ _⟩;simp[eqGuard_shl,eqGuard_shr,binOp_shl,binOp_shr,Op.shift,e])
theorem m9 (x:S5):x.size=x.data.toList.length:=by rw[SQ];rfl
theorem sb {x y:S5}(h:x.data.toList=y.data.toList):x=y:=by
 cases x;cases y;simp only at h;congr 1;exact SG.1 h
theorem Lq (x y:S5):x++y=⟨(x.data.toList++y.data.toList).toArray⟩:=by
 apply sb;rw[ByteArray.data_append,SR]
theorem Lr {P:Sg}{S:aC}{a:BinOp}{x y:S5}{v:Sf}{t:Sh}{b c:SU}(h:r4 a x y=some v):
  hs P S (do eqGuard a t b c (.string x) (.string y);binOp a t (.string x) (.string y)) v:=by
 simp only[eqGuard_at_string,((fun a=>by cases a<;>rfl):∀a,binOp a t (.string x) (.string y)=Tz a x y)];cases a<;>simp only[r4] at h<;>first
  |(cases h;done)
  |(split at h
    ·rename_i d;obtain rfl:=Se h;refine⟨_,?_,.nK _⟩;have e:x.size+y.size<=4294967296:=by rw[m9,m9];simpa [SA] using d
     simp[Tz,(Z:¬((9223372036854775807:Tq)<(x.size:Tq)+(y.size:Tq))),Lq]
    cases h)
  |(obtain rfl:=Se h;refine⟨_,?_,.oE _⟩;simp[Tz,ByteArray.toList_eq])
theorem Ls {P:Sg}{S:aC}{t:Sh}{x y f g:Sf}{i:SL}(d:Sk)(b:aX S x f)(c:aX S y g)(h:lO P t x y=some i):(SO (d+1) t f g).run P S.k= .ok i S.k:=by
 unfold lO at h;split at h
 ·rename_i o p a;cases b;cases c;obtain rfl:=Se h;simp[SO,run_underlying a]
 ·rename_i e q a;cases b;obtain rfl:=Se h;cases c<;>simp[SO,run_underlying a]
 ·rename_i e q a;obtain rfl:=Se h;cases b<;>(cases c;simp[SO,run_underlying a])
 ·rename_i e n j q m d a;obtain rfl:=Se h;cases b;cases c<;>simp[SO,run_underlying a]
 ·rename_i e q n j m d a;obtain rfl:=Se h;cases b;cases c;simp[SO,run_underlying a]
 ·rename_i k l q a;obtain rfl:=Se h;cases b;cases c<;>simp[SO,run_underlying a]
 ·rename_i k l q a;obtain rfl:=Se h;cases b;cases c;simp[SO,run_underlying a]
 ·rename_i a;obtain rfl:=Se h;cases b;cases c;simp[SO,run_underlying a]
 ·rename_i a;obtain rfl:=Se h;cases b;cases c;simp[SO,run_underlying a]
 ·rename_i a;obtain rfl:=Se h;cases b;cases c;simp[SO,run_underlying a]
 cases h
theorem Lt {P:Sg}{S:aC}{t:Sh}{x y a b:Sf}{c:SL}(d:aX S x a)(e:aX S y b)(h:lO P t x y=some c):(TL t a b).run P S.k= .ok c S.k:=
 Ls 9999 d e h
def nM:Sf->SL
 | .bool _| .pointer _| .slice _ _ _| .map _| .nilFunc| .func _ _ _=>true
 |_=>false
theorem Lu {P:Sg}{t:Sh}{x y:Sf}{b:SL}(h:lO P t x y=some b):nM x=true:=by
 unfold lO at h;split at h<;>first|rfl|(cases h;done)
theorem Lv (a:BinOp)(t:Sh)(b c:SU)(x y:Sf)(h:nM x=true):eqGuard a t b c x y=pure ():=by
 cases x<;>first|(simp[nM] at h;done)|(cases a<;>rfl)
theorem aX.a9 {S:aC}{v a:Sf}(h:aX S v a):nM v=nM a:=by cases h<;>rfl
theorem Lw (t:Sh)(x y:Sf)(h:nM x=true):binOp .eql t x y=(do pure (.bool (<-TL t x y))):=by
 cases x<;>first|(simp[nM] at h;done)|(cases y<;>rfl)
theorem Lx (t:Sh)(x y:Sf)(h:nM x=true):binOp .neq t x y=(do pure (.bool (!(<-TL t x y)))):=by
 cases x<;>first|(simp[nM] at h;done)|(cases y<;>rfl)
theorem Ly {P:Sg}{S:aC}{a:BinOp}{t:Sh}{x y b d v:Sf}{i j:SU}(f:aX S x b)(k:aX S y d)
  (h:(match a with
   | .eql=>match lO P t x y with|some c=>some (.bool c)|none=>none
   | .neq=>match lO P t x y with|some c=>some (.bool (!c))|none=>none
   |_=>none)=some v):hs P S (do eqGuard a t i j b d;binOp a t b d) v:=by
 cases a<;>simp only at h<;>first
  |(cases h;done)
  |(split at h
    ·rename_i c g;obtain rfl:=Se h;have e:nM b=true:=by rw[<-f.a9];exact Lu g
     refine⟨_,?_,.oE _⟩;simp[Lv _ _ _ _ _ _ e,Lw _ _ _ e,Lx _ _ _ e,Lt f k g]
    cases h)
theorem LC {P:Sg}{S:aC}{a:BinOp}{t:Sh}{x y b c v:Sf}{g i:SU}(d:aX S x b)(e:aX S y c)(h:bN P a t x y=some v):
  hs P S (do eqGuard a t g i b c;binOp a t b c) v:=by
 unfold bN at h;split at h
 ·rename_i m n o p;cases d;cases e
  split at h
  ·exact BY h
  ·exact BY h
  rename_i j k;split at h
  ·rename_i l;subst l;exact Lp h (fun f=>j f) (fun f=>k f)
  cases h
 ·cases d;cases e;exact Lr h
 exact Ly d e h
theorem LD {P:Sg}{S:aC}{b:UnOp}{x c v:Sf}(a:aX S x c)(h:qI b x=some v):hs P S (TC b c) v:=by
 unfold qI at h;split at h
 ·cases a;simp only[h7] at h;obtain rfl:=Se h;exact⟨_,by simp[TC,TK],.gf _ _⟩
 ·cases a;simp only[h7] at h;obtain rfl:=Se h;exact⟨_,by simp[TC,TN],.gf _ _⟩
 ·cases a;obtain rfl:=Se h;exact⟨_,by simp[TC],.oE _⟩
 cases h
theorem LF {P:Sg}{S:aC}{t:Sh}{x l m o v:Sf}(p:aX S x m)(q:aX S l o)(h:eM P t x l=some v):hs P S (Instr.indexAt t m o) v:=by
 unfold eM at h;split at h
 ·rename_i r s u a w y n b;cases q;cases p with
  |e4 _ _ _ _ c D E F A=>
  split at h
  ·rename_i z d;split at h
   ·rename_i e;obtain rfl:=Se h;have B:n<a:=by simpa [SX] using e
    have⟨⟨f,g,i,j⟩,_⟩:=A Z;refine⟨.pointer (some (c.add (n*z))),?_,.qM _ _ _ _ ⟨f,g,i,fun k=> ?_⟩⟩
    ·have G:((Int.ofNat n)<(a:Tq)):=by simp only[Int.ofNat_eq_natCast];omega
     have H:(0:Tq)<=Int.ofNat n:=by simp
     simp[Instr.indexAt,run_underlying b,asIntOf,gw d];omega
    rw[j k,Addr.add_lit,SN]
   cases h
  cases h
 ·rename_i a r s u w y n b;cases q;obtain⟨c,rfl,f,g,i,j⟩:=p.qT;split at h
  ·rename_i z d;split at h
   ·rename_i e;obtain rfl:=Se h;have B:n<a:=by simpa [SX] using e
    refine⟨.pointer (some (c.add (n*z))),?_,.qM _ _ _ _ ⟨f,g,i,fun k=> ?_⟩⟩
    ·simp[Instr.indexAt,run_underlying b,asIntOf,gw d,Instr.sureAddr];omega
    rw[j k,Addr.add_lit,SN]
   cases h
  cases h
 cases h
theorem LG {P:Sg}{S:aC}{t:Sh}{x a v:Sf}{f:Sk}(b:aX S x a)(h:aY P t x f=some v):hs P S (Instr.fieldAt t a f) v:=by
 unfold aY at h;split at h
 ·rename_i o p q r c;obtain⟨d,rfl,e,g,i,j⟩:=b.qT;split at h
  ·rename_i k l;split at h
   ·rename_i z m;obtain rfl:=Se h;refine⟨.pointer (some (d.add k.offset)),?_,.qM _ _ _ _ ⟨e,g,i,fun n=> ?_⟩⟩
    ·simp[Instr.fieldAt,run_underlying c,l,Instr.sureAddr,fieldPlace,gw m]
    rw[j n,Addr.add_lit,SN]
   cases h
  cases h
 cases h
theorem BZ {P:Sg}{S:aC}{t:Sh}{b c:Sr Sf}{a:Sk}{v:Sf}(d:bo S b.toList c.toList)(h:vC P t b.toList a=some v):hs P S (part t c a) v:=by
 unfold vC at h;split at h
 ·rename_i n e q;rw[vL,tJ] at h;split at h
  ·rename_i l f;split at f
   ·rename_i j;obtain rfl:=Se f;obtain rfl:=Se h;refine⟨.agg (c.extract a (a+n)),by simp[part,vQ e,gw q],?_⟩;have k:=d.1;refine .mq _ _ (by simp;simp at k;omega) (fun m o=> ?_);simp only[Ty,List.length_drop] at o;have:=d.2 (a+m) (by simp at j|-;omega);simp only[Sm,Sw] at this|-
    simp only[List.getElem?_take,(show m<n by simp at o;omega),SY,Tc,Sw,Array.getElem?_extract];rw[SC (by simp at j k;omega)];exact this
   cases f
  cases h
 ·rename_i e;rw[tJ] at h;split at h
  ·rename_i r u g;obtain rfl:=Se h;have p:a<b.toList.length:=by
    rcases S0 a b.toList.length with i|i
    ·exact i
    rw[Tf i] at g;cases g
   have s:b.toList.getD a undef=r:=by
    have:=congrArg (fun l=>l.getD 0 undef) g
    simpa [Sm,Tc] using this
   have:=d.2 a p;rw[s] at this;refine⟨c.toList.getD a undef,?_,this⟩;simp[part,vQ e,Sm,(show a<c.size by have:=d.1;simp at this p;omega)]
  cases h
 cases h
theorem LH {a:Sg}{S:aC}{t:Sh}{x b v:Sf}{f:Sk}(c:aX S x b)(h:tC a t x f=some v):hs a S (Instr.field t b f) v:=by
 unfold tC at h;split at h
 ·rename_i l m d;obtain⟨n,rfl,e⟩:=c.BW;split at h
  ·rename_i o g;have⟨i,j,k⟩:=BZ (P:=a) e h;exact⟨i,by simp[Instr.field,run_underlying d,g,asAgg,j],k⟩
  cases h
 cases h
theorem LI {b:Sg}{S:aC}{t:Sh}{x f g i v:Sf}(j:aX S x g)(k:aX S f i)(h:tB b t x f=some v):hs b S (Instr.index t g i) v:=by
 unfold tB at h;split at h
 ·rename_i a m n c;cases k;cases j
  split at h
  ·rename_i o B d;obtain rfl:=Se h;have l:n<a.data.toList.length:=by
    rcases S0 n a.data.toList.length with e|e
    ·exact e
    rw[Tf e] at d;cases d
   have p:a[n]?=some o:=by
    have:=congrArg (fun q=>q[0]?) d;simp only[Tc,SW,List.getElem?_cons_zero] at this;rw[getElem?_pos a n (show n<a.size by rw[m9];exact l)];rw[List.getElem?_eq_getElem l] at this;rw[<-Se this,Array.getElem_toList];rfl
   refine⟨_,?_,.gf _ _⟩;simp[Instr.index,run_underlying c,asIntOf,p]
  cases h
 ·rename_i r D E m n c;cases k;obtain⟨F,rfl,s⟩:=j.BW;split at h
  ·rename_i G u;split at h
   ·rename_i w;have H:n<r:=by simpa [SX] using w
    have⟨y,z,A⟩:=BZ (P:=b) s h;refine⟨y,?_,A⟩;simp[Instr.index,run_underlying c,asIntOf,gw u,z];omega
   cases h
  cases h
 cases h
theorem LJ {P:Sg}{S:aC}{x b v:Sf}{i:Sk}(g:aX S x b)(h:bm x i=some v):hs P S (Instr.extract b i) v:=by
 unfold bm at h;split at h
 ·rename_i c;obtain⟨d,rfl,e⟩:=g.Ln;have j:i<c.size:=by
   rcases S0 i c.size with a|a
   ·exact a
   rw[SJ a] at h;cases h
  have f:i<d.size:=by have:=e.1;simp at this;omega
  have:=e.2 i (by simpa using j);simp only[Sm,Sw,h] at this;refine⟨d[i],by simp[Instr.extract,f],by simpa [f] using this⟩
 cases h
def oF (S:aC)(o a:Si Sf):Prop:=(o=none/\a=none)\/∃v b,o=some v/\a=some b/\aX S v b
theorem tP {S:aC}{o b:Si Sf}{d n:Sk}(e:oF S o b)(h:h8 o d=some n):(o=none/\b=none/\n=d)\/∃k,o=some (.int k n)/\b=some (.int k n):=by
 unfold h8 at h;split at h
 ·rcases e with ⟨_,c⟩|⟨v,f,a,_,_⟩
  ·exact .inl ⟨rfl,c,(Se h).symm⟩
  cases a
 ·rename_i k m;rcases e with ⟨a,_⟩|⟨v,f,a,c,g⟩
  ·cases a
  obtain rfl:=Se a;cases g;obtain rfl:=Se h;exact .inr ⟨k,rfl,c⟩
 cases h
theorem B0 {P:Sg}(w:St)(k:Tt)(n y:Sk)(a:BoundsCode)(h:n<=y):(Instr.sliceBound (.int k n) y a).run P w= .ok n w:=by
 simp[Instr.sliceBound,asIntOf];omega
theorem vR {P:Sg}{S:aC}(w:St)(g:SL)(b a:Sk){c d e f:Si Sf}{l h:Sk}(i:oF S c e)(j:oF S d f)(k:h8 c 0=some l)(m:h8 d b=some h)(n:l<=h)(o:h<=a):
  (Instr.sliceBounds g b a e f none).run P w= .ok (l,h,a) w:=by
 rcases tP i k with ⟨_,rfl,rfl⟩|⟨a,_,rfl⟩<;>rcases tP j m with ⟨_,rfl,rfl⟩|⟨a,_,rfl⟩<;>
  simp[Instr.sliceBounds,B0,n,o]
theorem B1 {P:Sg}{S:aC}(w:St)(j:SL)(c d:Sk){e a b f g i:Si Sf}{l h m:Sk}(k:oF S e f)(n:oF S a g)(o:oF S b i)(p:h8 e 0=some l)(q:h8 a c=some h)
  (r:h8 b 0=some m) (s:b≠none) (t:a≠none) (u:l<=h) (v:h<=m) (x:m<=d):
  (Instr.sliceBounds j c d f g i).run P w= .ok (l,h,m) w:=by
 rcases tP o r with ⟨e,_,_⟩|⟨a,_,rfl⟩
 ·exact SI e s
 rcases tP n q with ⟨e,_,_⟩|⟨a,_,rfl⟩
 ·exact SI e t
 rcases tP k p with ⟨_,rfl,rfl⟩|⟨a,_,rfl⟩<;>simp[Instr.sliceBounds,B0,u,v,x]
theorem LK {s:J}{i c z:Sk}(h:jV s i c z=true):c=0\/∃b,s.t i=some b/\b.ju=z:=by
 unfold jV at h;split at h
 ·exact .inl rfl
 split at h
 ·rename_i b a;exact .inr ⟨b,a,by simpa [SB] using h⟩
 cases h
theorem aX.B2 {S:aC}{i e f c:Sk}{b:Addr}{d:Sk}(j:aX S (.slice (some ⟨i,e,none⟩) f c) (.slice (some b) f d)){l h m z:Sk}(n:l<=h)(o:h<=m)(p:m<=d)(k:jV S.h i c z=true)(a:Sk)(g:a=c\/(a=0/\m=l)):
  aX S (.slice (some ⟨i,e+l*z,none⟩) (h-l) a) (.slice (some (if m=l then b else b.add (l*z))) (h-l) (m-l)):=by
 cases j with
 |e4 _ _ _ _ _ _ b f h=>
 refine .e4 _ _ _ _ _ _ Z (fun e=> ?_) (fun b=> ?_)
 ·rcases g with rfl|⟨_,b⟩
  ·have:=f e;omega
  omega
 have e:¬m=l:=Z;obtain rfl:a=c:=by rcases g with a|⟨_,a⟩<;>omega
 rw[Sq e];have⟨⟨e,a,c,g⟩,j⟩:=h Z;refine⟨⟨e,a,c,fun c=>by rw[g c,Addr.add_lit,SN]⟩,fun n h c=> ?_⟩;rw[a] at h;obtain rfl:=Se h
 have⟨n,E,o,h,b⟩:=j e a c;have j:e.ju=z:=by
  rcases LK k with rfl|⟨e,e,k⟩
  ·have:=f rfl;omega
  rw[a] at e;obtain rfl:=Se e;exact k
 rw[(g c)] at h b|-
 rw[Addr.add_lit];refine⟨n,E,o,h,?_⟩;simp only at b|-
 rw[j] at b|-
 have:l*z+(m-l)*z<=d*z:=by rw[<-SS];exact Sx _ Z
 omega
theorem LL {b:Sg}{WC:Sk}{S:aC}(WD:bR WC S){E:Sh}{F G w:Sf}{H K L M O Q:Si Sf}(c:aX S F G)(o:oF S H M)(p:oF S K O)(s:oF S L Q)(h:fN b S.h E F H K L=some w):
  hs b S (Instr.sliceAt E G M O Q) w:=by
 unfold fN at h;split at h
 ·rename_i j d;cases c;split at h
  ·rename_i l q e f;rcases s with ⟨_,rfl⟩|⟨_,_,g,_,_⟩
   case inr=>cases g
   split at h
   ·rename_i a;simp only[Sn,SA] at a;obtain rfl:=Se h;have R:=m9 j;refine⟨_,?_,.nK _⟩;simp only[Instr.sliceAt,Instr.slice,Sem.run_bind,run_underlying d,So,(vR (P:=b) S.k false j.size j.size o p e (by rw[R];exact f) a.1 (by rw[R];exact a.2)),Option.isSome_none,Bool.false_eq_true,if_false,Sem.run_pure]
    congr 2
    apply sb;rw[ByteArray.data_extract,Tk];simp only[TH,List.drop_take]
   cases h
  cases h
 ·rename_i g WO T i d;split at h
  ·rename_i l q z e f r;split at h
   ·rename_i a;simp only[Sn,SA] at a;split at h
    ·rcases s with ⟨_,rfl⟩|⟨_,_,g,_,_⟩
     case inr=>cases g
     split at h
     ·obtain rfl:=Se h;cases c;obtain rfl:q=0:=Z;obtain rfl:l=0:=Z;refine⟨_,?_,.qN⟩;simp[Instr.sliceAt,Instr.slice,run_underlying d,(vR (P:=b) S.k true 0 0 o p e f a.1 a.2),gw r]
     ·rename_i k t;split at h
      ·rename_i x;obtain rfl:=Se h;have y:=c;cases c with
       |e4 _ _ _ _ U u WE A B=>
       refine⟨_,?_,y.B2 a.1 (by omega:q<=u) (Sj _) x i (.inl rfl)⟩;simp[Instr.sliceAt,Instr.slice,run_underlying d,(vR (P:=b) S.k true T u o p e f a.1 Z),gw r];split<;>rfl
      cases h
     cases h
    rename_i WQ;split at h
    ·rename_i W X Wy;split at h
     ·rename_i m;simp only[Sn,SA] at m;split at h
      ·obtain rfl:=Se h;cases c;obtain rfl:q=0:=Z;obtain rfl:l=0:=Z;obtain rfl:W=0:=Z;refine⟨_,?_,.qN⟩;simp[Instr.sliceAt,Instr.slice,run_underlying d,(B1 (P:=b) S.k true 0 0 o p s e f Wy aA aA a.1 m.1 m.2),gw r]
      ·rename_i k t;split at h
       ·rename_i x;obtain rfl:=Se h;have y:=c;cases c with
        |e4 _ _ _ _ U u WE A B=>
        refine⟨_,?_,y.B2 a.1 m.1 Z x _ ?_⟩
        ·simp[Instr.sliceAt,Instr.slice,run_underlying d,(B1 (P:=b) S.k true T u o p s e f Wy aA aA a.1 m.1 Z),gw r];split<;>rfl
        by_cases D:l=W
        ·rw[SC (by simp[D])];exact .inr ⟨rfl,D.symm⟩
        rw[Sq (by simp[D])];exact .inl rfl
       cases h
      cases h
     cases h
    cases h
   cases h
  cases h
 ·rename_i n g k t i d;split at h
  ·rename_i l q z j e f r v;rcases s with ⟨_,rfl⟩|⟨_,_,g,_,_⟩
   case inr=>cases g
   split at h
   ·rename_i a;simp only[Sn,SA,SX,SB] at a;have⟨⟨⟨⟨⟨⟨WG,m⟩,WH⟩,Wz⟩,WR⟩,WI⟩,A⟩:=a;obtain rfl:=Se h;obtain⟨U,rfl,B⟩:=c.qT;have WA:dX j i:=⟨WH,Wz⟩;obtain rfl:=B.tO v WA;refine⟨.slice (some (if n=l then⟨(S.l.s k i).1,(S.l.s k i).2+t,none⟩ else(⟨(S.l.s k i).1,(S.l.s k i).2+t,none⟩:Addr).add (l*z))) (q-l) (n-l),?_,?_⟩
    ·simp[Instr.sliceAt,run_underlying d,Instr.sureAddr,(vR (P:=b) S.k false n n o p e f WG m),gw r]
    refine .e4 _ _ _ _ _ _ Z (fun g=>Z) (fun WS=> ?_);rw[Sq (Z:¬n=l),Addr.add_lit];refine⟨⟨j,v,Wz,fun _=>by rw[SN]⟩,fun WT WB _=> ?_⟩;rw[v] at WB;obtain rfl:=Se WB
    have WU:0<n*z:=Tl Z A;have⟨w,X,_⟩:=WD.mr k j v i WA (t+n*z-1) Z;have⟨WJ,WK,WL,WM,WN⟩:=BN X;have WV:=(Tb.1 WN).1;refine⟨WJ,WK,WL,WM,?_⟩;simp only;rw[WI];have:l*z+(n-l)*z=n*z:=by rw[<-SS];congr 1;omega
    omega
   cases h
  cases h
 cases h
def qU (P:Sg)(b:Sk)(S:aC)(m:Sem Sf)(v:Sf)(c:J):Prop:=
 ∃T a,T.h=c/\m.run P S.k= .ok a T.k/\aX T v a/\bH b S T
def pK (P:Sg)(d:Sk)(S:aC)(m:Sem Sf)(v:Sf)(a e:J)(f:Sk):Prop:=
 ∃b,e=a.x (.bl b)/\∃T c,T.h=⟨a5.ek (fo a.Y) S.h.i a.Y (.bl b),f⟩/\m.run P S.k= .ok c T.k/\aX T v c/\bH d S T
theorem pK.tQ {P:Sg}{a:Sk}{S:aC}{m:Sem Sf}{v:Sf}{b:J}(h:pK P a S m v S.h b (S.h.Y+1)):qU P a S m v b:=by
 obtain⟨i,rfl,T,c,d,e,f,g⟩:=h;exact⟨T,c,d,e,f,g⟩
theorem vS {k:Sk}{S:aC}(o:bR k S){c:J}{h:Sk}(i:gT S c.Y h){a:Sl Sf}{j d:Sk}{v:Sf}{l:J}(e:cL c a j d=some (v,l))(b:Sr Sf)(E:Sh)(f:Sk×Sk)(W:St)(g:Sk)
  (m:lT S.k W (.cells b E f)) (q:f.1=f.2\/b.size<=f.1/\d=1) (r:a.length<=b.size) (s:∀p,p<a.length->aX S (a.getD p undef) (b.toList.getD p undef)) (t:j<=g) (u:g*d<=b.size):
  ∃n,l=c.x (.bl n)/\∃T,T.h=⟨a5.ek (fo c.Y) S.h.i c.Y (.bl n),h⟩/\T.k=W/\aX T v (.slice (some ⟨S.k.heap.size,0,none⟩) j g)/\bH k S T:=by
 unfold cL at e;split at e
 ·injection e with e;injection e with w x
  subst w;subst x
  exact⟨⟨a,1,true,d⟩,rfl,S.pI c.Y h ⟨a,1,true,d⟩ W,rfl,rfl,.e4 _ _ _ _ _ _ t (fun y=>Z) (fun _=>⟨aC.BQ i _ W 0 _ (Sj _),aC.Li i _ W 0 _ g b E f m (by simpa using u)⟩),
   bH.BO o i a d b E f W m q r s⟩
 cases e
theorem B3 {h:Sk}{S:aC}(i:bR h S){c:Sl Sf}{f g:Sk}{v:Sf}{j:J}(d:cL S.h c f g=some (v,j))(a:Sr Sf)(E:Sh)(b:Sk×Sk)(W:St)(e:Sk)
  (k:lT S.k W (.cells a E b)) (l:b.1=b.2\/a.size<=b.1/\g=1) (m:c.length<=a.size) (n:∀p,p<c.length->aX S (c.getD p undef) (a.toList.getD p undef)) (o:f<=e) (q:e*g<=a.size):
  ∃T,T.h=j/\T.k=W/\aX T v (.slice (some ⟨S.k.heap.size,0,none⟩) f e)/\bH h S T:=by
 have c:S.h.bE=true:=by
  unfold cL at d;split at d
  ·assumption
  cases d
 obtain⟨p,rfl,T,f,g,h,j⟩:=vS i (gT.m i c) d a E b W e k l m n o q;exact⟨T,f,g,h,j⟩
theorem B4 {g:Sk}{S:aC}(l:bR g S){a:J}{e:Sk}(h:gT S a.Y e){c:Sl Sf}{d:Sk}{v:Sf}{i:J}(b:iA a c d=some (v,i))(f:Sr Sf)(E:Sh)
  (j:bo S c f.toList):∃k,i=a.x (.bl k)/\∃T,T.h=⟨a5.ek (fo a.Y) S.h.i a.Y (.bl k),e⟩/\T.k=S.k.alloc (.cells f E)/\aX T v (.pointer (some ⟨S.k.heap.size,0,none⟩))/\bH g S T:=by
 unfold iA at b;split at b
 ·injection b with b;injection b with m n
  subst m;subst n
  have o:=j.1;exact⟨⟨c,1,true,d⟩,rfl,S.pI a.Y e ⟨c,1,true,d⟩ _,rfl,rfl,.qM _ _ _ _ (aC.BQ h _ _ 0 _ (Sj _)),
   bH.BO l h c d f E (0,0) _ ⟨rfl,rfl,rfl,rfl⟩ (.inl rfl) (by simp at o;omega) j.2⟩
 cases b
theorem B5 {P:Sg}(w:St)(t:Sh)(v:Sf):(newVar t v).run P w= .ok ⟨w.heap.size,0,none⟩ (w.alloc (.cells v.cells t)):=by simp[newVar,newRow]
theorem B6 {P:Sg}{b:Sk}{S:aC}(h:bR b S){a:J}{c:Sk}(f:gT S a.Y c){e:Sh}{z v:Sf}{g:Sk}{d:J}(i:bK P e=some z)(j:cp z=true)(k:iA a z.cells.toList g=some (v,d)):
  pK P b S (Instr.alloc e true (.tuple #[])) v a d c:=by
 have⟨l,m,T,n,o,p,q⟩:=B4 h f k z.cells e (qS j).aJ;exact⟨l,m,T,_,n,by rw[o];simp[Instr.alloc,nL i,B5],p,q⟩
theorem B7 {P:Sg}{c:Sk}{S:aC}(h:bR c S){a:J}{d:Sk}(g:gT S a.Y d){e:Sh}{x b v:Sf}{i:Sk}{f:J}(j:aX S x b)(k:iA a x.cells.toList i=some (v,f)):pK P c S (Instr.box e b) v a f d:=by
 have⟨l,m,T,n,o,p,q⟩:=B4 h g k b.cells e j.aJ;exact⟨l,m,T,_,n,by rw[o];simp[Instr.box,B5],p,q⟩
theorem bH.LM {x:Sk}{S:aC}(h:bR x S){i c:Sk}{d:cF}(e:S.h.t i=some d)(y:d.br=true)(P:dX d c)(L:d.ju=1){b:Sr Sf}{E:Sh}{o:Sk×Sk}
  (n:S.k.heap[(S.l.s i c).1]?=some (.cells b E o)):
  bH x S ⟨S.h.u i (.bl d),S.l,S.k.freeze ⟨(S.l.s i c).1,b.size,none⟩ 1⟩:=by
 have⟨WM,⟨Q,R,T,u,U⟩,W,WN⟩:=h.br i d e y c P;rw[n] at u;injection u with u;injection u with p v z
 subst p;subst v;subst z
 have w:∀k,k≠(S.l.s i c).1->(S.k.freeze ⟨(S.l.s i c).1,b.size,none⟩ 1).heap[k]?=S.k.heap[k]?:=fun k a=>by
  unfold Tg;rw[Sq ai];simp only[S7];rw[Sq Z]
 have X:∃l:Sk×Sk,(S.k.freeze ⟨(S.l.s i c).1,b.size,none⟩ 1).heap[(S.l.s i c).1]?=some (.cells b E l)/\(l.1=l.2\/b.size<=l.1/\d.ju=1):=by
  unfold Tg;rw[Sq ai];simp only[S7,SY,n,Option.map_some];refine⟨_,rfl,?_⟩;by_cases A:o.1=o.2
  ·rw[SC (by simp[A])];exact .inr ⟨Sj _,L⟩
  rw[Sq (by simp[A])];refine .inr ⟨?_,L⟩;have:b.size<=o.1:=(U.resolve_left A).1;show b.size<=min o.1 b.size;omega
 have⟨l,B,Wy⟩:=X;have D:(S.k.freeze ⟨(S.l.s i c).1,b.size,none⟩ 1).heap.size=S.k.heap.size:=by
  unfold Tg;rw[Sq ai];simp
 have Wz:∀k F,(S.k.freeze ⟨(S.l.s i c).1,b.size,none⟩ 1).cell? ⟨k,F,none⟩=S.k.cell? ⟨k,F,none⟩:=fun k F=>by
  by_cases a:k=(S.l.s i c).1
  ·subst a;rw[j2 _ _ _ _ _ _ B,j2 _ _ _ _ _ _ n]
  exact SM (w k a)
 have WA:Below x S.k (S.k.freeze ⟨(S.l.s i c).1,b.size,none⟩ 1):=by
  refine⟨?_,?_,?_,by rw[D];exact Sj _,fun k a=>w k Z⟩<;>(unfold Tg;rw[Sq ai])
 refine bR.qP h i (S.l.s i c).1 S.h.Y d S.l.s _ (h.n e) (Sj _) h.bE (.inl (h.n e)) (fun M G=>r9 e G) (h.bT i d e) ?_ (fun _ _=>rfl)
  (fun k a _=>w k a) (fun q r f s t g m=>s (W q r t f g m)) ?_ (fun f g=>by rw[D];exact h.iX i d e f g) ?_ ?_ ?_ ?_ WA (by rw[D];exact Sj _)
 ·intro WO O;rw[e] at O;obtain rfl:=Se O
  exact⟨Sj _,Sj _,rfl,fun _ _ _=>rfl⟩
 ·intro WB M G m;have⟨_,WQ,WR,j,_⟩:=h.cv WB M G;rw[m,n] at j;cases j
 ·intro f g WC WD;rw[Wz];exact h.mr i d e f g WC WD
 ·intro _ f g;have⟨WE,⟨WG,WH,WI,j,WJ⟩,WK,WL⟩:=h.br i d e y f g;refine⟨WE,?_,fun q r s t H K m=>s (WK q r t H K m),WL⟩;by_cases a:(S.l.s i f).1=(S.l.s i c).1
  ·rw[a,n] at j;injection j with j;injection j with p v z
   subst p;exact⟨b,E,l,by rw[a];exact B,Wy⟩
  exact⟨WG,WH,WI,by rw[w _ a];exact j,WJ⟩
 ·intro q r s t WS H K f g m;exact s ((h.br i d e y f g).2.2.1 q r t H K m.symm)
 intro Q R T a;rw[n] at a;injection a with a;injection a with p v z
 subst p;subst v
 exact⟨b,l,B,rfl⟩
theorem LN {S:aC}:∀{l a:Sl Sf} {b:Sl TP},bo S l a->pD l=some b->∃c:Sl Tq,a=c.map (Value.int .u8)/\b=c.map (fun n=>UInt8.ofNat n.toNat):=by
 intro l
 induction l with
 |nil=>intro a b e h;simp only[pD] at h;obtain rfl:=Se h;exact⟨[],e.qO,rfl⟩
 |cons v l f=>
  intro a b e h;obtain⟨o,p,rfl,g,i⟩:=e.lQ;simp only[pD] at h;split at h
  ·rename_i q d;split at h
   ·rename_i r j;obtain rfl:=Se h;have⟨c,k,m⟩:=f i j;unfold yE at d;split at d
    ·rename_i n;cases g;obtain rfl:=Se d;exact⟨n::c,by simp[k],by simp[m]⟩
    cases d
   cases h
  cases h
theorem B8 {S:aC}(l:Sl TP):bo S (aM l) (aM l):=by
 induction l with
 |nil=>exact bo.al
 |cons b l a=>exact bo.ed (.gf _ _) a
def tR:Si TypeDesc->SL
 |some (.slice _)=>true
 |_=>false
theorem LO {P:Sg}{s:Sk}{S:aC}(t:bR s S){j i:Sh}{x k v:Sf}{l:J}(f:aX S x k)(a:fM P S.h j i x=some (v,l))(g:tR (P.underlying i)=false):
  l=S.h/\hs P S (convert j i k) v:=by
 unfold fM at a;split at a
 ·rename_i u T U w c b;injection a with a;injection a with d e;subst d;subst e
  cases f;exact⟨rfl,_,by simp[convert,run_underlying c,run_underlying b,Conv.intToInt],.gf _ _⟩
 ·rename_i u m c b;injection a with a;injection a with d e;subst d;subst e
  cases f;exact⟨rfl,_,by simp[convert,run_underlying c,run_underlying b],.nK _⟩
 ·rename_i n m c b;rw[b] at g;cases g
 ·rename_i d e y z A o c b;rw[b] at g;cases g
 ·rename_i n w o c b;split at a
  ·rename_i h;injection a with a;injection a with d e;subst d;subst e
   cases f;refine⟨rfl,_,?_,.nK _⟩;rw[run_convert_bytes_string _ _ _ _ _ _ _ c (tN h) b];simp[Conv.bytesToString];rfl
  cases a
 ·rename_i n y z A o c b;split at a
  ·rename_i h;cases f with
   |e4 _ _ _ _ B p W X D=>
   split at a
   ·injection a with a;injection a with d e;subst d;subst e
    refine⟨rfl,_,?_,.nK _⟩;rw[run_convert_bytes_string _ _ _ _ _ _ _ c (tN h) b,run_bytesToString S.k B 0 p [] (by simp[loadCells,loadCellsFrom])];rfl
   rename_i Wy;split at a
   ·rename_i Wz E;split at a
    ·rename_i WA F;injection a with a;injection a with d e;subst d;subst e
     have⟨m,G,H,_,_,WB,K,L⟩:=t.aJ E;have⟨⟨WC,q,_,M⟩,_⟩:=D Z;rw[G] at q;obtain rfl:=Se q
     obtain rfl:=M H.1;have⟨O,Q,R⟩:=LN K F;refine⟨rfl,_,?_,.nK _⟩;have r:=yM P S.k _ _ _ L;rw[Q] at r;rw[run_convert_bytes_string _ _ _ _ _ _ _ c (tN h) b,run_bytesToString S.k _ _ p O r,foldl_push_bytes,R]
     congr 2
     apply sb;rw[SR];rfl
    cases a
   cases a
  cases a
 cases a
theorem B9 {g:Sg}{n:Sk}{a:aC}(u:bR n a){h:J}{o:Sk}(w:gT a h.Y o){i j:Sh}{x q v:Sf}{r:J}(y:aX a x q)(f:fM g h i j x=some (v,r))(l:m2 g i j=true):
  pK g n a (convert i j q) v h r o:=by
 unfold m2 at l;split at l
 case h_2=>cases l
 rename_i L z k;unfold fM at f;split at f
 ·rename_i d c;rw[k] at c;cases c
 ·rename_i d c;rw[k] at c;cases c
 ·rename_i e b d c;split at f
  ·rename_i s;simp only[Sn,SA] at s;cases y;have A:=grownCap_ge a.k b.size 0 e;have M:(bytesRow b (grownCap a.k b.size 0 e)).size=grownCap a.k b.size 0 e:=by
    simp only[bytesRow,Tw,Array.size_map,Array.size_replicate];have:b.data.size=b.size:=rfl;omega
   have B:(aM b.data.toList).length=b.size:=by simp only[aM,TB];exact(m9 b).symm
   have⟨D,E,T,F,G,t,H⟩:=vS u w f (bytesRow b (grownCap a.k b.size 0 e)) e ((bytesRow b (grownCap a.k b.size 0 e)).size,(bytesRow b (grownCap a.k b.size 0 e)).size+1)
    (a.k.drew.alloc (.cells (bytesRow b (grownCap a.k b.size 0 e)) e ((bytesRow b (grownCap a.k b.size 0 e)).size,(bytesRow b (grownCap a.k b.size 0 e)).size+1))) (grownCap a.k b.size 0 e) ⟨rfl,rfl,rfl,rfl⟩ (.inr ⟨Sj _,rfl⟩) Z (fun p m=>by
     have K:(bytesRow b (grownCap a.k b.size 0 e)).toList.getD p undef=(aM b.data.toList).getD p undef:=by
      simp only[bytesRow,SR,SK];rw[qR _ _ _ (by rw[TB];rw[B,m9] at m;exact m)];rfl
     rw[K];exact(B8 (S:=a) b.data.toList).2 p m) (by rw[<-m9];exact A) Z
   rw[<-m9] at t;exact⟨D,E,T,_,F,by rw[G];exact(run_bytes_of_string (P:=g) a.k i j e b d c (tN s.1)),t,H⟩
  cases f
 ·rename_i d c;rw[z] at d;cases d
 ·rename_i d c;rw[k] at c;cases c
 ·rename_i d c;rw[k] at c;cases c
 cases f
theorem LP {P:Sg}{k:Sk}{S:aC}(l:bR k S){h f:Sh}{x m v:Sf}{n:J}(o:aX S x m)(b:fM P S.h h f x=some (v,n))(c:tR (P.underlying f)=true)(p:m2 P h f=false):
  qU P k S (convert h f m) v n:=by
 unfold fM at b;split at b
 ·rename_i A Wy Wz B d a;rw[a] at c;cases c
 ·rename_i A g d a;rw[a] at c;cases c
 ·rename_i q g d a;simp only[m2,d,a] at p;cases p
 ·rename_i D E i F G e d a;split at b
  ·cases b
  rename_i WA;split at b
  ·rename_i g j;split at b
   ·rename_i r;simp only[Sn,SA,SB] at r;have⟨⟨⟨⟨⟨H,K⟩,s⟩,t⟩,L⟩,M⟩:=r;injection b with b;injection b with O Q;subst O;subst Q
    have R:=o;cases o with
    |e4 _ _ _ _ WB WC WD WE T=>
    have u:dX g e:=⟨t,L⟩;have⟨WG,⟨U,W,WH,w,WI⟩,WJ,WK⟩:=l.br i g j s e u;have⟨⟨WL,y,_,X⟩,_⟩:=T Z;rw[j] at y;obtain rfl:=Se y
    obtain rfl:=X t;have z:=bH.LM l j s u M w;refine⟨_,_,rfl,?_,R.b z.gv,z⟩;subst H;obtain rfl:D=E:=by rw[d] at a;injection a with a;injection a
    simp[convert,run_underlying d,run_underlying (tN K),markStringish,(show S.k.shape? (S.l.s i e).1=some (W,U.size) by simp[World.shape?,w])]
   cases b
  cases b
 ·rename_i q B e d a;rw[a] at c;cases c
 ·rename_i q i F G e d a;rw[a] at c;cases c
 cases b
theorem LQ:∀(b:Sl Sf) (k a:Sk) (c:Sr Sf) (p:Sk),a+k+b.length<=c.size->
  ((b.zipIdx k).foldl (fun(e:Sr Sf) (x:Sf×Sk)=>e.setIfInBounds (a+x.2) x.1) c).size=c.size/\
  ((b.zipIdx k).foldl (fun(f:Sr Sf) (d:Sf×Sk)=>f.setIfInBounds (a+d.2) d.1) c)[p]?=if a+k<=p/\p<a+k+b.length then some (b.getD (p-(a+k)) undef) else c[p]?:=by
 intro a
 induction a with
 |nil=>intro a a a p _;exact⟨rfl,by rw[Sq aA];rfl⟩
 |cons v r c=>
  intro a b d p h;simp only[S1] at h;simp only[List.zipIdx_cons,List.foldl_cons];have⟨e,f⟩:=c (a+1) b (d.setIfInBounds (b+a) v) p (by simp;omega);refine⟨by rw[e];simp,?_⟩;rw[f];by_cases c:b+(a+1)<=p/\p<b+(a+1)+r.length
  ·rw[SC c,SC (by simp;omega),show p-(b+a)=(p-(b+(a+1)))+1 from Z,S3]
  rw[Sq c];by_cases c:p=b+a
  ·subst c;rw[SC aA,SH Z,TG,To]
  rw[Sq (by simp;omega),SF Z]
def tS (S:aC):Sl (Sk×Sf)->Sl (Sk×Sf)->Prop
 |[],[]=>True
 |(i,v)::r,(j,u)::a=>i=j/\aX S v u/\tS S r a
 |_,_=>False
theorem yQ {S:aC}(o q:Sk->Si (Sk×Sk))(y:∀i,o i=q i):∀(f d:Sl (Sk×Sf)) (a:Sl Sf) (b:Sr Sf) (l:Sl Sf),
  tS S f d->bo S a b.toList->eT o a f=some l->∃g,Instr.fill q b d=some g/\bo S l g.toList:=by
 intro f
 induction f with
 |nil=>
  intro d a b l e j h;cases d with
  |nil=>simp only[eT] at h;obtain rfl:=Se h;exact⟨b,rfl,j⟩
  |cons _ _=>exact e.elim
 |cons x T z=>
  intro d a b l e j h;have⟨i,A⟩:=x;cases d with
  |nil=>exact e.elim
  |cons B D=>
   have⟨U,u⟩:=B;obtain⟨rfl,E,G⟩:=e;simp only[eT] at h;split at h
   ·rename_i c H K;split at h
    ·rename_i r;simp only[Sn,SB,SA] at r;have⟨m,W⟩:=r;split at h
     ·rename_i s L;have⟨M,_,O⟩:=yK _ _ _ _ L;have t:=E.aJ;have v:u.cells.size=H:=by have:=t.1;simp at this m;omega
      have X:b.size=a.length:=by have:=j.1;simp at this;omega
      have Wy:s.length=a.length:=M;have n:=fun p=>LQ u.cells.toList 0 c b p (by simp;omega)
      have w:u.cells.zipIdx.foldl (fun a x=>a.setIfInBounds (c+x.2) x.1) b=(u.cells.toList.zipIdx 0).foldl (fun a x=>a.setIfInBounds (c+x.2) x.1) b:=by
       rw[show u.cells.zipIdx=(u.cells.toList.zipIdx 0).toArray by rw[<-SG];simp,List.foldl_toArray]
      generalize Wz:(u.cells.toList.zipIdx 0).foldl (fun a x=>a.setIfInBounds (c+x.2) x.1) b=F at n w;have⟨g,P,Q⟩:=z D s F l G (by
       have WA:=(n 0).1;have WB:F.toList.length=F.size:=SQ;refine⟨Z,fun p e=> ?_⟩;rw[O p];have R:F.toList.getD p undef=if c+0<=p/\p<c+0+u.cells.toList.length then u.cells.toList.getD (p-(c+0)) undef else b.toList.getD p undef:=by
        rw[Sm,Sw,(n p).2];split
        ·rfl
        rw[Sm,Sw]
       rw[R];by_cases k:c<=p/\p<c+A.cells.toList.length
       ·rw[SC k,SC (by rw[SQ,v];rw[m] at k;omega)];exact t.2 (p-c) Z
       rw[Sq k,Sq (by rw[SQ,v];rw[m] at k;omega)];exact j.2 p Z) h
      refine⟨g,?_,Q⟩;simp only[Instr.fill];rw[<-y i,K];simp only;rw[Sq (by simp;omega),w];exact P
     cases h
    cases h
   cases h
theorem yR {S:aC}{f:an}{b:Act}(c:eN S f b):∀{a:Sl (Sk×SU)} {l:Sl (Sk×Sf)},bC f a=some l->tS S l (a.map fun x=>(x.1,b.eval x.2)):=by
 intro a
 induction a with
 |nil=>intro l h;simp only[bC] at h;obtain rfl:=Se h;trivial
 |cons x a d=>
  intro l h;have⟨i,x⟩:=x;simp only[bC] at h;split at h
  ·rename_i v r e g;obtain rfl:=Se h;exact⟨rfl,dt c e,d g⟩
  cases h
theorem LR {a b:Type}{P:Sg}(w:St)(g:a->Sem b)(c:a->b):∀(l:Sl a),(∀x∈l,(g x).run P w= .ok (c x) w)->(l.mapM g).run P w= .ok (l.map c) w:=by
 intro l
 induction l with
 |nil=>intro _;simp
 |cons x l a=>
  intro h;simp[List.mapM_cons,h x aA,a (fun y a=>h y (by simp[a]))]
theorem LS {a:Sg}{S:aC}{t:Sh}{g j:Sl (Sk×Sf)}{v:Sf}(s:tS S g j)(h:cP a t g=some v):hs a S (Instr.build t j.toArray) v:=by
 unfold cP at h;split at h
 ·rename_i b z n o;split at h
  ·rename_i c;simp only[Sn,List.all_eq_true] at c;split at h
   ·rename_i p q;obtain rfl:=Se h
    let d:Field->Sk×Sk:=fun f=>(f.offset,(bc a f.type).getD 0)
    have w:(b.mapM (fun f=>Functor.map (Prod.mk f.offset) (sizeOf f.type)):Sem (Sr (Sk×Sk))).run a S.k= .ok (b.map d) S.k:=by
     rw[Array.mapM_eq_mapM_toList];have:=LR (P:=a) S.k (fun f:Field=>(Functor.map (Prod.mk f.offset) (sizeOf f.type):Sem (Sk×Sk))) d b.toList (fun f x=>by
      have⟨u,k⟩:=Option.isSome_iff_exists.1 (c.2 f x);simp[gw k,d,k])
     simp only[Sem.run_map,this,So]
     congr 1
     rw[<-SG];simp
    have⟨r,l,e⟩:=yQ (jW a b) ((b.map d)[·]?) (fun i=>by
     simp only[jW,Ts];cases y:b[i]? with
     |none=>rfl
     |some f=>
      have A:f∈b.toList:=by
       have:=Array.mem_of_getElem? y
       simpa using this
      have⟨u,k⟩:=Option.isSome_iff_exists.1 (c.2 f A);simp[k,d]) g j _ z.cells p s (qS c.1).aJ q
    refine⟨.agg r,?_,.mq _ _ e.1 e.2⟩;simp only[Ts] at l;simp[Instr.build,nL o,run_underlying n,w,l]
   cases h
  cases h
 ·rename_i u D z n o;split at h
  ·rename_i m B;split at h
   ·rename_i c;split at h
    ·rename_i p q;obtain rfl:=Se h;have⟨r,l,e⟩:=yQ (fun i=>some (i*m,m)) (fun i=>some (i*m,m)) (fun _=>rfl) g j _ z.cells p s (qS c).aJ q;refine⟨.agg r,?_,.mq _ _ e.1 e.2⟩;simp[Instr.build,nL o,run_underlying n,gw B,l]
    cases h
   cases h
  cases h
 cases h
theorem oG (z:Sl Sf):∀n,(cM z n).length=n*z.length
 |0=>by simp[cM]
 |n+1=>by rw[cM,Su,oG z n,Nat.succ_mul];omega
theorem Ca (z:Sl Sf)(b:0<z.length):∀n p,p<n*z.length->(cM z n).getD p undef=z.getD (p%z.length) undef
 |0,p,h=>by simp at h
 |n+1,p,h=>by
  rw[cM];by_cases a:p<z.length
  ·rw[qR _ _ _ a,Nat.mod_eq_of_lt a]
  rw[yN _ _ _ Z,Ca z b n (p-z.length) (by rw[SS,Nat.one_mul] at h;omega),<-Nat.mod_eq_sub_mod Z]
theorem LU (z:Sr Sf)(n p:Sk)(h:p<n)(a:0<z.size):((Td n).map (z[·%z.size]!)).toList.getD p undef=z.toList.getD (p%z.size) undef:=by
 simp[Sm,h,(TO _ a:p%z.size<z.size)]
theorem vT {a:aC}{z:Sf}(d:cp z=true){n:Sk}(b:z.cells.toList.length=n)(c m:Sk)(e:c*n<=m):∀p,p<c*n->aX a ((cM z.cells.toList c).getD p undef) (((Td m).map (z.cells[·%z.cells.size]!)).toList.getD p undef):=by
 intro p h;have e:0<n:=by
  rcases Nat.eq_zero_or_pos n with f|g
  ·subst f;simp at h
  exact g
 have f:z.cells.size=n:=by simpa using b
 rw[Ca _ Z c p (by rw[b];exact h),LU _ _ _ Z Z,b,f];exact((qS d).aJ (S:=a)).2 _ (by rw[b];exact TO _ e)
theorem Cb {P:Sg}{r:Sk}{S:aC}(h:bR r S){c:J}{j:Sk}(E:gT S c.Y j){t:Sh}{a:Sk}{k m:Sl (Sk×Sf)}{v:Sf}{s:J}(d:tS S k m)(b:dj P c t a k=some (v,s)):
  pK P r S (Instr.buildSlice t a m.toArray) v c s j:=by
 unfold dj at b;split at b
 ·rename_i u w;split at b
  ·rename_i n z x F;split at b
   ·rename_i y;simp only[Sn,SA,SB] at y;have⟨⟨WC,G⟩,A⟩:=y;split at b
    ·rename_i l B;have o:(cM z.cells.toList a).length=a*n:=by rw[oG,A]
     have⟨e,f,D⟩:=yQ (fun i=>some (i*n,n)) (fun i=>some (i*n,n)) (fun _=>rfl) k m _ ((Td (a*n)).map (z.cells[·%z.cells.size]!)) l d
      ⟨by rw[o];simp,fun H d=>vT G A a (a*n) (Sj _) H (by rw[o] at d;exact d)⟩ B
     have K:l.length=e.size:=by have:=D.1;simpa using this
     have WD:e.size=a*n:=by
      have:∀(p:Sl (Sk×Sf)) (g:Sl Sf) (l:Sl Sf),eT (fun i=>some (i*n,n)) g p=some l->l.length=g.length:=by
       intro p
       induction p with
       |nil=>intro g l h;simp only[eT] at h;obtain rfl:=Se h;rfl
       |cons L WE M=>
        intro g l h;have⟨i,v⟩:=L;simp only[eT] at h;split at h
        ·split at h
         ·rename_i O Q;rw[M O l h];exact(yK _ _ _ _ Q).1
         cases h
        cases h
      rw[<-K,this _ _ _ B,o]
     have⟨R,T,U,W,X,Wy,Wz⟩:=vS h E b e u (0,0) (S.k.alloc (.cells e u)) a ⟨rfl,rfl,rfl,rfl⟩ (.inl rfl) Z D.2 (Sj _) Z;refine⟨R,T,U,_,W,?_,Wy,Wz⟩;rw[X];have WG:¬(16777216<a*n):=Z;by_cases q:a*n=0
     ·have WA:Td (a*n)= #[]:=by rw[q];rfl
      rw[WA] at f;simp only[Array.map_empty] at f;simp[Instr.buildSlice,run_underlying w,gw x,q];rw[show Td 0= #[] from rfl];simp[f,newRow]
     have WB:¬a*n>2^24:=Z;simp only[Instr.buildSlice,Sem.run_bind,run_underlying w,So,gw x,Sq WB,Sem.run_pure,Sq q,nL F];rw[f];simp[newRow]
    cases b
   cases b
  cases b
 cases b
theorem Cc {e:Sg}{k:Sk}{S:aC}(D:bR k S){d:J}{m:Sk}(E:gT S d.Y m){t:Sh}{x y o p v:Sf}{q:J}(F:aX S x o)(G:aX S y p)(a:iU e d t x y=some (v,q)):
  pK e k S (Instr.makeSlice t o p) v d q m:=by
 unfold iU at a;split at a
 ·rename_i f H l K c L;cases F;cases G
  split at a
  ·rename_i n z r M O Q;split at a
   ·rename_i s;simp only[Sn,SA,SB] at s;have⟨⟨⟨⟨g,WG⟩,WH⟩,R⟩,u⟩:=s;have⟨i,h,T⟩:=BV O;have U:=run_make (P:=e) S.k t f i z L h T H K (Int.ofNat l) (Int.ofNat c) (Int.natCast_nonneg _) (Int.ofNat_le.2 g) (by rw[(show i.bytes=r by have⟨W,b,j⟩:=yP Q;rw[h] at b;obtain rfl:=Se b;exact j)];exact(show((r*c:Sk):Tq)<=((281474976710656:Sk):Tq) from Int.ofNat_le.2 Z)) (show((c:Sk):Tq)<=((9223372036854775807:Sk):Tq) from Int.ofNat_le.2 Z);have w:(cM z.cells.toList l).length=l*n:=by rw[oG,u]
    have A:l*n<=c*n:=Sx _ g;have⟨X,Wy,Wz,WA,WB,WC,WD⟩:=vS D E a (madeCells z.cells (c*n)) f (0,0) (S.k.alloc (.cells (madeCells z.cells (c*n)) f)) c ⟨rfl,rfl,rfl,rfl⟩ (.inl rfl) (by rw[w,size_madeCells];exact A)
     (fun WE B=>vT R u l (c*n) A WE (by rw[w] at B;exact B)) g (by rw[size_madeCells];exact Sj _)
    refine⟨X,Wy,Wz,_,WA,?_,WC,WD⟩;rw[WB,U,(show i.size=n by have⟨W,b,j⟩:=BU M;rw[h] at b;obtain rfl:=Se b;exact j)];rfl
   cases a
  cases a
 cases a
theorem LV (s:S5):s.extract 0 s.size=s:=by
 apply sb;rw[ByteArray.data_extract,Tk];simp only[TH,List.drop_zero,TF];rw[List.take_of_length_le (by rw[<-m9];exact Sj _)]
theorem vU {P:Sg}{q:Sk}{S:aC}(r:bR q S){z n:Sk}{y d:Sf}{e:Sl Sf}(f:aX S y d)(a:iB S.h z y=some (n,e)):
  ∃g,bo S e g/\e.length=n*z/\∀W:St,W.heap=S.k.heap->(S4 d).run P W= .ok n W/\(Sy z n d).run P W= .ok g.toArray W:=by
 unfold iB at a;split at a
 ·injection a with a;injection a with b c;subst b;subst c
  cases f;exact⟨[],bo.al,aA,fun W _=>by simp[S4,Sy]⟩
 ·rename_i i s t h;cases f with
  |e4 _ _ _ _ K L M j u=>
  split at a
  ·injection a with a;injection a with b c;subst b;subst c
   exact⟨[],bo.al,aA,fun W _=>by simp[S4,Sy,loadCells,loadCellsFrom]⟩
  rename_i t;split at a
  ·rename_i O v;injection a with a;injection a with b c;subst b;subst c
   have⟨l,w,x,_,_,A,B,D⟩:=r.aJ v;have⟨⟨Q,m,_,E⟩,_⟩:=u Z;rw[w] at m;obtain rfl:=Se m
   obtain rfl:=E x.1;refine⟨_,B,A,fun W F=>⟨by simp[S4],?_⟩⟩;have p:∀k o,W.cell? ⟨k,o,none⟩=S.k.cell? ⟨k,o,none⟩:=fun k o=>SM (by rw[F])
   have:=yM P W (S.l.s i h).1 ((S.l.s i h).2+s) _ (fun G H=>by rw[p];exact D G H);simp only[Sy];rw[this]
   congr 2
   simp only[lR,p]
  cases a
 ·rename_i l;cases f;split at a
  ·rename_i j;obtain rfl:z=1:=by simpa [SB] using j
   injection a with a;injection a with b c;subst b;subst c
   refine⟨aM l.data.toList,B8 _,by simp[aM],fun W _=> ?_⟩;rw[<-m9];refine⟨by simp[S4],?_⟩;simp only[Sy,LV,Sem.run_pure]
   congr 1
   rw[<-SG];simp[aM]
  cases a
 cases a
section
variable {P:Sg} {w:St} {ts:Sr Sh} {aGl:Sr Sf} {st xt e ty:Sh} {xd:TypeDesc} {z pE n vo CL:Sk} {zv:Sf} {bs:Si Addr} {y:Sf} {new:Sl Sf}
def vV (P:Sg)(w b:St)(e:Sh)(z:Sk)(a:TypeDesc)(y:Sf)(n:Sk)(c:Sl Sf):Prop:=
 (((∃d,a= .slice d)\/a= .string)/\(S4 y).run P w= .ok n w/\(Sy z n y).run P b= .ok c.toArray b)\/
 (∃k d i b,a= .int k/\y= .int d n/\P.info? e=some i/\n*i.bytes<=140737488355328/\n<=140737488355328/\bK P e=some b/\b.cells.size=z/\0<z/\c=(Sp b.cells n).toList)
theorem yS {n:Sk}(h:n<=140737488355328):IntKind.i64.wrap (n:Tq)=n:=by
 have a:IntKind.i64.bits=64:=rfl;have b:IntKind.i64.signed=true:=rfl;simp only[IntKind.wrap,a,b,Bool.true_and];simp;omega
theorem Cd (a:ts[0]?=some st)(b:ts[1]?=some xt)(c:aGl[0]?=some (.slice bs vo CL))(d:aGl[1]?=some y)(f:P.underlying st=some (.slice e))(g:P.underlying xt=some xd)
  (h:bc P e=some z) (j:vV P w w e z xd y n new) (l:vo+n<=CL) (i:n=0) (k:new=[]):
  (Ss ts ty aGl).run P w= .ok (.slice bs vo CL) w:=by
 subst i;subst k
 have i:vo<=CL:=Z;rcases j with ⟨j,k,l⟩|⟨m,m,m,o,rfl,rfl,o,p,p,p,p,p,p⟩
 ·cases bs with
  |none=>rcases j with ⟨p,rfl⟩|rfl<;>simp[Ss,a,b,c,d,run_underlying f,run_underlying g,gw h,k,i,l]
  |some p=>rcases j with ⟨j,rfl⟩|rfl<;>simp[Ss,a,b,c,d,run_underlying f,run_underlying g,gw h,k,i,l,storeCells]
 have j:IntKind.i64.wrap 0=0:=yS (n:=0) Z;have k:∀W:St,(typeInfo e).run P W= .ok m W:=fun W=>by simp[typeInfo,o]
 cases bs with
 |none=>simp[Ss,a,b,c,d,run_underlying f,run_underlying g,gw h,i,asInt,asIntOf,j,k]
 |some l=>simp[Ss,a,b,c,d,run_underlying f,run_underlying g,gw h,i,asInt,asIntOf,j,k,storeCells]
theorem Ce {a:Addr}{b:St}(c:ts[0]?=some st)(d:ts[1]?=some xt)(f:aGl[0]?=some (.slice (some a) vo CL))(g:aGl[1]?=some y)(h:P.underlying st=some (.slice e))(j:P.underlying xt=some xd)
  (k:bc P e=some z) (i:vV P w w e z xd y n new) (o:0<n) (l:vo+n<=CL) (m:(storeCells (a.add (vo*z)) new).run P w= .ok () b):
  (Ss ts ty aGl).run P w= .ok (.slice (some a) (vo+n) CL) b:=by
 rcases i with ⟨a,b,p⟩|⟨i,i,i,q,rfl,rfl,q,r,r,s,t,t,u⟩
 ·rcases a with ⟨a,rfl⟩|rfl<;>simp[Ss,c,d,f,g,run_underlying h,run_underlying j,gw k,b,l,p,m]
 have a:=yS r;have b:¬(281474976710656<(n:Tq)*(i.bytes:Tq)):=by
  have:((n*i.bytes:Sk):Tq)=(n:Tq)*(i.bytes:Tq):=by push_cast;rfl
  omega
 subst u;simp[Ss,c,d,f,g,run_underlying h,run_underlying j,gw k,l,m,asInt,asIntOf,a,((fun W=>by simp[typeInfo,q]):∀W:St,(typeInfo e).run P W= .ok i W),(Z:¬(n:Tq)<0),b,(ag (Tl o t):¬n*z=0),nL s]
theorem yT {b:Sr Sf}(c:ts[0]?=some st)(d:ts[1]?=some xt)(f:aGl[0]?=some (.slice bs vo CL))(g:aGl[1]?=some y)(h:P.underlying st=some (.slice e))(j:P.underlying xt=some xd)
  (k:bc P e=some z) (x:e2 P e=some pE) (a:bK P e=some zv) (A:vV P w w.drew e z xd y n new) (B:0<n)
  (l:¬vo+n<=CL) (m:(Sy z vo (.slice bs vo CL)).run P w.drew= .ok b w.drew) (O:vo+n<=140737488355328) (Q:(vo+n)*pE<=140737488355328):
  (Ss ts ty aGl).run P w= .ok (.slice (some ⟨w.heap.size,0,none⟩) (vo+n) (grownCap w (vo+n) CL e))
   (w.drew.alloc (.cells (b++new.toArray++Sp zv.cells (grownCap w (vo+n) CL e-(vo+n))) e)):=by
 obtain⟨i,o,rfl⟩:=yP x;have p:¬(9223372036854775807<((vo:Tq)+(n:Tq))):=Z;have R:Tm (vo+n) CL*i.bytes<=281474976710656:=growslice_fits Z Z;have q:¬(281474976710656<Tm (vo+n) CL*i.bytes):=Z;have r:∀W:St,(typeInfo e).run P W= .ok i W:=fun S=>by simp[typeInfo,o]
 have s:∀(t:St) (D:Sk),(askRoom D).run P t= .ok () t:=fun T U=>by
  unfold askRoom;split
  ·rfl
  rfl
 rcases A with ⟨E,F,G⟩|⟨X,Wy,Wz,WA,rfl,rfl,u,WB,H,v,WC,K,L⟩
 ·rcases E with ⟨WD,rfl⟩|rfl<;>simp[Ss,c,d,f,g,run_underlying h,run_underlying j,gw k,F,l,G,m,r,p,q,nL a,Question.forced,s,newRow,grownCap]
 rw[a] at v;obtain rfl:=Se v;rw[o] at u;obtain rfl:=Se u;have M:¬(281474976710656<(n:Tq)*(i.bytes:Tq)):=by
  have:((n*i.bytes:Sk):Tq)=(n:Tq)*(i.bytes:Tq):=by push_cast;rfl
  omega
 subst L;simp[Ss,c,d,f,g,run_underlying h,run_underlying j,gw k,l,m,r,p,q,nL a,Question.forced,s,newRow,grownCap,asInt,asIntOf,(yS H),(Z:¬(n:Tq)<0),M,(ag (Tl B K):¬n*z=0)]
end
theorem LW {b:Sg}{B:Sk}{c:aC}(u:bR B c){i:Sh}{z n v:Sk}{e:Sf}{j:TypeDesc}{y w:Sf}{k:Sl Sf}(Wy:bc b i=some z)(D:e2 b i=some v)(E:bK b i=some e)
  (F:(match j with| .slice _=>true| .string=>true| .int _=>true|_=>false)=true) (l:aX c y w) (a:mm c.h z v e j y=some (n,k)):
  ∃f,bo c k f/\k.length=n*z/\∀W d:St,W.heap=c.k.heap->d.heap=c.k.heap->vV b W d i z j w n f:=by
 cases j<;>try (cases F;done)
 case int G=>
  simp only[mm] at a;split at a
  case h_2=>cases a
  rename_i H m;split at a
  case isFalse=>cases a
  rename_i x;simp only[Sn,SA,SB,SX] at x;have⟨⟨⟨⟨K,L⟩,M⟩,g⟩,O⟩:=x;injection a with a;injection a with Q o;subst Q;subst o
  cases l;have⟨R,T,U⟩:=yP D;have p:e.cells.size=z:=by simpa using g
  refine⟨(Sp e.cells m).toList,⟨by rw[oG,g];simp[Sp,p],fun X A=> ?_⟩,by rw[oG,g],fun W d _ _=> .inr ⟨G,H,R,e,rfl,rfl,T,by rw[U];exact K,L,E,p,O,rfl⟩⟩;rw[oG,g] at A;exact vT (a:=c) M g m (m*e.cells.size) (by rw[p];exact Sj _) X A
 case slice o=>
  obtain⟨f,q,r,h⟩:=vU (P:=b) u l (by simpa [mm] using a);exact⟨f,q,r,fun W d s t=> .inl ⟨.inl ⟨o,rfl⟩,(h W s).1,(h d t).2⟩⟩
 case string=>
  obtain⟨f,q,r,h⟩:=vU (P:=b) u l (by simpa [mm] using a);exact⟨f,q,r,fun W d s t=> .inl ⟨.inr rfl,(h W s).1,(h d t).2⟩⟩
theorem Cf {f:Sk}{S:aC}(h:bR f S){i c d a z:Sk}{b:Sl Sf}(e:S.h.fL i c d (a*z)=some b):iB S.h z (.slice (some ⟨i,c,none⟩) a d)=some (a,b):=by
 cases a with
 |zero=>
  have⟨_,_,_,_,_,a,_⟩:=h.aJ e;have:b=[]:=S9 (by simpa using a);simp[iB,this]
 |succ m=>simp[iB,e]
theorem LX (z:Sr Sf)(n:Sk):(Sp z n).size=n*z.size:=by simp[Sp]
theorem yU {d e:Sl Sf}{a:Sf}{z b n c:Sk}(f:d.length=b*z)(g:e.length=n*z)(h:a.cells.toList.length=z)(i:b+n<=c):
  (d.toArray++e.toArray++Sp a.cells (c-(b+n))).size=c*z:=by
 simp only[Tw,List.size_toArray,LX];have:a.cells.size=z:=by simpa using h
 rw[this,f,g,<-SS,<-SS]
 congr 1
 omega
theorem yV {a b:Sl Sf}{c:Sr Sf}(p:Sk)(h:p<a.length+b.length):(a.toArray++b.toArray++c).toList.getD p undef=(a++b).getD p undef:=by
 simp only[SR];rw[qR _ _ _ (by simpa using h)]
theorem LY {t:Sg}{Xf:Sk}{S:aC}(h:bR Xf S){XW XX T:Sh}{XY XZ X0 X1 WX:Sf}{WY:J}(WZ:aX S XY X0)(Yl:aX S XZ X1)(a:gQ t S.h XW XX XY XZ=some (WX,WY)){W0:Sr Sh}{WI:Sr Sf}
  (U:W0[0]?=some XW) (X:W0[1]?=some XX) (y:WI[0]?=some X0) (Wy:WI[1]?=some X1):qU t Xf S (Ss W0 T WI) WX WY:=by
 unfold gQ at a;split at a
 case h_2=>cases a
 rename_i e YI Wz WA;split at a
 case h_1=>cases a
 rename_i Ym;split at a
 case h_2=>cases a
 rename_i d Yn A B W1 W2;split at a
 case h_2=>cases a
 rename_i b WJ Yo;have⟨g,WB,D,X2⟩:=LW (b:=t) h B W1 W2 Ym Yl Yo;have q:g.length=b*d:=by rw[<-WB.1];exact D
 have W3:=X2 S.k S.k rfl rfl;have Xg:=X2 S.k S.k.drew rfl rfl;split at a
 case h_2=>cases a
 rename_i Yp c YJ;split at a
 case isFalse=>cases a
 rename_i X3;simp only[Sn,SA,SX,SB] at X3;have⟨⟨⟨⟨Xh,X4⟩,Yq⟩,Yr⟩,Xi⟩:=X3;have X5:=WB.aN Yr;cases b with
 |zero=>
  simp only at a;injection a with a;injection a with WK WL;subst WK;subst WL
  have X6:g=[]:=S9 (by rw[q];simp);have X7:=WZ;cases WZ with
  |qN=>exact⟨S,_,rfl,Cd U X y Wy Wz WA B W3 (Sj _) rfl X6,X7,bH.p h⟩
  |e4 i WM _ _ Yp j W4 _ _=>exact⟨S,_,rfl,Cd U X y Wy Wz WA B W3 W4 rfl X6,X7,bH.p h⟩
 |succ X8=>
  simp only at a;have WG:0<X8+1:=Nat.succ_pos _;generalize X8+1=b at*;have X9:∀(W5:Si Addr),WI[0]?=some (.slice W5 0 0)->cL S.h WJ b d=some (WX,WY)->qU t Xf S (Ss W0 T WI) WX WY:=by
   intro W5 f Ys;have Yt:(Sy d 0 (.slice W5 0 0)).run t S.k.drew= .ok #[] S.k.drew:=by cases W5<;>simp[Sy,loadCells,loadCellsFrom]
   have Yu:(0+b)*Yn<=140737488355328:=Tu (Sx _ Z) Xh;have F:=yT (ty:=T) U X f Wy Wz WA B W1 W2 Xg WG Z Yt Z Yu;have u:=grownCap_ge S.k (0+b) 0 e;have G:=yU (d:=[]) (e:=g) (a:=A) (z:=d) (b:=0) (n:=b) (c:=grownCap S.k (0+b) 0 e) aA q Xi u;have⟨Xj,Xk,Xl,W6,Xm⟩:=B3 h Ys ([].toArray++g.toArray++Sp A.cells (grownCap S.k (0+b) 0 e-(0+b))) e (0,0)
    (S.k.drew.alloc (.cells ([].toArray++g.toArray++Sp A.cells (grownCap S.k (0+b) 0 e-(0+b))) e)) (grownCap S.k (0+b) 0 e) ⟨rfl,rfl,rfl,rfl⟩ (.inl rfl)
    (by rw[G,D];exact Sx _ Z) (fun r p=>by rw[yV r (by simp;rw[q];omega),List.nil_append];exact WB.2 r p) Z (by rw[G];exact Sj _)
   rw[Ta] at F;refine⟨Xj,_,Xk,?_,W6,Xm⟩;rw[Xl,F];simp
  split at a
  ·split at a
   ·cases WZ;exact X9 none y a
   cases a
  ·rename_i i WM;cases WZ with
   |e4 _ _ _ _ Xn j W4 W7 F=>
   split at a
   ·split at a
    ·rename_i Yv;obtain rfl:c=0:=by simpa [SB] using Yv
     obtain rfl:=W7 rfl;exact X9 (some Xn) y a
    cases a
   rename_i l;simp only[Tn] at a F W7;split at a
   case h_2=>cases a
   rename_i m f;split at a
   case isFalse=>cases a
   rename_i Ya;simp only[Sn,SA,SB] at Ya;have⟨⟨W8,W9⟩,WN⟩:=Ya;split at a
   ·rename_i Yb;simp only[Sn,SB] at Yb;obtain⟨⟨Xo,rfl⟩,Xa⟩:=Yb;injection a with a;injection a with WK WL;subst WK;subst WL
    have WH:dX m (l+1):=⟨W9,Nat.le_of_eq Xo⟩;have YK:0<b*d:=Tl WG Yq;by_cases H:c+b<=j
    ·have⟨⟨Yw,WO,_,Xp⟩,Xq⟩:=F Z;rw[f] at WO;obtain rfl:=Se WO
     obtain rfl:=Xp WH.1;have⟨WC,K,L,Xr,WD⟩:=Xq m f W9;have⟨_,⟨Yx,Yy,Yz,v,Xb⟩,_⟩:=h.br i m f W8 _ WH;have s:=Xr;simp only at s;rw[s] at v;injection v with v;injection v with w x Xs
     subst w;subst x;subst Xs
     simp only[SW] at WD;rw[WN] at WD;have Xt:(c+b)*d<=j*d:=Sx _ H;rw[SS] at Xt;have Yc:(S.l.s i (l+1)).2+m.aJ.length+g.length<=WC.size:=by rw[q,<-Xa];omega
     have WQ:=vN t (S.l.s i (l+1)).1 ((S.l.s i (l+1)).2+0+c*d) g S.k 0 WC K L s (Xb.imp id And.left) Z X5;rw[show(S.l.s i (l+1)).2+0+c*d+0=(S.l.s i (l+1)).2+m.aJ.length from Z] at WQ;refine⟨_,_,rfl,(Ce (ty:=T) U X y Wy Wz WA B W3 WG H (by rw[Addr.add_lit];exact WQ)),.e4 _ _ _ _ _ _ Z (fun Yd=>Z) (fun _=>⟨⟨{m with aJ:=m.aJ++WJ},J.kA _ _ _ (bq (h.n f) h.bE),Sj _,fun _=> ?_⟩,fun Ye M _=> ?_⟩),(bH.Lj h f W8 WH Xo WB s Yc)⟩
     ·simp only[Tv,Su];rw[SC (by rw[D];omega)]
     rw[J.kA _ _ _ (bq (h.n f) h.bE)] at M;obtain rfl:=Se M;have⟨Xu,w,x,_⟩:=tK g S.k _ _ WC K L s Yc;exact⟨Xu,K,L,w,by rw[x];simp only[SW];rw[WN];exact WD⟩
    have WR:S.h.fL i 0 (l+1) (c*d)=some m.aJ:=by
     simp only[J.fL,f];rw[SC (by simp only[Sn,SA,SX];exact⟨⟨W9,Z⟩,Z⟩),vL,tJ,Xa];simp
    have⟨O,WS,Q,Xv⟩:=vU (P:=t) h (aX.e4 i 0 c (l+1) Xn j W4 W7 F) (Cf h WR);have WT:O.length=c*d:=by rw[<-WS.1];exact Q
    have u:=grownCap_ge S.k (c+b) j e;have G:=yU (d:=O) (e:=g) (a:=A) (z:=d) (b:=c) (n:=b) (c:=grownCap S.k (c+b) j e) WT q Xi u;have Xc:=bH.Lk (m:=WJ) (W:=S.k.drew.alloc (.cells (O.toArray++g.toArray++Sp A.cells (grownCap S.k (c+b) j e-(c+b))) e)) h f W8 Xo ⟨rfl,rfl,rfl,rfl⟩ (.inl rfl)
     (by rw[G,D,<-Xa,<-SS];exact Sx _ u) (fun r p=>by
      rw[yV r (by rw[WT,q,Xa,<-D];exact p)];exact(WS.hQ WB).2 r (by rw[Su];exact p))
    refine⟨_,_,rfl,(yT (ty:=T) U X y Wy Wz WA B W1 W2 Xg WG H (Xv S.k.drew rfl).2 X4 Xh),.e4 _ _ _ _ _ _ u (fun Yd=>Z) (fun _=>⟨⟨{m with aJ:=m.aJ++WJ},J.kA _ _ _ (bq (h.n f) h.bE),Sj _,fun _=> ?_⟩,fun Ye M _=> ?_⟩),Xc⟩
    ·simp only[Tv,Su];rw[SC (by rw[D];omega)]
    rw[J.kA _ _ _ (bq (h.n f) h.bE)] at M;obtain rfl:=Se M;refine⟨_,e,(0,0),heap_alloc_new S.k.drew _,?_⟩;simp only;rw[G,WN,Ta];exact Sj _
   split at a
   case h_2=>cases a
   rename_i YA WR;have⟨Ye,M,WH,_,_,Q,_⟩:=h.aJ WR;rw[f] at M;obtain rfl:=Se M
   have⟨O,WS,_,Xv⟩:=vU (P:=t) h (aX.e4 i WM c (l+1) Xn j W4 W7 F) (Cf h WR);have WT:O.length=c*d:=by rw[<-WS.1];exact Q
   have R:=bH.jX h f;generalize Xw:(⟨S.h.u i (.bl (Cl.jX m)),S.l,S.k⟩:aC)=WE at R;have Yf:WE.h=S.h.u i (.bl (Cl.jX m)):=by rw[<-Xw]
   have WU:WE.k=S.k:=by rw[<-Xw]
   rw[<-Yf] at a;by_cases H:c+b<=j
   ·have⟨⟨Yw,WO,_,Xp⟩,Xq⟩:=F Z;rw[f] at WO;obtain rfl:=Se WO
    obtain rfl:=Xp WH.1;have⟨WC,K,L,Xr,WD⟩:=Xq m f W9;have⟨YB,⟨Yx,Yy,Yz,v,Xb⟩,YC,_⟩:=h.br i m f W8 _ WH;have s:=Xr;simp only at s WD;rw[s] at v;injection v with v;injection v with w x Xs
    subst w;subst x;subst Xs
    rw[WN] at WD;have Xt:(c+b)*d<=j*d:=Sx _ H;rw[SS] at Xt;unfold cL at a;split at a
    case isFalse=>cases a
    rename_i Yg;injection a with a;injection a with WK WL;subst WK;subst WL
    have YD:∀WV Xd Xe,WE.h.t WV=some Xd->dX Xd Xe->(WE.l.s WV Xe).1≠(S.l.s i (l+1)).1:=by
     intro WV Xd Xe WW Xx Yh;rw[(show WE.l=S.l by rw[<-Xw])] at Yh;rw[Yf] at WW;by_cases Xy:WV=i
     ·subst Xy;rw[J.kA _ _ _ (bq (h.n f) h.bE)] at WW;obtain rfl:=Se WW;have w:=Xx.1;have x:=Xx.2;simp only[Cl.jX] at w x;omega
     simp only[J.t,J.gS _ _ _ _ (Ne.symm Xy)] at WW;exact Xy (YC WV Xd (by simpa [J.t] using WW) Xe Xx Yh)
    have⟨YL,YM,_,_,_,_,YE,YF⟩:=h.aJ WR;have Xc:=bH.Ll R.fQ Yg d (k:=(S.l.s i (l+1)).1) (o:=(S.l.s i (l+1)).2+WM) (i:=WC) (E:=K) (c:=L) (by rw[WU];exact s) (by rw[<-WN];exact Xb) YB YD (a:=YA) (g:=WJ) (h:=g) (fun r p=>by
      rw[Q] at p;have⟨YG,Yi⟩:=YF r p;have:=YE.2 r Z;rw[yL _ _ _ _ _ p,Yi] at this;exact⟨YG,by rw[WU];exact Yi,this.b R.gv⟩) (WB.b R.gv) (by rw[Q,q];omega)
    have WQ:=vN t (S.l.s i (l+1)).1 ((S.l.s i (l+1)).2+WM+c*d) g S.k 0 WC K L s (Xb.imp id And.left) (by rw[q];omega) X5;rw[SW] at WQ;have YN:=tL Yg;have Yj:∀(Xz:cF),(WE.h.x (.bl Xz)).t WE.h.Y=some Xz:=fun Xz=>by simp only[J.x,J.t,a5.gR _ _ _ _ (hq (show 0<16000001 from Z))]
    rw[WU,Q] at Xc;refine⟨_,_,rfl,(Ce (ty:=T) U X y Wy Wz WA B W3 WG H (by rw[Addr.add_lit];exact WQ)),.e4 _ _ _ _ _ _ H (fun Yd=>Z) (fun _=>⟨⟨_,Yj _,Sj _,fun _=>aA⟩,fun YO Yk _=> ?_⟩),R.a Xc⟩;rw[Yj] at Yk;obtain rfl:=Se Yk;have⟨Xu,w,x,_⟩:=tK g S.k _ ((S.l.s i (l+1)).2+WM+c*d) WC K L s (by rw[q];omega);exact⟨Xu,K,L,w,by rw[x];exact WD⟩
   have YH:=yT (ty:=T) U X y Wy Wz WA B W1 W2 Xg WG H (Xv S.k.drew rfl).2 X4 Xh;have u:=grownCap_ge S.k (c+b) j e;have G:=yU (d:=O) (e:=g) (a:=A) (z:=d) (b:=c) (n:=b) (c:=grownCap S.k (c+b) j e) WT q Xi u;have⟨Xj,Xk,Xl,W6,Xm⟩:=B3 R.fQ a (O.toArray++g.toArray++Sp A.cells (grownCap S.k (c+b) j e-(c+b))) e (0,0)
    (S.k.drew.alloc (.cells (O.toArray++g.toArray++Sp A.cells (grownCap S.k (c+b) j e-(c+b))) e)) (grownCap S.k (c+b) j e) (by rw[WU];exact⟨rfl,rfl,rfl,rfl⟩) (.inl rfl)
    (by rw[G,Su,Q,D,<-SS];exact Sx _ u) (fun r p=>by
     rw[Su] at p;rw[yV r (by rw[WT,q,<-Q,<-D];exact p)];exact((WS.hQ WB).b R.gv).2 r (by rw[Su];exact p)) u (by rw[G];exact Sj _)
   rw[WU] at W6;exact⟨Xj,_,Xk,by rw[Xl];exact YH,W6,R.a Xm⟩
  cases a
theorem kB.length {S:aC}:∀{l:Sl (Sf×Sf)} {a:Sl MapEntry},kB S l a->a.length=l.length
 |[],[],_=>rfl
 |(_,_)::_,_::_,h=>by simp[kB.length h.2.2]
 |[],_::_,h=>h.elim
 |_::_,[],h=>h.elim
theorem tT {P:Sg}{w:St}{r:Sk}{a:Sr MapEntry}{b:Sk}(h:w.heap[r]?=some (.map a b)):(getObj r).run P w= .ok (.map a b) w:=by
 simp only[getObj,Sem.run,h]
theorem LZ {P:Sg}{k:Sk}{S:aC}(l:bR k S){t m:Sh}{x g v:Sf}(e:aX S x g)(a:cd P S.h t x=some v){h:Sr Sh}{i:Sr Sf}(c:h[0]?=some t)(d:i[0]?=some g):
  hs P S (S2 h m i) v:=by
 unfold cd at a;split at a
 ·rename_i n b;cases e;obtain rfl:=Se a;rw[<-m9 n];exact⟨_,by simp[S2,c,d,run_underlying b,goInt],.gf _ _⟩
 ·rename_i o f b;obtain rfl:=Se a;exact⟨_,by simp[S2,c,d,run_underlying b,goInt],.gf _ _⟩
 ·rename_i f y o z b;obtain rfl:=Se a;cases e<;>exact⟨_,by simp[S2,c,d,run_underlying b,goInt],.gf _ _⟩
 ·rename_i p f b;cases e;obtain rfl:=Se a;exact⟨_,by simp[S2,c,d,run_underlying b,goInt],.gf _ _⟩
 ·rename_i p f r b;cases e;split at a
  ·rename_i q s;obtain rfl:=Se a;have⟨_,A,B,u,w⟩:=l.cv r q s;have j:=w.length;refine⟨_,?_,.gf _ _⟩;simp only[SQ] at j;simp[S2,c,d,run_underlying b,tT u,goInt,j]
  cases a
 cases a
theorem L0 {P:Sg}{S:aC}{x y a b v:Sf}(c:aX S x a)(d:aX S y b)(h:vD x y=some v):hs P S (Tx a b) v:=by
 unfold vD at h;split at h
 ·cases c;cases d
  obtain rfl:=Se h;exact⟨_,by simp[Tx],.gf _ _⟩
 cases h
theorem L1 {P:Sg}{S:aC}(g:Sf->Sf->Si Sf)(f:Sf->Sf->Sem Sf)(i:∀{x y a c v:Sf},aX S x a->aX S y c->g x y=some v->hs P S (f a c) v):
  ∀{l b:Sl Sf} {x a v:Sf},aX S x a->bo S l b->tD g x l=some v->hs P S (b.foldlM f a) v:=by
 intro l
 induction l with
 |nil=>intro b x a v d e h;rw[e.qO];simp only[tD] at h;obtain rfl:=Se h;exact⟨_,aA,d⟩
 |cons y l j=>
  intro b x a v d e h;obtain⟨c,t,rfl,k,m⟩:=e.lQ;simp only[tD] at h;split at h
  ·rename_i u n;have⟨w,o,p⟩:=i d k n;have⟨q,r,s⟩:=j p m h;exact⟨q,by simp[List.foldlM_cons,o,r],s⟩
  cases h
theorem Cg (a b:S5):(a==b)=(a.data.toList==b.data.toList):=by
 show(a.data==b.data)=(a.data.toList==b.data.toList);by_cases h:a.data=b.data
 ·rw[h];simp
 have c:¬a.data.toList=b.data.toList:=fun e=>h (SG.1 e)
 rw[beq_eq_false_iff_ne.2 h,beq_eq_false_iff_ne.2 c]
theorem L2 (a:S5):(a==a)=true:=by rw[Cg];simp
theorem vW {P:Sg}{t:Sh}{a b:Sf}{r:SL}(h:pF P t a b=some r):∃d,P.underlying t=some d/\Instr.sameNow d a b=some r/\(r=true->a=b)/\(∀n,r=true->Instr.sameBits n b a=true):=by
 unfold pF at h;split at h
 ·rename_i g k x i y c;split at h
  ·rename_i f;subst f;obtain rfl:=Se h;refine⟨_,c,by simp[Instr.sameNow],fun e=> ?_,fun n e=> ?_⟩
   ·simp at e;rw[e]
   simp at e;cases n<;>simp[Instr.sameBits,e]
  cases h
 ·rename_i x y c;obtain rfl:=Se h;refine⟨_,c,by simp only[Instr.sameNow,Cg],fun e=> ?_,fun n e=> ?_⟩
  ·rw[sb (eq_of_beq e)]
  have:=sb (eq_of_beq e);subst this;cases n<;>simp[Instr.sameBits,L2]
 cases h
theorem yW {P:Sg}{S:aC}{t:Sh}{k:Sf}{d:TypeDesc}(e:P.underlying t=some d):∀{f:Sl (Sf×Sf)} {c:Sl MapEntry} {r:Si Sf} (i:Sk),kB S f c->qJ P t k f=some r->
  (r=none/\Instr.findNow d k c i=some none)\/∃v l n,r=some v/\Instr.findNow d k c i=some (some (n,l))/\aX S v l
 |[],[],r,i,_,h=>by simp only[qJ] at h;obtain rfl:=Se h;exact .inl ⟨rfl,rfl⟩
 |(w,o)::f,p::c,r,i,a,h=>by
  have⟨m,q,s⟩:=a;simp only[qJ] at h;split at h
  ·rename_i g;obtain rfl:=Se h;have⟨u,b,j,_⟩:=vW g;rw[e] at b;obtain rfl:=Se b
   exact .inr ⟨o,p.val,i,rfl,by simp only[Instr.findNow,m,j],q⟩
  ·rename_i g;have⟨u,b,j,_⟩:=vW g;rw[e] at b;obtain rfl:=Se b
   have:=yW e (i+1) s h;simp only[Instr.findNow,m,j];exact this
  cases h
 |[],_::_,_,_,a,_=>a.elim
 |_::_,[],_,_,a,_=>a.elim
theorem yX {P:Sg}{w:St}{t:Sh}{d:TypeDesc}{k:Sf}{a:Sl MapEntry}{r:Si (Sk×Sf)}(b:P.underlying t=some d)(h:Instr.findNow d k a 0=some r):(Instr.findKey t k a).run P w= .ok r w:=by
 simp[Instr.findKey,run_underlying b,h]
theorem Ci {P:Sg}{w:St}{t:Sh}{k:Sf}(h:lb P t k=true)(e:SL)(n:Sk):(Instr.checkKey e (n+1) t k).run P w= .ok () w:=by
 unfold lb at h;split at h
 ·rename_i a;simp[Instr.checkKey,run_underlying a]
 ·rename_i a;simp[Instr.checkKey,run_underlying a]
 cases h
theorem Cj {P:Sg}{t:Sh}{k:Sf}(h:lb P t k=true):∃d,P.underlying t=some d:=by
 unfold lb at h;split at h
 ·exact⟨_,‹_›⟩
 ·exact⟨_,‹_›⟩
 cases h
theorem Ck {P:Sg}{S:aC}{t:Sh}{k a:Sf}(h:lb P t k=true)(b:aX S k a):a=k:=by
 unfold lb at h;split at h
 ·cases b;rfl
 ·cases b;rfl
 cases h
theorem L3 {P:Sg}{U:Sk}{S:aC}(K:bR U S){w:Sh}{L k i h v:Sf}{c:SL}(x:aX S L i)(W:aX S k h)(a:m0 P S.h w L k c=some v):hs P S (Instr.lookup w i h c) v:=by
 unfold m0 at a;split at a
 case h_2=>cases a
 rename_i M WC o;split at a
 case h_2=>cases a
 rename_i z O y;obtain rfl:=Ck y W;have⟨X,A⟩:=Cj y;split at a
 case isFalse=>cases a
 rename_i Q;have p:∀(e:SL),(Instr.checkKey e 10000 M h).run P S.k= .ok () S.k:=fun e=>Ci y e 9999
 have B:∀(d:Sl MapEntry) (r:Si (Sk×Sf)) (q:Si Sf) (j:Sr MapEntry),j.toList=d->Instr.findNow X h d 0=some r->((q=none/\r=none)\/∃u f m,q=some u/\r=some (m,f)/\aX S u f)->
   (match q with|some v=>some (if c then Value.tuple #[v,.bool true] else v)|none=>some (if c then Value.tuple #[z,.bool false] else z))=some v->
   ((i= .map none/\j= #[])\/∃r g,i= .map (some r)/\S.k.heap[r]?=some (.map j g))->hs P S (Instr.lookup w i h c) v:=by
  intro d r q j Wy n Wz s R;have t:(Instr.findKey M h j.toList).run P S.k= .ok r S.k:=yX A (by rw[Wy];exact n);rcases Wz with ⟨rfl,rfl⟩|⟨u,f,m,rfl,rfl,T⟩
  ·simp only at s;obtain rfl:=Se s;refine⟨if c then .tuple #[z,.bool false] else z,?_,?_⟩
   ·rcases R with ⟨rfl,rfl⟩|⟨r,g,rfl,D⟩
    ·simp only[Instr.lookup,Sem.run_bind,run_underlying o,So,p,t,nL O,Sem.run_pure]
    simp only[Instr.lookup,Sem.run_bind,run_underlying o,So,tT D,p,t,nL O,Sem.run_pure]
   cases c
   ·exact qS Q
   exact bo.m5 (l:=[z,.bool false]) (a:=[z,.bool false]) (bo.ed (qS Q) (bo.ed (.oE _) bo.al))
  simp only at s;obtain rfl:=Se s;refine⟨if c then .tuple #[f,.bool true] else f,?_,?_⟩
  ·rcases R with ⟨rfl,rfl⟩|⟨r,g,rfl,D⟩
   ·simp only[Instr.lookup,Sem.run_bind,run_underlying o,So,p,t,Sem.run_pure]
   simp only[Instr.lookup,Sem.run_bind,run_underlying o,So,tT D,p,t,Sem.run_pure]
  cases c
  ·exact T
  exact bo.m5 (l:=[u,.bool true]) (a:=[f,.bool true]) (bo.ed T (bo.ed (.oE _) bo.al))
 split at a
 ·rename_i WA b;split at b
  ·cases b
  ·rename_i r;cases x;split at b
   ·rename_i E F;have⟨_,d,g,G,H⟩:=K.cv r E F;rcases yW A 0 H b with ⟨e,_⟩|⟨u,f,m,e,n,WB⟩
    ·cases e
    exact B d.toList _ (some WA) d rfl n (.inr ⟨u,f,m,e,rfl,WB⟩) a (.inr ⟨_,g,rfl,G⟩)
   cases b
  cases b
 ·rename_i b;split at b
  ·cases x;exact B [] none none #[] rfl rfl (.inl ⟨rfl,rfl⟩) a (.inl ⟨rfl,rfl⟩)
  ·rename_i r;cases x;split at b
   ·rename_i E F;have⟨_,d,g,G,H⟩:=K.cv r E F;rcases yW A 0 H b with ⟨_,n⟩|⟨u,f,m,e,_,_⟩
    ·exact B d.toList none none d rfl n (.inl ⟨rfl,rfl⟩) a (.inr ⟨_,g,rfl,G⟩)
    cases e
   cases b
  cases b
 cases a
theorem Cm {P:Sg}{S:aC}{w:Sh}{k x m:Sf}{n:TypeDesc}(o:P.underlying w=some n)(p:aX S x m):∀{q l:Sl (Sf×Sf)} {a:Sl MapEntry} (i:Sk),kB S q a->qK P w k x q=some l->
  (Instr.findNow n k a i=some none/\∀f,kB S l (a++[{key:=k,val:=m,born:=f}]))\/
  ∃j u e,Instr.findNow n k a i=some (some (i+j,u))/\a[j]?=some e/\(∀r,Instr.sameBits r e.key k=true)/\kB S l (a.modify j fun e=>{e with key:=k,val:=m})
 |[],l,[],i,_,h=>by
  simp only[qK] at h;obtain rfl:=Se h;exact .inl ⟨rfl,fun f=>⟨rfl,p,trivial⟩⟩
 |(K,L)::q,l,e::a,i,c,h=>by
  have⟨b,y,z⟩:=c;simp only[qK] at h;split at h
  ·rename_i s;obtain rfl:=Se h;have⟨D,d,g,A,B⟩:=vW s;rw[o] at d;obtain rfl:=Se d
   refine .inr ⟨0,e.val,e,by simp only[Instr.findNow,b,g,SW],rfl,fun r=>by rw[b];exact B r rfl,?_⟩;simp only[List.modify_zero_cons];exact⟨A rfl,p,z⟩
  ·rename_i s;have⟨D,d,g,A,B⟩:=vW s;rw[o] at d;obtain rfl:=Se d
   split at h
   ·rename_i M E;obtain rfl:=Se h;rcases Cm o p (i+1) z E with ⟨t,v⟩|⟨j,u,F,t,v,G,H⟩
    ·exact .inl ⟨by simp only[Instr.findNow,b,g];exact t,fun f=>⟨b,y,v f⟩⟩
    refine .inr ⟨j+1,u,F,by simp only[Instr.findNow,b,g];rw[t];congr 3;omega,by simpa using v,G,?_⟩;simp only[List.modify_succ_cons];exact⟨b,y,H⟩
   cases h
  cases h
 |[],_,_::_,_,c,_=>c.elim
 |_::_,_,[],_,c,_=>c.elim
def vX (P:Sg)(a:Sk)(S:aC)(m:Sem Unit)(b:J):Prop:=∃T,T.h=b/\m.run P S.k= .ok () T.k/\bH a S T
theorem Cn {P:Sg}{w:St}{r:Sk}{a:Sr MapEntry}{b:Sk}(h:w.heap[r]?=some (.map a b))(o:Obj):(setObj r o).run P w= .ok () {w with heap:=w.heap.setIfInBounds r o}:=by
 simp only[setObj,Sem.run,h]
theorem Co {g:Sk}{S:aC}(h:bR g S){r:Sk}{d l:Sl (Sf×Sf)}(a:S.h.S r=some d){j b:Sr MapEntry}{k e:Sk}(i:S.k.heap[S.l.fP r]?=some (.map j k))(m:kB S l b.toList):
  bH g S ⟨S.h.u r (.cv l),S.l,{S.k with heap:=S.k.heap.setIfInBounds (S.l.fP r) (.map b e)}⟩:=by
 have n:S.h.t r=none:=by
  cases f:S.h.t r with
  |none=>rfl
  |some u=>exact(r9 f a).elim
 refine bR.BR h r S.h.Y l S.l.fP _ (h.yJ a) (Sj _) h.bE (.inl (h.yJ a)) n (fun _ _=>rfl) (fun _ _=>rfl) (fun o c _=>by simp only;rw[SF (Ne.symm c)]) ?_ (h.cv r d a).1 ?_ ?_ ?_
 ·intro v E w c;rw[i] at c;cases c
 ·exact⟨b,e,by simp only;rw[SH (m8 i)],m⟩
 ·intro p q s f t;exact s (h.vK p r q d f a t)
 exact⟨rfl,rfl,rfl,aA,fun o c=>by simp only;rw[SF (ag ((h.cv r d a).1))]⟩
theorem L4 {P:Sg}{p:Sk}{S:aC}(i:bR p S){t:Sh}{q k v r a d:Sf}{s:J}(x:aX S q r)(y:aX S k a)(z:aX S v d)(b:m1 P S.h t q k v=some s):vX P p S (Instr.mapUpdate t r a d) s:=by
 unfold m1 at b;split at b
 case h_2=>cases b
 rename_i A L B u;cases x;split at b
 case h_2=>cases b
 rename_i D j l;obtain rfl:=Ck l y;have⟨M,m⟩:=Cj l;have w:∀(e:SL),(Instr.checkKey e 10000 A a).run P S.k= .ok () S.k:=fun e=>Ci l e 9999
 split at b
 case h_2=>cases b
 rename_i O E;obtain rfl:=Se b;have⟨_,f,g,c,F⟩:=i.cv B D j;rcases Cm m z 0 F E with ⟨h,n⟩|⟨o,Q,e,h,n,G,H⟩
 ·refine⟨_,rfl,?_,Co i j c (b:=f.push {key:=a,val:=d,born:=g}) (e:=g+1) (by rw[Array.toList_push];exact n g)⟩;simp only[Instr.mapUpdate,Sem.run_bind,run_underlying u,So,tT c,w,yX m h,Cn c]
 refine⟨_,rfl,?_,Co i j c (b:=f.modify o fun e=>{e with key:=a,val:=d}) (e:=g) (by rw[Array.toList_modify];exact H)⟩;rw[Ta] at h;have K:((f[o]?).map (·.key)).getD a=e.key:=by
  have:f[o]?=some e:=by rw[<-Sw];exact n
  simp[this]
 simp only[Instr.mapUpdate,Sem.run_bind,run_underlying u,So,tT c,w,yX m h,K,(show(Instr.keyThatStays e.key a).run P S.k= .ok a S.k by simp[Instr.keyThatStays,G]),Cn c]
theorem L5 {P:Sg}{e:Sk}{S:aC}(n:bR e S){i b c:Sk}{f:Addr}(o:nJ S i b c f){g d:Sl Sf}(h:bo S g d){j:J}(a:S.h.la i b c g=some j):vX P e S (storeCells f d) j:=by
 unfold J.la at a;split at a
 case h_2=>cases a
 rename_i p k;split at a
 case isFalse=>cases a
 rename_i l;simp only[Sn,SA,SB] at l;have⟨⟨⟨q,r⟩,s⟩,t⟩:=l;split at a
 ·cases a
 rename_i A;split at a
 case h_2=>cases a
 rename_i B u;obtain rfl:=Se a;have m:dX p c:=⟨r,Z⟩;obtain rfl:=o.tO k m;have⟨v,w,E,x,y,z,D⟩:=bH.tM n k q m s u h aA;refine⟨_,rfl,?_,v⟩;have:=vN P (S.l.s i c).1 ((S.l.s i c).2+b) d S.k 0 w E x y z Z (h.aN t);exact this
theorem L6 {h:Sg}{l:Sk}{b:aC}(i:bR l b){t y:Sh}{x n v:Sf}{o:J}(p:aX b x n)(a:mZ h b.h t x=some (v,o)){q:Sr Sh}{r:Sr Sf}
  (j:q[0]?=some t) (k:r[0]?=some n):qU h l b (S6 q y r) v o:=by
 unfold mZ at a;split at a
 ·rename_i z A B e;cases p;injection a with a;injection a with c d;subst c;subst d
  exact⟨b,_,rfl,by simp only[S6,j,k,Sem.run_bind,run_underlying e,So];rfl,aX.pH b,bH.p i⟩
 ·rename_i z U W A B e;cases p with
  |e4 _ _ _ _ X D Wy Wz E=>
  split at a
  ·injection a with a;injection a with c d;subst c;subst d
   exact⟨b,_,rfl,by simp only[S6,j,k,Sem.run_bind,run_underlying e,So];rfl,aX.pH b,bH.p i⟩
  rename_i m;split at a
  case h_2=>cases a
  rename_i F f WA G;split at a
  case isFalse=>cases a
  rename_i s;simp only[Sn,SB,SX] at s;have⟨⟨H,g⟩,WB⟩:=s;split at a
  case h_2=>cases a
  rename_i WC K;injection a with a;injection a with c d;subst c;subst d
  have u:f.cells.size=F:=by simpa using g
  have L:bo b (cM f.cells.toList (m+1)) (Sp f.cells (m+1)).toList:=by
   refine⟨by rw[oG,g];simp[Sp,u],fun M w=> ?_⟩;rw[oG,g] at w;have:=vT (a:=b) H g (m+1) ((m+1)*f.cells.size) (by rw[u];exact Sj _) M w;exact this
  have⟨T,O,Q,R⟩:=L5 (P:=h) i (E (Z:0<D)).1 L K;refine⟨T,_,O,?_,aX.pH T,R⟩;simp only[S6,j,k,Sem.run_bind,run_underlying e,So,nL G,Q];rfl
 cases a
theorem vY {P:Sg}{w a:St}{s:Sem Sf}{v:Sf}(h:s.run P w= .ok v a):(do pure (Next.value (<-s)):Sem Next).run P w= .ok (.value v) a:=by
 simp[h]
theorem L7 {P:Sg}{w a:St}{s:Sem Unit}(h:s.run P w= .ok () a):(do s;pure Next.skip:Sem Next).run P w= .ok .skip a:=by
 simp[h]
def yY (P:Sg)(S:aC)(b:Act)(o:SZ)(s:J)(r:Si iV):Prop:=
 ∀x,r=some x->∃v,x= .a8 v s/\∃a,aX S v a/\(execOp b.eval o).run P S.k= .ok (.value a) S.k
theorem kC {P:Sg}{S:aC}{a:Act}{o:SZ}{m:Sem Sf}{r:Si Sf}(b:execOp a.eval o=(do pure (Next.value (<-m))))(h:∀v,r=some v->hs P S m v):yY P S a o S.h (dE S.h r):=by
 intro x a;cases r with
 |none=>simp[dE] at a
 |some v=>
  simp only[dE] at a;obtain rfl:=Se a;have⟨a,c,d⟩:=h v rfl;exact⟨v,rfl,a,d,by rw[b];exact vY c⟩
theorem kl {P:Sg}{S:aC}{a:Act}{o:SZ}:yY P S a o S.h none:=fun x a=>by cases a
theorem sc {a:Type}{b:Sr a}{x:a}{r:Sl a}(h:b.toList=x::r):b[0]?=some x:=by rw[<-Sw,h];rfl
theorem Cp {a:Type}{b:Sr a}{x y:a}{r:Sl a}(h:b.toList=x::y::r):b[1]?=some y:=by rw[<-Sw,h];rfl
theorem Cq {i:Sg}{WG:Sk}{S:aC}(s:bR WG S){U:an}{d:Act}(b:eN S U d){E:SZ}(l:bU i E=true):yY i S d E S.h (a4 i E U S.h):=by
 have⟨WW,G,W,WX,WY,WZ⟩:=E;cases G<;>try (simp[bU] at l;done)
 case move x=>
  refine kC (m:=pure (d.eval x)) (by simp[execOp]) (fun v c=>⟨_,aA,dt b c⟩)
 case assign x=>
  refine kC (m:=pure (d.eval x)) (by simp[execOp]) (fun v c=>⟨_,aA,dt b c⟩)
 case pick H x y=>
  intro r a;simp only[a4] at a;split at a
  ·rename_i t u v n o K;obtain rfl:=Se a;have p:=dt b n;have j:=dt b o;have W0:=dt b K;generalize w:d.eval H=X at p;cases p;refine⟨_,rfl,if t then d.eval x else d.eval y,by cases t<;>assumption,?_⟩;simp[execOp,w,asBool]
  cases a
 case build t L=>
  simp only[a4];split
  ·rename_i z q;refine kC (m:=Instr.build t (L.map fun(k,x)=>(k,d.eval x))) rfl (fun v c=> ?_);have:=LS (a:=i) (yR b q) c;rw[(show(L.map fun(x:Sk×SU)=>(x.1,d.eval x.2))=(L.toList.map fun x=>(x.1,d.eval x.2)).toArray by rw[<-SG];simp)];exact this
  exact kl
 case load t x=>
  simp only[a4];split
  ·rename_i u e;exact kC rfl (fun v c=>BX s (dt b e) c)
  exact kl
 case nilCheck x=>
  intro r a;simp only[a4] at a;split at a
  ·rename_i Wy M;obtain rfl:=Se a;have j:=dt b M;refine⟨_,rfl,d.eval x,j,?_⟩;generalize w:d.eval x=X at j;cases j<;>simp[execOp,w]
  ·rename_i O Wz WA M;obtain rfl:=Se a;have j:=dt b M;refine⟨_,rfl,d.eval x,j,?_⟩;generalize w:d.eval x=X at j;cases j;simp[execOp,w]
  cases a
 case binOp G t x y W1=>
  simp only[a4];split
  ·rename_i u v e c;exact kC rfl (fun r a=>LC (dt b e) (dt b c) a)
  exact kl
 case unOp G t x=>
  simp only[a4];split
  ·rename_i u e;exact kC rfl (fun r a=>LD (dt b e) a)
  exact kl
 case convert WH A x=>
  simp only[a4];split
  ·rename_i u e;intro r a;cases p:fM i S.h WH A u with
   |none=>rw[p] at a;simp[dL] at a
   |some Wy=>
    have⟨v,W2⟩:=Wy;rw[p] at a;simp only[dL] at a;obtain rfl:=Se a;have WI:tR (i.underlying A)=false:=by
     simp only[bU] at l;unfold tR;cases Q:i.underlying A with
     |none=>rfl
     |some B=>rw[Q] at l;cases B<;>first|rfl|cases l
    obtain⟨rfl,h,n,o⟩:=LO s (dt b e) p WI;exact⟨v,rfl,h,o,vY n⟩
  exact kl
 case makeFunc WJ Wz WA=>
  intro r a;cases WJ<;>simp only[a4] at a<;>try (cases a;done)
  rename_i O;split at a
  ·rename_i z WB n o;obtain rfl:=Se a;have q:=vP b n;have WC:=vP b o;refine⟨_,rfl,.func (.func O) (Wz.map d.eval) (WA.map d.eval),.tH O _ _ _ _ (by simpa using q.1) (by simpa using WC.1) (fun k F=> ?_) (fun k F=> ?_),by simp[execOp,Instr.makeFunc]⟩
   ·simpa using q.2 k (by simpa using F)
   simpa using WC.2 k (by simpa using F)
  cases a
 case makeInterface t x=>
  intro r a;simp only[a4] at a;split at a
  ·cases a
  ·rename_i A v WK Q c;obtain rfl:=Se a;refine⟨_,rfl,.iface t (d.eval x),.tI t _ _ (dt b c),?_⟩;cases A<;>first
    |exact SI rfl (WK _)
    |simp[execOp,Instr.makeInterface,run_underlying Q]
  cases a
 case slice t x W3 F W4=>
  simp only[a4];split
  ·rename_i u z W5 WB n o K WL;refine kC rfl (fun r a=>LL s (dt b n) ?_ ?_ ?_ a)
   ·rcases yO b o with ⟨f,g⟩|⟨v,h,f,g,D⟩
    ·exact .inl ⟨f,g⟩
    exact .inr ⟨v,h,f,g,D⟩
   ·rcases yO b K with ⟨f,g⟩|⟨v,h,f,g,D⟩
    ·exact .inl ⟨f,g⟩
    exact .inr ⟨v,h,f,g,D⟩
   rcases yO b WL with ⟨f,g⟩|⟨v,h,f,g,D⟩
   ·exact .inl ⟨f,g⟩
   exact .inr ⟨v,h,f,g,D⟩
  exact kl
 case fieldAddr t x k=>
  simp only[a4];split
  ·rename_i u e;exact kC rfl (fun r a=>LG (dt b e) a)
  exact kl
 case field t x k=>
  simp only[a4];split
  ·rename_i u e;exact kC rfl (fun r a=>LH (dt b e) a)
  exact kl
 case indexAddr t x y=>
  simp only[a4];split
  ·rename_i u v e c;exact kC rfl (fun r a=>LF (dt b e) (dt b c) a)
  exact kl
 case index t x y=>
  simp only[a4];split
  ·rename_i u v e c;exact kC rfl (fun r a=>LI (dt b e) (dt b c) a)
  exact kl
 case lookup t x y W6=>
  simp only[a4];split
  ·rename_i u v e c;exact kC rfl (fun r a=>L3 s (dt b e) (dt b c) a)
  exact kl
 case extract x k=>
  simp only[a4];split
  ·rename_i u e;exact kC rfl (fun r a=>LJ (dt b e) a)
  exact kl
 case call H=>
  have⟨WM,WD,R⟩:=H;simp only[a4];split
  case h_2=>exact kl
  rename_i z q;have WE:=vP b q;cases WM with
  |value x=>simp[bU] at l
  |invoke x WB=>simp[bU] at l
  |builtin WN=>
   simp only;cases WN<;>try (simp[bU] at l;done)
   case len=>
    cases WO:R.toList with
    |nil=>exact kl
    |cons t W7=>
     cases z with
     |nil=>exact kl
     |cons x WQ=>
      have⟨WR,WS,B,T,_⟩:=WE.lQ;refine kC (m:=S2 R W (WD.map d.eval)) rfl (fun v c=>LZ s T c (sc WO) ?_);exact sc (by rw[SK];exact B)
   case max=>
    cases z with
    |nil=>exact kl
    |cons x WQ=>
     have⟨WR,WS,B,T,WT⟩:=WE.lQ;refine kC (m:=TI R W (WD.map d.eval)) rfl (fun v c=> ?_);have⟨h,WU,WV⟩:=L1 (P:=i) vD Tx L0 T WT c;exact⟨h,by simp only[TI,SK,B];exact WU,WV⟩
theorem yZ {s:J}{a:Sl Sf}{b c:Sk}{r:Sf×J}(h:cL s a b c=some r):s.bE=true:=by
 unfold cL at h;split at h
 ·assumption
 cases h
theorem Cr {s:J}{a:Sl Sf}{b:Sk}{r:Sf×J}(h:iA s a b=some r):s.bE=true:=by
 unfold iA at h;split at h
 ·assumption
 cases h
theorem L8 {P:Sg}{s:J}{t:Sh}{n:Sk}{a:Sl (Sk×Sf)}{r:Sf×J}(h:dj P s t n a=some r):s.bE=true:=by
 unfold dj at h;split at h
 ·split at h
  ·split at h
   ·split at h
    ·exact yZ h
    cases h
   cases h
  cases h
 cases h
theorem L9 {P:Sg}{s:J}{t:Sh}{x y:Sf}{r:Sf×J}(h:iU P s t x y=some r):s.bE=true:=by
 unfold iU at h;split at h
 ·split at h
  ·split at h
   ·exact yZ h
   cases h
  cases h
 cases h
theorem Ma {P:Sg}{s:J}{e f:Sh}{x:Sf}{r:Sf×J}(h:fM P s e f x=some r)(d:m2 P e f=true):s.bE=true:=by
 unfold m2 at d;split at d
 case h_2=>cases d
 rename_i i g c;unfold fM at h;split at h
 ·rename_i b a;rw[c] at a;cases a
 ·rename_i b a;rw[c] at a;cases a
 ·split at h
  ·exact yZ h
  cases h
 ·rename_i b a;rw[g] at b;cases b
 ·rename_i b a;rw[c] at a;cases a
 ·rename_i b a;rw[c] at a;cases a
 cases h
def y0 (P:Sg)(c:Sk)(S:aC)(a:Act)(o:SZ):iV->Prop
 | .a8 v d=>∃T b,T.h=d/\aX T v b/\bH c S T/\((execOp a.eval o).run P S.k= .ok (.value b) T.k\/((execOp a.eval o).run P S.k= .ok .skip T.k/\b=undef))
 | .jY g c=>∃b:Sr Sf,bo S c b.toList/\execOp a.eval o=callFunc g b
theorem qV {P:Sg}{a:Sk}{S:aC}{b:Act}{o:SZ}{m:Sem Sf}{r:Si (Sf×J)}(d:execOp b.eval o=(do pure (Next.value (<-m))))(h:∀v c,r=some (v,c)->qU P a S m v c):
  ∀x,dL r=some x->y0 P a S b o x:=by
 intro x a;cases r with
 |none=>simp[dL] at a
 |some p=>
  have⟨v,b⟩:=p;simp only[dL] at a;obtain rfl:=Se a;have⟨T,a,c,e,f,g⟩:=h v b rfl;exact⟨T,a,c,f,g,.inl (by rw[d];exact vY e)⟩
theorem Cs {P:Sg}{a:Sk}{S:aC}{b:Act}{o:SZ}{m:Sem Unit}{r:Si J}(d:execOp b.eval o=(do m;pure Next.skip))(h:∀c,r=some c->vX P a S m c):
  ∀x,gu r=some x->y0 P a S b o x:=by
 intro x a;cases r with
 |none=>simp[gu] at a
 |some b=>
  simp only[gu] at a;obtain rfl:=Se a;have⟨T,a,c,e⟩:=h b rfl;exact⟨T,undef,a,aX.pH T,e,.inr ⟨by rw[d];exact L7 c,rfl⟩⟩
theorem Mb {P:Sg}{h:Sk}{S:aC}(j:bR h S){t:Sh}{k v l b:Sf}{m:J}(n:aX S k l)(o:aX S v b)(a:fp P S.h t k v=some m):vX P h S (Instr.storeAt t l b) m:=by
 unfold fp at a;split at a
 ·rename_i i p c e;obtain⟨x,rfl,q⟩:=n.qT;split at a
  ·rename_i f;obtain rfl:=Se a;have d:b.cells.size=0:=by have:=(o.aJ).1;rw[(show v.cells.toList.length=0 by simpa [SB] using f)] at this;simpa using this.symm
   refine⟨S,rfl,?_,bH.p j⟩;simp[Instr.storeAt,Instr.sureAddr,storeVar,gw e,d];rw[(show b.cells.toList=[] by simpa using d)];rfl
  cases a
 ·rename_i i p c r R e;obtain⟨x,rfl,q⟩:=n.qT;split at a
  ·rename_i f;have y:v.cells.toList.length=r:=by simpa [SB] using f
   unfold J.la at a;split at a
   ·rename_i z s;split at a
    ·rename_i u;simp only[Sn,SA,SB] at u;have⟨⟨⟨A,B⟩,D⟩,E⟩:=u;split at a
     ·cases a
     rename_i F;split at a
     ·rename_i T G;obtain rfl:=Se a;have w:dX z c:=⟨B,Z⟩;obtain rfl:=q.tO s w;have g:=o.aJ;have d:b.cells.size=r:=by have:=g.1;simp at this y;omega
      have⟨H,K,L,M,O,Q,U⟩:=bH.tM j s A w D G g (by rw[F];simp);refine⟨_,rfl,?_,H⟩;have:=vN P (S.l.s i c).1 ((S.l.s i c).2+p) b.cells.toList S.k 0 K L M O Q Z (g.aN E);simp[Instr.storeAt,Instr.sureAddr,storeVar,gw e,d,this]
     cases a
    cases a
   cases a
  cases a
 cases a
theorem vZ {l:Sg}{K:Sk}{d:aC}(h:bR K d){L:an}{g:Act}(c:eN d L g){q:SZ}:∀x,a4 l q L d.h=some x->y0 l K d g q x:=by
 by_cases i:bU l q=true
 ·intro x a;obtain⟨v,rfl,U,n,o⟩:=Cq h c i x a;exact⟨d,U,rfl,n,bH.p h,.inl o⟩
 have⟨WR,W,M,WS,WT,WU⟩:=q;cases W<;>try (simp[bU] at i;done)
 all_goals try (intro x a;simp[a4] at a;done)
 case alloc f=>
  simp only[a4];intro x a;split at a
  ·rename_i z X;split at a
   ·rename_i Wy;exact qV rfl (fun v j b=>(B6 h (gT.m h (Cr b)) X Wy b).tQ) x a
   cases a
  cases a
 case box f y=>
  simp only[a4];intro x a;split at a
  ·rename_i u k;exact qV rfl (fun v j b=>(B7 h (gT.m h (Cr b)) (dt c k) b).tQ) x a
  cases a
 case buildSlice t Wz w=>
  simp only[a4];intro x a;split at a
  ·rename_i A B;refine qV (m:=Instr.buildSlice t Wz (w.map fun(WA,x)=>(WA,g.eval x))) rfl (fun v j b=> ?_) x a;have:=(Cb (P:=l) h (gT.m h (L8 b)) (yR c B) b).tQ;rw[(show(w.map fun(x:Sk×SU)=>(x.1,g.eval x.2))=(w.toList.map fun x=>(x.1,g.eval x.2)).toArray by rw[<-SG];simp)];exact this
  cases a
 case store t y z=>
  simp only[a4];intro x a;split at a
  ·rename_i u v k b;exact Cs rfl (fun j D=>Mb h (dt c k) (dt c b) D) x a
  cases a
 case convert WB O y=>
  simp only[a4];intro x a;split at a
  ·rename_i u k;refine qV rfl (fun v j b=> ?_) x a;cases E:m2 l WB O with
   |true=>exact(B9 h (gT.m h (Ma b E)) (dt c k) b E).tQ
   |false=>
    refine LP h (dt c k) b ?_ E;simp only[bU] at i;unfold tR;cases Q:l.underlying O with
    |none=>rw[Q] at i;exact SI rfl i
    |some f=>rw[Q] at i;cases f<;>first|rfl|exact SI rfl i
  cases a
 case makeMap t r=>
  cases r with
  |some _=>intro x a;simp[a4] at a
  |none=>
   simp only[a4];intro x a;split at a
   ·rename_i p;obtain rfl:=Se a;have WV:=tL p;refine⟨_,.map (some d.k.heap.size),rfl,?_,(bH.Lm h p),.inl (by simp[execOp,Instr.makeMap,newObj,Sem.run])⟩;have:=aX.cv (S:=⟨d.h.x (.cv []),⟨d.l.s,fun r=>if r=d.h.Y then d.k.heap.size else d.l.fP r⟩,d.k.alloc (.map #[] 0)⟩) d.h.Y ⟨[],by simp only[J.x,J.S,a5.gR _ _ _ _ (hq (show 0<16000001 from Z))]⟩
    simpa using this
   cases a
 case makeSlice t y z=>
  simp only[a4];intro x a;split at a
  ·rename_i u v k b;exact qV rfl (fun r j p=>(Cc h (gT.m h (L9 p)) (dt c k) (dt c b) p).tQ) x a
  cases a
 case mapUpdate t y z u=>
  simp only[a4];intro x a;split at a
  ·rename_i WC WW v n o WD;exact Cs rfl (fun j D=>L4 h (dt c n) (dt c o) (dt c WD) D) x a
  cases a
 case call WE=>
  have⟨WG,F,s⟩:=WE;simp only[a4];intro x a;split at a
  case h_2=>cases a
  rename_i A B;have G:=vP c B;cases WG with
  |invoke y WC=>cases a
  |value y=>
   simp only at a;split at a
   ·rename_i WX WY WZ WH;obtain rfl:=Se a;have⟨WI,WJ,f,n,o⟩:=(dt c WH).Lo;refine⟨WI++F.map g.eval++WJ,?_,?_⟩
    ·simp only[SR,SK];exact(n.hQ G).hQ o
    simp[execOp,resolve,f,Deferred.ofValue,invoke]
   cases a
  |builtin WK=>
   simp only at a;cases WK<;>try (simp[bU] at i;done)
   all_goals try (simp[pG] at a;done)
   case append=>
    cases e:s.toList with
    |nil=>rw[e] at a;cases a
    |cons t R=>
     cases R with
     |nil=>rw[e] at a;cases a
     |cons W0 W1=>
      cases A with
      |nil=>rw[e] at a;cases a
      |cons y T=>
       cases T with
       |nil=>rw[e] at a;cases a
       |cons z W2=>
        rw[e] at a;have⟨WL,WM,f,H,WN⟩:=G.lQ;have⟨W3,W4,WO,WQ,_⟩:=WN.lQ;rw[WO] at f;refine qV (m:=Ss s M (F.map g.eval)) rfl (fun v j b=>LY h H WQ b (sc e) (Cp e) ?_ ?_) x a
        ·exact sc (by rw[SK];exact f)
        exact Cp (by rw[SK];exact f)
   case clear=>
    cases e:s.toList with
    |nil=>rw[e] at a;cases a
    |cons t R=>
     cases A with
     |nil=>rw[e] at a;cases a
     |cons y T=>
      rw[e] at a;have⟨WL,WM,f,H,_⟩:=G.lQ;refine qV (m:=S6 s M (F.map g.eval)) rfl (fun v j b=>L6 h H b (sc e) ?_) x a;exact sc (by rw[SK];exact f)
abbrev I (n:Tq):Sf:= .int .i64 n
abbrev ab (i o c:Sk):Sf:= .pointer (some ⟨i,o,some c⟩)
abbrev bI (i:Sk):Sf:= .pointer (some ⟨i,0,none⟩)
abbrev av:Sf:= .slice none 0 0
end Go.Cl