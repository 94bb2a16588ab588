/-
 The clean machine, part 20: what a call and a piece of code come to, whatever the fuel beyond some. A reading of code as a sentence.
-/
import Derived.Test.YtgpmffbleaphkaaGreatMcB
import Derived.ProofKit
import Derived.OpenShut
import Derived.Carry
import Derived.ChangeSlices
import Derived.WideShapes
open Go renaming Program->Se,Value->Sf,Operand->Sg,TypeId->Sh,Oper->Sk,IntKind->Sx,Code->SD,FuncId->SN,World->S3
open _root_ renaming List->Si,Nat->Sj,Option->Sl,if_true->Sn,Array->Sr,Bool->SB,if_neg->SC,if_pos->SG,UInt8->SL,Int->S4
open Nat renaming blt_eq->Sm,blt->Ss,ble->Sw,lt_of_lt_of_le->Sy,le_refl->Sz,beq->SF,mul_le_mul_right->SH,ne_of_lt->SM,mul_one->SR,beq_eq->SS,ble_eq->SU,beq_refl->S1,add_mul->S2
open Bool renaming not_eq_true->So,and_eq_true->Su,true_and->SI,false_eq_true->SK,and_false->SY,and_true->SZ
open List renaming mem_cons_self->Sp,mem_cons_of_mem->Sq,eq_nil_of_length_eq_zero->St,getElem?_eq_getElem->Sv,cons_append->SE,length_append->SJ,length_take->SO,length_drop->SP,length_cons->SQ,drop_take->SV,drop_drop->SW,take_take->SX,getD->S0
open BitVec renaming ofInt->SA
set_option linter.unusedSimpArgs false
set_option linter.unusedVariables false
namespace Go.Cl
theorem bL.p (s:J):bL s s (fun _=>none):=⟨rfl,fun _ _ h=>(by cases h),fun _=>rfl⟩
theorem C2 {P:Se}{o:Sk}{f:an}{s:J}(a:dx s){v:Sf}{t:J}(h:a4 P o f s=some (.a8 v t)):ca s t:=by
 have⟨_,_,_,k⟩:=lf (bL.p s) a h;exact k
def Runs (P:Se)(b:bg)(g:SN)(c:Si Sf)(s:J)(Q:Sf->J->Prop):Prop:=
 dx s->∃v a,(∃n,∀m,n<=m->kz P b m g c s=some (v,a))/\ca s a/\Q v a
def aZ (P:Se)(c:bg)(d:SD)(f:an)(s:J)(Q:dw->an->J->Prop):Prop:=
 dx s->∃x b a,(∃n,∀m,n<=m->ds P c m d f s=some (x,b,a))/\ca s a/\Q x b a
def C3 (P:Se)(c:bg)(d l:Si Sk)(f:an)(s:J)(Q:an->J->Prop):Prop:=
 dx s->∃b a,(∃n,∀m,n<=m->jZ P (kz P c m) d l f s=some (b,a))/\ca s a/\Q b a
theorem Runs.b {P:Se}{a:bg}{g:SN}{b:Si Sf}{s:J}{Q c:Sf->J->Prop}(h:Runs P a g b s Q)(k:∀v d,Q v d->c v d):Runs P a g b s c:=by
 intro a;have⟨v,b,c,d,e⟩:=h a;exact⟨v,b,c,d,k _ _ e⟩
theorem aZ.b {P:Se}{a:bg}{c:SD}{f:an}{s:J}{Q b:dw->an->J->Prop}(h:aZ P a c f s Q)(k:∀x d e,Q x d e->b x d e):aZ P a c f s b:=by
 intro a;have⟨x,b,c,d,e,f⟩:=h a;exact⟨x,b,c,d,e,k _ _ _ f⟩
def cT (f:an)(d:Sl Tmp)(v:Sf)(K:an->Prop):Prop:=
 match fO f d v with
 |some a=>K a
 |none=>False
mutual
def e5 (P:Se)(a:bg)(b:Si Sk):Si Sk->an->J->(an->J->Prop)->Prop
 |[],f,s,Q=>Q f s
 |o::r,f,s,Q=>
  match ff b o f with
  |true=>
   match a4 P o f s with
   |some (.a8 v c)=>cT f o.dst v fun d=>e5 P a b r d c Q
   |some (.jY g c)=>Runs P a g c s fun v c=>cT f o.dst v fun d=>e5 P a b r d c Q
   |none=>False
  |false=>cT f o.dst undef fun c=>e5 P a b r c s Q
end
def en (P:Se)(a:bg)(b r:Si Sk)(f:an)(s:J)(d:Sl Tmp)(Q:an->J->Prop):Sl iV->Prop
 |some (.a8 v c)=>cT f d v fun e=>e5 P a b r e c Q
 |some (.jY g c)=>Runs P a g c s fun v c=>cT f d v fun d=>e5 P a b r d c Q
 |none=>False
def sh (P:Se)(a:bg)(b r:Si Sk)(f:an)(d:Sl Tmp)(Q:an->J->Prop)(v:Sf)(c:J):Prop:=cT f d v fun d=>e5 P a b r d c Q
def kH (P:Se)(a:bg)(b:Si Sk)(o:Sk)(r:Si Sk)(f:an)(s:J)(Q:an->J->Prop):SB->Prop
 |true=>en P a b r f s o.dst Q (a4 P o f s)
 |false=>cT f o.dst undef fun c=>e5 P a b r c s Q
theorem wm (P:Se)(a:bg)(b:Si Sk)(f:an)(s:J)(Q:an->J->Prop):e5 P a b [] f s Q=Q f s:=by simp only[e5]
theorem si (P:Se)(b:bg)(a:Si Sk)(o:Sk)(r:Si Sk)(f:an)(s:J)(Q:an->J->Prop):e5 P b a (o::r) f s Q=kH P b a o r f s Q (ff a o f):=by
 simp only[e5];cases ff a o f with
 |false=>rfl
 |true=>
  simp only[kH];cases a4 P o f s with
  |none=>rfl
  |some a=>cases a<;>rfl
theorem q3 (P:Se)(a:bg)(b:Si Sk)(o:Sk)(r:Si Sk)(f:an)(s:J)(Q:an->J->Prop):kH P a b o r f s Q true=en P a b r f s o.dst Q (a4 P o f s):=rfl
theorem lh (f:an)(t:Tmp)(v:Sf)(K:an->Prop):cT f (some t) v K=if t<f.e then K (f.u t v) else False:=by
 unfold cT fO;by_cases h:t<f.e
 ·have a:Ss t f.e=true:=by simpa [Sm] using h
  simp only[a,Sn,SG h]
 have a:Ss t f.e=false:=by rw[<-So,Sm];exact h
 simp[a,SC h]
theorem C4 (f:an)(v:Sf)(K:an->Prop):cT f none v K=K f:=rfl
theorem C5 (P:Se)(a:bg)(b:Si Sk)(c:Op)(d:Sh)(e:String)(g:Sr Edge)(h:Sl (Sj×SB))(r:Si Sk)(f:an)(s:J)(Q:an->J->Prop)(t:Tmp):kH P a b ⟨some t,c,d,e,g,h⟩ r f s Q false=if t<f.e then e5 P a b r (f.u t undef) s Q else False:=by
 unfold kH;simp only;rw[lh]
theorem C6 (P:Se)(a:bg)(b:Si Sk)(c:Op)(d:Sh)(e:String)(g:Sr Edge)(h:Sl (Sj×SB))(r:Si Sk)(f:an)(s:J)(Q:an->J->Prop):kH P a b ⟨none,c,d,e,g,h⟩ r f s Q false=e5 P a b r f s Q:=rfl
theorem zc (P:Se)(a:bg)(b r:Si Sk)(f:an)(s:J)(t:Tmp)(Q:an->J->Prop)(v:Sf)(c:J):en P a b r f s (some t) Q (some (.a8 v c))=if t<f.e then e5 P a b r (f.u t v) c Q else False:=by
 simp only[en,lh]
theorem C7 (P:Se)(a:bg)(b r:Si Sk)(f:an)(s:J)(Q:an->J->Prop)(v:Sf)(c:J):en P a b r f s none Q (some (.a8 v c))=e5 P a b r f c Q:=rfl
theorem C8 (P:Se)(a:bg)(b r:Si Sk)(f:an)(s:J)(d:Sl Tmp)(Q:an->J->Prop)(g:SN)(c:Si Sf):en P a b r f s d Q (some (.jY g c))=Runs P a g c s (sh P a b r f d Q):=rfl
theorem C9 (P:Se)(a:bg)(b r:Si Sk)(f:an)(t:Tmp)(Q:an->J->Prop)(v:Sf)(c:J):sh P a b r f (some t) Q v c=if t<f.e then e5 P a b r (f.u t v) c Q else False:=by
 simp only[sh,lh]
theorem Da (P:Se)(a:bg)(b r:Si Sk)(f:an)(Q:an->J->Prop)(v:Sf)(c:J):sh P a b r f none Q v c=e5 P a b r f c Q:=rfl
theorem MW {P:Se}{a:bg}{b r:Si Sk}{f:an}{d:Sl Tmp}{Q:an->J->Prop}{v:Sf}{c:J}(F:an->Prop)(h:F f)(k:∀e,F e->sh P a b r e d Q v c):sh P a b r f d Q v c:=k f h
theorem MX {P:Se}{q:bg}(c:Si Sk):∀(r:Si Sk) (f:an) (s:J) (Q:an->J->Prop),e5 P q c r f s Q->C3 P q c r f s Q:=by
 intro r
 induction r with
 |nil=>intro f s Q h d;rw[wm] at h;exact⟨f,s,⟨0,fun m _=>rfl⟩,ca.p d,h⟩
 |cons w y z=>
  intro f s Q h d;rw[si] at h;have x:∀(v:Sf) (a:J),(cT f w.dst v fun b=>e5 P q c y b a Q)->∃e,fO f w.dst v=some e/\C3 P q c y e a Q:=by
   intro v a h;unfold cT at h;split at h
   ·exact⟨_,‹_›,z _ _ _ h⟩
   exact h.elim
  cases g:ff c w f with
  |false=>
   rw[g] at h;have⟨e,i,j⟩:=x _ _ h;have⟨b,a,⟨n,k⟩,l,o⟩:=j d;refine⟨b,a,⟨n,fun m t=> ?_⟩,l,o⟩;simp only[jZ,g,i]
   simpa using k m t
  |true=>
   rw[g] at h;simp only[kH] at h;unfold en at h;split at h
   ·rename_i v A u;have p:=C2 d u;have⟨e,i,j⟩:=x _ _ h;have⟨b,a,⟨n,k⟩,l,o⟩:=j p.W;refine⟨b,a,⟨n,fun m t=> ?_⟩,p.a l,o⟩;simp only[jZ,g,u,i]
    simpa using k m t
   ·rename_i E F u;have⟨v,A,⟨B,D⟩,p,h⟩:=h d;have⟨e,i,j⟩:=x _ _ h;have⟨b,a,⟨n,k⟩,l,o⟩:=j p.W;refine⟨b,a,⟨n+B,fun m t=> ?_⟩,p.a l,o⟩;simp only[jZ,g,u,D m Z,i]
    simpa using k m Z
   exact h.elim
def na (P:Se)(l:Si Sk):SB:=l.all (bU P)
def j3 (P:Se)(a:Si Sk):Si Sk->an->J->(an->Prop)->Prop
 |[],f,_,Q=>Q f
 |o::r,f,s,Q=>
  match ff a o f with
  |true=>
   match a4 P o f s with
   |some (.a8 v _)=>bn v v=true/\cT f o.dst v fun b=>j3 P a r b s Q
   |_=>False
  |false=>cT f o.dst undef fun b=>j3 P a r b s Q
def q4 (P:Se)(a r:Si Sk)(f:an)(s:J)(d:Sl Tmp)(Q:an->Prop):Sl iV->Prop
 |some (.a8 v _)=>bn v v=true/\cT f d v fun b=>j3 P a r b s Q
 |_=>False
def nO (P:Se)(a:Si Sk)(o:Sk)(r:Si Sk)(f:an)(s:J)(Q:an->Prop):SB->Prop
 |true=>q4 P a r f s o.dst Q (a4 P o f s)
 |false=>cT f o.dst undef fun b=>j3 P a r b s Q
theorem zd (P:Se)(a:Si Sk)(f:an)(s:J)(Q:an->Prop):j3 P a [] f s Q=Q f:=rfl
theorem wo (P:Se)(a:Si Sk)(o:Sk)(r:Si Sk)(f:an)(s:J)(Q:an->Prop):j3 P a (o::r) f s Q=nO P a o r f s Q (ff a o f):=by
 simp only[j3];cases ff a o f with
 |false=>rfl
 |true=>
  simp only[nO];cases a4 P o f s with
  |none=>rfl
  |some a=>cases a<;>rfl
theorem Db (P:Se)(a:Si Sk)(o:Sk)(r:Si Sk)(f:an)(s:J)(Q:an->Prop):nO P a o r f s Q true=q4 P a r f s o.dst Q (a4 P o f s):=rfl
theorem Dc (P:Se)(a:Si Sk)(b:Op)(c:Sh)(d:String)(e:Sr Edge)(g:Sl (Sj×SB))(r:Si Sk)(f:an)(s:J)(Q:an->Prop)(t:Tmp):nO P a ⟨some t,b,c,d,e,g⟩ r f s Q false=if t<f.e then j3 P a r (f.u t undef) s Q else False:=by
 unfold nO;simp only;rw[lh]
theorem Dd (P:Se)(a r:Si Sk)(f:an)(s:J)(t:Tmp)(Q:an->Prop)(v:Sf)(b:J):q4 P a r f s (some t) Q (some (.a8 v b))=if bn v v=true/\t<f.e then j3 P a r (f.u t v) s Q else False:=by
 simp only[q4,lh];by_cases a:bn v v=true<;>by_cases b:t<f.e<;>simp[a,b]
theorem De {P:Se}:∀{l:Si Sk},na P l=true->(∀o∈l,bU P o=true)/\bW P l=0:=by
 intro l
 induction l with
 |nil=>intro _;exact⟨fun o h=>(by cases h),rfl⟩
 |cons o r b=>
  intro h;simp only[na,List.all_cons,Su] at h;have⟨c,d⟩:=b (by simpa [na] using h.2);have f:bQ P o=false:=by
   have⟨i,g,j,k,m,n⟩:=o;cases g<;>simp_all[bU,bQ]
   case convert q s x=>
    simp only[m2];split
    ·rename_i _ e t;simp_all
    rfl
  exact⟨fun p a=>(List.mem_cons.mp a).elim (fun e=>e▸h.1) (fun a=>c p a),by simp[bW,f,d]⟩
theorem Df {a:Se}{o:Sk}(b:bU a o=true):bQ a o=false:=by
 have:=(De (P:=a) (l:=[o]) (by simp[na,b])).2;simp only[bW] at this;cases h:bQ a o with
 |false=>rfl
 |true=>rw[h] at this;simp at this
theorem Dg {P:Se}{o:Sk}(a:bU P o=true):c6 P o=false:=by simp[c6,a]
theorem MY {P:Se}{g:Si Sk}{s:J}(U:Si Sj){Q:an->Prop}:∀(l:Si Sk) (b:Si Sj) (i j:Sj) (f:an),(∀o∈l,bU P o=true)->b.length=l.length->j3 P g l f s Q->
  ∃c e,(∀m,iC P m g b l i j f s []=some c)/\(∀k,cf c k=[])/\cw P l c s=[s]/\j0 l c f=e/\iD P g U [] [s] b l c i f=true/\Q e:=by
 intro l
 induction l with
 |nil=>
  intro b i j f _ n a;rw[zd] at a;cases b with
  |cons F r=>simp at n
  |nil=>exact⟨[],f,fun _=>rfl,fun _=>rfl,rfl,rfl,rfl,a⟩
 |cons o r G=>
  intro b i j f H n a;cases b with
  |nil=>simp at n
  |cons F b=>
  have u:=H o (Sp ..);have K:=Df u;have M:=Dg u;have O:∀w∈r,bU P w=true:=fun w d=>H w (Sq _ d)
  have R:b.length=r.length:=by simpa using n
  rw[wo] at a;have S:∀(v:Sf),(cT f o.dst v fun e=>j3 P g r e s Q)->∃h,fO f o.dst v=some h/\j3 P g r h s Q:=by
   intro v p;unfold cT at p;split at p
   ·exact⟨_,‹_›,p⟩
   exact p.elim
  cases q:ff g o f with
  |false=>
   rw[q] at a;have⟨h,d,a⟩:=S _ a;have⟨c,e,y,z,A,B,D,E⟩:=G b (i+1) j h O R a;refine⟨.e3::c,e,fun m=> ?_,fun k=> ?_,?_,?_,?_,E⟩
   ·simp only[iC,jv,q,cc.a8,d,K];rw[SC aA,y m]
   ·simp only[cf,z]
   ·simp only[cw,M,A];simp
   ·simp only[j0,cc.a8,d,B]
   simp only[iD,cc.a8,d,D];rfl
  |true=>
   rw[q] at a;simp only[nO] at a;unfold q4 at a;split at a
   case h_2=>exact a.elim
   rename_i v WB T;have⟨W,a⟩:=a;have⟨h,d,a⟩:=S _ a;have⟨c,e,y,z,A,B,D,E⟩:=G b (i+1) j h O R a;refine⟨.ki v::c,e,fun m=> ?_,fun k=> ?_,?_,?_,?_,E⟩
   ·simp only[iC,jv,q,u,Cl.b3,T,cc.a8,d,K];rw[SC aA,y m]
   ·simp only[cf,z]
   ·simp only[cw,M,A];simp
   ·simp only[j0,cc.a8,d,B]
   simp only[iD,cc.a8,d,D,SZ];have X:∀(L:Si J),(∀x∈L,x=s)->mo P F [] o f v L=true:=by
    intro L
    induction L with
    |nil=>intro _;rfl
    |cons x L Wy=>
     intro t;obtain rfl:=t x (Sp ..);simp only[mo,Cl.b3,T,W,SI];exact Wy (fun Wz WA=>t Wz (Sq _ WA))
   exact X _ (fun x t=>by simpa using List.mem_of_mem_take (List.mem_of_mem_drop t))
theorem MZ {P:Se}{a:Si Sk}(g:na P a=true){f:an}{s:J}{Q:an->Prop}(h:j3 P a a f s Q):∃b,(∀c,lP P c a f s=some (b,s))/\Q b:=by
 have⟨i,j⟩:=De g;have k:(cZ a []).length=a.length:=by
  have⟨r,d,e⟩:=tW a [];rw[d];simpa using e
 have⟨p,b,d,e,l,m,n,o⟩:=MY (cZ a []) a (cZ a []) 0 s.Y f i k h;refine⟨b,fun c=> ?_,o⟩;unfold lP;rw[(show(⟨s.i,s.Y+bW P a⟩:J)=s by rw[j];rfl),d c];simp only[e,l,n,m,Cl.b3,List.getLastD];rfl
def Dh (P:Se)(c:bg)(d:Si Sk)(f:an)(s:J)(Q:an->J->Prop):Prop:=
 dx s->∃b a,(∃n,∀m,n<=m->lP P (kz P c m) d f s=some (b,a))/\ca s a/\Q b a
def ue (P:Se)(b:bg)(a:Si Sk)(f:an)(s:J)(Q:an->J->Prop):SB->Prop
 |true=>j3 P a a f s (fun c=>Q c s)
 |false=>Dh P b a f s Q
def wq (a:Sj):dw->dw
 | .bb j=>if j=a then .b2 else .bb j
 |x=>x
def dk (P:Se)(a:bg):SD->an->J->(dw->an->J->Prop)->Prop
 | .skip,f,s,Q=>Q .b2 f s
 | .label _,f,s,Q=>Q .b2 f s
 | .region _ b d,f,s,Q=>
  match d with
  |false=>e5 P a b.toList b.toList f s (Q .b2)
  |true=>ue P a b.toList f s (Q .b2) (na P b.toList)
 | .seq b d,f,s,Q=>dk P a b f s fun x b c=>
  match x with
  | .b2=>dk P a d b c Q
  |x=>Q x b c
 | .cond x b c,f,s,Q=>
  match ba f x with
  |some (.bool t)=>
   match t with
   |true=>dk P a b f s Q
   |false=>dk P a c f s Q
  |_=>False
 | .block b c,f,s,Q=>dk P a c f s fun x c d=>Q (wq b x) c d
 | .loop b,f,s,Q=>aZ P a (.loop b) f s Q
 | .exit b,f,s,Q=>Q (.bb b) f s
 | .scope b,f,s,Q=>dk P a b f s Q
 | .ret,f,s,Q=>Q .bF f s
 |_,_,_,_=>False
def ja (P:Se)(c:bg)(d:SD)(Q:dw->an->J->Prop)(x:dw)(a:an)(b:J):Prop:=
 match x with
 | .b2=>dk P c d a b Q
 |x=>Q x a b
def uf (a:Sj)(Q:dw->an->J->Prop)(x:dw)(b:an)(c:J):Prop:=Q (wq a x) b c
def nb (P:Se)(a:bg)(b c:SD)(f:an)(s:J)(Q:dw->an->J->Prop):SB->Prop
 |true=>dk P a b f s Q
 |false=>dk P a c f s Q
def ze (P:Se)(a:bg)(b c:SD)(f:an)(s:J)(Q:dw->an->J->Prop):Sl Sf->Prop
 |some (.bool t)=>nb P a b c f s Q t
 |_=>False
section
variable (P:Se) (aV:bg) (f:an) (s:J) (Q:dw->an->J->Prop)
theorem Di:dk P aV .skip f s Q=Q .b2 f s:=rfl
theorem Dj (b:Sj)(a:Sr Sk):dk P aV (.region b a false) f s Q=e5 P aV a.toList a.toList f s (Q .b2):=rfl
theorem Dk (b:Sj)(a:Sr Sk):dk P aV (.region b a true) f s Q=ue P aV a.toList f s (Q .b2) (na P a.toList):=rfl
theorem Dl (a:Si Sk)(R:an->J->Prop):ue P aV a f s R true=j3 P a a f s (fun b=>R b s):=rfl
theorem Dm (a b:SD):dk P aV (.seq a b) f s Q=dk P aV a f s (ja P aV b Q):=rfl
theorem Dn (b:SD):ja P aV b Q .b2 f s=dk P aV b f s Q:=rfl
theorem Dp (b:SD):ja P aV b Q .bF f s=Q .bF f s:=rfl
theorem Dq (b:SD)(a:Sj):ja P aV b Q (.bb a) f s=Q (.bb a) f s:=rfl
theorem zf (x:Sg)(a b:SD):dk P aV (.cond x a b) f s Q=ze P aV a b f s Q (ba f x):=by
 simp only[dk];cases ba f x with
 |none=>rfl
 |some v=>cases v<;>first|rfl|(rename_i t;cases t<;>rfl)
theorem Dr (a b:SD)(t:SB):ze P aV a b f s Q (some (.bool t))=nb P aV a b f s Q t:=rfl
theorem Ds (a b:SD):nb P aV a b f s Q true=dk P aV a f s Q:=rfl
theorem Dt (a b:SD):nb P aV a b f s Q false=dk P aV b f s Q:=rfl
theorem Du (a:Sj)(b:SD):dk P aV (.block a b) f s Q=dk P aV b f s (uf a Q):=rfl
theorem Dv (a:Sj):uf a Q .b2 f s=Q .b2 f s:=rfl
theorem Dw (a:Sj):uf a Q .bF f s=Q .bF f s:=rfl
theorem Dx (a j:Sj):uf a Q (.bb j) f s=if j=a then Q .b2 f s else Q (.bb j) f s:=by
 simp only[uf,wq];split<;>rfl
theorem Dy (a:SD):dk P aV (.loop a) f s Q=aZ P aV (.loop a) f s Q:=rfl
theorem Dz (a:Sj):dk P aV (.exit a) f s Q=Q (.bb a) f s:=rfl
theorem DA (a:SD):dk P aV (.scope a) f s Q=dk P aV a f s Q:=rfl
theorem DB:dk P aV .ret f s Q=Q .bF f s:=rfl
end
theorem sj {P:Se}{a:bg}{b c:SD}{f:an}{s:J}{Q:dw->an->J->Prop}{t:SB}(d:t=true->dk P a b f s Q)(e:t=false->dk P a c f s Q):nb P a b c f s Q t:=by
 cases t
 ·exact e rfl
 exact d rfl
theorem DC {P:Se}{n:bg}:∀(w:SD) (f:an) (s:J) (Q:dw->an->J->Prop),dk P n w f s Q->aZ P n w f s Q:=by
 intro w
 induction w with
 |skip=>intro f s Q h a;exact⟨.b2,f,s,⟨1,fun m g=>by obtain⟨k,rfl⟩:∃k,m=k+1:=⟨m-1,Z⟩;rfl⟩,ca.p a,h⟩
 |label T=>intro f s Q h a;exact⟨.b2,f,s,⟨1,fun m g=>by obtain⟨k,rfl⟩:∃k,m=k+1:=⟨m-1,Z⟩;rfl⟩,ca.p a,h⟩
 |exit q=>intro f s Q h a;exact⟨.bb q,f,s,⟨1,fun m g=>by obtain⟨k,rfl⟩:∃k,m=k+1:=⟨m-1,Z⟩;rfl⟩,ca.p a,h⟩
 |ret=>intro f s Q h a;exact⟨.bF,f,s,⟨1,fun m g=>by obtain⟨k,rfl⟩:∃k,m=k+1:=⟨m-1,Z⟩;rfl⟩,ca.p a,h⟩
 |loop y _=>intro f s Q h;exact h
 |rangeFunc=>intro f s Q h;exact h.elim
 |goto=>intro f s Q h;exact h.elim
 |refuse=>intro f s Q h;exact h.elim
 |region q r z=>
  intro f s Q h a;have B:∀c d,(∃t,∀m,t<=m->(match z with
    |false=>jZ P (kz P n m) r.toList r.toList f s
    |true=>lP P (kz P n m) r.toList f s)=some (c,d))->ca s d->Q .b2 c d->∃x c d,(∃t,∀m,t<=m->ds P n m (.region q r z) f s=some (x,c,d))/\ca s d/\Q x c d:=by
   rintro c d ⟨t,D⟩ u o;refine⟨.b2,c,d,⟨t+1,fun m g=> ?_⟩,u,o⟩;obtain⟨k,rfl⟩:∃k,m=k+1:=⟨m-1,Z⟩
   have:=D k Z;simp only[ds,fg];have G:kz P n k=ld P n (ds P n k):=rfl;rw[G] at this;cases z<;>(simp only at this;simp only[this])
  cases z with
  |false=>
   have⟨c,d,D,u,o⟩:=MX _ _ _ _ _ h a;exact B c d D u o
  |true=>
   simp only[dk] at h;cases o:na P r.toList with
   |true=>
    rw[o] at h;have⟨c,b,v⟩:=MZ o h;exact B c s ⟨0,fun m _=>b _⟩ (ca.p a) v
   |false=>
    rw[o] at h;have⟨c,d,b,u,v⟩:=h a;exact B c d b u v
 |seq y H p E=>
  intro f s Q h a;have⟨x,i,j,⟨l,b⟩,e,h⟩:=p f s _ h a;cases x with
  |b2=>
   have⟨x,K,L,⟨M,v⟩,O,h⟩:=E i j _ h e.W;refine⟨x,K,L,⟨l+M+1,fun m g=> ?_⟩,e.a O,h⟩;obtain⟨k,rfl⟩:∃k,m=k+1:=⟨m-1,Z⟩
   simp only[ds,fg,b k Z,v k Z]
  |bb q=>
   refine⟨_,i,j,⟨l+1,fun m g=> ?_⟩,e,h⟩;obtain⟨k,rfl⟩:∃k,m=k+1:=⟨m-1,Z⟩
   simp only[ds,fg,b k Z]
  |bF=>
   refine⟨_,i,j,⟨l+1,fun m g=> ?_⟩,e,h⟩;obtain⟨k,rfl⟩:∃k,m=k+1:=⟨m-1,Z⟩
   simp only[ds,fg,b k Z]
 |cond U y H p E=>
  intro f s Q h a;rw[zf] at h;unfold ze at h;split at h
  ·rename_i R F;cases R with
   |true=>
    have⟨x,i,j,⟨l,b⟩,e,h⟩:=p f s _ h a;refine⟨_,i,j,⟨l+1,fun m g=> ?_⟩,e,h⟩;obtain⟨k,rfl⟩:∃k,m=k+1:=⟨m-1,Z⟩
    simp only[ds,fg,F,b k Z]
   |false=>
    have⟨x,i,j,⟨l,b⟩,e,h⟩:=E f s _ h a;refine⟨_,i,j,⟨l+1,fun m g=> ?_⟩,e,h⟩;obtain⟨k,rfl⟩:∃k,m=k+1:=⟨m-1,Z⟩
    simp only[ds,fg,F,b k Z]
  exact h.elim
 |block q y p=>
  intro f s Q h a;have⟨x,i,j,⟨l,b⟩,e,h⟩:=p f s _ h a;refine⟨_,i,j,⟨l+1,fun m g=> ?_⟩,e,h⟩;obtain⟨k,rfl⟩:∃k,m=k+1:=⟨m-1,Z⟩
  simp only[ds,fg,b k Z];cases x with
  |b2=>rfl
  |bF=>rfl
  |bb S=>
   simp only[wq];by_cases A:S=q
   ·rw[SG A,SG (by simpa [SS] using A)]
   rw[SC A,SC (by simpa [SS] using A)]
 |scope y p=>
  intro f s Q h a;have⟨x,i,j,⟨l,b⟩,e,h⟩:=p f s _ h a;refine⟨_,i,j,⟨l+1,fun m g=> ?_⟩,e,h⟩;obtain⟨k,rfl⟩:∃k,m=k+1:=⟨m-1,Z⟩
  simp only[ds,fg,b k Z]
def sk (a:Sj->an->J->Prop)(k:Sj)(Q:dw->an->J->Prop):dw->an->J->Prop
 | .b2,f,s=>∃j,j<k/\a j f s
 |x,f,s=>Q x f s
theorem aH {a:Sj->an->J->Prop}{k:Sj}{Q:dw->an->J->Prop}{f:an}{s:J}(j:Sj)(b:j<k)(h:a j f s):sk a k Q .b2 f s:=⟨j,b,h⟩
theorem DD (a:Sj->an->J->Prop)(k:Sj)(Q:dw->an->J->Prop)(f:an)(s:J):sk a k Q .bF f s=Q .bF f s:=rfl
theorem DE (b:Sj->an->J->Prop)(k:Sj)(Q:dw->an->J->Prop)(f:an)(s:J)(a:Sj):sk b k Q (.bb a) f s=Q (.bb a) f s:=rfl
theorem aZ.M0 {P:Se}{g:bg}{i:SD}{Q:dw->an->J->Prop}(b:Sj->an->J->Prop)(r:∀k j s,b k j s->dk P g i j s (sk b k Q)):∀k l m,b k l m->aZ P g (.loop i) l m Q:=by
 intro t
 induction t using Nat.strongRecOn with
 |_ u v=>
  intro w x y z;have⟨A,c,d,⟨e,f⟩,a,h⟩:=DC _ _ _ _ (r u w x y) z;cases A with
  |b2=>
   have⟨B,D,E⟩:=h;have⟨F,G,H,⟨K,L⟩,M,h⟩:=v B D c d E a.W;refine⟨F,G,H,⟨e+K+1,fun n W=> ?_⟩,a.a M,h⟩;obtain⟨o,rfl⟩:∃O,n=O+1:=⟨n-1,Z⟩
   simp only[ds,fg,f o Z,L o Z]
  |bb X=>
   refine⟨_,c,d,⟨e+1,fun p Wy=> ?_⟩,a,h⟩;obtain⟨R,rfl⟩:∃S,p=S+1:=⟨p-1,Z⟩
   simp only[ds,fg,f R Z]
  |bF=>
   refine⟨_,c,d,⟨e+1,fun q Wz=> ?_⟩,a,h⟩;obtain⟨T,rfl⟩:∃U,q=U+1:=⟨q-1,Z⟩
   simp only[ds,fg,f T Z]
theorem aZ.eO {P:Se}{b:bg}{c:SD}{Q:dw->an->J->Prop}{f:an}{s:J}(a:Sj->an->J->Prop){k:Sj}(g:a k f s)(h:∀k d e,a k d e->dk P b c d e (sk a k Q)):aZ P b (.loop c) f s Q:=
 aZ.M0 a h k f s g
theorem aZ.w {P:Se}{c:bg}{d:SD}{e:dw->an->J->Prop}{f:an}{s:J}(a:Sj->an->J->Prop)(b:dw->an->J->Prop){k:Sj}(p:a k f s)
  (q:∀g:dw->an->J->Prop,(∀x h i,b x h i->g x h i)->∀k j l,a k j l->dk P c d j l (sk a k g)) (r:∀m n o,b m n o->e m n o):aZ P c (.loop d) f s e:=
 (aZ.eO (Q:=b) a p (q b (fun _ _ _ h=>h))).b r
def sl (s:J)(Q:Sf->J->Prop):Sl (Si Sf)->Prop
 |some l=>Q (b6 l) s
 |none=>False
def eW (P:Se)(a:Si ResultVar)(Q:Sf->J->Prop)(x:dw)(f:an)(s:J):Prop:=
 match x with
 | .bb _=>False
 |_=>sl s Q (gb P f s a)
theorem cO (P:Se)(a:Si ResultVar)(Q:Sf->J->Prop)(f:an)(s:J):eW P a Q .bF f s=sl s Q (gb P f s a):=rfl
theorem wu (P:Se)(a:Si ResultVar)(Q:Sf->J->Prop)(f:an)(s:J):eW P a Q .b2 f s=sl s Q (gb P f s a):=rfl
theorem DF (s:J)(Q:Sf->J->Prop)(l:Si Sf):sl s Q (some l)=Q (b6 l) s:=rfl
theorem Runs.M1 {P:Se}{c:bg}{g:SN}{b:Si Sf}{s:J}{Q:Sf->J->Prop}{a:Func}{d:SD}(f:P.funcs[g]?=some a)(i:a.body=some d)(j:c.M g=none)(k:Sw (b.length+(a.ntmps-b.length)) 16000000=true)
  (h:aZ P c d (m4 a b) s (eW P a.results.toList Q)):Runs P c g b s Q:=by
 intro l;have⟨x,n,e,⟨o,d⟩,p,h⟩:=h l;have l:∀m,gb P n e a.results.toList=some m->Q (b6 m) e->(x= .b2\/x= .bF)->∃v a,(∃q,∀n,q<=n->kz P c n g b s=some (v,a))/\ca s a/\Q v a:=by
  intro b a c g;refine⟨b6 b,e,⟨o,fun m b=> ?_⟩,p,c⟩;have d:=d m b;rcases g with rfl|rfl
  ·simp only[kz,ld,j,f,i,k,d,a]
  simp only[kz,ld,j,f,i,k,d,a]
 cases x with
 |bb a=>exact h.elim
 |b2=>
  simp only[eW,sl] at h;split at h
  ·exact l _ ‹_› h (.inl rfl)
  exact h.elim
 |bF=>
  simp only[eW,sl] at h;split at h
  ·exact l _ ‹_› h (.inr rfl)
  exact h.elim
theorem cx (f:an)(t u:Sj)(v:Sf):(f.u t v).N u=if t=u then v else f.N u:=by
 by_cases h:t=u
 ·subst h;simp only[an.N,an.u,a5.gR _ _ _ _ (hq Z),SG]
 simp only[an.N,an.u,a5.hp _ _ _ _ _ h,SC h]
theorem dG (f:an)(t:Sj)(v:Sf):(f.u t v).e=f.e:=rfl
theorem M3 (b:Func)(a:Si Sf):(m4 b a).e=a.length+(b.ntmps-a.length):=rfl
theorem M4 (b:Func)(a:Si Sf)(t:Sj):(m4 b a).N t=a.getD t undef:=by
 simp only[m4,an.N,C0 a .al 0 t Z,Nat.zero_le,true_and,Nat.zero_add,Nat.sub_zero];by_cases h:t<a.length
 ·simp only[SG h]
 simp only[SC h,a5.N];simp[S0,List.getElem?_eq_none (Nat.le_of_not_lt h)]
theorem zg (f:an)(t:Tmp):ba f (.tmp t)=if t<f.e then some (f.N t) else none:=by
 unfold ba;by_cases h:t<f.e
 ·have a:Ss t f.e=true:=by simpa [Sm] using h
  simp only[a,Sn,SG h]
 have a:Ss t f.e=false:=by rw[<-So,Sm];exact h
 simp[a,SC h]
theorem DG (f:an)(b:SB):ba f (.const (.bool b))=some (.bool b):=rfl
theorem DH (f:an)(k:Sx)(n:S4):ba f (.const (.int k n))=some (.int k n):=rfl
theorem DI (f:an)(b:ByteArray):ba f (.const (.string b))=some (.string b):=rfl
theorem DJ (f:an):ba f (.const (av))=some (av):=rfl
theorem DK (f:an):ba f (.const (.pointer none))=some (.pointer none):=rfl
theorem DL (f:an):ba f (.const (.map none))=some (.map none):=rfl
theorem DM (f:an)(g:SN):ba f (.func g)=some (.func (.func g) #[] #[]):=rfl
theorem Runs.dY {P:Se}{c:bg}{g:SN}{a:Si Sf}{s:J}{Q:Sf->J->Prop}{b:Func}{e:SD}(d:Sj)(i:P.funcs[g]?=some b)(j:b.body=some e)(k:c.M g=none)(h:a.length+(b.ntmps-a.length)=d)(l:Sw d 16000000=true)
  (m:∀f:an,f.e=d->(∀t,f.N t=a.getD t undef)->dk P c e f s (eW P b.results.toList Q)):Runs P c g a s Q:=
 Runs.M1 i j k (by rw[h];exact l) (DC _ _ _ _ (m _ (by rw[M3,h]) (M4 b a)))
section
variable (P:Se) (f:an) (s:J) (d:Sl Tmp) (ty:Sh) (ps:String) (af:Sr Edge) (gd:Sl (Sj×SB))
theorem DN (x:Sg):a4 P ⟨d,.move x,ty,ps,af,gd⟩ f s=dE s (ba f x):=rfl
theorem DO (x:Sg):a4 P ⟨d,.assign x,ty,ps,af,gd⟩ f s=dE s (ba f x):=rfl
theorem zh (c a b:Sg):a4 P ⟨d,.pick c a b,ty,ps,af,gd⟩ f s=match ba f c,ba f a,ba f b with
  |some (.bool t),some u,some v=>some (.a8 (if t then u else v) s)
  |_,_,_=>none:=rfl
theorem DP (e:Sh):a4 P ⟨d,.alloc e,ty,ps,af,gd⟩ f s=match bK P e with
  |some z=>if cp z then dL (iA s z.cells.toList (vE P e)) else none
  |none=>none:=rfl
theorem DQ (e:Sh)(x:Sg):a4 P ⟨d,.box e x,ty,ps,af,gd⟩ f s=match ba f x with
  |some v=>dL (iA s v.cells.toList (vE P e))
  |none=>none:=rfl
theorem zi (t:Sh)(q:Sr (Sj×Sg)):a4 P ⟨d,.build t q,ty,ps,af,gd⟩ f s=match bC f q.toList with
  |some l=>dE s (cP P t l)
  |none=>none:=rfl
theorem DR (t:Sh)(n:Sj)(q:Sr (Sj×Sg)):a4 P ⟨d,.buildSlice t n q,ty,ps,af,gd⟩ f s=match bC f q.toList with
  |some l=>dL (dj P s t n l)
  |none=>none:=rfl
theorem zj (t:Sh)(x:Sg):a4 P ⟨d,.load t x,ty,ps,af,gd⟩ f s=match ba f x with
  |some a=>dE s (aD P s t a)
  |none=>none:=rfl
theorem DS (t:Sh)(x y:Sg):a4 P ⟨d,.store t x y,ty,ps,af,gd⟩ f s=match ba f x,ba f y with
  |some a,some v=>gu (fp P s t a v)
  |_,_=>none:=rfl
theorem zk (x:Sg):a4 P ⟨d,.nilCheck x,ty,ps,af,gd⟩ f s=match ba f x with
  |some (.pointer (some a))=>some (.a8 (.pointer (some a)) s)
  |some (.func (.func g) b c)=>some (.a8 (.func (.func g) b c) s)
  |_=>none:=rfl
theorem zl (a:BinOp)(t b:Sh)(x y:Sg):a4 P ⟨d,.binOp a t x y b,ty,ps,af,gd⟩ f s=match ba f x,ba f y with
  |some u,some v=>dE s (bN P a t u v)
  |_,_=>none:=rfl
theorem zm (a:UnOp)(t:Sh)(x:Sg):a4 P ⟨d,.unOp a t x,ty,ps,af,gd⟩ f s=match ba f x with
  |some u=>dE s (qI a u)
  |none=>none:=rfl
theorem zn (a b:Sh)(x:Sg):a4 P ⟨d,.convert a b x,ty,ps,af,gd⟩ f s=match ba f x with
  |some u=>dL (fM P s a b u)
  |none=>none:=rfl
theorem DT (t:Sh):a4 P ⟨d,.makeMap t none,ty,ps,af,gd⟩ f s=some (.a8 (.map (some s.Y)) (s.x (.cv []))):=rfl
theorem DU (t:Sh)(x y:Sg):a4 P ⟨d,.makeSlice t x y,ty,ps,af,gd⟩ f s=match ba f x,ba f y with
  |some u,some v=>dL (iU P s t u v)
  |_,_=>none:=rfl
theorem zo (t:Sh)(x:Sg)(a b c:Sl Sg):a4 P ⟨d,.slice t x a b c,ty,ps,af,gd⟩ f s=match ba f x,eU f a,eU f b,eU f c with
  |some u,some l,some h,some m=>dE s (fN P s t u l h m)
  |_,_,_,_=>none:=rfl
theorem zp (t:Sh)(x:Sg)(i:Sj):a4 P ⟨d,.fieldAddr t x i,ty,ps,af,gd⟩ f s=match ba f x with
  |some u=>dE s (aY P t u i)
  |none=>none:=rfl
theorem zq (t:Sh)(x:Sg)(i:Sj):a4 P ⟨d,.field t x i,ty,ps,af,gd⟩ f s=match ba f x with
  |some u=>dE s (tC P t u i)
  |none=>none:=rfl
theorem zr (t:Sh)(x y:Sg):a4 P ⟨d,.indexAddr t x y,ty,ps,af,gd⟩ f s=match ba f x,ba f y with
  |some u,some v=>dE s (eM P t u v)
  |_,_=>none:=rfl
theorem zs (t:Sh)(x y:Sg):a4 P ⟨d,.index t x y,ty,ps,af,gd⟩ f s=match ba f x,ba f y with
  |some u,some v=>dE s (tB P t u v)
  |_,_=>none:=rfl
theorem DV (t:Sh)(x y:Sg)(a:SB):a4 P ⟨d,.lookup t x y a,ty,ps,af,gd⟩ f s=match ba f x,ba f y with
  |some u,some v=>dE s (m0 P s t u v a)
  |_,_=>none:=rfl
theorem DW (t:Sh)(x y z:Sg):a4 P ⟨d,.mapUpdate t x y z,ty,ps,af,gd⟩ f s=match ba f x,ba f y,ba f z with
  |some m,some k,some v=>gu (m1 P s t m k v)
  |_,_,_=>none:=rfl
theorem zt (x:Sg)(i:Sj):a4 P ⟨d,.extract x i,ty,ps,af,gd⟩ f s=match ba f x with
  |some u=>dE s (bm u i)
  |none=>none:=rfl
theorem DX (x:Sg)(a:Sr Sg)(b:Sr Sh):a4 P ⟨d,.call ⟨.value x,a,b⟩,ty,ps,af,gd⟩ f s=match bB f a.toList with
  |some l=>match ba f x with
   |some (.func (.func g) c e)=>some (.jY g (c.toList++l++e.toList))
   |_=>none
  |none=>none:=rfl
theorem wv (b:Builtin)(a:Sr Sg)(c:Sr Sh):a4 P ⟨d,.call ⟨.builtin b,a,c⟩,ty,ps,af,gd⟩ f s=match bB f a.toList with
  |some l=>pG P s b c.toList l
  |none=>none:=rfl
theorem zu (a:Si Sk)(b:Op):ff a ⟨d,b,ty,ps,af,none⟩ f=true:=rfl
theorem DY (a:Si Sk)(b:Op)(j:Sj)(w:SB):ff a ⟨d,b,ty,ps,af,some (j,w)⟩ f=match oA a f j with
  |some c=>c==w
  |none=>false:=rfl
def zw (f:an):Si Sk->Sl SB
 |o::_=>
  match o.dst with
  |some d=>if d<f.e then(match f.N d with
   | .bool b=>some b
   |_=>none) else none
  |none=>none
 |[]=>none
theorem DZ (a:Si Sk)(j:Sj):oA a f j=zw f (a.drop j):=by
 unfold oA zw;cases a.drop j with
 |nil=>rfl
 |cons o r=>
  simp only;cases o.dst with
  |none=>rfl
  |some d=>
   simp only;by_cases a:d<f.e
   ·have b:Ss d f.e=true:=by simpa [Sm] using a
    simp only[b,Sn,SG a];cases f.N d<;>rfl
   have b:Ss d f.e=false:=by rw[<-So,Sm];exact a
   simp[b,SC a]
theorem D0 (t:Tmp)(a:Op)(r:Si Sk):zw f (⟨some t,a,ty,ps,af,gd⟩::r)=if t<f.e then(match f.N t with
    | .bool b=>some b
    |_=>none) else none:=rfl
end
theorem eP (a:Sr Sf):(Value.agg a).cells=a:=rfl
theorem wx (s:J)(v:Sf):dE s (some v)=some (.a8 v s):=rfl
theorem lj (v:Sf)(s:J):dL (some (v,s))=some (.a8 v s):=rfl
theorem lV (s:J):gu (some s)=some (.a8 undef s):=rfl
theorem pM (P:Se)(s:J)(t:Sh)(x:Sf):pG P s .len [t] [x]=dE s (cd P s t x):=rfl
theorem zx (P:Se)(s:J)(t u:Sh)(x y:Sf):pG P s .append [t,u] [x,y]=dL (gQ P s t u x y):=rfl
theorem D1 (P:Se)(s:J)(t u:Sh)(k:Sx)(x y:S4):pG P s .max [t,u] [.int k x,.int k y]=some (.a8 (.int k (if y>x then y else x)) s):=rfl
section
variable (P:Se) (d:Sl Tmp) (ty:Sh) (ps:String) (af:Sr Edge) (gd:Sl (Sj×SB))
theorem D2:na P []=true:=rfl
theorem D3 (o:Sk)(r:Si Sk):na P (o::r)=(bU P o&&na P r):=rfl
theorem D4 (x:Sg):bU P ⟨d,.move x,ty,ps,af,gd⟩=true:=rfl
theorem D5 (x:Sg):bU P ⟨d,.assign x,ty,ps,af,gd⟩=true:=rfl
theorem D6 (a b c:Sg):bU P ⟨d,.pick a b c,ty,ps,af,gd⟩=true:=rfl
theorem D7 (t:Sh)(x:Sg):bU P ⟨d,.load t x,ty,ps,af,gd⟩=true:=rfl
theorem D8 (x:Sg):bU P ⟨d,.nilCheck x,ty,ps,af,gd⟩=true:=rfl
theorem D9 (a:BinOp)(t b:Sh)(x y:Sg):bU P ⟨d,.binOp a t x y b,ty,ps,af,gd⟩=true:=rfl
theorem Ea (a:UnOp)(t:Sh)(x:Sg):bU P ⟨d,.unOp a t x,ty,ps,af,gd⟩=true:=rfl
theorem Eb (t:Sh)(x y:Sg):bU P ⟨d,.indexAddr t x y,ty,ps,af,gd⟩=true:=rfl
theorem Ec (t:Sh)(x y:Sg):bU P ⟨d,.index t x y,ty,ps,af,gd⟩=true:=rfl
theorem Ed (t:Sh)(x:Sg)(i:Sj):bU P ⟨d,.fieldAddr t x i,ty,ps,af,gd⟩=true:=rfl
theorem Ee (t:Sh)(x:Sg)(i:Sj):bU P ⟨d,.field t x i,ty,ps,af,gd⟩=true:=rfl
theorem Ef (t:Sh)(x:Sg)(l h m:Sl Sg):bU P ⟨d,.slice t x l h m,ty,ps,af,gd⟩=true:=rfl
theorem Eg (x:Sg)(i:Sj):bU P ⟨d,.extract x i,ty,ps,af,gd⟩=true:=rfl
theorem Eh (a:Sr Sg)(b:Sr Sh):bU P ⟨d,.call ⟨.builtin .len,a,b⟩,ty,ps,af,gd⟩=true:=rfl
theorem Ei (x:Sg)(a:Sr Sg)(b:Sr Sh):bU P ⟨d,.call ⟨.value x,a,b⟩,ty,ps,af,gd⟩=false:=rfl
theorem Ej (t:Sh)(n:Sj)(q:Sr (Sj×Sg)):bU P ⟨d,.buildSlice t n q,ty,ps,af,gd⟩=false:=rfl
theorem Ek (t:Sh)(q:Sr (Sj×Sg)):bU P ⟨d,.build t q,ty,ps,af,gd⟩=true:=rfl
theorem El (t:Sh)(x y:Sg):bU P ⟨d,.store t x y,ty,ps,af,gd⟩=false:=rfl
theorem Em (t:Sh)(x:Sg):bU P ⟨d,.box t x,ty,ps,af,gd⟩=false:=rfl
theorem En (t:Sh):bU P ⟨d,.alloc t,ty,ps,af,gd⟩=false:=rfl
theorem Eo (t:Sh)(x y:Sg):bU P ⟨d,.makeSlice t x y,ty,ps,af,gd⟩=false:=rfl
theorem Ep (a:Sr Sg)(b:Sr Sh):bU P ⟨d,.call ⟨.builtin .append,a,b⟩,ty,ps,af,gd⟩=false:=rfl
theorem Er (a:Sr Sg)(b:Sr Sh):bU P ⟨d,.call ⟨.builtin .copy,a,b⟩,ty,ps,af,gd⟩=false:=rfl
theorem Es (a:Sr Sg)(b:Sr Sh):bU P ⟨d,.call ⟨.builtin .max,a,b⟩,ty,ps,af,gd⟩=true:=rfl
theorem Et (t:Sh)(n:Sj)(q:Sr (Sj×Sg)):bQ P ⟨d,.buildSlice t n q,ty,ps,af,gd⟩=true:=rfl
theorem Eu (t:Sh)(x y:Sg):bQ P ⟨d,.store t x y,ty,ps,af,gd⟩=false:=rfl
theorem Ev (t:Sh)(x:Sg):bQ P ⟨d,.box t x,ty,ps,af,gd⟩=true:=rfl
theorem Ew (t:Sh):bQ P ⟨d,.alloc t,ty,ps,af,gd⟩=true:=rfl
theorem Ex (t:Sh)(x y:Sg):bQ P ⟨d,.makeSlice t x y,ty,ps,af,gd⟩=true:=rfl
theorem Ey (c:Go.Call):bQ P ⟨d,.call c,ty,ps,af,gd⟩=false:=rfl
theorem Ez (a b:Sh)(x:Sg):bQ P ⟨d,.convert a b x,ty,ps,af,gd⟩=m2 P a b:=rfl
theorem EA (x:Sg):bQ P ⟨d,.move x,ty,ps,af,gd⟩=false:=rfl
theorem EB (x:Sg):bQ P ⟨d,.assign x,ty,ps,af,gd⟩=false:=rfl
theorem EC (a b c:Sg):bQ P ⟨d,.pick a b c,ty,ps,af,gd⟩=false:=rfl
theorem ED (t:Sh)(x:Sg):bQ P ⟨d,.load t x,ty,ps,af,gd⟩=false:=rfl
theorem EE (x:Sg):bQ P ⟨d,.nilCheck x,ty,ps,af,gd⟩=false:=rfl
theorem EF (a:BinOp)(t b:Sh)(x y:Sg):bQ P ⟨d,.binOp a t x y b,ty,ps,af,gd⟩=false:=rfl
theorem EG (a:UnOp)(t:Sh)(x:Sg):bQ P ⟨d,.unOp a t x,ty,ps,af,gd⟩=false:=rfl
theorem EH (t:Sh)(x y:Sg):bQ P ⟨d,.indexAddr t x y,ty,ps,af,gd⟩=false:=rfl
theorem EI (t:Sh)(x y:Sg):bQ P ⟨d,.index t x y,ty,ps,af,gd⟩=false:=rfl
theorem EJ (t:Sh)(x:Sg)(i:Sj):bQ P ⟨d,.fieldAddr t x i,ty,ps,af,gd⟩=false:=rfl
theorem EK (t:Sh)(x:Sg)(i:Sj):bQ P ⟨d,.field t x i,ty,ps,af,gd⟩=false:=rfl
theorem EL (t:Sh)(x:Sg)(l h m:Sl Sg):bQ P ⟨d,.slice t x l h m,ty,ps,af,gd⟩=false:=rfl
theorem EM (x:Sg)(i:Sj):bQ P ⟨d,.extract x i,ty,ps,af,gd⟩=false:=rfl
theorem EN (a b:Sh)(x:Sg):bU P ⟨d,.convert a b x,ty,ps,af,gd⟩=match P.underlying b with
  |some (.slice _)=>false
  |_=>true:=rfl
end
theorem EO (P:Se)(f:an)(s:J):gb P f s []=some []:=rfl
theorem EP (P:Se)(f:an)(s:J)(t:Tmp)(r:Si ResultVar):gb P f s (.tmp t::r)=if t<f.e then(match gb P f s r with
  |some l=>some (f.N t::l)
  |none=>none) else none:=by
 by_cases h:t<f.e
 ·have a:Ss t f.e=true:=by simpa [Sm] using h
  rw[SG h]
  conv=>lhs;rw[gb]
  simp only[a,Sn];rfl
 have a:Ss t f.e=false:=by rw[<-So,Sm];exact h
 rw[SC h]
 conv=>lhs;rw[gb]
 simp[a]
section
variable (P:Se) (t:Sh) (k:Sx) (a b:S4)
theorem ER:bN P .add t (.int k a) (.int k b)=some (.int k (k.wrap (a+b))):=by simp[bN,h7]
theorem ES:bN P .sub t (.int k a) (.int k b)=some (.int k (k.wrap (a-b))):=by simp[bN,h7]
theorem ET:bN P .mul t (.int k a) (.int k b)=some (.int k (k.wrap (a*b))):=by simp[bN,h7]
theorem kI (h:b≠0):bN P .quo t (.int k a) (.int k b)=some (.int k (k.wrap (a.tdiv b))):=by simp[bN,h7,h]
theorem gy (h:b≠0):bN P .rem t (.int k a) (.int k b)=some (.int k (a.tmod b)):=by simp[bN,h7,h]
theorem jc:bN P .and t (.int k a) (.int k b)=some (.int k (k.wrap (SA k.bits a&&&SA k.bits b).toNat)):=by simp[bN,h7]
theorem j4:bN P .or t (.int k a) (.int k b)=some (.int k (k.wrap (SA k.bits a|||SA k.bits b).toNat)):=by simp[bN,h7]
theorem wy:bN P .xor t (.int k a) (.int k b)=some (.int k (k.wrap (SA k.bits a^^^SA k.bits b).toNat)):=by simp[bN,h7]
theorem oI:bN P .eql t (.int k a) (.int k b)=some (.bool (decide (a=b))):=by simp[bN,h7];rfl
theorem eQ:bN P .neq t (.int k a) (.int k b)=some (.bool (decide (a≠b))):=by
 simp only[bN,h7,Sn];by_cases h:a=b<;>simp[h]
theorem EU:bN P .lss t (.int k a) (.int k b)=some (.bool (decide (a<b))):=by simp[bN,h7]
theorem EV:bN P .leq t (.int k a) (.int k b)=some (.bool (decide (a<=b))):=by simp[bN,h7]
theorem EW:bN P .gtr t (.int k a) (.int k b)=some (.bool (decide (b<a))):=by simp[bN,h7]
theorem EX:bN P .geq t (.int k a) (.int k b)=some (.bool (decide (b<=a))):=by simp[bN,h7]
theorem pN (c:Sx)(h:0<=b):bN P .shl t (.int k a) (.int c b)=some (.int k (k.wrap (a*2^(min b.toNat k.bits)))):=by simp[bN,r3];omega
theorem nc (c:Sx)(h:0<=b):bN P .shr t (.int k a) (.int c b)=some (.int k (a.fdiv (2^(min b.toNat k.bits)))):=by simp[bN,r3];omega
theorem EY (x:SB):qI .not (.bool x)=some (.bool (!x)):=rfl
theorem EZ:qI .neg (.int k a)=some (.int k (k.wrap (0-a))):=rfl
end
theorem cg {x:S4}(h: -9223372036854775808<=x/\x<=9223372036854775807):IntKind.i64.wrap x=x:=by
 have a:IntKind.i64.bits=64:=rfl;have b:IntKind.i64.signed=true:=rfl;simp only[IntKind.wrap,a,b,SI];split<;>simp_all<;>omega
theorem gz {x:S4}:IntKind.u8.wrap x=x%256:=by
 have a:IntKind.u8.bits=8:=rfl;have b:IntKind.u8.signed=false:=rfl;simp only[IntKind.wrap,a,b,Bool.false_and];simp
theorem gU {P:Se}{s:J}{a b:Sh}{k j:Sx}{d:TypeDesc}{n:S4}(c:P.underlying a=some d)(e:P.underlying b=some (.int k)):fM P s a b (.int j n)=some (.int k (k.wrap n),s):=by
 unfold fM;rw[c,e]
theorem E0 (b:SB):bn (.bool b) (.bool b)=true:=by simp[bn,b9]
theorem ez (k:Sx)(n:S4):bn (.int k n) (.int k n)=true:=by simp[bn,b9]
theorem E1 (b:ByteArray):bn (.string b) (.string b)=true:=by simp[bn,b9]
theorem wz (a:Sl Addr):bn (.pointer a) (.pointer a)=true:=by simp[bn,b9]
theorem wA (a:Sl Addr)(n c:Sj):bn (.slice a n c) (.slice a n c)=true:=by
 simp only[bn,b9,Sn,SI,Su];exact⟨S1 n,S1 c⟩
structure ad (base:Sj) (s s' :J):Prop where
 Y:s.Y<=s'.Y
 N:∀i,i<base->s'.i.N i=s.i.N i
theorem ad.p (a:Sj)(s:J):ad a s s:=⟨Sz _,fun _ _=>rfl⟩
theorem ad.a {a:Sj}{s b c:J}(h:ad a s b)(k:ad a b c):ad a s c:=⟨Nat.le_trans h.Y k.Y,fun i d=>(k.N i d).trans (h.N i d)⟩
theorem ad.q {a b:Sj}{s c:J}(h:ad a s c)(d:b<=a):ad b s c:=⟨h.Y,fun i e=>h.N i Z⟩
theorem ad.bl {a:Sj}{s b:J}(h:ad a s b){i:Sj}(c:i<a):b.t i=s.t i:=by simp only[J.t,h.N i c]
theorem ad.x (s:J)(o:dK):ad s.Y s (s.x o):=by
 refine⟨by simp[J.x],fun i a=> ?_⟩;simp only[J.x,a5.hp _ _ _ _ _ (Nat.ne_of_gt a)]
theorem sm (s:J)(b:cF):(s.x (.bl b)).t s.Y=some b:=by simp only[J.x,J.t,a5.gR _ _ _ _ (hq Z)]
theorem sn (s:J)(o:dK):(s.x o).Y=s.Y+1:=rfl
inductive az (s:J) (z:Sj):Sf->Sj->Si Sf->Prop
 |al:az s z (av) 0 []
 |cI (i off:Sj):az s z (.slice (some ⟨i,off,none⟩) 0 0) 0 []
 |bu (i off n c:Sj) (b:cF) (l:Si Sf) (hi:i<s.Y) (hb:s.t i=some b) (hz:b.ju=z) (hl:b.bT<=c) (hc:c<=b.aJ.length+1)
  (hlen:l.length=n*z) (lM:off+n*z<c) (ht:(b.aJ.drop off).take (n*z)=l):az s z (.slice (some ⟨i,off,none⟩) n c) n l
theorem az.length {s:J}{z:Sj}{v:Sf}{n:Sj}{l:Si Sf}(h:az s z v n l):l.length=n*z:=by
 cases h with
 |al=>simp
 |cI=>simp
 |bu i b n c d l e f g h j a k m=>exact a
theorem az.C {s a:J}{z:Sj}{v:Sf}{n:Sj}{l:Si Sf}(h:az s z v n l)(k:ad s.Y s a):az a z v n l:=by
 cases h with
 |al=>exact .al
 |cI=>exact .cI _ _
 |bu i c n d e l b f g j m o p q=>exact .bu i c n d e l (Sy b k.Y) ((k.bl b).trans f) g j m o p q
theorem az.cd {P:Se}{t e:Sh}(b:P.underlying t=some (.slice e)){s a:J}{z:Sj}{v:Sf}{n:Sj}{l:Si Sf}(h:az s z v n l):Cl.cd P a t v=some (I n):=by
 unfold Cl.cd;rw[b]
 cases h<;>rfl
def bM (z:Sj)(v:Sf)(k:Sj):Sf:=
 match v with
 | .slice (some ⟨i,a,none⟩) _ c=>ab i (a+k*z) c
 |_=> .pointer none
theorem nd {s:J}{i a c n:Sj}{b:cF}(d:s.t i=some b)(e:b.bT<=c)(f:c<=b.aJ.length+1)(g:a+n<c):s.fL i a c n=some ((b.aJ.drop a).take n):=by
 unfold J.fL;rw[d];have d:(Sw b.bT c&&Sw c (b.aJ.length+1)&&Ss (a+n) c)=true:=by
  simp only[Su,SU,Sm];exact⟨⟨e,f⟩,g⟩
 simp only[d,Sn];rw[tJ,vL,SG (by simp;omega)]
theorem az.r {P:Se}{t e:Sh}{z:Sj}(a:P.underlying t=some (.slice e))(b:bc P e=some z){s:J}{v:Sf}{n:Sj}{l:Si Sf}(h:az s z v n l){k:Sx}{x:S4}(c:0<=x)(d:x<n):
  eM P t v (.int k x)=some (bM z v x.toNat):=by
 obtain⟨y,rfl⟩:∃c:Sj,x=c:=⟨x.toNat,Z⟩
 unfold eM;rw[a]
 cases h with
 |al=>omega
 |cI=>omega
 |bu i a d c f l g h j m o p q r=>
  have d:Ss y n=true:=by simpa [Sm] using(Z:y<n)
  show(match bc P e with|some z=>if Ss y n then some (Value.pointer (some ⟨i,a+y*z,some c⟩)) else none|none=>none)=_;rw[b];simp only[d,Sn,bM,Int.toNat_natCast]
theorem az.aJ {s:J}{z:Sj}{v:Sf}{n:Sj}{l:Si Sf}(h:az s z v n l){k:Sj}(b:k<n):∃i a c,bM z v k=ab i a c/\s.fL i a c z=some ((l.drop (k*z)).take z):=by
 cases h with
 |al=>omega
 |cI=>omega
 |bu a c j d l m o e p f g q r h=>
  have j:k*z+z<=n*z:=by
   have:(k+1)*z<=n*z:=SH z b
   rwa [Nat.succ_mul] at this
  refine⟨a,c+k*z,d,rfl,?_⟩;rw[nd e f g Z,<-h,SV,SW,SX]
  congr 2
  omega
theorem az.P {P:Se}{e:Sh}(a:c3 P e=some false){s:J}{v:Sf}{n:Sj}{l:Si Sf}(h:az s 1 v n l){k:Sj}(b:k<n):aD P s e (bM 1 v k)=some (l.getD k undef):=by
 have⟨i,e,f,c,d⟩:=h.aJ b;have b:=h.length;rw[c];unfold aD;simp only[a,d];have:(l.drop (k*1)).take 1=[l.getD k undef]:=by
  rw[SR,List.take_one,List.head?_drop,Sv Z];simp[S0,Sv (show k<l.length from Z)]
 rw[this]
theorem az.dm {P:Se}{e:Sh}{z:Sj}(a:c3 P e=some true)(b:bc P e=some z){s:J}{v:Sf}{n:Sj}{l:Si Sf}(h:az s z v n l){k:Sj}(c:k<n):aD P s e (bM z v k)=some (.agg ((l.drop (k*z)).take z).toArray):=by
 have⟨i,f,g,d,e⟩:=h.aJ c;rw[d];unfold aD;simp only[a,b,e]
def cU (z:Sj)(v:Sf)(a b:Sj):Sf:=
 match v with
 | .slice (some ⟨i,c,none⟩) _ d=> .slice (some ⟨i,c+a*z,none⟩) (b-a) d
 |_=>av
theorem az.nP {d:J}{c:Sj}{v:Sf}{n:Sj}{l:Si Sf}(h:az d c v n l){a b:Sj}(w:a<=b)(x:b<=n):az d c (cU c v a b) (b-a) ((l.drop (a*c)).take ((b-a)*c)):=by
 cases h with
 |al=>obtain rfl:b=0:=Z
      obtain rfl:a=0:=Z
      simpa [cU] using(az.al (s:=d) (z:=c))
 |cI i e=>obtain rfl:b=0:=Z
          obtain rfl:a=0:=Z
          simpa [cU] using(az.cI (s:=d) (z:=c) i (e+0*c))
 |bu f g y j k A m o p q r t B u=>
  have D:a*c+(b-a)*c<=n*c:=by
   rw[<-S2];exact SH c Z
  refine .bu f (g+a*c) (b-a) j k _ m o p q r ?_ Z ?_
  ·rw[SO,SP,t];omega
  rw[<-u,SV,SW,SX]
  congr 1
  omega
theorem az.e4 {P:Se}{t g:Sh}{z:Sj}(c:P.underlying t=some (.slice g))(d:bc P g=some z){s:J}{v:Sf}{n:Sj}{l:Si Sf}(j:az s z v n l){h i:Sl Sf}{a b:Sj}
  (e:h8 h 0=some a) (f:h8 i n=some b) (k:a<=b) (m:b<=n):fN P s t v h i none=some (cU z v a b):=by
 have g:(Sw a b&&Sw b n)=true:=by simp only[Su,SU];exact⟨k,m⟩
 cases j with
 |al=>unfold fN;rw[c];simp only[e,f,d,g,Sn,cU]
 |cI i a=>
  unfold fN;rw[c];simp only[e,f,d,g,Sn,jV,cU]
 |bu i j n a k l m b h o p q r t=>
  have j:jV s i a z=true:=by
   unfold jV;split
   ·rfl
   rw[b];simp[h]
  unfold fN;rw[c];simp only[e,f,d,g,Sn,j,cU]
theorem q5 (d:Sj):h8 none d=some d:=rfl
theorem wB {k:Sx}{x:S4}{d:Sj}(h:0<=x):h8 (some (.int k x)) d=some x.toNat:=by
 obtain⟨a,rfl⟩:∃y:Sj,x=y:=⟨x.toNat,Z⟩
 rfl
theorem az.X {s:J}{z:Sj}{v:Sf}{n:Sj}{l:Si Sf}(h:az s z v n l):iB s z v=some (n,l):=by
 cases h with
 |al=>rfl
 |cI=>rfl
 |bu i g h j k m o a p b c d e f=>
  cases n with
  |zero=>
   have:l=[]:=St (by simpa using d);subst this;rfl
  |succ n=>
   simp only[iB];rw[nd a b c e,f]
inductive ao (s:J) (z:Sj):Sf->Sj->Si Sf->Prop
 |al:ao s z (av) 0 []
 |bu (i n low:Sj) (l:Si Sf) (hi:i<s.Y) (hb:s.t i=some ⟨l,low,true,z⟩) (hl:low<=l.length+1) (hlen:l.length=n*z):ao s z (.slice (some ⟨i,0,none⟩) n (l.length+1)) n l
def ak:Sf->Sl Sj
 | .slice (some a) _ _=>some a.block
 | .pointer (some a)=>some a.block
 |_=>none
def ay (a:Sj)(v:Sf):Prop:=∀i,ak v=some i->a<=i
theorem ay.al (a:Sj):ay a (av):=fun i h=>by cases h
theorem ao.c {s:J}{z:Sj}{v:Sf}{n:Sj}{l:Si Sf}(h:ao s z v n l):az s z v n l:=by
 cases h with
 |al=>exact .al
 |bu i e f g b c d a=>exact .bu i 0 n _ _ l b c rfl d (Sz _) a Z (by simp[<-a])
theorem ao.length {s:J}{z:Sj}{v:Sf}{n:Sj}{l:Si Sf}(h:ao s z v n l):l.length=n*z:=h.c.length
theorem ao.C {s a:J}{z:Sj}{v:Sf}{n:Sj}{l:Si Sf}(h:ao s z v n l)(k:ad s.Y s a):ao a z v n l:=by
 cases h with
 |al=>exact .al
 |bu i n c l b d e f=>exact .bu i n c l (Sy b k.Y) ((k.bl b).trans d) e f
structure aF (v:Sf) (s s' :J):Prop where
 Y:s.Y<=s'.Y
 N:∀i,i<s.Y->ak v≠some i->s'.i.N i=s.i.N i
theorem aF.C {a:Sj}{v:Sf}{s b:J}(h:aF v s b)(c:ay a v)(d:a<=s.Y):ad a s b:=
 ⟨h.Y,fun i f=>h.N i Z (fun e=>ag (c i e))⟩
theorem ao.j {s a:J}{z:Sj}{v u:Sf}{n:Sj}{l:Si Sf}(h:ao s z v n l)(k:aF u s a)(c:∀i,ak v=some i->ak u≠some i):ao a z v n l:=by
 cases h with
 |al=>exact .al
 |bu i n d l b e f g=>
  refine .bu i n d l (Sy b k.Y) ?_ f g;simp only[J.t,k.N i b (c i rfl)];exact e
theorem ao.x {s:J}{a:Si Sf}{n z:Sj}(h:a.length=n*z):cL s a n z=some (.slice (some ⟨s.Y,0,none⟩) n (a.length+1),s.x (.bl ⟨a,1,true,z⟩))/\ao (s.x (.bl ⟨a,1,true,z⟩)) z (.slice (some ⟨s.Y,0,none⟩) n (a.length+1)) n a:=by
 refine⟨by simp[cL,J.bE],.bu s.Y n 1 a (by rw[sn];omega) (sm _ _) Z h⟩
theorem ao.hQ {P:Se}{E F e:Sh}{f:TypeDesc}{z g:Sj}{h:Sf}(o:P.underlying E=some (.slice e))(p:P.underlying F=some f)(j:(∃c,f= .slice c)\/f= .string)(q:bc P e=some z)(r:e2 P e=some g)(t:bK P e=some h)(H:SF h.cells.toList.length z=true)
  {a:J} {x y:Sf} {n m:Sj} {l b:Si Sf} (u:ao a z x n l) (d:iB a z y=some (m,b)) (v:b.length=m*z) (K:0<z) (L:b.all aN=true) (M:(n+m)*g<=140737488355328) (O:n+m<=140737488355328):
  ∃k w,gQ P a E F x y=some (k,w)/\ao w z k (n+m) (l++b)/\aF x a w/\(ak k=ak x\/∃i,ak k=some i/\a.Y<=i):=by
 have d:mm a z g h f y=some (m,b):=by rcases j with ⟨c,rfl⟩|rfl<;>exact d
 have A:(Sw ((n+m)*g) 140737488355328&&Sw (n+m) 140737488355328&&Ss 0 z&&b.all aN&&SF h.cells.toList.length z)=true:=by
  simp only[Su,SU,Sm];exact⟨⟨⟨⟨M,O⟩,K⟩,L⟩,H⟩
 cases m with
 |zero=>
  have Q:b=[]:=St (by simpa using v);subst Q;refine⟨x,a,?_,by simpa using u,⟨Sz _,fun _ _ _=>rfl⟩,.inl rfl⟩;unfold gQ;rcases j with ⟨c,rfl⟩|rfl<;>
  simp only[o,p,q,r,t,d]
  all_goals (cases u<;>simp only[A,Sn])
 |succ m=>
  cases u with
  |al=>
   have⟨R,S⟩:=ao.x (s:=a) v;refine⟨_,_,?_,by simpa using S,⟨by rw[sn];omega,fun i B _=>(ad.x a _).N i B⟩,.inr ⟨a.Y,rfl,Sz _⟩⟩;unfold gQ;rcases j with ⟨c,rfl⟩|rfl<;>
   simp only[o,p,q,r,t,d,A,Sn,R]
   all_goals simp
  |bu i n D l B T U G=>
   refine⟨.slice (some ⟨i,0,none⟩) (n+(m+1)) ((l++b).length+1),a.u i (.bl ⟨l++b,D,true,z⟩),?_,?_,⟨by simp[J.u],fun X _ W=> ?_⟩,.inl rfl⟩
   ·unfold gQ;rcases j with ⟨c,rfl⟩|rfl<;>
    simp only[o,p,q,r,t,d,A,Sn,T,(show(true&&Sw D (l.length+1)&&SF z z)=true by simp[U]),(show(SF (l.length+1) (l.length+1)&&SF 0 0&&SF (n*z) l.length)=true by simp[G])]
   ·refine .bu i _ D _ (by simpa [J.u] using B) (by rw[J.kA _ _ _ Z]) (by rw[SJ];omega) (by rw[SJ,G,v,S2 n (m+1) z])
   rw[J.gS];intro e;subst e;exact W rfl
theorem pO (l:Si SL):(aM l).length=l.length:=by simp[aM]
theorem dn {l:Si SL}{i:Sj}(h:i<l.length):(aM l).getD i undef= .int .u8 ((l.getD i 0).toNat:S4):=by
 simp[aM,S0,Sv h]
theorem km (a b:Si SL):aM (a++b)=aM a++aM b:=by simp[aM]
theorem M5 (a:SL)(b:Si SL):aM (a::b)= .int .u8 (a.toNat:S4)::aM b:=rfl
theorem M6 (n:Sj)(l:Si SL):(aM l).take n=aM (l.take n):=by simp[aM,List.map_take]
theorem M7 (n:Sj)(l:Si SL):(aM l).drop n=aM (l.drop n):=by simp[aM,List.map_drop]
theorem ug (l:Si SL):(aM l).all aN=true:=by simp[aM,aN]
theorem lW (z:Sj)(v:Sf)(k:Sj):bn (bM z v k) (bM z v k)=true:=by
 unfold bM;split<;>exact wz _
theorem zy (z:Sj)(v:Sf)(a b:Sj):bn (cU z v a b) (cU z v a b)=true:=by
 unfold cU;split<;>exact wA _ _ _
theorem az.m {s:J}{z:Sj}{v:Sf}{n:Sj}{l:Si Sf}(h:az s z v n l):bn v v=true:=by
 cases h<;>exact wA _ _ _
theorem ao.m {s:J}{z:Sj}{v:Sf}{n:Sj}{l:Si Sf}(h:ao s z v n l):bn v v=true:=h.c.m
theorem az.E2 {P:Se}{t e:Sh}{z:Sj}(a:P.underlying t=some (.slice e))(b:bc P e=some z){s:J}{v:Sf}{n:Sj}{l:Si Sf}(h:az s z v n l){k c:Sx}{x y:S4}
  (d:0<=x) (f:x<=y) (g:y<=n):fN P s t v (some (.int k x)) (some (.int c y)) none=some (cU z v x.toNat y.toNat):=
 h.e4 a b (wB d) (wB Z) Z Z
theorem az.oJ {P:Se}{t e:Sh}{z:Sj}(a:P.underlying t=some (.slice e))(b:bc P e=some z){s:J}{v:Sf}{n:Sj}{l:Si Sf}(h:az s z v n l){k:Sx}{x:S4}
  (c:0<=x) (d:x<=n):fN P s t v (some (.int k x)) none none=some (cU z v x.toNat n):=
 h.e4 a b (wB c) rfl Z Z
theorem az.pP {P:Se}{t e:Sh}{z:Sj}(a:P.underlying t=some (.slice e))(b:bc P e=some z){s:J}{v:Sf}{n:Sj}{l:Si Sf}(h:az s z v n l){k:Sx}{y:S4}
  (c:0<=y) (d:y<=n):fN P s t v none (some (.int k y)) none=some (cU z v 0 y.toNat):=
 h.e4 a b rfl (wB Z) Z Z
theorem az.gA {s:J}{z:Sj}{v:Sf}{n:Sj}{l:Si Sf}(h:az s z v n l):v.cells.toList=[v]:=by cases h<;>rfl
theorem az.aN {s:J}{z:Sj}{v:Sf}{n:Sj}{l:Si Sf}(h:az s z v n l):Cl.aN v=true:=by cases h<;>rfl
theorem az.j {s b:J}{z:Sj}{v u:Sf}{n:Sj}{l:Si Sf}(h:az s z v n l)(k:aF u s b)(c:∀i,i<s.Y->ak v=some i->ak u≠some i):az b z v n l:=by
 cases h with
 |al=>exact .al
 |cI=>exact .cI _ _
 |bu i d n e f l a g j m o p q r=>
  refine .bu i d n e f l (Sy a k.Y) ?_ j m o p q r;simp only[J.t,k.N i a (c i a rfl)];exact g
theorem az.q6 {s:J}{v:Sf}{l:Si SL}(h:az s 1 v l.length (aM l)){a b:Sj}(c:a<=b)(d:b<=l.length):az s 1 (cU 1 v a b) ((l.drop a).take (b-a)).length (aM ((l.drop a).take (b-a))):=by
 have:=h.nP c d;rw[SR,SR,M7,M6] at this;rw[SO,SP,Nat.min_eq_left Z];exact this
structure acJ (x:Sf) (s:J) (v:Sf) (s' :J):Prop where
 j:aF x s s'
 jB:ak v=ak x\/∃i,ak v=some i/\s.Y<=i
theorem ao.z {s:J}{z:Sj}{v:Sf}{n:Sj}{l:Si Sf}(h:ao s z v n l):∀i,ak v=some i->i<s.Y:=by
 cases h with
 |al=>intro i h;cases h
 |bu i n b l a c d e=>intro j h;injection h with h;subst h;exact a
theorem kK {P:Se}{t e:Sh}(a:P.underlying t=some (.pointer e))(b:Addr):bN P .eql t (.pointer (some b)) (.pointer none)=some (.bool false):=by
 simp[bN,lO,a]
theorem M8 {P:Se}{t e:Sh}(a:P.underlying t=some (.pointer e))(b:Addr):bN P .neq t (.pointer (some b)) (.pointer none)=some (.bool true):=by
 simp[bN,lO,a]
def q7:Sf->SB
 | .slice none _ _=>true
 |_=>false
theorem az.uh {P:Se}{t e:Sh}(a:P.underlying t=some (.slice e)){s:J}{z:Sj}{v:Sf}{n:Sj}{l:Si Sf}(h:az s z v n l):bN P .eql t v (av)=some (.bool (q7 v)):=by
 cases h<;>simp[bN,lO,a,q7]
theorem az.zz {P:Se}{t e:Sh}(a:P.underlying t=some (.slice e)){s:J}{z:Sj}{v:Sf}{n:Sj}{l:Si Sf}(h:az s z v n l):bN P .neq t v (av)=some (.bool (!q7 v)):=by
 cases h<;>simp[bN,lO,a,q7]
theorem az.zA {s:J}{z:Sj}{v:Sf}{n:Sj}{l:Si Sf}(h:az s z v n l)(a:q7 v=true):n=0/\l=[]/\v=av:=by
 cases h with
 |al=>exact⟨rfl,rfl,rfl⟩
 |cI=>cases a
 |bu=>cases a
def kL (b:Sj)(s:J)(z:Sj)(v:Sf)(n:Sj)(l:Si Sf):Prop:=∀a,ad b s a->az a z v n l
theorem kL.c {a:Sj}{s:J}{z:Sj}{v:Sf}{n:Sj}{l:Si Sf}(h:kL a s z v n l):az s z v n l:=h s (ad.p _ _)
theorem kL.A {a:Sj}{s b:J}{z:Sj}{v:Sf}{n:Sj}{l:Si Sf}(h:kL a s z v n l)(k:ad a s b):kL a b z v n l:=fun a b=>h a (k.a b)
theorem az.bT {s:J}{z:Sj}{v:Sf}{n:Sj}{l:Si Sf}(h:az s z v n l):kL s.Y s z v n l:=fun _ k=>h.C k
theorem az.M9 {P:Se}{t e:Sh}{z:Sj}(a:P.underlying t=some (.slice e))(b:bc P e=some z){s:J}{v:Sf}{n:Sj}{l:Si Sf}(h:az s z v n l)(k f:Sx):
  ∃c,fN P s t v none (some (.int k n)) (some (.int f n))=some c/\∀d,az d z v n l->az d z c n l:=by
 have c:h8 (some (.int k (n:S4))) n=some n:=rfl;have d:h8 (some (.int f (n:S4))) 0=some n:=rfl;have e:(Sw 0 n&&Sw n n)=true:=by simp
 cases h with
 |al=>exact⟨av,by unfold fN;rw[a];simp only[q5,c,b,e,Sn,d],fun _ h=>h⟩
 |cI i f=>exact⟨.slice (some ⟨i,f+0*z,none⟩) 0 0,by unfold fN;rw[a];simp only[q5,c,b,e,Sn,d,jV];rfl,fun f _=> .cI _ _⟩
 |bu i f h g p q r j m t u o v w=>
  have h:jV s i g z=true:=by
   unfold jV;split
   ·rfl
   rw[j];simp[m]
  by_cases j:n=0
  ·subst j;refine⟨.slice (some ⟨i,f+0*z,none⟩) 0 0,by unfold fN;rw[a];simp only[q5,c,b,e,Sn,d,h];rfl,fun j _=> ?_⟩;have:l=[]:=St (by simpa using o);subst this;exact .cI _ _
  refine⟨.slice (some ⟨i,f,none⟩) n g,?_,fun g f=>f⟩;unfold fN;rw[a];simp only[q5,c,b,e,Sn,d,(show(Sw n n&&Sw n n)=true by simp),h,(show SF 0 n=false by rw[<-So,SS];omega)];simp
theorem wC {P:Se}{s:J}{t e:Sh}{a:Sf}{z:Sj}(b:P.underlying t=some (.slice e))(c:bc P e=some z)(d:bK P e=some a)(f:cp a=true)(g:SF a.cells.toList.length z=true):dj P s t 0 []=cL s [] 0 z:=by
 unfold dj;rw[b];simp only[c,d,f,g];simp[cM,eT]
end Go.Cl
namespace Go.Cl
open Go.RowKit Go.ChangeShapes Go.WideShapes
structure jC (W:S3) (S:aC):Prop where
 fQ:bR W.heap.size S
 k:S.k=W
 br:∀i b,S.h.t i=some b->b.br=false
 cv:∀i,S.h.S i=none
theorem jC.jA (W:S3):jC W (aC.jA W):=
 ⟨bR.jA W,rfl,fun i b h=>by simp[aC.jA,J.vF,J.t,a5.N] at h,fun i=>by simp[aC.jA,J.vF,J.S,a5.N]⟩
def aC.fC (S:aC)(b:cF)(a:Sj×Sj):aC:=⟨S.h.x (.bl b),⟨fun j c=>if j=S.h.Y then a else S.l.s j c,S.l.fP⟩,S.k⟩
theorem jC.Na {W:S3}{S:aC}(h:jC W S)(b:cF)(d:Sj×Sj)(x:b.br=false)(D:1<=b.bT)(E:∀e,dX b e->e=b.aJ.length+1)
  (F:∀e,dX b e->d.1<W.heap.size) (G:∀e,dX b e->∀p,p<b.aJ.length->∃v,W.cell? ⟨d.1,d.2+p,none⟩=some v/\aX S (b.aJ.getD p undef) v):
  jC W (S.fC b d)/\hr S (S.fC b d)/\ad S.h.Y S.h (S.fC b d).h/\(S.fC b d).h.Y=S.h.Y+1:=by
 have m:=h.k;have H:(S.fC b d).h.t S.h.Y=some b:=sm S.h b;have y:ad S.h.Y S.h (S.fC b d).h:=ad.x S.h _;have n:∀j c,(S.fC b d).h.t j=some c->(j=S.h.Y/\c=b)\/(j<S.h.Y/\S.h.t j=some c):=by
  intro j c o;by_cases z:j=S.h.Y
  ·subst z;rw[H] at o;exact .inl ⟨rfl,(Option.some.inj o).symm⟩
  have s:(S.fC b d).h.t j=S.h.t j:=by
   simp only[aC.fC,J.x,J.t,a5.hp _ _ _ _ _ (Ne.symm z)]
  rw[s] at o;exact .inr ⟨h.fQ.n o,o⟩
 have t:hr S (S.fC b d):=by
  refine⟨fun i c A=> ?_,fun r B f=>(by rw[h.cv r] at f;cases f),fun R K T L M=>⟨K,L,M,rfl⟩⟩;have k:=h.fQ.n A;refine⟨c,(y.bl k).trans A,Sz _,Sz _,rfl,fun e _ _=> ?_⟩;simp only[aC.fC,SC (SM k)]
 refine⟨⟨⟨Z,?_,?_,?_,?_,?_,?_,?_,?_⟩,m,?_,?_⟩,t,y,rfl⟩
 ·intro i O a;show i<S.h.Y+1;by_cases P:i=S.h.Y
  ·omega
  have s:(S.fC b d).h.i.N i=S.h.i.N i:=by simp only[aC.fC,J.x,a5.hp _ _ _ _ _ (Ne.symm P)]
  rw[s] at a;have:=h.fQ.fB i O a;omega
 ·intro i c a;rcases n i c a with ⟨_,rfl⟩|⟨_,a⟩
  ·exact D
  exact h.fQ.bT i c a
 ·intro i c a e l p Q;rcases n i c a with ⟨rfl,rfl⟩|⟨k,a⟩
  ·have:=E e l;have⟨v,u,w⟩:=G e l p Z;refine⟨v,?_,w.b t⟩;simp only[aC.fC,Sn,m];exact u
  have⟨v,u,w⟩:=h.fQ.mr i c a e l p Q;refine⟨v,?_,w.b t⟩;simp only[aC.fC,SC (SM k)];exact u
 ·intro i c a q;rcases n i c a with ⟨_,rfl⟩|⟨_,a⟩
  ·rw[x] at q;cases q
  rw[h.br i c a] at q;cases q
 ·intro r B f;have:(S.fC b d).h.S r=none:=by
   by_cases g:r=S.h.Y
   ·subst g;simp only[aC.fC,J.x,J.S,a5.gR _ _ _ _ (hq Z)]
   have:=h.cv r;simp only[J.S] at this;simp only[aC.fC,J.x,J.S,a5.hp _ _ _ _ _ (Ne.symm g),this]
  rw[this] at f;cases f
 ·intro r U B X f;have:(S.fC b d).h.S r=none:=by
   by_cases g:r=S.h.Y
   ·subst g;simp only[aC.fC,J.x,J.S,a5.gR _ _ _ _ (hq Z)]
   have:=h.cv r;simp only[J.S] at this;simp only[aC.fC,J.x,J.S,a5.hp _ _ _ _ _ (Ne.symm g),this]
  rw[this] at f;cases f
 ·show W.heap.size<=S.k.heap.size;rw[m];exact Sz _
 ·intro i c a e l;show((S.fC b d).l.s i e).1<S.k.heap.size;rw[m];rcases n i c a with ⟨rfl,rfl⟩|⟨k,a⟩
  ·simp only[aC.fC,Sn];exact F e l
  simp only[aC.fC,SC (SM k)];have:=h.fQ.iX i c a e l;rw[m] at this;exact this
 ·intro i c a;rcases n i c a with ⟨_,rfl⟩|⟨_,a⟩
  ·exact x
  exact h.br i c a
 intro r;by_cases g:r=S.h.Y
 ·subst g;simp only[aC.fC,J.x,J.S,a5.gR _ _ _ _ (hq Z)]
 have:=h.cv r;simp only[J.S] at this;simp only[aC.fC,J.x,J.S,a5.hp _ _ _ _ _ (Ne.symm g),this]
structure acK (W:S3) (S S' :aC) (v' v:Sf):Prop where
 nQ:jC W S'
 gv:hr S S'
 A:ad S.h.Y S.h S'.h
 Y:S'.h.Y=S.h.Y+1
 acL:aX S' v' v
variable {H:Type} {enc:Sh×Sf->H} {P:Se}
theorem E3 {a:Si S4}(h:∀n∈a,(Lit.int .u8 n).wf=true):∃b:Si SL,b.length=a.length/\a.map (.int .u8)=aM b:=by
 refine⟨a.map fun n=>UInt8.ofNat n.toNat,aA,?_⟩;simp only[aM,List.map_map];refine List.map_congr_left fun n a=> ?_
 have b:=h n a;simp only[Function.comp,Value.int.injEq,true_and];have:0<=n/\n<256:=by
  simp[Lit.wf,IntKind.min,IntKind.max,IntKind.bits,IntKind.signed] at b;omega
 rw[UInt8.toNat_ofNat'];omega
theorem Nb (f:laidOutB P=true){W c:S3}(g:Below W.heap.size W c):∀{a:Si Sh} {d:Si Sf} {e:Si (DataW H)} {b:Si MemPlace},(∀t∈a,P.readableRec t=true/\t<P.types.size)->
  DataW.TrodAll enc P W 0 (fun _=>true) true a d e b->(∀x∈b,x.block<W.heap.size)->DataW.TrodAll enc P c 0 (fun h=>decide (h<W.heap.size)) true a d e b:=by
 intro a
 induction a with
 |nil=>
  intro a b c _ h _;cases a<;>cases b<;>simp only[DataW.TrodAll] at h|-
  exact h
 |cons t a c=>
  intro a a a a h b;obtain⟨v,i,j,k,p,q,rfl,rfl,rfl,d,e⟩:=trodAll_cons h;exact⟨p,q,Below.trod f (a t (Sp ..)).1 (a t (Sp ..)).2 d g (fun x d=>b x (List.mem_append_left _ d)),c (fun t c=>a t (Sq _ c)) e (fun x a=>b x (List.mem_append_right _ a)),rfl⟩
theorem Nc {b:Func}{s:ChangeSpec}{W c:S3}{d:Sr Sf}{a i:Si (DataW H)}{j:Si MemPlace}{e:Sh}(k:laidOutB P=true)(m:∀t∈b.params.toList,P.readableRec t=true/\t<P.types.size)
  (n:b.resultTypes= #[e]) (o:P.underlying e=some .bool) (f:s.vars=[]) (q:∀l:Si (DataW H),l.length=a.length->s.fn H l={results:=[.lit (.bool true)],args:=l}) (g:DataW.Whole enc P b.params.toList s.vars false W d.toList a i j) (h:Below W.heap.size W c):
  ∃v,Ending.returned (.bool true)= .returned v/\s.post enc P b false true false false W d v c:=by
 have d:=g;obtain⟨p,e,c,b,rfl,i,j⟩:=g;rw[f] at b;obtain⟨rfl,rfl⟩:=trodVars_none b;have b:s.fn H (a++[])={results:=[.lit (.bool true)],args:=a}:=by rw[List.append_nil];exact q a rfl
 refine⟨_,rfl,a,[],p++[],[],p,[],d,?_,?_,?_,h.frame _,fun a=>by cases a⟩
 ·rw[b,n];exact trodAll_cons_mk (shut_bool o _) trodAll_mk0
 ·rw[b];exact Nb k h m c c.lt
 rw[b,f];rfl
end Go.Cl
namespace Go.Cl
def kM (o:Sk):SB:=
 match o.op with
 | .move _| .assign _| .pick _ _ _| .build _ _| .nilCheck _| .binOp _ _ _ _ _| .unOp _ _ _| .fieldAddr _ _ _| .field _ _ _| .indexAddr _ _ _| .index _ _ _| .extract _ _=>true
 |_=>false
theorem Nd {P:Se}{o:Sk}(h:kM o=true):bU P o=true:=by
 have⟨b,a,c,d,e,f⟩:=o;cases a<;>simp_all[kM,bU]
theorem Ng {P:Se}{o:Sk}(h:kM o=true)(f:an):∃r:Sl Sf,∀s,a4 P o f s=dE s r:=by
 have⟨n,b,p,q,w,z⟩:=o;cases b<;>simp only[kM] at h<;>try (cases h;done)
 case move x=>exact⟨ba f x,fun _=>rfl⟩
 case assign x=>exact⟨ba f x,fun _=>rfl⟩
 case pick d c e=>
  refine⟨match ba f d,ba f c,ba f e with
   |some (.bool t),some u,some v=>some (if t then u else v)
   |_,_,_=>none,fun s=> ?_⟩
  rw[zh];generalize ba f d=X;generalize ba f c=a;generalize ba f e=A;split<;>first|rfl|(split<;>first|rfl|(exfalso;simp_all))
 case build t g=>
  refine⟨match bC f g.toList with
   |some l=>cP P t l
   |none=>none,fun s=> ?_⟩
  rw[zi];generalize bC f g.toList=X;cases X<;>rfl
 case nilCheck x=>
  refine⟨match ba f x with
   |some (.pointer (some c))=>some (.pointer (some c))
   |some (.func (.func j) k m)=>some (.func (.func j) k m)
   |_=>none,fun s=> ?_⟩
  rw[zk];generalize ba f x=X;split<;>first|rfl|(split<;>first|rfl|(exfalso;simp_all))
 case binOp b t x y B=>
  refine⟨match ba f x,ba f y with
   |some u,some v=>bN P b t u v
   |_,_=>none,fun s=> ?_⟩
  rw[zl];generalize ba f x=X;generalize ba f y=a;cases X<;>cases a<;>rfl
 case unOp b t x=>
  refine⟨match ba f x with
   |some u=>qI b u
   |none=>none,fun s=> ?_⟩
  rw[zm];generalize ba f x=X;cases X<;>rfl
 case fieldAddr t x i=>
  refine⟨match ba f x with
   |some u=>aY P t u i
   |none=>none,fun s=> ?_⟩
  rw[zp];generalize ba f x=X;cases X<;>rfl
 case field t x i=>
  refine⟨match ba f x with
   |some u=>tC P t u i
   |none=>none,fun s=> ?_⟩
  rw[zq];generalize ba f x=X;cases X<;>rfl
 case indexAddr t x y=>
  refine⟨match ba f x,ba f y with
   |some u,some v=>eM P t u v
   |_,_=>none,fun s=> ?_⟩
  rw[zr];generalize ba f x=X;generalize ba f y=a;cases X<;>cases a<;>rfl
 case index t x y=>
  refine⟨match ba f x,ba f y with
   |some u,some v=>tB P t u v
   |_,_=>none,fun s=> ?_⟩
  rw[zs];generalize ba f x=X;generalize ba f y=a;cases X<;>cases a<;>rfl
 case extract x i=>
  refine⟨match ba f x with
   |some u=>bm u i
   |none=>none,fun s=> ?_⟩
  rw[zt];generalize ba f x=X;cases X<;>rfl
theorem E4 {P:Se}{o:Sk}(h:kM o=true){f:an}{s t:J}{v:Sf}{b:J}(a:a4 P o f s=some (.a8 v b)):a4 P o f t=some (.a8 v t):=by
 obtain⟨r,b⟩:=Ng h f;rw[b] at a;cases r with
 |none=>cases a
 |some u=>
  rw[wx] at a;injection a with a;injection a with e _;subst e
  rw[b];rfl
def jD (a:Sj):Sl iV->Sl (Sf×cF)
 |some (.a8 v b)=>
  match b.t a with
  |some b=>some (v,b)
  |none=>none
 |_=>none
def hS (P:Se)(b:bg)(c:Si Sk):Si Sk->Sj->an->J->(an->J->Prop)->Prop
 |[],_,f,T,Q=>Q f T
 |o::r,a,f,T,Q=>
  match ff c o f with
  |true=>
   match bU P o,bQ P o with
   |true,_=>
    match a4 P o f T with
    |some (.a8 v _)=>bn v v=true/\cT f o.dst v fun d=>hS P b c r a d T Q
    |_=>False
   |false,true=>
    match jD a (a4 P o f ⟨.al,a⟩) with
    |some (v,d)=>cT f o.dst v fun e=>hS P b c r (a+1) e (T.u a (.bl d)) Q
    |none=>False
   |false,false=>
    match a4 P o f T with
    |some (.a8 v d)=>cT f o.dst v fun e=>hS P b c r a e d Q
    |some (.jY g d)=>Runs P b g d T fun v d=>cT f o.dst v fun e=>hS P b c r a e d Q
    |none=>False
  |false=>cT f o.dst undef fun d=>hS P b c r (if bQ P o then a+1 else a) d T Q
def so (P:Se)(a:bg)(b r:Si Sk)(c:Sj)(f:an)(T:J)(d:Sl Tmp)(Q:an->J->Prop):Sl iV->Prop
 |some (.a8 v _)=>bn v v=true/\cT f d v fun d=>hS P a b r c d T Q
 |_=>False
def wD (P:Se)(b:bg)(c r:Si Sk)(a:Sj)(f:an)(T:J)(d:Sl Tmp)(Q:an->J->Prop):Sl (Sf×cF)->Prop
 |some (v,e)=>cT f d v fun d=>hS P b c r (a+1) d (T.u a (.bl e)) Q
 |none=>False
def oK (P:Se)(a:bg)(b r:Si Sk)(c:Sj)(f:an)(d:Sl Tmp)(T:J)(Q:an->J->Prop):Sl iV->Prop
 |some (.a8 v e)=>cT f d v fun g=>hS P a b r c g e Q
 |some (.jY g e)=>Runs P a g e T fun v e=>cT f d v fun d=>hS P a b r c d e Q
 |none=>False
def wE (P:Se)(a:bg)(b r:Si Sk)(c:Sj)(f:an)(d:Sl Tmp)(Q:an->J->Prop)(v:Sf)(e:J):Prop:=cT f d v fun d=>hS P a b r c d e Q
def lk (P:Se)(b:bg)(c:Si Sk)(o:Sk)(r:Si Sk)(a:Sj)(f:an)(T:J)(Q:an->J->Prop):SB->Prop
 |true=>
  match bU P o,bQ P o with
  |true,_=>so P b c r a f T o.dst Q (a4 P o f T)
  |false,true=>wD P b c r a f T o.dst Q (jD a (a4 P o f ⟨.al,a⟩))
  |false,false=>oK P b c r a f o.dst T Q (a4 P o f T)
 |false=>cT f o.dst undef fun d=>hS P b c r (if bQ P o then a+1 else a) d T Q
section
variable (P:Se) (aV:bg) (all:Si Sk) (r:Si Sk) (id:Sj) (f:an) (T:J) (Q:an->J->Prop)
theorem E5:hS P aV all [] id f T Q=Q f T:=by simp only[hS]
theorem E6 (o:Sk):hS P aV all (o::r) id f T Q=lk P aV all o r id f T Q (ff all o f):=by
 simp only[hS];cases ff all o f with
 |false=>rfl
 |true=>
  simp only[lk];cases bU P o with
  |true=>
   simp only;cases a4 P o f T with
   |none=>rfl
   |some a=>cases a<;>rfl
  |false=>
   cases bQ P o with
   |true=>
    simp only;cases jD id (a4 P o f ⟨.al,id⟩) with
    |none=>rfl
    |some a=>rfl
   |false=>
    simp only;cases a4 P o f T with
    |none=>rfl
    |some a=>cases a<;>rfl
theorem Nh (o:Sk)(h:bU P o=true):lk P aV all o r id f T Q true=so P aV all r id f T o.dst Q (a4 P o f T):=by simp only[lk,h]
theorem Ni (o:Sk)(h:bU P o=false)(a:bQ P o=true):lk P aV all o r id f T Q true=wD P aV all r id f T o.dst Q (jD id (a4 P o f ⟨.al,id⟩)):=by simp only[lk,h,a]
theorem Nj (o:Sk)(h:bU P o=false)(a:bQ P o=false):lk P aV all o r id f T Q true=oK P aV all r id f o.dst T Q (a4 P o f T):=by simp only[lk,h,a]
variable (d:Sl Tmp) (ty:Sh) (ps:String) (af:Sr Edge) (gd:Sl (Sj×SB))
theorem Nk (o:Sk):lk P aV all o r id f T Q true=bif bU P o then so P aV all r id f T o.dst Q (a4 P o f T) else bif bQ P o then wD P aV all r id f T o.dst Q (jD id (a4 P o f ⟨.al,id⟩)) else oK P aV all r id f o.dst T Q (a4 P o f T):=by
 cases a:bU P o with
 |true=>rw[Nh _ _ _ _ _ _ _ _ _ a];rfl
 |false=>
  cases b:bQ P o with
  |true=>rw[Ni _ _ _ _ _ _ _ _ _ a b];rfl
  |false=>rw[Nj _ _ _ _ _ _ _ _ _ a b];rfl
theorem E7 (o:Sk):lk P aV all o r id f T Q true=if bU P o=true then so P aV all r id f T o.dst Q (a4 P o f T) else if bQ P o=true then wD P aV all r id f T o.dst Q (jD id (a4 P o f ⟨.al,id⟩)) else oK P aV all r id f o.dst T Q (a4 P o f T):=by
 rw[Nk];cases bU P o<;>cases bQ P o<;>rfl
theorem E8 (a:Op)(t:Tmp):lk P aV all ⟨some t,a,ty,ps,af,gd⟩ r id f T Q false=if t<f.e then hS P aV all r (bif bQ P ⟨some t,a,ty,ps,af,gd⟩ then id+1 else id) (f.u t undef) T Q else False:=by
 unfold lk;simp only;rw[lh]
 cases bQ P ⟨some t,a,ty,ps,af,gd⟩<;>rfl
theorem E9 (a:Op):lk P aV all ⟨none,a,ty,ps,af,gd⟩ r id f T Q false=hS P aV all r (bif bQ P ⟨none,a,ty,ps,af,gd⟩ then id+1 else id) f T Q:=by
 unfold lk;simp only;rw[C4]
 cases bQ P ⟨none,a,ty,ps,af,gd⟩<;>rfl
theorem Fa (t:Tmp)(v:Sf)(a:J):so P aV all r id f T (some t) Q (some (.a8 v a))=if bn v v=true/\t<f.e then hS P aV all r id (f.u t v) T Q else False:=by
 simp only[so,lh];by_cases a:bn v v=true<;>by_cases b:t<f.e<;>simp[a,b]
theorem Fb (t:Tmp)(v:Sf)(a:J):oK P aV all r id f (some t) T Q (some (.a8 v a))=if t<f.e then hS P aV all r id (f.u t v) a Q else False:=by
 simp only[oK,lh]
theorem Fc (v:Sf)(a:J):oK P aV all r id f none T Q (some (.a8 v a))=hS P aV all r id f a Q:=by
 simp only[oK,C4]
theorem Fe (g:SN)(a:Si Sf):oK P aV all r id f d T Q (some (.jY g a))=Runs P aV g a T (wE P aV all r id f d Q):=rfl
theorem Ff (t:Tmp)(v:Sf)(a:J):wE P aV all r id f (some t) Q v a=if t<f.e then hS P aV all r id (f.u t v) a Q else False:=by
 simp only[wE,lh]
theorem Fg (v:Sf)(a:J):wE P aV all r id f none Q v a=hS P aV all r id f a Q:=rfl
end
theorem wF (P:Se):∀(l:Si Sk) (a:Si cc) (T:J),∃r,cw P l a T=T::r:=by
 intro l
 induction l with
 |nil=>intro a T;exact⟨[],by cases a<;>rfl⟩
 |cons o l a=>
  intro b T;cases b with
  |nil=>exact⟨[],rfl⟩
  |cons e b=>
   simp only[cw];split
   ·exact⟨_,rfl⟩
   split
   ·exact⟨_,rfl⟩
   exact a b T
def eA (P:Se):Si Sk->Sj->Sj
 |[],_=>0
 |_,0=>0
 |o::r,n+1=>if c6 P o then eA P r n+1 else eA P r n
theorem Fh (P:Se):∀(l:Si Sk) (i n:Sj),dM (fun j=>Ss j (i+n)) P l i=eA P l n:=by
 intro l
 induction l with
 |nil=>intro a n;cases n<;>rfl
 |cons o l b=>
  intro a n;simp only[dM];cases n with
  |zero=>
   have c:∀(d:Si Sk) (k:Sj),a<=k->dM (fun j=>Ss j (a+0)) P d k=0:=by
    intro d
    induction d with
    |nil=>intro k _;rfl
    |cons p e d=>
     intro k e;simp only[dM,(show Ss k (a+0)=false by rw[<-So,Sm];omega),SY,SK,if_false];exact d (k+1) Z
   simp only[(show Ss a (a+0)=false by rw[<-So,Sm];omega),SY,SK,if_false,eA];exact c l (a+1) Z
  |succ n=>
   simp only[(show Ss a (a+(n+1))=true by rw[Sm];omega),SZ,eA];rw[(Z:a+(n+1)=(a+1)+n),b (a+1) n]
theorem Nl (P:Se):∀(a b:Si Sk),eA P (a++b) a.length=eA P a a.length:=by
 intro a
 induction a with
 |nil=>intro b;cases b<;>rfl
 |cons o b a=>intro b;simp only[SE,SQ,eA];rw[a b]
theorem Nm (P:Se)(o:Sk):∀(a:Si Sk),eA P (a++[o]) (a++[o]).length=if c6 P o then eA P a a.length+1 else eA P a a.length:=by
 intro a
 induction a with
 |nil=>rfl
 |cons p b a=>simp only[SE,SQ,eA];rw[a];split<;>split<;>rfl
theorem Fi (p:Sj->SB):∀(a b:Si (Sj×Sj×cF)) (T:J),Cl.b3 p T (a++b)=Cl.b3 p (Cl.b3 p T a) b:=by
 intro a
 induction a with
 |nil=>intro b T;rfl
 |cons x b a=>
  intro b T;have⟨j,b,c⟩:=x;simp only[SE,Cl.b3];split
  ·exact a _ _
  exact a _ _
theorem Nn (p:Sj->SB):∀(a:Si (Sj×Sj×cF)) (T:J),(∀x∈a,p x.1=false)->Cl.b3 p T a=T:=by
 intro a
 induction a with
 |nil=>intro T _;rfl
 |cons x b a=>
  intro T h;have⟨j,b,c⟩:=x;simp only[Cl.b3,(h (j,b,c) (Sp ..):p j=false)];exact a T (fun y a=>h y (Sq _ a))
theorem No (p:Sj->SB):∀(a:Si (Sj×Sj×cF)) (T:J),(∀x∈a,T.i.N x.2.1≠none)->Cl.b3 p T a=T:=by
 intro a
 induction a with
 |nil=>intro T _;rfl
 |cons x a c=>
  intro T h;have⟨j,b,d⟩:=x;simp only[Cl.b3];split
  ·rename_i _ e;exact absurd e (h (j,b,d) (Sp ..):T.i.N b≠none)
  exact c T (fun y f=>h y (Sq _ f))
structure zB (s0:J) (K:Sj) (i id:Sj) (aGl:Si (Sj×Sj×cF)) (T U:J):Prop where
 b3:∀p:Sj->SB,(∀x∈aGl,p x.1=true)->Cl.b3 p T aGl=U
 kD:∀x∈aGl,U.i.N x.2.1≠none
 ui:∀x∈aGl,x.1<i
 eX:s0.Y<=id
 jw:∀k,id<=k->k<s0.Y+K->U.i.N k=none
 Y:s0.Y+K<=U.Y
 C:ca s0 U
def aS (s:J)(k:Sj):J:=⟨s.i,s.Y+k⟩
theorem nf (s:J):aS s 0=s:=rfl
theorem gg (s:J)(k:Sj):(aS s k).Y=s.Y+k:=rfl
theorem ad.aS (s:J)(k:Sj):ad s.Y s (aS s k):=⟨by simp[Cl.aS],fun _ _=>rfl⟩
end Go.Cl