/-
 The clean machine: a statement whose order is open, in which what was there ahead of it is read out of a set of blocks that the first effects leave, ahead of the later ones: it comes to what it comes to in the text's order.
-/
import Derived.Test.YtdfjfncifneocaaGreatLooseA
open Go renaming Value->ab,Program->av,Oper->a4,TypeId->bg
open _root_ renaming reduceIte->an,List->a0,Nat->a1,eq_false->a9,Option->bb,decide_eq_false->bn,eq_true->b4,Bool->cc,if_neg->cd,if_true->cz,if_pos->cA,Array->c6
open Go.Proofs.Tryz renaming prog->ao,results46->a7,underlying141->bs,underlying56->bC
open And renaming intro->aR
open Nat renaming testBit->a2,zero_add->bo,le_refl->bz,blt->b5,ble_eq->b7,beq_eq->b8,beq->cm,blt_eq->cv,ble->cx,sub_add_eq->c0
open List renaming getLastD_cons->a3,mem_singleton->a5,append_assoc->a6,mem_append->bk,mem_cons_self->bq,append_nil->ca,nil_append->cb,mem_cons_of_mem->cg,length_append->cp,take_zero->c4
open Bool renaming true_and->a8,and_eq_true->cB,not_eq_true->cR,and_true->c5
open Nat renaming reduceLT->QS,reduceEqDiff->Qx
set_option linter.unusedSimpArgs false
set_option linter.unusedVariables false
set_option maxRecDepth 100000
namespace Go.Cl
namespace LB
def gM (P:av)(lib:aA)(A:a1->cc)(all:a0 a4):a0 a4->a1->a1->aW->aq->(aW->aq->Prop)->Prop
 |[],_,_,f,T,Q=>Q f T
 |o::r,g,id,f,T,Q=>
  match cT all o f with
  |true=>
   match aP P o,aM P o with
   |true,_=>
    match cS P o f T with
    |some (.val v _)=>LA.mE o f A=true/\bZ v v=true/\fA f o.dst v fun f' =>gM P lib A all r g id f' T Q
    |_=>False
   |false,true=>
    match fD id (cS P o f ⟨.nil,id⟩) with
    |some (v,bl)=>fA f o.dst v fun f' =>gM P lib A all r g (id+1) f' (T.put id (.dZ bl)) Q
    |none=>False
   |false,false=>
    match cS P o f T with
    |some (.val v T')=>(g≠0->LA.dP A T T')/\fA f o.dst v fun f' =>gM P lib A all r (g-1) id f' T' Q
    |some (.call gg args)=>Runs P lib gg args T fun v T' =>(g≠0->LA.dP A T T')/\fA f o.dst v fun f' =>gM P lib A all r (g-1) id f' T' Q
    |none=>False
  |false=>fA f o.dst undef fun f' =>gM P lib A all r (if bp P o then g-1 else g) (if aM P o then id+1 else id) f' T Q
def Hb (P:av)(lib:aA)(A:a1->cc)(g:a1)(all:a0 a4)(o:a4)(r:a0 a4)(id:a1)(f:aW)(T:aq)(Q:aW->aq->Prop):bb AR->Prop
 |some (.val v _)=>LA.mE o f A=true/\bZ v v=true/\fA f o.dst v fun f' =>gM P lib A all r g id f' T Q
 |_=>False
def Di (P:av)(lib:aA)(A:a1->cc)(g:a1)(all r:a0 a4)(id:a1)(f:aW)(T:aq)(d:bb Tmp)(Q:aW->aq->Prop):bb (ab×jZ)->Prop
 |some (v,bl)=>fA f d v fun f' =>gM P lib A all r g (id+1) f' (T.put id (.dZ bl)) Q
 |none=>False
def tv (P:av)(lib:aA)(A:a1->cc)(g:a1)(all r:a0 a4)(id:a1)(f:aW)(d:bb Tmp)(T:aq)(Q:aW->aq->Prop):bb AR->Prop
 |some (.val v T')=>(g≠0->LA.dP A T T')/\fA f d v fun f' =>gM P lib A all r (g-1) id f' T' Q
 |some (.call gg args)=>Runs P lib gg args T fun v T' =>(g≠0->LA.dP A T T')/\fA f d v fun f' =>gM P lib A all r (g-1) id f' T' Q
 |none=>False
def qg (P:av)(lib:aA)(A:a1->cc)(g:a1)(all r:a0 a4)(id:a1)(f:aW)(d:bb Tmp)(Q:aW->aq->Prop)(v:ab)(T' :aq):Prop:=fA f d v fun f' =>gM P lib A all r g id f' T' Q
def xD (P:av)(lib:aA)(A:a1->cc)(g:a1)(all:a0 a4)(o:a4)(r:a0 a4)(id:a1)(f:aW)(T:aq)(Q:aW->aq->Prop):cc->Prop
 |true=>bif aP P o then Hb P lib A g all o r id f T Q (cS P o f T) else bif aM P o then Di P lib A g all r id f T o.dst Q (fD id (cS P o f ⟨.nil,id⟩)) else tv P lib A g all r id f o.dst T Q (cS P o f T)
 |false=>fA f o.dst undef fun f' =>gM P lib A all r (if bp P o then g-1 else g) (if aM P o then id+1 else id) f' T Q
section
variable (P:av) (lib:aA) (A:a1->cc) (all:a0 a4) (r:a0 a4) (g id:a1) (f:aW) (T:aq) (Q:aW->aq->Prop)
theorem zg:gM P lib A all [] g id f T Q=Q f T:=by simp only[gM]
theorem vL (o:a4):gM P lib A all (o::r) g id f T Q=xD P lib A g all o r id f T Q (cT all o f):=by
 simp only[gM]
 cases cT all o f with
 |false=>rfl
 |true=>
  simp only[xD]
  cases aP P o with
  |true=>
   simp only[cond_true]
   cases cS P o f T with
   |none=>rfl
   |some a=>cases a<;>rfl
  |false=>
   cases aM P o with
   |true=>
    simp only[cond_true,cond_false]
    cases fD id (cS P o f ⟨.nil,id⟩) with
    |none=>rfl
    |some a=>rfl
   |false=>
    simp only[cond_false]
    cases cS P o f T with
    |none=>rfl
    |some a=>cases a<;>rfl
variable (d:bb Tmp) (ty:bg) (ps:String) (af:c6 Edge) (gd:bb (a1×cc))
theorem Od (o:a4):xD P lib A g all o r id f T Q true=bif aP P o then Hb P lib A g all o r id f T Q (cS P o f T) else bif aM P o then Di P lib A g all r id f T o.dst Q (fD id (cS P o f ⟨.nil,id⟩)) else tv P lib A g all r id f o.dst T Q (cS P o f T):=rfl
theorem Hc (o:a4):xD P lib A g all o r id f T Q true=if aP P o=true then Hb P lib A g all o r id f T Q (cS P o f T) else if aM P o=true then Di P lib A g all r id f T o.dst Q (fD id (cS P o f ⟨.nil,id⟩)) else tv P lib A g all r id f o.dst T Q (cS P o f T):=by
 rw[Od]
 cases aP P o<;>cases aM P o<;>rfl
theorem qh (op:Op)(t:Tmp):xD P lib A g all ⟨some t,op,ty,ps,af,gd⟩ r id f T Q false=if t<f.n then gM P lib A all r (if aP P ⟨some t,op,ty,ps,af,gd⟩=true then g else if aM P ⟨some t,op,ty,ps,af,gd⟩=true then g else g-1) (if aM P ⟨some t,op,ty,ps,af,gd⟩=true then id+1 else id) (f.put t undef) T Q else False:=by
 have e:(if bp P ⟨some t,op,ty,ps,af,gd⟩=true then g-1 else g)=(if aP P ⟨some t,op,ty,ps,af,gd⟩=true then g else if aM P ⟨some t,op,ty,ps,af,gd⟩=true then g else g-1):=by
  unfold bp
  cases aP P ⟨some t,op,ty,ps,af,gd⟩<;>cases aM P ⟨some t,op,ty,ps,af,gd⟩<;>rfl
 rw[<-e]
 simp only[xD,eV]
theorem Hd (o:Op)(t:Tmp)(v:ab)(s' :aq):Hb P lib A g all ⟨some t,o,ty,ps,af,gd⟩ r id f T Q (some (.val v s'))=if LA.mE ⟨some t,o,ty,ps,af,gd⟩ f A=true/\bZ v v=true/\t<f.n then gM P lib A all r g id (f.put t v) T Q else False:=by
 simp only[Hb,eV]
 by_cases h0:LA.mE ⟨some t,o,ty,ps,af,gd⟩ f A=true<;>by_cases h1:bZ v v=true<;>by_cases h2:t<f.n<;>simp[h0,h1,h2]
theorem Dj (gg:FuncId)(args:a0 ab):tv P lib A g all r id f d T Q (some (.call gg args))=Runs P lib gg args T (fun v T' =>(g≠0->LA.dP A T T')/\qg P lib A (g-1) all r id f d Q v T'):=rfl
theorem Dk (t:Tmp)(v:ab)(s' :aq):qg P lib A g all r id f (some t) Q v s' =if t<f.n then gM P lib A all r g id (f.put t v) s' Q else False:=by
 simp only[qg,eV]
theorem Dl (v:ab):tv P lib A g all r id f d T Q (some (.val v T))=qg P lib A (g-1) all r id f d Q v T:=by
 simp only[tv,qg,LA.dP.refl,implies_true,true_and]
theorem SH (v:ab)(T' :aq):tv P lib A g all r id f d T Q (some (.val v T'))=((g≠0->LA.dP A T T')/\qg P lib A (g-1) all r id f d Q v T'):=rfl
theorem Dm (v:ab)(s' :aq):qg P lib A g all r id f none Q v s' =gM P lib A all r g id f s' Q:=rfl
theorem Lc (v:ab)(bl:jZ):Di P lib A g all r id f T d Q (some (v,bl))=qg P lib A g all r (id+1) f d Q v (T.put id (.dZ bl)):=rfl
end
def Oe (P:av)(ops:a0 a4)(K0:a1):cc:=
 let ms:=cD ops []
 ops.zipIdx.all fun x=>
  (ops.zipIdx.all fun y=> !aM P y.1||(bif b5 y.2 x.2 then !LA.Dh P x.1||a2 (dg ms x.2) y.2 else !Nat.testBit (dg ms x.2) y.2))&&
  (!(LA.iG P x.1&& !fv x.1)||(cx (countP (fun j=> !Nat.testBit (dg ms j) x.2) P ops 0) K0&&cx (countP (fun j=>b5 j x.2) P ops 0) K0))&&
  (!(aP P x.1&& !LA.iG P x.1)||(cx (countP (fun j=> !Nat.testBit (dg ms j) x.2) P ops 0) (countP (fun j=>b5 j x.2) P ops 0)&&cm (countP (a2 (dg ms x.2)) P ops 0) (countP (fun j=>b5 j x.2) P ops 0)))
structure qU (A:a1->cc) (b:Prop) (s0:aq) (K:a1) (i id:a1) (ava:a0 (a1×a1×jZ)) (T U:aq):Prop extends Stands s0 K i id ava T U where
 ZO:b->LA.dP A s0 T
 ZP:b->LA.dP A s0 U
 ids:∀x∈ava,A x.2.1=false
theorem He {P:av}{o:a4}{A:a1->cc}{s0:aq}(h:LA.iG P o=true){f:aW}{s t:aq}(hl:LA.mE o f A=true)(hs:fv o=false->LA.dP A s0 s)(ht:fv o=false->LA.dP A s0 t){v:ab}{s' :aq}(ha:cS P o f s=some (.val v s')):cS P o f t=some (.val v t):=by
 cases hp:fv o with
 |true=>exact xu hp ha
 |false=>exact LA.VQ h hl (hs hp) (ht hp) ha
theorem FH {P:av}{lib:aA}{all:a0 a4}{A:a1->cc}(s0:aq)(hA:∀i,A i=true->i<s0.next)(K0:a1)(w7:a0 a1){Q:aW->aq->Prop}
  (dx:∀(o:a4) (i:a1),all[i]?=some o->LA.iG P o=true->fv o=false->countP (fun j=> !Nat.testBit (dg w7 j) i) P all 0<=K0/\gr P all i<=K0)
  (adw:∀(o:a4) (i:a1),all[i]?=some o->aP P o=true->LA.iG P o=false->countP (fun j=> !Nat.testBit (dg w7 j) i) P all 0<=gr P all i/\countP (a2 (dg w7 i)) P all 0=gr P all i)
  (VH:∀(o p:a4) (i j:a1),all[i]?=some o->all[j]?=some p->aM P p=true->j<i->LA.Dh P o=true->a2 (dg w7 i) j=true)
  (adx:∀(o p:a4) (i j:a1),all[i]?=some o->all[j]?=some p->aM P p=true->i<=j->a2 (dg w7 i) j=false):
  ∀(l pre:a0 a4) (ms:a0 a1) (id:a1) (f:aW) (T U:aq) (ava:a0 (a1×a1×jZ)),all=pre++l->ms=w7.drop pre.length->ms.length=l.length->id+aT P l<=s0.next+aT P all->qU A (gr P pre pre.length<=K0) s0 (aT P all) pre.length id ava T U->(∀x∈ava,∃p,all[x.1]?=some p/\aM P p=true)->gM P lib A all l (K0-gr P pre pre.length) id f U Q->
  ∃es f' T' U',(∃n,∀m,n<=m->cO P (gX P lib m) all ms l pre.length id f T ava=some es)/\(aH P l es T).getLastD T=T' /\cU l es f=f' /\Cl.fill (fun _=>true) T' (ava++madeOf es pre.length)=U' /\
   (∀x∈madeOf es pre.length,pre.length<=x.1/\∃p,all[x.1]?=some p/\aM P p=true)/\
   (∀k x,(aH P l es T)[k]?=some x->gr P pre pre.length+k<=K0->LA.dP A s0 x)/\(∀pQ before,pQ=before++aH P l es T->(∀k x,pQ[k]?=some x->k<=K0->LA.dP A s0 x)->before.length=gr P pre pre.length->cE P all w7 (ava++madeOf es pre.length) pQ ms l es pre.length f=true)/\bW s0 U' /\Q f' U' :=by
 intro l
 induction l with
 |nil=>
  intro pre ms id f T U ava _ _ hl _ aE _ hw
  rw[zg] at hw
  cases ms with
  |cons m r=>simp at hl
  |nil=>exact⟨[],f,T,U,⟨0,fun _ _=>rfl⟩,rfl,rfl,by simp only[madeOf,ca];exact aE.fill _ (fun _ _=>rfl),(fun x hx=>by simp[madeOf] at hx),(fun k x hx hk=>by
   simp only[aH] at hx
   cases k with
   |zero=>simp at hx;rw[<-hx];exact aE.ZO (by omega)
   |succ k=>simp at hx),fun _ _ _ _ _=>rfl,aE.keeps,hw⟩
 |cons o r ih=>
  intro pre ms id f T U ava eC Qj hl gz aE has hw
  cases ms with
  |nil=>simp at hl
  |cons m ms=>
  have KM:ms.length=r.length:=by simpa using hl
  have xx:all=(pre++[o])++r:=by rw[eC,a6];rfl
  have eU:(pre++[o]).length=pre.length+1:=by simp
  have IZ:ms=w7.drop (pre++[o]).length:=by
   rw[eU,<-List.drop_drop,<-Qj];rfl
  have hmA:dg w7 pre.length=m:=by
   have zc:∀(L:a0 a1) (k:a1) (x:a1) (t:a0 a1),L.drop k=x::t->dg L k=x:=by
    intro L
    induction L with
    |nil=>intro k x t h;simp at h
    |cons y L So=>
     intro k x t h
     cases k with
     |zero=>simp at h;exact h.1
     |succ k=>simp only[List.drop_succ_cons] at h;simp only[dg];exact So k x t h
   exact zc w7 pre.length m ms Qj.symm
  have ky:all[pre.length]?=some o:=by rw[eC];simp
  have Qy:gr P all pre.length=gr P pre pre.length:=by rw[eC,Ar]
  have I0:=GZ P o pre
  have nL:∀(v:ab) (g' id' :a1) (U' :aq),(fA f o.dst v fun f' =>gM P lib A all r g' id' f' U' Q)->∃f1,kX f o.dst v=some f1/\gM P lib A all r g' id' f1 U' Q:=by
   intro v g' id' U' h
   unfold fA at h
   split at h
   ·exact⟨_,‹_›,h⟩
   ·exact h.elim
  have xE:∀b:cc,bp P o=b->gr P (pre++[o]) (pre++[o]).length=if b then gr P pre pre.length+1 else gr P pre pre.length:=fun b hb=>by rw[I0,hb]
  have mX:aT P (o::r)=if aM P o then aT P r+1 else aT P r:=rfl
  have De:LA.Dh P o=true->Cl.fill (a2 m) T ava=U:=fun hn=>aE.fill _ (fun x hx=>by
   obtain⟨p,hp,UN⟩:=has x hx
   rw[<-hmA]
   exact VH o p pre.length x.1 ky hp UN (aE.before x hx) hn)
  rw[vL] at hw
  cases yA:cT all o f with
  |false=>
   rw[yA] at hw
   obtain⟨f1,hp,hw⟩:=nL _ _ _ _ hw
   have dO:qU A (gr P (pre++[o]) (pre++[o]).length<=K0) s0 (aT P all) (pre++[o]).length (if aM P o then id+1 else id) ava T U:=by
    refine⟨⟨aE.fill,aE.here,fun x hx=>by have:=aE.before x hx;omega,by have:=aE.lo;split<;>omega,fun k hk oB=>aE.free k (by split at hk<;>omega) oB,aE.next,aE.keeps⟩,fun h=>aE.ZO (by rw[I0] at h;split at h<;>omega),fun h=>aE.ZP (by rw[I0] at h;split at h<;>omega),aE.ids⟩
   obtain⟨es,f',T',U',⟨n,h1⟩,h3,h4,hf,xy,FJ,h5,hk,h6⟩:=ih (pre++[o]) ms _ f1 T U ava xx IZ KM (by rw[mX] at gz;split<;>split at gz<;>first|omega|contradiction) dO has (by rw[I0];cases he:bp P o<;>simp only[he,Bool.false_eq_true,if_false,cz] at hw|- <;>first|exact hw|(rw[c0];exact hw))
   rw[eU] at h1 h5 hf xy
   refine⟨.skip::es,f',T',U',⟨n,fun q hq=> ?_⟩,?_,by simp only[cU,Ev.val,hp,h4],by simp only[madeOf];exact hf,(fun x hx=>by simp only[madeOf] at hx;obtain⟨a,b⟩:=xy x hx;exact⟨by omega,b⟩),(fun k x hx hk=>by
    simp only[aH] at hx
    split at hx
    ·rename_i he
     cases k with
     |zero=>simp at hx;rw[<-hx];exact aE.ZO (by omega)
     |succ k=>exact FJ k x (by simpa using hx) (by rw[I0,cA he];omega)
    ·rename_i he
     exact FJ k x hx (by rw[I0,cd he];omega)),fun pQ before hs mw hb=> ?_,hk,h6⟩
   ·simp only[cO,ei,yA,Ev.val,hp]
    rw[h1 q hq]
   ·simp only[aH]
    split
    ·obtain⟨rr,hr⟩:=gA P r es T
     rw[hr] at h3|-
     rw[a3] at h3|-
     rw[a3];exact h3
    ·exact h3
   ·simp only[cE,Ev.val,hp,a8,madeOf]
    simp only[aH] at hs
    split at hs
    ·rename_i he
     refine h5 pQ (before++[T]) (by rw[hs,a6];rfl) mw ?_
     rw[<-eU,I0,cA he,cp,hb];rfl
    ·rename_i he
     refine h5 pQ before hs mw ?_
     rw[<-eU,I0,cd he,hb]
  |true=>
   rw[yA] at hw
   cases hq:aP P o with
   |true=>
    simp only[xD,hq,cond_true] at hw
    have cH:=lA hq
    have N1:=mC hq
    rw[mX,cd (by simp[N1])] at gz
    unfold Hb at hw
    split at hw
    case h_2=>exact hw.elim
    rename_i v s1 fY
    obtain⟨oI,hv,hw⟩:=hw
    obtain⟨f1,hp,hw⟩:=nL _ _ _ _ hw
    have dO:qU A (gr P (pre++[o]) (pre++[o]).length<=K0) s0 (aT P all) (pre++[o]).length id ava T U:=⟨⟨aE.fill,aE.here,fun x hx=>by have:=aE.before x hx;omega,aE.lo,aE.free,aE.next,aE.keeps⟩,fun h=>aE.ZO (by rw[xE _ cH] at h;simpa using h),fun h=>aE.ZP (by rw[xE _ cH] at h;simpa using h),aE.ids⟩
    obtain⟨es,f',T',U',⟨n,h1⟩,h3,h4,hf,xy,FJ,h5,hk,h6⟩:=ih (pre++[o]) ms id f1 T U ava xx IZ KM gz dO has (by rw[xE _ cH];exact hw)
    rw[eU] at h1 h5 hf xy
    have hle:LA.iG P o=true->fv o=false->countP (fun j=> !Nat.testBit (dg w7 j) pre.length) P all 0<=K0/\gr P pre pre.length<=K0:=fun h1 h2=>by rw[<-Qy];exact dx o pre.length ky h1 h2
    have sZ:∃s2,cS P o f (Cl.fill (a2 m) T ava)=some (.val v s2):=by
     cases vJ:LA.iG P o with
     |true=>exact⟨_,He vJ oI (fun h=>aE.ZP (hle vJ h).2) (fun h=>(aE.ZO (hle vJ h).2).trans (LA.G5 _ _ _ _ aE.ids)) fY⟩
     |false=>exact⟨s1,by rw[De (by simp[LA.Dh,vJ,N1])];exact fY⟩
    obtain⟨s2,sZ⟩:=sZ
    refine⟨.quiet v::es,f',T',U',⟨n,fun q Sx=> ?_⟩,?_,by simp only[cU,Ev.val,hp,h4],by simp only[madeOf];exact hf,(fun x hx=>by simp only[madeOf] at hx;obtain⟨a,b⟩:=xy x hx;exact⟨by omega,b⟩),(fun k x hx hk=>FJ k x (by simpa [aH,cH] using hx) (by rw[xE _ cH];simpa using hk)),fun pQ before hs mw hb=> ?_,hk,h6⟩
    ·simp only[cO,ei,yA,hq,sZ,Ev.val,hp,N1]
     rw[cd (by simp),h1 q Sx]
    ·simp only[aH,cH];simpa using h3
    ·have BZ:pQ=before++aH P r es T:=by simpa [aH,cH] using hs
     simp only[cE,Ev.val,hp,madeOf]
     rw[h5 pQ before BZ mw (by rw[<-eU,I0,cd (by simp[cH]),hb]),c5]
     have hfw:∀X:aq,Cl.fill (a2 m) X (ava++madeOf es (pre.length+1))=Cl.fill (a2 m) X ava:=by
      intro X
      rw[oR,G1 _ (madeOf es (pre.length+1))]
      intro x hx
      obtain⟨a,p,Vo,UN⟩:=xy x hx
      rw[<-hmA]
      exact adx o p pre.length x.1 ky Vo UN (by omega)
     have wL:∀(L:a0 aq),(LA.iG P o=true->fv o=false->∀x∈L,LA.dP A s0 x)->(LA.iG P o=false->∀x∈L,x=T)->sameAt P m (ava++madeOf es (pre.length+1)) o f v L=true:=by
      intro L
      induction L with
      |nil=>intro _ _;rfl
      |cons x L So=>
       intro ko hx
       simp only[sameAt,hfw]
       have:∃s3,cS P o f (Cl.fill (a2 m) x ava)=some (.val v s3):=by
        cases vJ:LA.iG P o with
        |true=>exact⟨_,He vJ oI (fun h=>aE.ZP (hle vJ h).2) (fun h=>(ko vJ h x (bq ..)).trans (LA.G5 _ _ _ _ aE.ids)) fY⟩
        |false=>rw[hx vJ x (bq ..)];exact⟨s2,sZ⟩
       obtain⟨s3,fB⟩:=this
       rw[fB]
       simp only[hv,a8]
       exact So (fun h1 h2 y hy=>ko h1 h2 y (cg _ hy)) (fun vJ y hy=>hx vJ y (cg _ hy))
     refine wL _ (fun h1 h2 x hx=> ?_) (fun vJ x hx=> ?_)
     ·obtain⟨k,hk⟩:=List.getElem?_of_mem (List.mem_of_mem_drop hx)
      rw[List.getElem?_take] at hk
      split at hk
      ·rename_i hkl
       have:=(hle h1 h2).1
       exact mw k x hk (by omega)
      ·cases hk
     obtain⟨t1,t2⟩:=adw o pre.length ky hq vJ
     rw[hmA] at t2
     rw[t2] at hx
     obtain⟨rr,hr⟩:=gA P r es T
     rw[Qy,<-hb,List.drop_take,BZ,hr,List.drop_left] at hx
     have lz:countP (fun j=> !Nat.testBit (dg w7 j) pre.length) P all 0+1-before.length<=1:=by omega
     generalize countP (fun j=> !Nat.testBit (dg w7 j) pre.length) P all 0+1-before.length=k at hx lz
     cases k with
     |zero=>simp at hx
     |succ k=>
      obtain rfl:k=0:=by omega
      simpa using hx
   |false=>
    cases ha:aM P o with
    |true=>
     simp only[xD,hq,ha,cond_true,cond_false] at hw
     rw[mX,cA ha] at gz
     have cH:bp P o=false:=by simp[bp,ha]
     unfold Di at hw
     split at hw
     case h_2=>exact hw.elim
     rename_i v b fY
     obtain⟨f1,hp,hw⟩:=nL _ _ _ _ hw
     have adA:∃s1,cS P o f ⟨.nil,id⟩=some (.val v s1)/\s1.bR id=some b:=by
      unfold fD at fY
      split at fY
      ·rename_i v1 s1 h1
       split at fY
       ·rename_i b1 gL
        injection fY with fY;injection fY with e1 e2;subst e1;subst e2
        exact⟨s1,h1,gL⟩
       ·cases fY
      ·cases fY
     obtain⟨s1,ux,fN⟩:=adA
     have mP:=aE.free id (bz _) (by omega)
     have bd:id<U.next:=by have:=aE.next;omega
     have dO:qU A (gr P (pre++[o]) (pre++[o]).length<=K0) s0 (aT P all) (pre++[o]).length (id+1) (ava++[(pre.length,id,b)]) T (U.put id (.dZ b)):=by
      refine⟨⟨fun p hp=> ?_,fun x hx=> ?_,fun x hx=> ?_,by have:=aE.lo;omega,fun k hk oB=> ?_,by have:=aE.next;simpa [aq.put] using this,?_⟩,fun h=>aE.ZO (by rw[xE _ cH] at h;simpa using h),fun h=>(aE.ZP (by rw[xE _ cH] at h;simpa using h)).trans ⟨bz _,fun i hi=>aq.bP _ _ _ _ (by have:=aE.lo;have:=hA i hi;omega)⟩,fun x hx=> ?_⟩
      ·rw[oR,aE.fill p (fun x hx=>hp x (List.mem_append_left _ hx))]
       have Qb:p pre.length=true:=hp (pre.length,id,b) (List.mem_append_right _ (bq ..))
       simp only[Cl.fill,Qb,mP]
      ·rcases bk.mp hx with hx|hx
       ·have hh:=aE.here x hx
        have:x.2.1≠id:=fun e=>hh (by rw[e];exact mP)
        rw[aq.bP _ _ _ _ (Ne.symm this)];exact hh
       ·rw[a5] at hx;subst hx
        simp only[aq.put,Tr.bD _ _ _ _ (deep (by omega))];simp
      ·rcases bk.mp hx with hx|hx
       ·have:=aE.before x hx;omega
       ·rw[a5] at hx;subst hx;simp
      ·rw[aq.bP _ _ _ _ (by omega)];exact aE.free k (by omega) oB
      ·have hk:=aE.keeps
       refine⟨hk.next,fun j hj hn=> ?_,fun j hj=> ?_,⟨by omega,fun j ob hj=> ?_⟩⟩
       ·have:=aE.lo
        rw[aq.bP _ _ _ _ (by omega)];exact hk.gone j hj hn
       ·by_cases gR:id=j
        ·subst gR;simp only[aq.put,Tr.bD _ _ _ _ (deep (by omega))];simp
        ·rw[aq.bP _ _ _ _ gR];exact hk.here j hj
       ·by_cases gR:id=j
        ·subst gR;simpa [aq.put] using bd
        ·rw[aq.bP _ _ _ _ gR] at hj;have:=hk.wf.bound j ob hj;simpa [aq.put] using this
      ·rcases bk.mp hx with hx|hx
       ·exact aE.ids x hx
       ·rw[a5] at hx;subst hx;exact(by cases hAi:A id with|false=>rfl|true=>(have:=hA id hAi;have:=aE.lo;omega))
     have adB:∀x∈ava++[(pre.length,id,b)],∃p,all[x.1]?=some p/\aM P p=true:=by
      intro x hx
      rcases bk.mp hx with hx|hx
      ·exact has x hx
      ·rw[a5] at hx;subst hx;exact⟨o,ky,ha⟩
     obtain⟨es,f',T',U',⟨n,h1⟩,h3,h4,hf,xy,FJ,h5,hk,h6⟩:=ih (pre++[o]) ms (id+1) f1 T _ _ xx IZ KM (by omega) dO adB (by rw[xE _ cH];exact hw)
     rw[eU] at h1 h5 hf xy
     have hap:∀L,ava++(pre.length,id,b)::L=(ava++[(pre.length,id,b)])++L:=fun L=>by rw[a6];rfl
     refine⟨.made v id b::es,f',T',U',⟨n,fun q Sx=> ?_⟩,?_,by simp only[cU,Ev.val,hp,h4],by simp only[madeOf];rw[hap];exact hf,(fun x hx=> ?_),(fun k x hx hk=>FJ k x (by simpa [aH,cH] using hx) (by rw[xE _ cH];simpa using hk)),fun pQ before hs mw hb=> ?_,hk,h6⟩
     ·simp only[cO,ei,yA,hq,ha,ux,fN,Ev.val,hp,cz]
      rw[h1 q Sx]
     ·simp only[aH,cH];simpa using h3
     ·simp only[madeOf] at hx
      rcases List.mem_cons.mp hx with rfl|hx
      ·exact⟨bz _,o,ky,ha⟩
      ·obtain⟨a,c⟩:=xy x hx;exact⟨by omega,c⟩
     ·simp only[cE,Ev.val,hp,a8,madeOf]
      rw[hap]
      have BZ:pQ=before++aH P r es T:=by simpa [aH,cH] using hs
      exact h5 pQ before BZ mw (by rw[<-eU,I0,cd (by simp[cH]),hb])
    |false=>
     simp only[xD,hq,ha,cond_false] at hw
     rw[mX,cd (by simp[ha])] at gz
     have he:bp P o=true:=by simp[bp,hq,ha]
     have vJ:LA.iG P o=false:=by
      cases vJ:LA.iG P o with
      |false=>rfl
      |true=>rw[LA.SG vJ] at hq;cases hq
     have hU:=De (by simp[LA.Dh,vJ,ha])
     have fin:∀(v:ab) (U1:aq) (n0:a1),(∀q,n0<=q->ei P (gX P lib q) all m id ava o f T=some (.E9 v U1))->bW U U1->(K0-gr P pre pre.length≠0->LA.dP A U U1)->(fA f o.dst v fun f' =>gM P lib A all r (K0-gr P pre pre.length-1) id f' U1 Q)->
       ∃es f' T' U',(∃n,∀m',n<=m' ->cO P (gX P lib m') all (m::ms) (o::r) pre.length id f T ava=some es)/\(aH P (o::r) es T).getLastD T=T' /\cU (o::r) es f=f' /\Cl.fill (fun _=>true) T' (ava++madeOf es pre.length)=U' /\
        (∀x∈madeOf es pre.length,pre.length<=x.1/\∃p,all[x.1]?=some p/\aM P p=true)/\
        (∀k x,(aH P (o::r) es T)[k]?=some x->gr P pre pre.length+k<=K0->LA.dP A s0 x)/\(∀pQ before,pQ=before++aH P (o::r) es T->(∀k x,pQ[k]?=some x->k<=K0->LA.dP A s0 x)->before.length=gr P pre pre.length->cE P all w7 (ava++madeOf es pre.length) pQ (m::ms) (o::r) es pre.length f=true)/\bW s0 U' /\Q f' U' :=by
      intro v U1 n0 hd Sy hkS hw
      obtain⟨f1,hp,hw⟩:=nL _ _ _ _ hw
      have KY:∀x∈ava,U1.heap.get x.2.1≠none:=fun x hx=>Sy.here _ (aE.here x hx)
      have dO:qU A (gr P (pre++[o]) (pre++[o]).length<=K0) s0 (aT P all) (pre++[o]).length id ava U1 U1:=by
       refine⟨⟨fun p hp=>G2 p ava U1 KY,KY,fun x hx=>by have:=aE.before x hx;omega,aE.lo,fun k hk oB=>Sy.gone k (by have:=aE.next;omega) (aE.free k hk oB),by have:=aE.next;have:=Sy.next;omega,aE.keeps.trans Sy⟩,fun h=>(aE.ZP (by rw[xE _ he] at h;simp at h;omega)).trans (hkS (by rw[xE _ he] at h;simp at h;omega)),fun h=>(aE.ZP (by rw[xE _ he] at h;simp at h;omega)).trans (hkS (by rw[xE _ he] at h;simp at h;omega)),aE.ids⟩
      obtain⟨es,f',T',U',⟨n,h1⟩,h3,h4,hf,xy,FJ,h5,hk,h6⟩:=ih (pre++[o]) ms id f1 U1 U1 ava xx IZ KM gz dO has (by rw[xE _ he,cA rfl,c0];exact hw)
      rw[eU] at h1 h5 hf xy
      refine⟨.E9 v U1::es,f',T',U',⟨n+n0,fun q Sx=> ?_⟩,?_,by simp only[cU,Ev.val,hp,h4],by simp only[madeOf];exact hf,(fun x hx=>by simp only[madeOf] at hx;obtain⟨a,b⟩:=xy x hx;exact⟨by omega,b⟩),(fun k x hx hk=>by
       simp only[aH] at hx
       cases k with
       |zero=>simp at hx;rw[<-hx];exact aE.ZO (by omega)
       |succ k=>exact FJ k x (by simpa using hx) (by rw[xE _ he,cA rfl];omega)),fun pQ before hs mw hb=> ?_,hk,h6⟩
      ·simp only[cO,hd q (by omega),Ev.val,hp,ha]
       rw[cd (by simp),h1 q (by omega)]
      ·simp only[aH]
       obtain⟨rr,hr⟩:=gA P r es U1
       rw[hr] at h3|-
       rw[a3] at h3|-
       rw[a3];exact h3
      ·simp only[cE,Ev.val,hp,a8,madeOf]
       simp only[aH] at hs
       refine h5 pQ (before++[T]) (by rw[hs,a6];rfl) mw ?_
       rw[<-eU,I0,cA he,cp,hb];rfl
     unfold tv at hw
     split at hw
     case h_3=>exact hw.elim
     ·rename_i v U1 fY
      obtain⟨hkS,hw⟩:=hw
      exact fin v U1 0 (fun q _=>by simp only[ei,yA,hq,ha,hU,fY]) (yV aE.keeps.wf fY) hkS hw
     ·rename_i g args fY
      obtain⟨v,U1,⟨nc,hc⟩,Sy,hkS,hw⟩:=hw aE.keeps.wf
      exact fin v U1 nc (fun q Sx=>by simp only[ei,yA,hq,ha,hU,fY,hc q Sx]) Sy hkS hw
theorem cX.loose {P:av}{lib:aA}{ops:a0 a4}{A:a1->cc}(K0:a1)(ht:Oe P ops K0=true){f:aW}{s:aq}{Q:aW->aq->Prop}(hA:∀i,A i=true->i<s.next)(h:gM P lib A ops ops K0 s.next f (spare s (aT P ops)) Q):cX P lib ops f s Q:=by
 intro qC
 simp only[Oe,List.all_eq_true,cB,Bool.or_eq_true,Bool.not_eq_true'] at ht
 have pT:∀(o:a4) (i:a1),ops[i]?=some o->(o,i)∈ops.zipIdx:=fun o i hi=>by rw[List.mem_zipIdx_iff_getElem?];simpa using hi
 have Qj:(cD ops []).length=ops.length:=by
  obtain⟨r,h1,h2⟩:=nm ops []
  rw[h1];simpa using h2
 have mP:∀k,s.next<=k->s.heap.get k=none:=fun k lz=>by
  cases hg:s.heap.get k with
  |none=>rfl
  |some o=>have:=qC.bound k o hg;omega
 have RT:bW s (spare s (aT P ops)):=⟨by simp[spare],fun _ _ h=>h,fun _ h=>h,⟨by omega,fun j o hj=>by have:=qC.bound j o hj;simp only[spare];omega⟩⟩
 obtain⟨es,f',T',U',⟨n,h1⟩,h3,h4,hf,xy,FJ,h5,hk,h6⟩:=FH (P:=P) (lib:=lib) (all:=ops) (A:=A) s hA K0 (cD ops []) (Q:=Q) (fun o i hi hc hp=>by
   have:=(ht (o,i) (pT o i hi)).1.2
   have J0:=pB P ops 0 i
   rw[bo] at J0
   rcases this with h|h
   ·simp[hc,hp] at h
   ·obtain⟨t1,t2⟩:=h
    rw[J0] at t2
    exact⟨by simpa [b7] using t1,by simpa [b7] using t2⟩)
  (fun o i hi hq hp=>by
   have:=(ht (o,i) (pT o i hi)).2
   have J0:=pB P ops 0 i
   rw[bo] at J0
   rcases this with h|h
   ·simp[hq,hp] at h
   ·obtain⟨t1,t2⟩:=h
    rw[J0] at t1 t2
    exact⟨by simpa [b7] using t1,by simpa [b8] using t2⟩)
  (fun o p i j hi hj ha gR hn=>by
   have:=(ht (o,i) (pT o i hi)).1.1 (p,j) (pT p j hj)
   have hb:b5 j i=true:=by simpa [cv] using gR
   simp only[ha,hb,cond_true,hn] at this
   simpa using this)
  (fun o p i j hi hj ha ua=>by
   have:=(ht (o,i) (pT o i hi)).1.1 (p,j) (pT p j hj)
   have hb:b5 j i=false:=by rw[<-cR,cv];omega
   simp only[ha,hb,cond_false] at this
   simpa using this)
  ops [] (cD ops []) s.next f (spare s (aT P ops)) (spare s (aT P ops)) [] rfl rfl Qj (by omega)
  ⟨⟨fun _ _=>rfl,fun _ hx=>(by cases hx),fun _ hx=>(by cases hx),bz _,fun k lz _=>mP k lz,by simp[spare],RT⟩,fun _=>LA.ar.yC hA (ar.spare _ _),fun _=>LA.ar.yC hA (ar.spare _ _),fun _ hx=>(by cases hx)⟩ (fun _ hx=>(by cases hx)) h
 simp only[cb,List.length_nil] at h1 h5 hf xy
 refine⟨f',U',⟨n,fun m hm=> ?_⟩,hk,h6⟩
 unfold fH
 have Zv:=h1 m hm
 have hb:cx 0 16000000=true:=rfl
 simp only[]
 show(match cO P (gX P lib m) ops (cD ops []) ops 0 s.next f (spare s (aT P ops)) [] with
  |some es=>match cE P ops (cD ops []) (madeOf es 0) (aH P ops es (spare s (aT P ops))) (cD ops []) ops es 0 f with
   |true=>some (cU ops es f,Cl.fill (fun _=>true) ((aH P ops es (spare s (aT P ops))).getLastD s) (madeOf es 0))
   |false=>none
  |none=>none)=_
 rw[Zv]
 have h5' :=h5 (aH P ops es (spare s (aT P ops))) [] rfl (fun k x hx hk=>FJ k x hx (by simpa [gr] using hk)) rfl
 simp only[h5',h4]
 obtain⟨rr,hr⟩:=gA P ops es (spare s (aT P ops))
 rw[hr] at h3|-
 rw[a3] at h3|-
 rw[h3,hf]
theorem cX.fi {P:av}{lib:aA}{ops:a0 a4}{f:aW}{s:aq}{Q:aW->aq->Prop}(A:a1->cc)(hA:∀i,A i=true->i<s.next)(g k:a1)(ht:Oe P ops g=true)(hk:cm (aT P ops) k=true)(h:gM P lib A ops ops g s.next f (spare s k) Q):GD P lib ops f s Q false:=by
 have:aT P ops=k:=by simpa [b8] using hk
 exact cX.loose g ht hA (by rw[this];exact h)
section
variable {P:av} {lib:aA} {A:a1->cc} {g:a1} {all r:a0 a4} {id:a1} {f:aW} {T:aq} {d:bb Tmp} {Q:aW->aq->Prop}
theorem cZ {cs:a0 ab}{n z base:a1}(h:cs.length=n*z)(gz:id<T.next)(hb:base<=id)
  (K:∀v T',Own T' z v n cs->aI v=some id->ar base T T' ->T'.next=T.next->(∀j,j≠id->T'.heap.get j=T.heap.get j)->qg P lib A g all r (id+1) f d Q v T'):Di P lib A g all r id f T d Q (fD id (oF (aZ ⟨.nil,id⟩ cs n z))):=by
 have e:fD id (oF (aZ ⟨.nil,id⟩ cs n z))=some (.slice (some ⟨id,0,none⟩) n (cs.length+1),⟨cs,1,true,z⟩):=by
  have:aZ ⟨.nil,id⟩ cs n z=some (.slice (some ⟨id,0,none⟩) n (cs.length+1),(⟨.nil,id⟩:aq).new (.dZ ⟨cs,1,true,z⟩)):=by simp[aZ,aq.room]
  rw[this,ft]
  have hb:((⟨.nil,id⟩:aq).new (.dZ ⟨cs,1,true,z⟩)).bR id=some ⟨cs,1,true,z⟩:=oO ⟨.nil,id⟩ _
  simp only[fD,hb]
 rw[e,Lc]
 have ND:∀j,j≠id->(T.put id (.dZ ⟨cs,1,true,z⟩)).heap.get j=T.heap.get j:=fun j hj=>aq.bP _ _ _ _ (Ne.symm hj)
 refine K _ _ (.of id n 1 cs (by simpa [aq.put] using gz) (aq.ck _ _ _ (by omega)) (by omega) h) rfl ⟨bz _,fun j hj=>ND j (by omega)⟩ rfl ND
theorem iT {st xt e:bg}{xd:TypeDesc}{z oo:a1}{zv:ab}(hu:P.underlying st=some (.slice e))(ZF:P.underlying xt=some xd)(Qc:(∃e2,xd= .slice e2)\/xd= .string)(cf:aX P e=some z)(sQ:eY P e=some oo)(uP:bV P e=some zv)(oK:cm zv.cells.toList.length z=true)
  {x y:ab} {n m:a1} {l new:a0 ab} (hx:Own T z x n l) (hy:dV T z y=some (m,new)) (mA:new.length=m*z) (wC:0<z) (dH:new.all aL=true) (gL:(n+m)*oo<=140737488355328) (dI:n+m<=140737488355328) {base:a1} (hF:aF base x) (hB:base<=T.next) (hA1:g≠0->∀i,aI x=some i->A i=false) (QA:∀i,A i=true->i<T.next)
  (K:∀x' T',Own T' z x' (n+m) (l++new)->aF base x' ->bt x T T' ->(aI x' =aI x\/∃i,aI x' =some i/\T.next<=i)->qg P lib A (g-1) all r id f d Q x' T'):tv P lib A g all r id f d T Q (oF (gW P T st xt x y)):=by
 obtain⟨x',s',h1,h2,h3,h4⟩:=Own.append hu ZF Qc cf sQ uP oK hx hy mA wC dH gL dI
 rw[h1,ft]
 have hk:g≠0->LA.dP A T s' :=fun hg=>⟨h3.next,fun i hi=>h3.get i (QA i hi) (fun e=>by have:=hA1 hg i e;rw[hi] at this;cases this)⟩
 refine⟨hk,K _ _ h2 (fun i hi=> ?_) h3 h4⟩
 rcases h4 with h4|⟨j,hj,hl⟩
 ·exact hF i (by rw[<-h4];exact hi)
 ·rw[hj] at hi;injection hi with hi;omega
end
end LB
theorem bI:type_of%
 (aR (aR (aR @LB.zg @LB.vL) (aR @LB.Hc @LB.qh)) (aR (aR @LB.Hd
 @LB.Dk) (aR @LB.Dm (aR @LB.Dj @LB.Dl)))):=
 (aR (aR (aR @LB.zg @LB.vL) (aR @LB.Hc @LB.qh)) (aR (aR @LB.Hd
 @LB.Dk) (aR @LB.Dm (aR @LB.Dj @LB.Dl))))
end Go.Cl
namespace Go.Cl
theorem ax.aK {s s' :aq}{i j:a1}{cs:a0 ab}(h:ax s i cs)(h1:s'.next=s.next)(h2:∀q,q≠j->s'.heap.get q=s.heap.get q)(ua:i≠j):ax s' i cs:=
 h.turns (bt.aK (o:=0) (c:=none) h1 h2) (fun e=>by have e:some j=some i:=e;injection e with e;exact ua e.symm)
def over (l:a0 ab)(off:a1)(vs:a0 ab):a0 ab:=l.take off++vs++l.drop (off+vs.length)
theorem tw {l:a0 ab}{off:a1}{vs:a0 ab}(h:off+vs.length<=l.length):(over l off vs).length=l.length:=by
 unfold over;simp;omega
theorem Ld {l vs:a0 ab}(h:vs.length=l.length):over l 0 vs=vs:=by
 unfold over
 rw[c4,cb,bo,h,List.drop_length,ca]
theorem Le {P:av}{e:bg}{s:aq}{i:a1}{l:a0 ab}{low z m:a1}(hb:s.bR i=some ⟨l,low,true,z⟩)(hl:low<=l.length+1){off c:a1}(hc:c=l.length+1){v:ab}{vs:a0 ab}(hv:v.cells.toList=vs)(hm:vs.length=m)(UB:0<m)(cf:aX P e=some m)(ho:off+m<=l.length)(dH:vs.all aL=true):
  dR P s e (.pointer (some ⟨i,off,some c⟩)) v=some (s.put i (.dZ ⟨over l off vs,l.length+1,true,z⟩)):=by
 subst hc
 obtain⟨k,rfl⟩:∃k,m=k+1:=⟨m-1,by omega⟩
 obtain⟨a,w,rfl⟩:∃a w,vs=a::w:=by
  cases vs with
  |nil=>simp at hm
  |cons a w=>exact⟨a,w,rfl⟩
 unfold dR
 have alH:cm (a::w).length (k+1)=true:=by rw[b8];exact hm
 simp only[cf,hv,alH,cz]
 unfold aq.storeAt
 have zf:setAt l off (a::w)=some (over l off (a::w)):=jy _ _ _ (by omega)
 have iy:(true&&cx low (l.length+1)&&cm (l.length+1) (l.length+1)&&(a::w).all aL)=true:=by
  simp only[dH,c5,a8,cB,b7,b8];exact⟨hl,trivial⟩
 simp only[hb,iy,cz,zf]
theorem ax.VT {P:av}{e:bg}{s:aq}{i:a1}{cs:a0 ab}(h:ax s i cs){m off c:a1}(cf:aX P e=some m)(UB:0<m)(hc:c=cs.length+1){v:ab}{vs:a0 ab}(hv:v.cells.toList=vs)(hm:vs.length=m)(ho:off+m<=cs.length)(dH:vs.all aL=true):
  ∃s',dR P s e (.pointer (some ⟨i,off,some c⟩)) v=some s' /\ax s' i (over cs off vs)/\(s'.next=s.next/\∀j,j≠i->s'.heap.get j=s.heap.get j):=by
 obtain⟨low,z,h1,h2⟩:=h.dZ
 refine⟨_,Le h1 h2 hc hv hm UB cf ho dH,⟨h.lt,cs.length+1,z,aq.ck _ _ _ (by omega),by rw[tw (by omega)];omega⟩,rfl,fun j hj=>aq.bP _ _ _ _ (Ne.symm hj)⟩
theorem qV {P:av}{lib:aA}{all r:a0 a4}{f:aW}{s:aq}{d:bb Tmp}{Q:aW->aq->Prop}{e:bg}{m:a1}(cf:aX P e=some m)(UB:0<m){i:a1}{cs:a0 ab}(h:ax s i cs){off c:a1}(hc:c=cs.length+1){v:ab}{vs:a0 ab}(hv:v.cells.toList=vs)(hm:vs.length=m)(ho:off+m<=cs.length)(dH:vs.all aL=true)
  (K:∀s',ax s' i (over cs off vs)->s'.next=s.next->(∀j,j≠i->s'.heap.get j=s.heap.get j)->dW P lib all r f s d Q (some (.val undef s'))):dW P lib all r f s d Q (BN (dR P s e (.pointer (some ⟨i,off,some c⟩)) v)):=by
 obtain⟨s',h1,h2,h3,h4⟩:=h.VT cf UB hc hv hm ho dH
 rw[h1,iC]
 exact K s' h2 h3 h4
theorem aB {P:av}{lib:aA}{all r:a0 a4}{f:aW}{s:aq}{d:bb Tmp}{Q:aW->aq->Prop}{e:bg}{m:a1}(cf:aX P e=some m)(UB:0<m){i:a1}{cs:a0 ab}(h:ax s i cs)(wR:cs.length=m){c:a1}(hc:c=m+1){vs:c6 ab}(hm:vs.toList.length=m)(dH:vs.toList.all aL=true)
  (K:∀s',ax s' i vs.toList->s'.next=s.next->(∀j,j≠i->s'.heap.get j=s.heap.get j)->dW P lib all r f s d Q (some (.val undef s'))):dW P lib all r f s d Q (BN (dR P s e (.pointer (some ⟨i,0,some c⟩)) (.agg vs))):=by
 refine qV cf UB h (by omega) (v:= .agg vs) (vs:=vs.toList) rfl hm (by omega) dH ?_
 rw[Ld (by omega)]
 exact K
theorem Own.ahc {P:av}{e:bg}{m z:a1}(cf:aX P e=some m)(UB:0<m){s:aq}{v:ab}{n:a1}{l:a0 ab}(h:Own s z v n l){k j:a1}(hk:k<n)(hj:j+m<=z){w:ab}{vs:a0 ab}(hv:w.cells.toList=vs)(hm:vs.length=m)(dH:vs.all aL=true)
  {p:ab} (hp:∀i o c,bc z v k= .pointer (some ⟨i,o,some c⟩)->p= .pointer (some ⟨i,o+j,some c⟩)):
  ∃s',dR P s e p w=some s' /\Own s' z v n (over l (k*z+j) vs)/\bt v s s' :=by
 cases h with
 |nil=>omega
 |of i n low l hi hb hl hlen=>
  have hkz:k*z+z<=n*z:=by
   have:(k+1)*z<=n*z:=Nat.mul_le_mul_right z hk
   rwa [Nat.succ_mul] at this
  have Vo:p= .pointer (some ⟨i,k*z+j,some (l.length+1)⟩):=by
   have:=hp i (0+k*z) (l.length+1) rfl
   rw[this,bo]
  rw[Vo]
  have Bp:(over l (k*z+j) vs).length=l.length:=tw (by omega)
  refine⟨_,Le hb hl rfl hv hm UB cf (by omega) dH,?_,⟨by simp[aq.put],fun q _ hq=> ?_⟩⟩
  ·rw[<-Bp]
   exact .of i n _ _ (by simpa [aq.put] using hi) (aq.ck _ _ _ (by omega)) (by omega) (by omega)
  ·rw[aq.bP]
   intro e;subst e;exact hq rfl
theorem Own.ZQ {P:av}{e:bg}{z:a1}(cf:aX P e=some z)(wC:0<z){s:aq}{v:ab}{n:a1}{l:a0 ab}(h:Own s z v n l){k:a1}(hk:k<n){vs:c6 ab}(hm:vs.toList.length=z)(dH:vs.toList.all aL=true):
  ∃s',dR P s e (bc z v k) (.agg vs)=some s' /\Own s' z v n (over l (k*z) vs.toList)/\bt v s s' :=by
 have:=h.ahc cf wC (j:=0) hk (by omega) (w:= .agg vs) (vs:=vs.toList) rfl hm dH (p:=bc z v k) (fun i o c h=>h)
 simpa using this
theorem Dn {P:av}{lib:aA}{all r:a0 a4}{f:aW}{s:aq}{d:bb Tmp}{Q:aW->aq->Prop}{e:bg}{z:a1}(cf:aX P e=some z)(wC:0<z){v:ab}{n:a1}{l:a0 ab}(h:Own s z v n l){k:a1}(hk:k<n){vs:c6 ab}(hm:vs.toList.length=z)(dH:vs.toList.all aL=true)
  (K:∀s',Own s' z v n (over l (k*z) vs.toList)->bt v s s' ->dW P lib all r f s d Q (some (.val undef s'))):dW P lib all r f s d Q (BN (dR P s e (bc z v k) (.agg vs))):=by
 obtain⟨s',h1,h2,h3⟩:=h.ZQ cf wC hk hm dH
 rw[h1,iC]
 exact K s' h2 h3
theorem aV (P:av)(f:aW)(s:aq)(t:Tmp)(ty:bg)(r:a0 ResultVar):cL P f s (.cell t ty::r)=if t<f.n then(match aJ P s ty (f.get t),cL P f s r with
  |some v,some l=>some (v::l)
  |_,_=>none) else none:=by
 by_cases h:t<f.n
 ·have hb:b5 t f.n=true:=by simpa [cv] using h
  rw[cA h]
  conv=>lhs;rw[cL]
  simp only[hb,cz]
  rfl
 ·have hb:b5 t f.n=false:=by rw[<-cR,cv];exact h
  rw[cd h]
  conv=>lhs;rw[cL]
  simp[hb]
theorem gi {P:av}{s:aq}{t e:bg}{z:a1}{zv:ab}{cs:c6 ab}(hu:P.underlying t=some (.slice e))(cf:aX P e=some z)(hz:bV P e=some zv)(ph:bN zv=true)(oK:cm zv.cells.toList.length z=true)(hl:cs.toList.length=z)(hz6:z<=65536):aO P s t 1 [(0,.agg cs)]=aZ s cs.toList 1 z:=by
 unfold aO;rw[hu]
 have VU:zv.cells.toList.length=z:=by simpa [b8] using oK
 have hr:bB zv.cells.toList 1=zv.cells.toList:=by simp[bB]
 have zf:setAt zv.cells.toList 0 cs.toList=some cs.toList:=by
  rw[jy _ _ _ (by omega)]
  rw[c4,cb,bo,List.drop_of_length_le (by omega),ca]
 have hc:(cx (1*z) 65536&&bN zv&&cm zv.cells.toList.length z)=true:=by rw[ph,oK];simp[b7];exact hz6
 simp only[cf,hz,hc,hr,fG,bS,Nat.zero_mul,zf,cz]
 simp[VU,hl]
namespace LB
section
variable {P:av} {lib:aA} {A:a1->cc} {g:a1} {all r:a0 a4} {id:a1} {f:aW} {T:aq} {d:bb Tmp} {Q:aW->aq->Prop}
theorem kK {cs:a0 ab}{z:a1}(gz:id<T.next)
  (K:∀T',ax T' id cs->T'.next=T.next->(∀j,j≠id->T'.heap.get j=T.heap.get j)->qg P lib A g all r (id+1) f d Q (.pointer (some ⟨id,0,some (cs.length+1)⟩)) T'):Di P lib A g all r id f T d Q (fD id (oF (fm ⟨.nil,id⟩ cs z))):=by
 have e:fD id (oF (fm ⟨.nil,id⟩ cs z))=some (.pointer (some ⟨id,0,some (cs.length+1)⟩),⟨cs,1,true,z⟩):=by
  have:fm ⟨.nil,id⟩ cs z=some (.pointer (some ⟨id,0,some (cs.length+1)⟩),(⟨.nil,id⟩:aq).new (.dZ ⟨cs,1,true,z⟩)):=by simp[fm,aq.room]
  rw[this,ft]
  have hb:((⟨.nil,id⟩:aq).new (.dZ ⟨cs,1,true,z⟩)).bR id=some ⟨cs,1,true,z⟩:=oO ⟨.nil,id⟩ _
  simp only[fD,hb]
 rw[e,Lc]
 exact K _ ⟨by simpa [aq.put] using gz,1,z,aq.ck _ _ _ (by omega),by omega⟩ rfl (fun j hj=>aq.bP _ _ _ _ (Ne.symm hj))
theorem fj {e:bg}{m:a1}(cf:aX P e=some m)(UB:0<m){i:a1}{cs:a0 ab}(h:ax T i cs){off c:a1}(hc:c=cs.length+1){v:ab}{vs:a0 ab}(hv:v.cells.toList=vs)(hm:vs.length=m)(ho:off+m<=cs.length)(dH:vs.all aL=true)(hA:g≠0->A i=false)
  (K:∀T',ax T' i (over cs off vs)->T'.next=T.next->(∀j,j≠i->T'.heap.get j=T.heap.get j)->qg P lib A (g-1) all r id f d Q undef T'):tv P lib A g all r id f d T Q (BN (dR P T e (.pointer (some ⟨i,off,some c⟩)) v)):=by
 obtain⟨s',h1,h2,h3,h4⟩:=h.VT cf UB hc hv hm ho dH
 rw[h1,iC,SH]
 exact⟨fun hg=>⟨by omega,fun j hj=>h4 j (fun e=>by have:=hA hg;rw[e,this] at hj;cases hj)⟩,K s' h2 h3 h4⟩
theorem ct {e:bg}{m:a1}(cf:aX P e=some m)(UB:0<m){i:a1}{cs:a0 ab}(h:ax T i cs)(wR:cs.length=m){c:a1}(hc:c=m+1){vs:c6 ab}(hm:vs.toList.length=m)(dH:vs.toList.all aL=true)(hA:g≠0->A i=false)
  (K:∀T',ax T' i vs.toList->T'.next=T.next->(∀j,j≠i->T'.heap.get j=T.heap.get j)->qg P lib A (g-1) all r id f d Q undef T'):tv P lib A g all r id f d T Q (BN (dR P T e (.pointer (some ⟨i,0,some c⟩)) (.agg vs))):=by
 refine fj cf UB h (by omega) (v:= .agg vs) (vs:=vs.toList) rfl hm (by omega) dH hA ?_
 rw[Ld (by omega)]
 exact K
end
end LB
end Go.Cl
namespace Go.Proofs.YtdfjfncifneocaaGreat
open Go.Cl Go.Cl.Pr
theorem mZ (i o c:a1):au ao 56 (.pointer (some ⟨i,o,some c⟩)) 0=some (.pointer (some ⟨i,o+0,some c⟩)):=by
 unfold au;rw[bC];simp[bA]
theorem Bb (i o c:a1):au ao 56 (.pointer (some ⟨i,o,some c⟩)) 1=some (.pointer (some ⟨i,o+1,some c⟩)):=by
 unfold au;rw[bC];simp[bA]
theorem FK (i o c:a1):au ao 56 (.pointer (some ⟨i,o,some c⟩)) 2=some (.pointer (some ⟨i,o+2,some c⟩)):=by
 unfold au;rw[bC];simp[bA]
theorem FL (i o c:a1):au ao 141 (.pointer (some ⟨i,o,some c⟩)) 0=some (.pointer (some ⟨i,o+0,some c⟩)):=by
 unfold au;rw[bs];simp[bA]
theorem Dp (i o c:a1):au ao 141 (.pointer (some ⟨i,o,some c⟩)) 1=some (.pointer (some ⟨i,o+1,some c⟩)):=by
 unfold au;rw[bs];simp[bA]
theorem Dq (i o c:a1):au ao 141 (.pointer (some ⟨i,o,some c⟩)) 2=some (.pointer (some ⟨i,o+2,some c⟩)):=by
 unfold au;rw[bs];simp[bA]
abbrev i3 (a b c:Int):ab:= .agg #[.int .i64 a,.int .i64 b,.int .i64 c]
abbrev l3 (a b c:Int):a0 ab:=[.int .i64 a,.int .i64 b,.int .i64 c]
theorem Ay:bX ao 56=some true:=by kernel_rfl
theorem VV:bX ao 141=some true:=by kernel_rfl
theorem rW:aX ao 56=some 3:=by kernel_rfl
theorem ahd:aX ao 66=some 3:=by kernel_rfl
theorem QB:aX ao 141=some 3:=by kernel_rfl
theorem ahe:bV ao 141=some (i3 0 0 0):=by kernel_rfl
theorem abY:bN (i3 0 0 0)=true:=by kernel_rfl
theorem ZR (a b c:Int):bZ (i3 a b c) (i3 a b c)=true:=by simp[bZ,fp,cN]
def Of (s:aq)(p:Prop)[Decidable p](v:ab)(s' :aq):Prop:=v= .bool (decide p)/\ar s.next s s'
set_option maxHeartbeats 4000000 in
theorem xF {lib:aA}(hl:lib.at 46=none)(s:aq)(p co cl:Int):Runs ao lib 46 [i3 p co cl] s (Of s (oC p co cl)):=by
 obtain⟨QQ,fw⟩:∃QQ:ab->aq->Prop,QQ=Of s (oC p co cl):=⟨_,rfl⟩
 rw[<-fw]
 refine Runs.enter 43 Tryz.func46 rfl hl rfl rfl ?_
 intro f hn hf
 have h0:f.get 0=i3 p co cl:=hf 0
 clear hf
 simp only[aj,QS,↓an,hn,h0]
 refine aw ?_
 intro s1 ht aE xG
 have ht:ax s1 s.next (l3 p co cl):=ht
 have p0:aJ ao s1 3 (.pointer (some ⟨s.next,0,some 4⟩))=some (.int .i64 p):=ht.load bu (off:=0) (c:=4) rfl (by simp)
 have p1:aJ ao s1 3 (.pointer (some ⟨s.next,1,some 4⟩))=some (.int .i64 co):=ht.load bu (off:=1) (c:=4) rfl (by simp)
 have p2:aJ ao s1 3 (.pointer (some ⟨s.next,2,some 4⟩))=some (.int .i64 cl):=ht.load bu (off:=2) (c:=4) rfl (by simp)
 have Dr:[Value.int .i64 p,.int .i64 co,.int .i64 cl].length+1=4:=rfl
 simp only[aj,ak,QS,Qx,↓an,hn,Dr,mZ,p0]
 refine Ob (fun f' s' =>s' =s1/\f'.n=43/\f'.get 1= .pointer (some ⟨s.next,0,some 4⟩)/\∃t:cc,f'.get 3= .bool t/\(t=true↔(p=1\/p=2\/(10<=p/\p<=15)))) ?_ ?_
 ·intro Q' hQ
  by_cases c1:p=1
  ·simp only[aj,ak,QS,Qx,↓an,undef,hn,b4 c1]
   exact hQ _ _ ⟨rfl,by simp only[ag,hn],by simp only[ad,↓an,Qx],true,by simp only[ad,↓an],⟨fun _=>by omega,fun _=>rfl⟩⟩
  by_cases c2:p=2
  ·simp only[aj,ak,QS,Qx,↓an,undef,hn,mZ,p0,a9 c1,b4 c2]
   exact hQ _ _ ⟨rfl,by simp only[ag,hn],by simp only[ad,↓an,Qx],true,by simp only[ad,↓an],⟨fun _=>by omega,fun _=>rfl⟩⟩
  by_cases c3:10<=p
  rotate_left
  ·simp only[aj,ak,QS,Qx,↓an,undef,hn,mZ,p0,a9 c1,a9 c2,a9 c3]
   exact hQ _ _ ⟨rfl,by simp only[ag,hn],by simp only[ad,↓an,Qx],false,by simp only[ad,↓an],⟨fun h=>by(cases h),fun h=>by omega⟩⟩
  simp only[aj,ak,QS,Qx,↓an,hn,mZ,p0,a9 c1,a9 c2,b4 c3]
  exact hQ _ _ ⟨rfl,by simp only[ag,hn],by simp only[ad,↓an,Qx],decide (p<=15),by simp only[ad,↓an],by simp[c1,c2,c3]⟩
 clear hn h0 f
 rintro f s' ⟨BZ,hn,h1,t,h3,jM⟩
 rw[BZ]
 cases t with
 |false=>
  simp only[aj,ak,al,oneOf,QS,Qx,↓an,undef,hn,h3,a7]
  rw[fw]
  exact⟨by rw[bn (fun h=>Bool.noConfusion (jM.2 h.1))],aE⟩
 |true=>
 by_cases d1:1<=co
 rotate_left
 ·simp only[aj,ak,al,oneOf,QS,Qx,↓an,undef,hn,h1,h3,Bb,p1,a9 d1,a7]
  rw[fw]
  exact⟨by rw[bn (fun h:oC p co cl=>d1 h.2.1)],aE⟩
 by_cases d2:co<=4
 rotate_left
 ·simp only[aj,ak,al,oneOf,QS,Qx,↓an,undef,hn,h1,h3,Bb,p1,b4 d1,a9 d2,a7]
  rw[fw]
  exact⟨by rw[bn (fun h:oC p co cl=>d2 h.2.2.1)],aE⟩
 by_cases d3:1<=cl
 rotate_left
 ·simp only[aj,ak,al,oneOf,QS,Qx,↓an,undef,hn,h1,h3,Bb,FK,p1,p2,b4 d1,b4 d2,a9 d3,a7]
  rw[fw]
  exact⟨by rw[bn (fun h:oC p co cl=>d3 h.2.2.2.1)],aE⟩
 simp only[aj,ak,al,oneOf,QS,Qx,↓an,hn,h1,h3,Bb,FK,p1,p2,b4 d1,b4 d2,b4 d3,a7]
 rw[fw]
 refine⟨congrArg _ ?_,aE⟩
 exact decide_eq_decide.2 ⟨fun h=>⟨jM.1 rfl,d1,d2,d3,h⟩,fun h=>h.2.2.2.2⟩
theorem Ds {lib:aA}(hl:lib.at 193=none)(s:aq)(a b:Int)(ha: -10000<=a/\a<=10000)(hb: -10000<=b/\b<=10000):Runs ao lib 193 [.int .i64 a,.int .i64 b] s fun v s' =>v= .int .i64 (uA a b)/\s' =s:=by
 refine Runs.enter 12 Tryz.func193 rfl hl rfl rfl ?_
 intro f hn hf
 have h0:f.get 0= .int .i64 a:=hf 0
 have h1:f.get 1= .int .i64 b:=hf 1
 clear hf
 have e:(if b-a>a-b then b-a else a-b)=uA a b:=rfl
 simp(disch:=omega)only[aj,al,oneOf,aa,QS,Qx,↓an,hn,h0,h1,aD,e,Tryz.results193]
end Go.Proofs.YtdfjfncifneocaaGreat
