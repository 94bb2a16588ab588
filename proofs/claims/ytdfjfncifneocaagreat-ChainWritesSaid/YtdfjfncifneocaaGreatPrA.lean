/-
 The clean machine: a statement whose order is open, in which what was there ahead of it is read out of a set of blocks that the first effects leave, ahead of the later ones: it comes to what it comes to in the text's order.
-/
import Derived.Test.YtdfjfncifneocaaGreatLooseA
import Derived.Test.YtdfjfncifneocaaGreatCutA
namespace Go.Cl
namespace LB
def bP (P:Program)(lib:ay)(A:Nat->Bool)(all:List Oper):List Oper->Nat->Nat->aR->aq->(aR->aq->Prop)->Prop
 |[],_,_,f,T,Q=>Q f T
 |o::r,g,id,f,T,Q=>
  match b9 all o f with
  |true=>
   match aI P o,aB P o with
   |true,_=>
    match cy P o f T with
    |some (.val v _)=>LA.eN o f A=true/\bX v v=true/\cO f o.dst v fun f' =>bP P lib A all r g id f' T Q
    |_=>False
   |false,true=>
    match cR id (cy P o f ⟨.nil,id⟩) with
    |some (v,bl)=>cO f o.dst v fun f' =>bP P lib A all r g (id+1) f' (T.put id (.dL bl)) Q
    |none=>False
   |false,false=>
    match cy P o f T with
    |some (.val v T')=>(g≠0->LA.de A T T')/\cO f o.dst v fun f' =>bP P lib A all r (g-1) id f' T' Q
    |some (.call gg args)=>Runs P lib gg args T fun v T' =>(g≠0->LA.de A T T')/\cO f o.dst v fun f' =>bP P lib A all r (g-1) id f' T' Q
    |none=>False
  |false=>cO f o.dst undef fun f' =>bP P lib A all r (if aY P o then g-1 else g) (if aB P o then id+1 else id) f' T Q
def jR (P:Program)(lib:ay)(A:Nat->Bool)(g:Nat)(all:List Oper)(o:Oper)(r:List Oper)(id:Nat)(f:aR)(T:aq)(Q:aR->aq->Prop):Option AR->Prop
 |some (.val v _)=>LA.eN o f A=true/\bX v v=true/\cO f o.dst v fun f' =>bP P lib A all r g id f' T Q
 |_=>False
def jk (P:Program)(lib:ay)(A:Nat->Bool)(g:Nat)(all r:List Oper)(id:Nat)(f:aR)(T:aq)(d:Option Tmp)(Q:aR->aq->Prop):Option (Value×iC)->Prop
 |some (v,bl)=>cO f d v fun f' =>bP P lib A all r g (id+1) f' (T.put id (.dL bl)) Q
 |none=>False
def fP (P:Program)(lib:ay)(A:Nat->Bool)(g:Nat)(all r:List Oper)(id:Nat)(f:aR)(d:Option Tmp)(T:aq)(Q:aR->aq->Prop):Option AR->Prop
 |some (.val v T')=>(g≠0->LA.de A T T')/\cO f d v fun f' =>bP P lib A all r (g-1) id f' T' Q
 |some (.call gg args)=>Runs P lib gg args T fun v T' =>(g≠0->LA.de A T T')/\cO f d v fun f' =>bP P lib A all r (g-1) id f' T' Q
 |none=>False
def ff (P:Program)(lib:ay)(A:Nat->Bool)(g:Nat)(all r:List Oper)(id:Nat)(f:aR)(d:Option Tmp)(Q:aR->aq->Prop)(v:Value)(T' :aq):Prop:=cO f d v fun f' =>bP P lib A all r g id f' T' Q
def fQ (P:Program)(lib:ay)(A:Nat->Bool)(g:Nat)(all:List Oper)(o:Oper)(r:List Oper)(id:Nat)(f:aR)(T:aq)(Q:aR->aq->Prop):Bool->Prop
 |true=>bif aI P o then jR P lib A g all o r id f T Q (cy P o f T) else bif aB P o then jk P lib A g all r id f T o.dst Q (cR id (cy P o f ⟨.nil,id⟩)) else fP P lib A g all r id f o.dst T Q (cy P o f T)
 |false=>cO f o.dst undef fun f' =>bP P lib A all r (if aY P o then g-1 else g) (if aB P o then id+1 else id) f' T Q
section
variable (P:Program) (lib:ay) (A:Nat->Bool) (all:List Oper) (r:List Oper) (g id:Nat) (f:aR) (T:aq) (Q:aR->aq->Prop)
theorem kR:bP P lib A all [] g id f T Q=Q f T:=by simp only[bP]
theorem jG (o:Oper):bP P lib A all (o::r) g id f T Q=fQ P lib A g all o r id f T Q (b9 all o f):=by
 simp only[bP]
 cases b9 all o f with
 |false=>rfl
 |true=>
  simp only[fQ]
  cases aI P o with
  |true=>
   simp only[cond_true]
   cases cy P o f T with
   |none=>rfl
   |some a=>cases a<;>rfl
  |false=>
   cases aB P o with
   |true=>
    simp only[cond_true,cond_false]
    cases cR id (cy P o f ⟨.nil,id⟩) with
    |none=>rfl
    |some a=>rfl
   |false=>
    simp only[cond_false]
    cases cy P o f T with
    |none=>rfl
    |some a=>cases a<;>rfl
variable (d:Option Tmp) (ty:TypeId) (ps:String) (af:Array Edge) (gd:Option (Nat×Bool))
theorem m4 (o:Oper):fQ P lib A g all o r id f T Q true=bif aI P o then jR P lib A g all o r id f T Q (cy P o f T) else bif aB P o then jk P lib A g all r id f T o.dst Q (cR id (cy P o f ⟨.nil,id⟩)) else fP P lib A g all r id f o.dst T Q (cy P o f T):=rfl
theorem sX (o:Oper):fQ P lib A g all o r id f T Q true=if aI P o=true then jR P lib A g all o r id f T Q (cy P o f T) else if aB P o=true then jk P lib A g all r id f T o.dst Q (cR id (cy P o f ⟨.nil,id⟩)) else fP P lib A g all r id f o.dst T Q (cy P o f T):=by
 rw[m4]
 cases aI P o<;>cases aB P o<;>rfl
theorem iF (op:Op)(t:Tmp):fQ P lib A g all ⟨some t,op,ty,ps,af,gd⟩ r id f T Q false=if t<f.n then bP P lib A all r (if aI P ⟨some t,op,ty,ps,af,gd⟩=true then g else if aB P ⟨some t,op,ty,ps,af,gd⟩=true then g else g-1) (if aB P ⟨some t,op,ty,ps,af,gd⟩=true then id+1 else id) (f.put t undef) T Q else False:=by
 have e:(if aY P ⟨some t,op,ty,ps,af,gd⟩=true then g-1 else g)=(if aI P ⟨some t,op,ty,ps,af,gd⟩=true then g else if aB P ⟨some t,op,ty,ps,af,gd⟩=true then g else g-1):=by
  unfold aY
  cases aI P ⟨some t,op,ty,ps,af,gd⟩<;>cases aB P ⟨some t,op,ty,ps,af,gd⟩<;>rfl
 rw[<-e]
 simp only[fQ,dk]
theorem sY (o:Op)(t:Tmp)(v:Value)(s' :aq):jR P lib A g all ⟨some t,o,ty,ps,af,gd⟩ r id f T Q (some (.val v s'))=if LA.eN ⟨some t,o,ty,ps,af,gd⟩ f A=true/\bX v v=true/\t<f.n then bP P lib A all r g id (f.put t v) T Q else False:=by
 simp only[jR,dk]
 by_cases h0:LA.eN ⟨some t,o,ty,ps,af,gd⟩ f A=true<;>by_cases h1:bX v v=true<;>by_cases h2:t<f.n<;>simp[h0,h1,h2]
theorem qb (gg:FuncId)(args:List Value):fP P lib A g all r id f d T Q (some (.call gg args))=Runs P lib gg args T (fun v T' =>(g≠0->LA.de A T T')/\ff P lib A (g-1) all r id f d Q v T'):=rfl
theorem qc (t:Tmp)(v:Value)(s' :aq):ff P lib A g all r id f (some t) Q v s' =if t<f.n then bP P lib A all r g id (f.put t v) s' Q else False:=by
 simp only[ff,dk]
theorem qd (v:Value):fP P lib A g all r id f d T Q (some (.val v T))=ff P lib A (g-1) all r id f d Q v T:=by
 simp only[fP,ff,LA.de.refl,implies_true,true_and]
theorem Nu (v:Value)(T' :aq):fP P lib A g all r id f d T Q (some (.val v T'))=((g≠0->LA.de A T T')/\ff P lib A (g-1) all r id f d Q v T'):=rfl
theorem qf (v:Value)(s' :aq):ff P lib A g all r id f none Q v s' =bP P lib A all r g id f s' Q:=rfl
theorem pj (v:Value)(bl:iC):jk P lib A g all r id f T d Q (some (v,bl))=ff P lib A g all r (id+1) f d Q v (T.put id (.dL bl)):=rfl
end
def m9 (P:Program)(ops:List Oper)(K0:Nat):Bool:=
 let ms:=bW ops []
 ops.zipIdx.all fun x=>
  (ops.zipIdx.all fun y=> !aB P y.1||(bif Nat.blt y.2 x.2 then !LA.ja P x.1||Nat.testBit (cC ms x.2) y.2 else !Nat.testBit (cC ms x.2) y.2))&&
  (!(LA.dg P x.1&& !eK x.1)||(Nat.ble (countP (fun j=> !Nat.testBit (cC ms j) x.2) P ops 0) K0&&Nat.ble (countP (fun j=>Nat.blt j x.2) P ops 0) K0))&&
  (!(aI P x.1&& !LA.dg P x.1)||(Nat.ble (countP (fun j=> !Nat.testBit (cC ms j) x.2) P ops 0) (countP (fun j=>Nat.blt j x.2) P ops 0)&&Nat.beq (countP (Nat.testBit (cC ms x.2)) P ops 0) (countP (fun j=>Nat.blt j x.2) P ops 0)))
structure fR (A:Nat->Bool) (b:Prop) (s0:aq) (K:Nat) (i id:Nat) (zS:List (Nat×Nat×iC)) (T U:aq):Prop extends Stands s0 K i id zS T U where
 BA:b->LA.de A s0 T
 BB:b->LA.de A s0 U
 ids:∀x∈zS,A x.2.1=false
theorem Eh {P:Program}{o:Oper}{A:Nat->Bool}{s0:aq}(h:LA.dg P o=true){f:aR}{s t:aq}(hl:LA.eN o f A=true)(hs:eK o=false->LA.de A s0 s)(ht:eK o=false->LA.de A s0 t){v:Value}{s' :aq}(ha:cy P o f s=some (.val v s')):cy P o f t=some (.val v t):=by
 cases hp:eK o with
 |true=>exact rQ hp ha
 |false=>exact LA.ph h hl (hs hp) (ht hp) ha
theorem jl {P:Program}{lib:ay}{all:List Oper}{A:Nat->Bool}(s0:aq)(hA:∀i,A i=true->i<s0.next)(K0:Nat)(kM:List Nat){Q:aR->aq->Prop}
  (dA:∀(o:Oper) (i:Nat),all[i]?=some o->LA.dg P o=true->eK o=false->countP (fun j=> !Nat.testBit (cC kM j) i) P all 0<=K0/\eU P all i<=K0)
  (JI:∀(o:Oper) (i:Nat),all[i]?=some o->aI P o=true->LA.dg P o=false->countP (fun j=> !Nat.testBit (cC kM j) i) P all 0<=eU P all i/\countP (Nat.testBit (cC kM i)) P all 0=eU P all i)
  (Bo:∀(o p:Oper) (i j:Nat),all[i]?=some o->all[j]?=some p->aB P p=true->j<i->LA.ja P o=true->Nat.testBit (cC kM i) j=true)
  (JJ:∀(o p:Oper) (i j:Nat),all[i]?=some o->all[j]?=some p->aB P p=true->i<=j->Nat.testBit (cC kM i) j=false):
  ∀(l pre:List Oper) (ms:List Nat) (id:Nat) (f:aR) (T U:aq) (zS:List (Nat×Nat×iC)),all=pre++l->ms=kM.drop pre.length->ms.length=l.length->id+aF P l<=s0.next+aF P all->fR A (eU P pre pre.length<=K0) s0 (aF P all) pre.length id zS T U->(∀x∈zS,∃p,all[x.1]?=some p/\aB P p=true)->bP P lib A all l (K0-eU P pre pre.length) id f U Q->
  ∃es f' T' U',(∃n,∀m,n<=m->bQ P (fx P lib m) all ms l pre.length id f T zS=some es)/\(ax P l es T).getLastD T=T' /\bN l es f=f' /\Cl.fill (fun _=>true) T' (zS++madeOf es pre.length)=U' /\
   (∀x∈madeOf es pre.length,pre.length<=x.1/\∃p,all[x.1]?=some p/\aB P p=true)/\
   (∀k x,(ax P l es T)[k]?=some x->eU P pre pre.length+k<=K0->LA.de A s0 x)/\(∀gL before,gL=before++ax P l es T->(∀k x,gL[k]?=some x->k<=K0->LA.de A s0 x)->before.length=eU P pre pre.length->bJ P all kM (zS++madeOf es pre.length) gL ms l es pre.length f=true)/\bL s0 U' /\Q f' U' :=by
 intro l
 induction l with
 |nil=>
  intro pre ms id f T U zS _ _ hl _ aA _ hw
  rw[kR] at hw
  cases ms with
  |cons m r=>simp at hl
  |nil=>exact⟨[],f,T,U,⟨0,fun _ _=>rfl⟩,rfl,rfl,by simp only[madeOf,List.append_nil];exact aA.fill _ (fun _ _=>rfl),(fun x hx=>by simp[madeOf] at hx),(fun k x hx hk=>by
   simp only[ax] at hx
   cases k with
   |zero=>simp at hx;rw[<-hx];exact aA.BA (by omega)
   |succ k=>simp at hx),fun _ _ _ _ _=>rfl,aA.keeps,hw⟩
 |cons o r ih=>
  intro pre ms id f T U zS dS zD hl fc aA has hw
  cases ms with
  |nil=>simp at hl
  |cons m ms=>
  have CO:ms.length=r.length:=by simpa using hl
  have kh:all=(pre++[o])++r:=by rw[dS,List.append_assoc];rfl
  have cT:(pre++[o]).length=pre.length+1:=by simp
  have p8:ms=kM.drop (pre++[o]).length:=by
   rw[cT,<-List.drop_drop,<-zD];rfl
  have JK:cC kM pre.length=m:=by
   have kP:∀(L:List Nat) (k:Nat) (x:Nat) (t:List Nat),L.drop k=x::t->cC L k=x:=by
    intro L
    induction L with
    |nil=>intro k x t h;simp at h
    |cons y L Dc=>
     intro k x t h
     cases k with
     |zero=>simp at h;exact h.1
     |succ k=>simp only[List.drop_succ_cons] at h;simp only[cC];exact Dc k x t h
   exact kP kM pre.length m ms zD.symm
  have gq:all[pre.length]?=some o:=by rw[dS];simp
  have yQ:eU P all pre.length=eU P pre pre.length:=by rw[dS,nU]
  have vD:=sQ P o pre
  have gr:∀(v:Value) (g' JL:Nat) (U' :aq),(cO f o.dst v fun f' =>bP P lib A all r g' JL f' U' Q)->∃f1,jS f o.dst v=some f1/\bP P lib A all r g' JL f1 U' Q:=by
   intro v g' JL U' h
   unfold cO at h
   split at h
   ·exact⟨_,‹_›,h⟩
   ·exact h.elim
  have vI:∀b:Bool,aY P o=b->eU P (pre++[o]) (pre++[o]).length=if b then eU P pre pre.length+1 else eU P pre pre.length:=fun b hb=>by rw[vD,hb]
  have fk:aF P (o::r)=if aB P o then aF P r+1 else aF P r:=rfl
  have mT:LA.ja P o=true->Cl.fill (Nat.testBit m) T zS=U:=fun hn=>aA.fill _ (fun x hx=>by
   obtain⟨p,hp,EZ⟩:=has x hx
   rw[<-JK]
   exact Bo o p pre.length x.1 gq hp EZ (aA.before x hx) hn)
  rw[jG] at hw
  cases nO:b9 all o f with
  |false=>
   rw[nO] at hw
   obtain⟨f1,hp,hw⟩:=gr _ _ _ _ hw
   have cI:fR A (eU P (pre++[o]) (pre++[o]).length<=K0) s0 (aF P all) (pre++[o]).length (if aB P o then id+1 else id) zS T U:=by
    refine⟨⟨aA.fill,aA.here,fun x hx=>by have:=aA.before x hx;omega,by have:=aA.lo;split<;>omega,fun k hk kY=>aA.free k (by split at hk<;>omega) kY,aA.next,aA.keeps⟩,fun h=>aA.BA (by rw[vD] at h;split at h<;>omega),fun h=>aA.BB (by rw[vD] at h;split at h<;>omega),aA.ids⟩
   obtain⟨es,f',T',U',⟨n,h1⟩,h3,h4,hf,ki,jm,h5,hk,h6⟩:=ih (pre++[o]) ms _ f1 T U zS kh p8 CO (by rw[fk] at fc;split<;>split at fc<;>first|omega|contradiction) cI has (by rw[vD];cases he:aY P o<;>simp only[he,Bool.false_eq_true,if_false,if_true] at hw|- <;>first|exact hw|(rw[Nat.sub_add_eq];exact hw))
   rw[cT] at h1 h5 hf ki
   refine⟨.skip::es,f',T',U',⟨n,fun q hq=> ?_⟩,?_,by simp only[bN,Ev.val,hp,h4],by simp only[madeOf];exact hf,(fun x hx=>by simp only[madeOf] at hx;obtain⟨a,b⟩:=ki x hx;exact⟨by omega,b⟩),(fun k x hx hk=>by
    simp only[ax] at hx
    split at hx
    ·rename_i he
     cases k with
     |zero=>simp at hx;rw[<-hx];exact aA.BA (by omega)
     |succ k=>exact jm k x (by simpa using hx) (by rw[vD,if_pos he];omega)
    ·rename_i he
     exact jm k x hx (by rw[vD,if_neg he];omega)),fun gL before hs gF hb=> ?_,hk,h6⟩
   ·simp only[bQ,cV,nO,Ev.val,hp]
    rw[h1 q hq]
   ·simp only[ax]
    split
    ·obtain⟨rr,hr⟩:=dd P r es T
     rw[hr] at h3|-
     rw[List.getLastD_cons] at h3|-
     rw[List.getLastD_cons];exact h3
    ·exact h3
   ·simp only[bJ,Ev.val,hp,Bool.true_and,madeOf]
    simp only[ax] at hs
    split at hs
    ·rename_i he
     refine h5 gL (before++[T]) (by rw[hs,List.append_assoc];rfl) gF ?_
     rw[<-cT,vD,if_pos he,List.length_append,hb];rfl
    ·rename_i he
     refine h5 gL before hs gF ?_
     rw[<-cT,vD,if_neg he,hb]
  |true=>
   rw[nO] at hw
   cases hq:aI P o with
   |true=>
    simp only[fQ,hq,cond_true] at hw
    have cD:=gu hq
    have AG:=gQ hq
    rw[fk,if_neg (by simp[AG])] at fc
    unfold jR at hw
    split at hw
    case h_2=>exact hw.elim
    rename_i v s1 dZ
    obtain⟨nM,hv,hw⟩:=hw
    obtain⟨f1,hp,hw⟩:=gr _ _ _ _ hw
    have cI:fR A (eU P (pre++[o]) (pre++[o]).length<=K0) s0 (aF P all) (pre++[o]).length id zS T U:=⟨⟨aA.fill,aA.here,fun x hx=>by have:=aA.before x hx;omega,aA.lo,aA.free,aA.next,aA.keeps⟩,fun h=>aA.BA (by rw[vI _ cD] at h;simpa using h),fun h=>aA.BB (by rw[vI _ cD] at h;simpa using h),aA.ids⟩
    obtain⟨es,f',T',U',⟨n,h1⟩,h3,h4,hf,ki,jm,h5,hk,h6⟩:=ih (pre++[o]) ms id f1 T U zS kh p8 CO fc cI has (by rw[vI _ cD];exact hw)
    rw[cT] at h1 h5 hf ki
    have hle:LA.dg P o=true->eK o=false->countP (fun j=> !Nat.testBit (cC kM j) pre.length) P all 0<=K0/\eU P pre pre.length<=K0:=fun h1 h2=>by rw[<-yQ];exact dA o pre.length gq h1 h2
    have mn:∃s2,cy P o f (Cl.fill (Nat.testBit m) T zS)=some (.val v s2):=by
     cases kj:LA.dg P o with
     |true=>exact⟨_,Eh kj nM (fun h=>aA.BB (hle kj h).2) (fun h=>(aA.BA (hle kj h).2).trans (LA.kQ _ _ _ _ aA.ids)) dZ⟩
     |false=>exact⟨s1,by rw[mT (by simp[LA.ja,kj,AG])];exact dZ⟩
    obtain⟨s2,mn⟩:=mn
    refine⟨.quiet v::es,f',T',U',⟨n,fun q xo=> ?_⟩,?_,by simp only[bN,Ev.val,hp,h4],by simp only[madeOf];exact hf,(fun x hx=>by simp only[madeOf] at hx;obtain⟨a,b⟩:=ki x hx;exact⟨by omega,b⟩),(fun k x hx hk=>jm k x (by simpa [ax,cD] using hx) (by rw[vI _ cD];simpa using hk)),fun gL before hs gF hb=> ?_,hk,h6⟩
    ·simp only[bQ,cV,nO,hq,mn,Ev.val,hp,AG]
     rw[if_neg (by simp),h1 q xo]
    ·simp only[ax,cD];simpa using h3
    ·have rf:gL=before++ax P r es T:=by simpa [ax,cD] using hs
     simp only[bJ,Ev.val,hp,madeOf]
     rw[h5 gL before rf gF (by rw[<-cT,vD,if_neg (by simp[cD]),hb]),Bool.and_true]
     have V9:∀X:aq,Cl.fill (Nat.testBit m) X (zS++madeOf es (pre.length+1))=Cl.fill (Nat.testBit m) X zS:=by
      intro X
      rw[gJ,sR _ (madeOf es (pre.length+1))]
      intro x hx
      obtain⟨a,p,Jz,EZ⟩:=ki x hx
      rw[<-JK]
      exact JJ o p pre.length x.1 gq Jz EZ (by omega)
     have j6:∀(L:List aq),(LA.dg P o=true->eK o=false->∀x∈L,LA.de A s0 x)->(LA.dg P o=false->∀x∈L,x=T)->sameAt P m (zS++madeOf es (pre.length+1)) o f v L=true:=by
      intro L
      induction L with
      |nil=>intro _ _;rfl
      |cons x L Dc=>
       intro kC hx
       simp only[sameAt,V9]
       have:∃s3,cy P o f (Cl.fill (Nat.testBit m) x zS)=some (.val v s3):=by
        cases kj:LA.dg P o with
        |true=>exact⟨_,Eh kj nM (fun h=>aA.BB (hle kj h).2) (fun h=>(kC kj h x (List.mem_cons_self ..)).trans (LA.kQ _ _ _ _ aA.ids)) dZ⟩
        |false=>rw[hx kj x (List.mem_cons_self ..)];exact⟨s2,mn⟩
       obtain⟨s3,ij⟩:=this
       rw[ij]
       simp only[hv,Bool.true_and]
       exact Dc (fun h1 h2 y hy=>kC h1 h2 y (List.mem_cons_of_mem _ hy)) (fun kj y hy=>hx kj y (List.mem_cons_of_mem _ hy))
     refine j6 _ (fun h1 h2 x hx=> ?_) (fun kj x hx=> ?_)
     ·obtain⟨k,hk⟩:=List.getElem?_of_mem (List.mem_of_mem_drop hx)
      rw[List.getElem?_take] at hk
      split at hk
      ·rename_i Y4
       have:=(hle h1 h2).1
       exact gF k x hk (by omega)
      ·cases hk
     obtain⟨t1,t2⟩:=JI o pre.length gq hq kj
     rw[JK] at t2
     rw[t2] at hx
     obtain⟨rr,hr⟩:=dd P r es T
     rw[yQ,<-hb,List.drop_take,rf,hr,List.drop_left] at hx
     have iW:countP (fun j=> !Nat.testBit (cC kM j) pre.length) P all 0+1-before.length<=1:=by omega
     generalize countP (fun j=> !Nat.testBit (cC kM j) pre.length) P all 0+1-before.length=k at hx iW
     cases k with
     |zero=>simp at hx
     |succ k=>
      obtain rfl:k=0:=by omega
      simpa using hx
   |false=>
    cases ha:aB P o with
    |true=>
     simp only[fQ,hq,ha,cond_true,cond_false] at hw
     rw[fk,if_pos ha] at fc
     have cD:aY P o=false:=by simp[aY,ha]
     unfold jk at hw
     split at hw
     case h_2=>exact hw.elim
     rename_i v b dZ
     obtain⟨f1,hp,hw⟩:=gr _ _ _ _ hw
     have JM:∃s1,cy P o f ⟨.nil,id⟩=some (.val v s1)/\s1.bK id=some b:=by
      unfold cR at dZ
      split at dZ
      ·rename_i v1 s1 h1
       split at dZ
       ·rename_i b1 jv
        injection dZ with dZ;injection dZ with e1 e2;subst e1;subst e2
        exact⟨s1,h1,jv⟩
       ·cases dZ
      ·cases dZ
     obtain⟨s1,mO,fK⟩:=JM
     have gI:=aA.free id (Nat.le_refl _) (by omega)
     have aP:id<U.next:=by have:=aA.next;omega
     have cI:fR A (eU P (pre++[o]) (pre++[o]).length<=K0) s0 (aF P all) (pre++[o]).length (id+1) (zS++[(pre.length,id,b)]) T (U.put id (.dL b)):=by
      refine⟨⟨fun p hp=> ?_,fun x hx=> ?_,fun x hx=> ?_,by have:=aA.lo;omega,fun k hk kY=> ?_,by have:=aA.next;simpa [aq.put] using this,?_⟩,fun h=>aA.BA (by rw[vI _ cD] at h;simpa using h),fun h=>(aA.BB (by rw[vI _ cD] at h;simpa using h)).trans ⟨Nat.le_refl _,fun i hi=>aq.a8 _ _ _ _ (by have:=aA.lo;have:=hA i hi;omega)⟩,fun x hx=> ?_⟩
      ·rw[gJ,aA.fill p (fun x hx=>hp x (List.mem_append_left _ hx))]
       have Gv:p pre.length=true:=hp (pre.length,id,b) (List.mem_append_right _ (List.mem_cons_self ..))
       simp only[Cl.fill,Gv,gI]
      ·rcases List.mem_append.mp hx with hx|hx
       ·have hh:=aA.here x hx
        have:x.2.1≠id:=fun e=>hh (by rw[e];exact gI)
        rw[aq.a8 _ _ _ _ (Ne.symm this)];exact hh
       ·rw[List.mem_singleton] at hx;subst hx
        simp only[aq.put,Tr.bu _ _ _ _ (deep (by omega))];simp
      ·rcases List.mem_append.mp hx with hx|hx
       ·have:=aA.before x hx;omega
       ·rw[List.mem_singleton] at hx;subst hx;simp
      ·rw[aq.a8 _ _ _ _ (by omega)];exact aA.free k (by omega) kY
      ·have hk:=aA.keeps
       refine⟨hk.next,fun j hj hn=> ?_,fun j hj=> ?_,⟨by omega,fun j ob hj=> ?_⟩⟩
       ·have:=aA.lo
        rw[aq.a8 _ _ _ _ (by omega)];exact hk.gone j hj hn
       ·by_cases fZ:id=j
        ·subst fZ;simp only[aq.put,Tr.bu _ _ _ _ (deep (by omega))];simp
        ·rw[aq.a8 _ _ _ _ fZ];exact hk.here j hj
       ·by_cases fZ:id=j
        ·subst fZ;simpa [aq.put] using aP
        ·rw[aq.a8 _ _ _ _ fZ] at hj;have:=hk.wf.bound j ob hj;simpa [aq.put] using this
      ·rcases List.mem_append.mp hx with hx|hx
       ·exact aA.ids x hx
       ·rw[List.mem_singleton] at hx;subst hx;exact(by cases hAi:A id with|false=>rfl|true=>(have:=hA id hAi;have:=aA.lo;omega))
     have JN:∀x∈zS++[(pre.length,id,b)],∃p,all[x.1]?=some p/\aB P p=true:=by
      intro x hx
      rcases List.mem_append.mp hx with hx|hx
      ·exact has x hx
      ·rw[List.mem_singleton] at hx;subst hx;exact⟨o,gq,ha⟩
     obtain⟨es,f',T',U',⟨n,h1⟩,h3,h4,hf,ki,jm,h5,hk,h6⟩:=ih (pre++[o]) ms (id+1) f1 T _ _ kh p8 CO (by omega) cI JN (by rw[vI _ cD];exact hw)
     rw[cT] at h1 h5 hf ki
     have PU:∀L,zS++(pre.length,id,b)::L=(zS++[(pre.length,id,b)])++L:=fun L=>by rw[List.append_assoc];rfl
     refine⟨.made v id b::es,f',T',U',⟨n,fun q xo=> ?_⟩,?_,by simp only[bN,Ev.val,hp,h4],by simp only[madeOf];rw[PU];exact hf,(fun x hx=> ?_),(fun k x hx hk=>jm k x (by simpa [ax,cD] using hx) (by rw[vI _ cD];simpa using hk)),fun gL before hs gF hb=> ?_,hk,h6⟩
     ·simp only[bQ,cV,nO,hq,ha,mO,fK,Ev.val,hp,if_true]
      rw[h1 q xo]
     ·simp only[ax,cD];simpa using h3
     ·simp only[madeOf] at hx
      rcases List.mem_cons.mp hx with rfl|hx
      ·exact⟨Nat.le_refl _,o,gq,ha⟩
      ·obtain⟨a,c⟩:=ki x hx;exact⟨by omega,c⟩
     ·simp only[bJ,Ev.val,hp,Bool.true_and,madeOf]
      rw[PU]
      have rf:gL=before++ax P r es T:=by simpa [ax,cD] using hs
      exact h5 gL before rf gF (by rw[<-cT,vD,if_neg (by simp[cD]),hb])
    |false=>
     simp only[fQ,hq,ha,cond_false] at hw
     rw[fk,if_neg (by simp[ha])] at fc
     have he:aY P o=true:=by simp[aY,hq,ha]
     have kj:LA.dg P o=false:=by
      cases kj:LA.dg P o with
      |false=>rfl
      |true=>rw[LA.sZ kj] at hq;cases hq
     have hU:=mT (by simp[LA.ja,kj,ha])
     have fin:∀(v:Value) (U1:aq) (n0:Nat),(∀q,n0<=q->cV P (fx P lib q) all m id zS o f T=some (.zc v U1))->bL U U1->(K0-eU P pre pre.length≠0->LA.de A U U1)->(cO f o.dst v fun f' =>bP P lib A all r (K0-eU P pre pre.length-1) id f' U1 Q)->
       ∃es f' T' U',(∃n,∀m',n<=m' ->bQ P (fx P lib m') all (m::ms) (o::r) pre.length id f T zS=some es)/\(ax P (o::r) es T).getLastD T=T' /\bN (o::r) es f=f' /\Cl.fill (fun _=>true) T' (zS++madeOf es pre.length)=U' /\
        (∀x∈madeOf es pre.length,pre.length<=x.1/\∃p,all[x.1]?=some p/\aB P p=true)/\
        (∀k x,(ax P (o::r) es T)[k]?=some x->eU P pre pre.length+k<=K0->LA.de A s0 x)/\(∀gL before,gL=before++ax P (o::r) es T->(∀k x,gL[k]?=some x->k<=K0->LA.de A s0 x)->before.length=eU P pre pre.length->bJ P all kM (zS++madeOf es pre.length) gL (m::ms) (o::r) es pre.length f=true)/\bL s0 U' /\Q f' U' :=by
      intro v U1 n0 hd xp Eg hw
      obtain⟨f1,hp,hw⟩:=gr _ _ _ _ hw
      have rS:∀x∈zS,U1.heap.get x.2.1≠none:=fun x hx=>xp.here _ (aA.here x hx)
      have cI:fR A (eU P (pre++[o]) (pre++[o]).length<=K0) s0 (aF P all) (pre++[o]).length id zS U1 U1:=by
       refine⟨⟨fun p hp=>sS p zS U1 rS,rS,fun x hx=>by have:=aA.before x hx;omega,aA.lo,fun k hk kY=>xp.gone k (by have:=aA.next;omega) (aA.free k hk kY),by have:=aA.next;have:=xp.next;omega,aA.keeps.trans xp⟩,fun h=>(aA.BB (by rw[vI _ he] at h;simp at h;omega)).trans (Eg (by rw[vI _ he] at h;simp at h;omega)),fun h=>(aA.BB (by rw[vI _ he] at h;simp at h;omega)).trans (Eg (by rw[vI _ he] at h;simp at h;omega)),aA.ids⟩
      obtain⟨es,f',T',U',⟨n,h1⟩,h3,h4,hf,ki,jm,h5,hk,h6⟩:=ih (pre++[o]) ms id f1 U1 U1 zS kh p8 CO fc cI has (by rw[vI _ he,if_pos rfl,Nat.sub_add_eq];exact hw)
      rw[cT] at h1 h5 hf ki
      refine⟨.zc v U1::es,f',T',U',⟨n+n0,fun q xo=> ?_⟩,?_,by simp only[bN,Ev.val,hp,h4],by simp only[madeOf];exact hf,(fun x hx=>by simp only[madeOf] at hx;obtain⟨a,b⟩:=ki x hx;exact⟨by omega,b⟩),(fun k x hx hk=>by
       simp only[ax] at hx
       cases k with
       |zero=>simp at hx;rw[<-hx];exact aA.BA (by omega)
       |succ k=>exact jm k x (by simpa using hx) (by rw[vI _ he,if_pos rfl];omega)),fun gL before hs gF hb=> ?_,hk,h6⟩
      ·simp only[bQ,hd q (by omega),Ev.val,hp,ha]
       rw[if_neg (by simp),h1 q (by omega)]
      ·simp only[ax]
       obtain⟨rr,hr⟩:=dd P r es U1
       rw[hr] at h3|-
       rw[List.getLastD_cons] at h3|-
       rw[List.getLastD_cons];exact h3
      ·simp only[bJ,Ev.val,hp,Bool.true_and,madeOf]
       simp only[ax] at hs
       refine h5 gL (before++[T]) (by rw[hs,List.append_assoc];rfl) gF ?_
       rw[<-cT,vD,if_pos he,List.length_append,hb];rfl
     unfold fP at hw
     split at hw
     case h_3=>exact hw.elim
     ·rename_i v U1 dZ
      obtain⟨Eg,hw⟩:=hw
      exact fin v U1 0 (fun q _=>by simp only[cV,nO,hq,ha,hU,dZ]) (oX aA.keeps.wf dZ) Eg hw
     ·rename_i g args dZ
      obtain⟨v,U1,⟨nc,hc⟩,xp,Eg,hw⟩:=hw aA.keeps.wf
      exact fin v U1 nc (fun q xo=>by simp only[cV,nO,hq,ha,hU,dZ,hc q xo]) xp Eg hw
theorem cF.loose {P:Program}{lib:ay}{ops:List Oper}{A:Nat->Bool}(K0:Nat)(ht:m9 P ops K0=true){f:aR}{s:aq}{Q:aR->aq->Prop}(hA:∀i,A i=true->i<s.next)(h:bP P lib A ops ops K0 s.next f (spare s (aF P ops)) Q):cF P lib ops f s Q:=by
 intro mE
 simp only[m9,List.all_eq_true,Bool.and_eq_true,Bool.or_eq_true,Bool.not_eq_true'] at ht
 have jU:∀(o:Oper) (i:Nat),ops[i]?=some o->(o,i)∈ops.zipIdx:=fun o i hi=>by rw[List.mem_zipIdx_iff_getElem?];simpa using hi
 have zD:(bW ops []).length=ops.length:=by
  obtain⟨r,h1,h2⟩:=jP ops []
  rw[h1];simpa using h2
 have gI:∀k,s.next<=k->s.heap.get k=none:=fun k iW=>by
  cases hg:s.heap.get k with
  |none=>rfl
  |some o=>have:=mE.bound k o hg;omega
 have zA:bL s (spare s (aF P ops)):=⟨by simp[spare],fun _ _ h=>h,fun _ h=>h,⟨by omega,fun j o hj=>by have:=mE.bound j o hj;simp only[spare];omega⟩⟩
 obtain⟨es,f',T',U',⟨n,h1⟩,h3,h4,hf,ki,jm,h5,hk,h6⟩:=jl (P:=P) (lib:=lib) (all:=ops) (A:=A) s hA K0 (bW ops []) (Q:=Q) (fun o i hi hc hp=>by
   have:=(ht (o,i) (jU o i hi)).1.2
   have CL:=ji P ops 0 i
   rw[Nat.zero_add] at CL
   rcases this with h|h
   ·simp[hc,hp] at h
   ·obtain⟨t1,t2⟩:=h
    rw[CL] at t2
    exact⟨by simpa [Nat.ble_eq] using t1,by simpa [Nat.ble_eq] using t2⟩)
  (fun o i hi hq hp=>by
   have:=(ht (o,i) (jU o i hi)).2
   have CL:=ji P ops 0 i
   rw[Nat.zero_add] at CL
   rcases this with h|h
   ·simp[hq,hp] at h
   ·obtain⟨t1,t2⟩:=h
    rw[CL] at t1 t2
    exact⟨by simpa [Nat.ble_eq] using t1,by simpa [Nat.beq_eq] using t2⟩)
  (fun o p i j hi hj ha fZ hn=>by
   have:=(ht (o,i) (jU o i hi)).1.1 (p,j) (jU p j hj)
   have hb:Nat.blt j i=true:=by simpa [Nat.blt_eq] using fZ
   simp only[ha,hb,cond_true,hn] at this
   simpa using this)
  (fun o p i j hi hj ha zj=>by
   have:=(ht (o,i) (jU o i hi)).1.1 (p,j) (jU p j hj)
   have hb:Nat.blt j i=false:=by rw[<-Bool.not_eq_true,Nat.blt_eq];omega
   simp only[ha,hb,cond_false] at this
   simpa using this)
  ops [] (bW ops []) s.next f (spare s (aF P ops)) (spare s (aF P ops)) [] rfl rfl zD (by omega)
  ⟨⟨fun _ _=>rfl,fun _ hx=>(by cases hx),fun _ hx=>(by cases hx),Nat.le_refl _,fun k iW _=>gI k iW,by simp[spare],zA⟩,fun _=>LA.ar.lM hA (ar.spare _ _),fun _=>LA.ar.lM hA (ar.spare _ _),fun _ hx=>(by cases hx)⟩ (fun _ hx=>(by cases hx)) h
 simp only[List.nil_append,List.length_nil] at h1 h5 hf ki
 refine⟨f',U',⟨n,fun m hm=> ?_⟩,hk,h6⟩
 unfold fj
 have M3:=h1 m hm
 have hb:Nat.ble 0 16000000=true:=rfl
 simp only[]
 show(match bQ P (fx P lib m) ops (bW ops []) ops 0 s.next f (spare s (aF P ops)) [] with
  |some es=>match bJ P ops (bW ops []) (madeOf es 0) (ax P ops es (spare s (aF P ops))) (bW ops []) ops es 0 f with
   |true=>some (bN ops es f,Cl.fill (fun _=>true) ((ax P ops es (spare s (aF P ops))).getLastD s) (madeOf es 0))
   |false=>none
  |none=>none)=_
 rw[M3]
 have R8:=h5 (ax P ops es (spare s (aF P ops))) [] rfl (fun k x hx hk=>jm k x hx (by simpa [eU] using hk)) rfl
 simp only[R8,h4]
 obtain⟨rr,hr⟩:=dd P ops es (spare s (aF P ops))
 rw[hr] at h3|-
 rw[List.getLastD_cons] at h3|-
 rw[h3,hf]
theorem cF.dy {P:Program}{lib:ay}{ops:List Oper}{f:aR}{s:aq}{Q:aR->aq->Prop}(A:Nat->Bool)(hA:∀i,A i=true->i<s.next)(g k:Nat)(ht:m9 P ops g=true)(hk:Nat.beq (aF P ops) k=true)(h:bP P lib A ops ops g s.next f (spare s k) Q):yq P lib ops f s Q false:=by
 have:aF P ops=k:=by simpa [Nat.beq_eq] using hk
 exact cF.loose g ht hA (by rw[this];exact h)
section
variable {P:Program} {lib:ay} {A:Nat->Bool} {g:Nat} {all r:List Oper} {id:Nat} {f:aR} {T:aq} {d:Option Tmp} {Q:aR->aq->Prop}
theorem bF {cs:List Value}{n z base:Nat}(h:cs.length=n*z)(fc:id<T.next)(hb:base<=id)
  (K:∀v T',Own T' z v n cs->aJ v=some id->ar base T T' ->T'.next=T.next->(∀j,j≠id->T'.heap.get j=T.heap.get j)->ff P lib A g all r (id+1) f d Q v T'):jk P lib A g all r id f T d Q (cR id (lZ (aX ⟨.nil,id⟩ cs n z))):=by
 have e:cR id (lZ (aX ⟨.nil,id⟩ cs n z))=some (.slice (some ⟨id,0,none⟩) n (cs.length+1),⟨cs,1,true,z⟩):=by
  have:aX ⟨.nil,id⟩ cs n z=some (.slice (some ⟨id,0,none⟩) n (cs.length+1),(⟨.nil,id⟩:aq).new (.dL ⟨cs,1,true,z⟩)):=by simp[aX,aq.room]
  rw[this,dW]
  have hb:((⟨.nil,id⟩:aq).new (.dL ⟨cs,1,true,z⟩)).bK id=some ⟨cs,1,true,z⟩:=lh ⟨.nil,id⟩ _
  simp only[cR,hb]
 rw[e,pj]
 have wQ:∀j,j≠id->(T.put id (.dL ⟨cs,1,true,z⟩)).heap.get j=T.heap.get j:=fun j hj=>aq.a8 _ _ _ _ (Ne.symm hj)
 refine K _ _ (.of id n 1 cs (by simpa [aq.put] using fc) (aq.cg _ _ _ (by omega)) (by omega) h) rfl ⟨Nat.le_refl _,fun j hj=>wQ j (by omega)⟩ rfl wQ
theorem cZ {st xt e:TypeId}{xd:TypeDesc}{z lX:Nat}{zv:Value}(hu:P.underlying st=some (.slice e))(Nf:P.underlying xt=some xd)(Gw:(∃e2,xd= .slice e2)\/xd= .string)(cJ:bq P e=some z)(yg:eW P e=some lX)(qW:cE P e=some zv)(mf:Nat.beq zv.cells.toList.length z=true)
  {x y:Value} {n m:Nat} {l new:List Value} (hx:Own T z x n l) (hy:dJ T z y=some (m,new)) (ir:new.length=m*z) (sJ:0<z) (dE:new.all aO=true) (jv:(n+m)*lX<=140737488355328) (eR:n+m<=140737488355328) {base:Nat} (hF:aN base x) (hB:base<=T.next) (hA1:g≠0->∀i,aJ x=some i->A i=false) (Nt:∀i,A i=true->i<T.next)
  (K:∀x' T',Own T' z x' (n+m) (l++new)->aN base x' ->bm x T T' ->(aJ x' =aJ x\/∃i,aJ x' =some i/\T.next<=i)->ff P lib A (g-1) all r id f d Q x' T'):fP P lib A g all r id f d T Q (lZ (gl P T st xt x y)):=by
 obtain⟨x',s',h1,h2,h3,h4⟩:=Own.append hu Nf Gw cJ yg qW mf hx hy ir sJ dE jv eR
 rw[h1,dW]
 have hk:g≠0->LA.de A T s' :=fun hg=>⟨h3.next,fun i hi=>h3.get i (Nt i hi) (fun e=>by have:=hA1 hg i e;rw[hi] at this;cases this)⟩
 refine⟨hk,K _ _ h2 (fun i hi=> ?_) h3 h4⟩
 rcases h4 with h4|⟨j,hj,hl⟩
 ·exact hF i (by rw[<-h4];exact hi)
 ·rw[hj] at hi;injection hi with hi;omega
end
end LB
theorem bp:type_of%
 (And.intro (And.intro (And.intro @LB.kR @LB.jG) (And.intro @LB.sX @LB.iF)) (And.intro (And.intro @LB.sY
 @LB.qc) (And.intro @LB.qf (And.intro @LB.qb @LB.qd)))):=
 (And.intro (And.intro (And.intro @LB.kR @LB.jG) (And.intro @LB.sX @LB.iF)) (And.intro (And.intro @LB.sY
 @LB.qc) (And.intro @LB.qf (And.intro @LB.qb @LB.qd))))
end Go.Cl
namespace Go.Cl
theorem av.bc {s s' :aq}{i j:Nat}{cs:List Value}(h:av s i cs)(h1:s'.next=s.next)(h2:∀q,q≠j->s'.heap.get q=s.heap.get q)(zj:i≠j):av s' i cs:=
 h.turns (bm.bc (o:=0) (c:=none) h1 h2) (fun e=>by have e:some j=some i:=e;injection e with e;exact zj e.symm)
theorem bm.put {v:Value}{s s' Bf:aq}{j:Nat}(h:bm v s s')(hn:s.next<=j)(h1:Bf.next=s'.next)(h2:∀q,q≠j->Bf.heap.get q=s'.heap.get q):bm v s Bf:=
 ⟨by have:=h.next;omega,fun q hq cD=>(h2 q (by omega)).trans (h.get q hq cD)⟩
def over (l:List Value)(off:Nat)(vs:List Value):List Value:=l.take off++vs++l.drop (off+vs.length)
theorem r5 {l:List Value}{off:Nat}{vs:List Value}(h:off+vs.length<=l.length):(over l off vs).length=l.length:=by
 unfold over;simp;omega
theorem Hy {l vs:List Value}(h:vs.length=l.length):over l 0 vs=vs:=by
 unfold over
 rw[List.take_zero,List.nil_append,Nat.zero_add,h,List.drop_length,List.append_nil]
theorem Hz {P:Program}{e:TypeId}{s:aq}{i:Nat}{l:List Value}{low z m:Nat}(hb:s.bK i=some ⟨l,low,true,z⟩)(hl:low<=l.length+1){off c:Nat}(hc:c=l.length+1){v:Value}{vs:List Value}(hv:v.cells.toList=vs)(hm:vs.length=m)(OK:0<m)(cJ:bq P e=some m)(ho:off+m<=l.length)(dE:vs.all aO=true):
  fi P s e (.pointer (some ⟨i,off,some c⟩)) v=some (s.put i (.dL ⟨over l off vs,l.length+1,true,z⟩)):=by
 subst hc
 obtain⟨k,rfl⟩:∃k,m=k+1:=⟨m-1,by omega⟩
 obtain⟨a,w,rfl⟩:∃a w,vs=a::w:=by
  cases vs with
  |nil=>simp at hm
  |cons a w=>exact⟨a,w,rfl⟩
 unfold fi
 have acB:Nat.beq (a::w).length (k+1)=true:=by rw[Nat.beq_eq];exact hm
 simp only[cJ,hv,acB,if_true]
 unfold aq.storeAt
 have ux:setAt l off (a::w)=some (over l off (a::w)):=kl _ _ _ (by omega)
 have jg:(true&&Nat.ble low (l.length+1)&&Nat.beq (l.length+1) (l.length+1)&&(a::w).all aO)=true:=by
  simp only[dE,Bool.and_true,Bool.true_and,Bool.and_eq_true,Nat.ble_eq,Nat.beq_eq];exact⟨hl,trivial⟩
 simp only[hb,jg,if_true,ux]
theorem av.P2 {P:Program}{e:TypeId}{s:aq}{i:Nat}{cs:List Value}(h:av s i cs){m off c:Nat}(cJ:bq P e=some m)(OK:0<m)(hc:c=cs.length+1){v:Value}{vs:List Value}(hv:v.cells.toList=vs)(hm:vs.length=m)(ho:off+m<=cs.length)(dE:vs.all aO=true):
  ∃s',fi P s e (.pointer (some ⟨i,off,some c⟩)) v=some s' /\av s' i (over cs off vs)/\(s'.next=s.next/\∀j,j≠i->s'.heap.get j=s.heap.get j):=by
 obtain⟨low,z,h1,h2⟩:=h.dL
 refine⟨_,Hz h1 h2 hc hv hm OK cJ ho dE,⟨h.lt,cs.length+1,z,aq.cg _ _ _ (by omega),by rw[r5 (by omega)];omega⟩,rfl,fun j hj=>aq.a8 _ _ _ _ (Ne.symm hj)⟩
theorem kn {P:Program}{lib:ay}{all r:List Oper}{f:aR}{s:aq}{d:Option Tmp}{Q:aR->aq->Prop}{e:TypeId}{m:Nat}(cJ:bq P e=some m)(OK:0<m){i:Nat}{cs:List Value}(h:av s i cs){off c:Nat}(hc:c=cs.length+1){v:Value}{vs:List Value}(hv:v.cells.toList=vs)(hm:vs.length=m)(ho:off+m<=cs.length)(dE:vs.all aO=true)
  (K:∀s',av s' i (over cs off vs)->s'.next=s.next->(∀j,j≠i->s'.heap.get j=s.heap.get j)->er P lib all r f s d Q (some (.val undef s'))):er P lib all r f s d Q (CT (fi P s e (.pointer (some ⟨i,off,some c⟩)) v)):=by
 obtain⟨s',h1,h2,h3,h4⟩:=h.P2 cJ OK hc hv hm ho dE
 rw[h1,j9]
 exact K s' h2 h3 h4
theorem aE {P:Program}{lib:ay}{all r:List Oper}{f:aR}{s:aq}{d:Option Tmp}{Q:aR->aq->Prop}{e:TypeId}{m:Nat}(cJ:bq P e=some m)(OK:0<m){i:Nat}{cs:List Value}(h:av s i cs)(tL:cs.length=m){c:Nat}(hc:c=m+1){vs:Array Value}(hm:vs.toList.length=m)(dE:vs.toList.all aO=true)
  (K:∀s',av s' i vs.toList->s'.next=s.next->(∀j,j≠i->s'.heap.get j=s.heap.get j)->er P lib all r f s d Q (some (.val undef s'))):er P lib all r f s d Q (CT (fi P s e (.pointer (some ⟨i,0,some c⟩)) (.agg vs))):=by
 refine kn cJ OK h (by omega) (v:= .agg vs) (vs:=vs.toList) rfl hm (by omega) dE ?_
 rw[Hy (by omega)]
 exact K
theorem Own.Wd {P:Program}{e:TypeId}{m z:Nat}(cJ:bq P e=some m)(OK:0<m){s:aq}{v:Value}{n:Nat}{l:List Value}(h:Own s z v n l){k j:Nat}(hk:k<n)(hj:j+m<=z){w:Value}{vs:List Value}(hv:w.cells.toList=vs)(hm:vs.length=m)(dE:vs.all aO=true)
  {p:Value} (hp:∀i o c,aT z v k= .pointer (some ⟨i,o,some c⟩)->p= .pointer (some ⟨i,o+j,some c⟩)):
  ∃s',fi P s e p w=some s' /\Own s' z v n (over l (k*z+j) vs)/\bm v s s' :=by
 cases h with
 |nil=>omega
 |of i n low l hi hb hl hlen=>
  have YX:k*z+z<=n*z:=by
   have:(k+1)*z<=n*z:=Nat.mul_le_mul_right z hk
   rwa [Nat.succ_mul] at this
  have Jz:p= .pointer (some ⟨i,k*z+j,some (l.length+1)⟩):=by
   have:=hp i (0+k*z) (l.length+1) rfl
   rw[this,Nat.zero_add]
  rw[Jz]
  have OC:(over l (k*z+j) vs).length=l.length:=r5 (by omega)
  refine⟨_,Hz hb hl rfl hv hm OK cJ (by omega) dE,?_,⟨by simp[aq.put],fun q _ hq=> ?_⟩⟩
  ·rw[<-OC]
   exact .of i n _ _ (by simpa [aq.put] using hi) (aq.cg _ _ _ (by omega)) (by omega) (by omega)
  ·rw[aq.a8]
   intro e;subst e;exact hq rfl
theorem Own.Ta {P:Program}{e:TypeId}{z:Nat}(cJ:bq P e=some z)(sJ:0<z){s:aq}{v:Value}{n:Nat}{l:List Value}(h:Own s z v n l){k:Nat}(hk:k<n){vs:Array Value}(hm:vs.toList.length=z)(dE:vs.toList.all aO=true):
  ∃s',fi P s e (aT z v k) (.agg vs)=some s' /\Own s' z v n (over l (k*z) vs.toList)/\bm v s s' :=by
 have:=h.Wd cJ sJ (j:=0) hk (by omega) (w:= .agg vs) (vs:=vs.toList) rfl hm dE (p:=aT z v k) (fun i o c h=>h)
 simpa using this
theorem BC {P:Program}{lib:ay}{all r:List Oper}{f:aR}{s:aq}{d:Option Tmp}{Q:aR->aq->Prop}{e:TypeId}{z:Nat}(cJ:bq P e=some z)(sJ:0<z){v:Value}{n:Nat}{l:List Value}(h:Own s z v n l){k:Nat}(hk:k<n){vs:Array Value}(hm:vs.toList.length=z)(dE:vs.toList.all aO=true)
  (K:∀s',Own s' z v n (over l (k*z) vs.toList)->bm v s s' ->er P lib all r f s d Q (some (.val undef s'))):er P lib all r f s d Q (CT (fi P s e (aT z v k) (.agg vs))):=by
 obtain⟨s',h1,h2,h3⟩:=h.Ta cJ sJ hk hm dE
 rw[h1,j9]
 exact K s' h2 h3
theorem aW (P:Program)(f:aR)(s:aq)(t:Tmp)(ty:TypeId)(r:List ResultVar):cS P f s (.cell t ty::r)=if t<f.n then(match aG P s ty (f.get t),cS P f s r with
  |some v,some l=>some (v::l)
  |_,_=>none) else none:=by
 by_cases h:t<f.n
 ·have hb:Nat.blt t f.n=true:=by simpa [Nat.blt_eq] using h
  rw[if_pos h]
  conv=>lhs;rw[cS]
  simp only[hb,if_true]
  rfl
 ·have hb:Nat.blt t f.n=false:=by rw[<-Bool.not_eq_true,Nat.blt_eq];exact h
  rw[if_neg h]
  conv=>lhs;rw[cS]
  simp[hb]
theorem dY {P:Program}{s:aq}{t e:TypeId}{z:Nat}{zv:Value}{cs:Array Value}(hu:P.underlying t=some (.slice e))(cJ:bq P e=some z)(hz:cE P e=some zv)(pH:cH zv=true)(mf:Nat.beq zv.cells.toList.length z=true)(hl:cs.toList.length=z)(hz6:z<=65536):aU P s t 1 [(0,.agg cs)]=aX s cs.toList 1 z:=by
 unfold aU;rw[hu]
 have P3:zv.cells.toList.length=z:=by simpa [Nat.beq_eq] using mf
 have hr:bS zv.cells.toList 1=zv.cells.toList:=by simp[bS]
 have ux:setAt zv.cells.toList 0 cs.toList=some cs.toList:=by
  rw[kl _ _ _ (by omega)]
  rw[List.take_zero,List.nil_append,Nat.zero_add,List.drop_of_length_le (by omega),List.append_nil]
 have hc:(Nat.ble (1*z) 65536&&cH zv&&Nat.beq zv.cells.toList.length z)=true:=by rw[pH,mf];simp[Nat.ble_eq];exact hz6
 simp only[cJ,hz,hc,hr,iM,fJ,Nat.zero_mul,ux,if_true]
 simp[P3,hl]
namespace LB
section
variable {P:Program} {lib:ay} {A:Nat->Bool} {g:Nat} {all r:List Oper} {id:Nat} {f:aR} {T:aq} {d:Option Tmp} {Q:aR->aq->Prop}
theorem vJ {cs:List Value}{z:Nat}(fc:id<T.next)
  (K:∀T',av T' id cs->T'.next=T.next->(∀j,j≠id->T'.heap.get j=T.heap.get j)->ff P lib A g all r (id+1) f d Q (.pointer (some ⟨id,0,some (cs.length+1)⟩)) T'):jk P lib A g all r id f T d Q (cR id (lZ (fw ⟨.nil,id⟩ cs z))):=by
 have e:cR id (lZ (fw ⟨.nil,id⟩ cs z))=some (.pointer (some ⟨id,0,some (cs.length+1)⟩),⟨cs,1,true,z⟩):=by
  have:fw ⟨.nil,id⟩ cs z=some (.pointer (some ⟨id,0,some (cs.length+1)⟩),(⟨.nil,id⟩:aq).new (.dL ⟨cs,1,true,z⟩)):=by simp[fw,aq.room]
  rw[this,dW]
  have hb:((⟨.nil,id⟩:aq).new (.dL ⟨cs,1,true,z⟩)).bK id=some ⟨cs,1,true,z⟩:=lh ⟨.nil,id⟩ _
  simp only[cR,hb]
 rw[e,pj]
 exact K _ ⟨by simpa [aq.put] using fc,1,z,aq.cg _ _ _ (by omega),by omega⟩ rfl (fun j hj=>aq.a8 _ _ _ _ (Ne.symm hj))
theorem dX {e:TypeId}{m:Nat}(cJ:bq P e=some m)(OK:0<m){i:Nat}{cs:List Value}(h:av T i cs){off c:Nat}(hc:c=cs.length+1){v:Value}{vs:List Value}(hv:v.cells.toList=vs)(hm:vs.length=m)(ho:off+m<=cs.length)(dE:vs.all aO=true)(hA:g≠0->A i=false)
  (K:∀T',av T' i (over cs off vs)->T'.next=T.next->(∀j,j≠i->T'.heap.get j=T.heap.get j)->ff P lib A (g-1) all r id f d Q undef T'):fP P lib A g all r id f d T Q (CT (fi P T e (.pointer (some ⟨i,off,some c⟩)) v)):=by
 obtain⟨s',h1,h2,h3,h4⟩:=h.P2 cJ OK hc hv hm ho dE
 rw[h1,j9,Nu]
 exact⟨fun hg=>⟨by omega,fun j hj=>h4 j (fun e=>by have:=hA hg;rw[e,this] at hj;cases hj)⟩,K s' h2 h3 h4⟩
theorem fB {e:TypeId}{m:Nat}(cJ:bq P e=some m)(OK:0<m){i:Nat}{cs:List Value}(h:av T i cs)(tL:cs.length=m){c:Nat}(hc:c=m+1){vs:Array Value}(hm:vs.toList.length=m)(dE:vs.toList.all aO=true)(hA:g≠0->A i=false)
  (K:∀T',av T' i vs.toList->T'.next=T.next->(∀j,j≠i->T'.heap.get j=T.heap.get j)->ff P lib A (g-1) all r id f d Q undef T'):fP P lib A g all r id f d T Q (CT (fi P T e (.pointer (some ⟨i,0,some c⟩)) (.agg vs))):=by
 refine dX cJ OK h (by omega) (v:= .agg vs) (vs:=vs.toList) rfl hm (by omega) dE hA ?_
 rw[Hy (by omega)]
 exact K
end
end LB
end Go.Cl
set_option linter.unusedSimpArgs false
set_option linter.unusedVariables false
set_option maxRecDepth 100000
namespace Go.Proofs.YtdfjfncifneocaaGreat
open Go.Cl Go.Cl.Pr
theorem qQ (i o c:Nat):az Tryz.prog 56 (.pointer (some ⟨i,o,some c⟩)) 0=some (.pointer (some ⟨i,o+0,some c⟩)):=by
 unfold az;rw[Tryz.underlying56];simp[cG]
theorem FL (i o c:Nat):az Tryz.prog 56 (.pointer (some ⟨i,o,some c⟩)) 1=some (.pointer (some ⟨i,o+1,some c⟩)):=by
 unfold az;rw[Tryz.underlying56];simp[cG]
theorem HA (i o c:Nat):az Tryz.prog 56 (.pointer (some ⟨i,o,some c⟩)) 2=some (.pointer (some ⟨i,o+2,some c⟩)):=by
 unfold az;rw[Tryz.underlying56];simp[cG]
theorem tA (i o c:Nat):az Tryz.prog 66 (.pointer (some ⟨i,o,some c⟩)) 0=some (.pointer (some ⟨i,o+0,some c⟩)):=by
 unfold az;rw[Tryz.underlying66];simp[cG]
theorem xA (i o c:Nat):az Tryz.prog 66 (.pointer (some ⟨i,o,some c⟩)) 1=some (.pointer (some ⟨i,o+1,some c⟩)):=by
 unfold az;rw[Tryz.underlying66];simp[cG]
theorem Dj (i o c:Nat):az Tryz.prog 66 (.pointer (some ⟨i,o,some c⟩)) 2=some (.pointer (some ⟨i,o+2,some c⟩)):=by
 unfold az;rw[Tryz.underlying66];simp[cG]
theorem Dk (i o c:Nat):az Tryz.prog 141 (.pointer (some ⟨i,o,some c⟩)) 0=some (.pointer (some ⟨i,o+0,some c⟩)):=by
 unfold az;rw[Tryz.underlying141];simp[cG]
theorem BD (i o c:Nat):az Tryz.prog 141 (.pointer (some ⟨i,o,some c⟩)) 1=some (.pointer (some ⟨i,o+1,some c⟩)):=by
 unfold az;rw[Tryz.underlying141];simp[cG]
theorem BE (i o c:Nat):az Tryz.prog 141 (.pointer (some ⟨i,o,some c⟩)) 2=some (.pointer (some ⟨i,o+2,some c⟩)):=by
 unfold az;rw[Tryz.underlying141];simp[cG]
abbrev i3 (a b c:Int):Value:= .agg #[.int .i64 a,.int .i64 b,.int .i64 c]
abbrev l3 (a b c:Int):List Value:=[.int .i64 a,.int .i64 b,.int .i64 c]
theorem HB:cw Tryz.prog 56=some true:=by kernel_rfl
theorem HC:cw Tryz.prog 66=some true:=by kernel_rfl
theorem P4:cw Tryz.prog 141=some true:=by kernel_rfl
theorem vK:bq Tryz.prog 56=some 3:=by kernel_rfl
theorem yS:bq Tryz.prog 66=some 3:=by kernel_rfl
theorem LK:bq Tryz.prog 141=some 3:=by kernel_rfl
theorem Y6:cE Tryz.prog 141=some (i3 0 0 0):=by kernel_rfl
theorem UT:cH (i3 0 0 0)=true:=by kernel_rfl
theorem Tb (a b c:Int):bX (i3 a b c) (i3 a b c)=true:=by simp[bX,gp,cW]
def BF (s:aq)(p:Prop)[Decidable p](v:Value)(s' :aq):Prop:=v= .bool (decide p)/\ar s.next s s'
set_option maxHeartbeats 4000000 in
theorem HD {lib:ay}(hl:lib.at 46=none)(s:aq)(p co cl:Int):Runs Tryz.prog lib 46 [i3 p co cl] s (BF s (qO p co cl)):=by
 obtain⟨QQ,gj⟩:∃QQ:Value->aq->Prop,QQ=BF s (qO p co cl):=⟨_,rfl⟩
 rw[<-gj]
 refine Runs.enter 43 Tryz.func46 rfl hl rfl rfl ?_
 intro f hn hf
 have h0:f.get 0=i3 p co cl:=hf 0
 clear hf
 simp-implicitDefEqProofs(disch:=omega)only[ai,Nat.reduceLT,↓reduceIte,hn,h0]
 refine aw ?_
 intro s1 ht aA uS
 have ht:av s1 s.next (l3 p co cl):=ht
 have p0:aG Tryz.prog s1 3 (.pointer (some ⟨s.next,0,some 4⟩))=some (.int .i64 p):=ht.load cj (off:=0) (c:=4) rfl (by simp)
 have p1:aG Tryz.prog s1 3 (.pointer (some ⟨s.next,1,some 4⟩))=some (.int .i64 co):=ht.load cj (off:=1) (c:=4) rfl (by simp)
 have p2:aG Tryz.prog s1 3 (.pointer (some ⟨s.next,2,some 4⟩))=some (.int .i64 cl):=ht.load cj (off:=2) (c:=4) rfl (by simp)
 have BG:[Value.int .i64 p,.int .i64 co,.int .i64 cl].length+1=4:=rfl
 simp-implicitDefEqProofs(disch:=omega)only[ai,aj,Nat.reduceLT,Nat.reduceEqDiff,↓reduceIte,hn,BG,qQ,p0]
 refine JT (fun f' s' =>s' =s1/\f'.n=43/\f'.get 1= .pointer (some ⟨s.next,0,some 4⟩)/\∃t:Bool,f'.get 3= .bool t/\(t=true↔(p=1\/p=2\/(10<=p/\p<=15)))) ?_ ?_
 ·intro Q' hQ
  by_cases c1:p=1
  ·simp-implicitDefEqProofs(disch:=omega)only[ai,aj,Nat.reduceLT,Nat.reduceEqDiff,↓reduceIte,undef,hn,eq_true c1]
   exact hQ _ _ ⟨rfl,by simp only[ae,hn],by simp only[aa,↓reduceIte,Nat.reduceEqDiff],true,by simp only[aa,↓reduceIte],⟨fun _=>by omega,fun _=>rfl⟩⟩
  by_cases c2:p=2
  ·simp-implicitDefEqProofs(disch:=omega)only[ai,aj,Nat.reduceLT,Nat.reduceEqDiff,↓reduceIte,undef,hn,qQ,p0,eq_false c1,eq_true c2]
   exact hQ _ _ ⟨rfl,by simp only[ae,hn],by simp only[aa,↓reduceIte,Nat.reduceEqDiff],true,by simp only[aa,↓reduceIte],⟨fun _=>by omega,fun _=>rfl⟩⟩
  by_cases c3:10<=p
  rotate_left
  ·simp-implicitDefEqProofs(disch:=omega)only[ai,aj,Nat.reduceLT,Nat.reduceEqDiff,↓reduceIte,undef,hn,qQ,p0,eq_false c1,eq_false c2,eq_false c3]
   exact hQ _ _ ⟨rfl,by simp only[ae,hn],by simp only[aa,↓reduceIte,Nat.reduceEqDiff],false,by simp only[aa,↓reduceIte],⟨fun h=>by(cases h),fun h=>by omega⟩⟩
  simp-implicitDefEqProofs(disch:=omega)only[ai,aj,Nat.reduceLT,Nat.reduceEqDiff,↓reduceIte,hn,qQ,p0,eq_false c1,eq_false c2,eq_true c3]
  exact hQ _ _ ⟨rfl,by simp only[ae,hn],by simp only[aa,↓reduceIte,Nat.reduceEqDiff],decide (p<=15),by simp only[aa,↓reduceIte],by simp[c1,c2,c3]⟩
 clear hn h0 f
 rintro f s' ⟨rf,hn,h1,t,h3,nB⟩
 rw[rf]
 cases t with
 |false=>
  simp-implicitDefEqProofs(disch:=omega)only[ai,aj,al,oneOf,Nat.reduceLT,Nat.reduceEqDiff,↓reduceIte,undef,hn,h3,Tryz.results46]
  rw[gj]
  exact⟨by rw[decide_eq_false (fun h=>Bool.noConfusion (nB.2 h.1))],aA⟩
 |true=>
 by_cases d1:1<=co
 rotate_left
 ·simp-implicitDefEqProofs(disch:=omega)only[ai,aj,al,oneOf,Nat.reduceLT,Nat.reduceEqDiff,↓reduceIte,undef,hn,h1,h3,FL,p1,eq_false d1,Tryz.results46]
  rw[gj]
  exact⟨by rw[decide_eq_false (fun h:qO p co cl=>d1 h.2.1)],aA⟩
 by_cases d2:co<=4
 rotate_left
 ·simp-implicitDefEqProofs(disch:=omega)only[ai,aj,al,oneOf,Nat.reduceLT,Nat.reduceEqDiff,↓reduceIte,undef,hn,h1,h3,FL,p1,eq_true d1,eq_false d2,Tryz.results46]
  rw[gj]
  exact⟨by rw[decide_eq_false (fun h:qO p co cl=>d2 h.2.2.1)],aA⟩
 by_cases d3:1<=cl
 rotate_left
 ·simp-implicitDefEqProofs(disch:=omega)only[ai,aj,al,oneOf,Nat.reduceLT,Nat.reduceEqDiff,↓reduceIte,undef,hn,h1,h3,FL,HA,p1,p2,eq_true d1,eq_true d2,eq_false d3,Tryz.results46]
  rw[gj]
  exact⟨by rw[decide_eq_false (fun h:qO p co cl=>d3 h.2.2.2.1)],aA⟩
 simp-implicitDefEqProofs(disch:=omega)only[ai,aj,al,oneOf,Nat.reduceLT,Nat.reduceEqDiff,↓reduceIte,hn,h1,h3,FL,HA,p1,p2,eq_true d1,eq_true d2,eq_true d3,Tryz.results46]
 rw[gj]
 refine⟨congrArg _ ?_,aA⟩
 exact decide_eq_decide.2 ⟨fun h=>⟨nB.1 rfl,d1,d2,d3,h⟩,fun h=>h.2.2.2.2⟩
set_option maxHeartbeats 4000000 in
theorem Ei {lib:ay}(hl:lib.at 50=none)(s:aq)(p co cl:Int):Runs Tryz.prog lib 50 [i3 p co cl] s (BF s (qO p co cl)):=by
 obtain⟨QQ,gj⟩:∃QQ:Value->aq->Prop,QQ=BF s (qO p co cl):=⟨_,rfl⟩
 rw[<-gj]
 refine Runs.enter 41 Tryz.func50 rfl hl rfl rfl ?_
 intro f hn hf
 have h0:f.get 0=i3 p co cl:=hf 0
 clear hf
 simp-implicitDefEqProofs(disch:=omega)only[ai,Nat.reduceLT,↓reduceIte,hn,h0]
 refine aw ?_
 intro s1 ht aA uS
 have ht:av s1 s.next (l3 p co cl):=ht
 have p0:aG Tryz.prog s1 3 (.pointer (some ⟨s.next,0,some 4⟩))=some (.int .i64 p):=ht.load cj (off:=0) (c:=4) rfl (by simp)
 have p1:aG Tryz.prog s1 3 (.pointer (some ⟨s.next,1,some 4⟩))=some (.int .i64 co):=ht.load cj (off:=1) (c:=4) rfl (by simp)
 have p2:aG Tryz.prog s1 3 (.pointer (some ⟨s.next,2,some 4⟩))=some (.int .i64 cl):=ht.load cj (off:=2) (c:=4) rfl (by simp)
 have BG:[Value.int .i64 p,.int .i64 co,.int .i64 cl].length+1=4:=rfl
 simp-implicitDefEqProofs(disch:=omega)only[ai,aj,Nat.reduceLT,Nat.reduceEqDiff,↓reduceIte,hn,BG,tA,p0]
 refine Hv 13 (fun f' s' =>s' =s1/\f'.n=41/\f'.get 1= .pointer (some ⟨s.next,0,some 4⟩)/\∃t:Bool,f'.get 20= .bool t/\(t=true↔(p=1\/p=2\/(10<=p/\p<=15)))) ?_ ?_
 ·intro Q' hQ
  by_cases c1:p=1
  ·simp-implicitDefEqProofs(disch:=omega)only[ai,aj,Nat.reduceLT,Nat.reduceEqDiff,↓reduceIte,undef,hn,eq_true c1,List.take_succ_cons,List.take_zero]
   exact hQ _ _ ⟨rfl,by simp only[ae,hn],by simp only[aa,↓reduceIte,Nat.reduceEqDiff],true,by simp only[aa,↓reduceIte],⟨fun _=>by omega,fun _=>rfl⟩⟩
  by_cases c2:p=2
  ·simp-implicitDefEqProofs(disch:=omega)only[ai,aj,Nat.reduceLT,Nat.reduceEqDiff,↓reduceIte,undef,hn,tA,p0,eq_false c1,eq_true c2,List.take_succ_cons,List.take_zero]
   exact hQ _ _ ⟨rfl,by simp only[ae,hn],by simp only[aa,↓reduceIte,Nat.reduceEqDiff],true,by simp only[aa,↓reduceIte],⟨fun _=>by omega,fun _=>rfl⟩⟩
  by_cases c3:10<=p
  rotate_left
  ·simp-implicitDefEqProofs(disch:=omega)only[ai,aj,Nat.reduceLT,Nat.reduceEqDiff,↓reduceIte,undef,hn,tA,p0,eq_false c1,eq_false c2,eq_false c3,List.take_succ_cons,List.take_zero]
   exact hQ _ _ ⟨rfl,by simp only[ae,hn],by simp only[aa,↓reduceIte,Nat.reduceEqDiff],false,by simp only[aa,↓reduceIte],⟨fun h=>by(cases h),fun h=>by omega⟩⟩
  simp-implicitDefEqProofs(disch:=omega)only[ai,aj,Nat.reduceLT,Nat.reduceEqDiff,↓reduceIte,hn,tA,p0,eq_false c1,eq_false c2,eq_true c3,List.take_succ_cons,List.take_zero]
  exact hQ _ _ ⟨rfl,by simp only[ae,hn],by simp only[aa,↓reduceIte,Nat.reduceEqDiff],decide (p<=15),by simp only[aa,↓reduceIte],by simp[c1,c2,c3]⟩
 clear hn h0 f
 rintro f s' ⟨rf,hn,h1,t,h3,nB⟩
 rw[rf]
 cases t with
 |false=>
  simp-implicitDefEqProofs(disch:=omega)only[ai,aj,al,oneOf,Nat.reduceLT,Nat.reduceEqDiff,↓reduceIte,undef,hn,h3,Tryz.results50]
  rw[gj]
  exact⟨by rw[decide_eq_false (fun h=>Bool.noConfusion (nB.2 h.1))],aA⟩
 |true=>
 by_cases d1:1<=co
 rotate_left
 ·simp-implicitDefEqProofs(disch:=omega)only[ai,aj,al,oneOf,Nat.reduceLT,Nat.reduceEqDiff,↓reduceIte,undef,hn,h1,h3,xA,p1,eq_false d1,Tryz.results50]
  rw[gj]
  exact⟨by rw[decide_eq_false (fun h:qO p co cl=>d1 h.2.1)],aA⟩
 by_cases d2:co<=4
 rotate_left
 ·simp-implicitDefEqProofs(disch:=omega)only[ai,aj,al,oneOf,Nat.reduceLT,Nat.reduceEqDiff,↓reduceIte,undef,hn,h1,h3,xA,p1,eq_true d1,eq_false d2,Tryz.results50]
  rw[gj]
  exact⟨by rw[decide_eq_false (fun h:qO p co cl=>d2 h.2.2.1)],aA⟩
 by_cases d3:1<=cl
 rotate_left
 ·simp-implicitDefEqProofs(disch:=omega)only[ai,aj,al,oneOf,Nat.reduceLT,Nat.reduceEqDiff,↓reduceIte,undef,hn,h1,h3,xA,Dj,p1,p2,eq_true d1,eq_true d2,eq_false d3,Tryz.results50]
  rw[gj]
  exact⟨by rw[decide_eq_false (fun h:qO p co cl=>d3 h.2.2.2.1)],aA⟩
 simp-implicitDefEqProofs(disch:=omega)only[ai,aj,al,oneOf,Nat.reduceLT,Nat.reduceEqDiff,↓reduceIte,hn,h1,h3,xA,Dj,p1,p2,eq_true d1,eq_true d2,eq_true d3,Tryz.results50]
 rw[gj]
 refine⟨congrArg _ ?_,aA⟩
 exact decide_eq_decide.2 ⟨fun h=>⟨nB.1 rfl,d1,d2,d3,h⟩,fun h=>h.2.2.2.2⟩
theorem BH {lib:ay}(hl:lib.at 193=none)(s:aq)(a b:Int)(ha: -10000<=a/\a<=10000)(hb: -10000<=b/\b<=10000):Runs Tryz.prog lib 193 [.int .i64 a,.int .i64 b] s fun v s' =>v= .int .i64 (km a b)/\s' =s:=by
 refine Runs.enter 12 Tryz.func193 rfl hl rfl rfl ?_
 intro f hn hf
 have h0:f.get 0= .int .i64 a:=hf 0
 have h1:f.get 1= .int .i64 b:=hf 1
 clear hf
 have e:(if b-a>a-b then b-a else a-b)=km a b:=rfl
 simp-implicitDefEqProofs(disch:=omega)only[ai,al,oneOf,ad,Nat.reduceLT,Nat.reduceEqDiff,↓reduceIte,hn,h0,h1,aD,e,Tryz.results193]
theorem xB {lib:ay}(hl:lib.at 199=none)(s:aq)(a b:Int)(ha: -10000<=a/\a<=10000)(hb: -10000<=b/\b<=10000):Runs Tryz.prog lib 199 [.int .i64 a,.int .i64 b] s fun v s' =>v= .int .i64 (km a b)/\s' =s:=by
 refine Runs.enter 14 Tryz.func199 rfl hl rfl rfl ?_
 intro f hn hf
 have h0:f.get 0= .int .i64 a:=hf 0
 have h1:f.get 1= .int .i64 b:=hf 1
 clear hf
 by_cases c:a>b
 ·have e:km a b=a-b:=by unfold km;rw[if_neg (by omega)]
  simp-implicitDefEqProofs(disch:=omega)only[ai,al,oneOf,Nat.reduceLT,Nat.reduceEqDiff,↓reduceIte,hn,h0,h1,eq_true c,aD,e,Tryz.results199]
 ·have e:km a b=b-a:=by unfold km;split<;>omega
  simp-implicitDefEqProofs(disch:=omega)only[ai,al,oneOf,Nat.reduceLT,Nat.reduceEqDiff,↓reduceIte,hn,h0,h1,eq_false c,aD,e,Tryz.results199]
end Go.Proofs.YtdfjfncifneocaaGreat
