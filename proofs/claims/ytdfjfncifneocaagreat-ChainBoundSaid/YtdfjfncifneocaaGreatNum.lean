/-
 The clean machine: a statement whose order is open, in which what was there ahead of it is read out of a set of blocks that the first effects leave, ahead of the later ones: it comes to what it comes to in the text's order.
-/
import Derived.Test.YtdfjfncifneocaaGreatLooseA
import Derived.Test.YtdfjfncifneocaaGreatMem
open Nat renaming reduceLT->QS,reduceEqDiff->WP
namespace Go.Cl
namespace LB
def gx (P:Program)(lib:az)(A:Nat->Bool)(all:List Oper):List Oper->Nat->Nat->aT->aq->(aT->aq->Prop)->Prop
 |[],_,_,f,T,Q=>Q f T
 |o::r,g,id,f,T,Q=>
  match cK all o f with
  |true=>
   match aM P o,aK P o with
   |true,_=>
    match cM P o f T with
    |some (.val v _)=>LA.lS o f A=true/\cf v v=true/\fa f o.dst v fun f' =>gx P lib A all r g id f' T Q
    |_=>False
   |false,true=>
    match ff id (cM P o f ⟨.nil,id⟩) with
    |some (v,bl)=>fa f o.dst v fun f' =>gx P lib A all r g (id+1) f' (T.put id (.dK bl)) Q
    |none=>False
   |false,false=>
    match cM P o f T with
    |some (.val v T')=>(g≠0->LA.dD A T T')/\fa f o.dst v fun f' =>gx P lib A all r (g-1) id f' T' Q
    |some (.call gg args)=>Runs P lib gg args T fun v T' =>(g≠0->LA.dD A T T')/\fa f o.dst v fun f' =>gx P lib A all r (g-1) id f' T' Q
    |none=>False
  |false=>fa f o.dst undef fun f' =>gx P lib A all r (if bd P o then g-1 else g) (if aK P o then id+1 else id) f' T Q
def FX (P:Program)(lib:az)(A:Nat->Bool)(g:Nat)(all:List Oper)(o:Oper)(r:List Oper)(id:Nat)(f:aT)(T:aq)(Q:aT->aq->Prop):Option AR->Prop
 |some (.val v _)=>LA.lS o f A=true/\cf v v=true/\fa f o.dst v fun f' =>gx P lib A all r g id f' T Q
 |_=>False
def Cx (P:Program)(lib:az)(A:Nat->Bool)(g:Nat)(all r:List Oper)(id:Nat)(f:aT)(T:aq)(d:Option Tmp)(Q:aT->aq->Prop):Option (Value×jE)->Prop
 |some (v,bl)=>fa f d v fun f' =>gx P lib A all r g (id+1) f' (T.put id (.dK bl)) Q
 |none=>False
def sB (P:Program)(lib:az)(A:Nat->Bool)(g:Nat)(all r:List Oper)(id:Nat)(f:aT)(d:Option Tmp)(T:aq)(Q:aT->aq->Prop):Option AR->Prop
 |some (.val v T')=>(g≠0->LA.dD A T T')/\fa f d v fun f' =>gx P lib A all r (g-1) id f' T' Q
 |some (.call gg args)=>Runs P lib gg args T fun v T' =>(g≠0->LA.dD A T T')/\fa f d v fun f' =>gx P lib A all r (g-1) id f' T' Q
 |none=>False
def px (P:Program)(lib:az)(A:Nat->Bool)(g:Nat)(all r:List Oper)(id:Nat)(f:aT)(d:Option Tmp)(Q:aT->aq->Prop)(v:Value)(T' :aq):Prop:=fa f d v fun f' =>gx P lib A all r g id f' T' Q
def wo (P:Program)(lib:az)(A:Nat->Bool)(g:Nat)(all:List Oper)(o:Oper)(r:List Oper)(id:Nat)(f:aT)(T:aq)(Q:aT->aq->Prop):Bool->Prop
 |true=>bif aM P o then FX P lib A g all o r id f T Q (cM P o f T) else bif aK P o then Cx P lib A g all r id f T o.dst Q (ff id (cM P o f ⟨.nil,id⟩)) else sB P lib A g all r id f o.dst T Q (cM P o f T)
 |false=>fa f o.dst undef fun f' =>gx P lib A all r (if bd P o then g-1 else g) (if aK P o then id+1 else id) f' T Q
section
variable (P:Program) (lib:az) (A:Nat->Bool) (all:List Oper) (r:List Oper) (g id:Nat) (f:aT) (T:aq) (Q:aT->aq->Prop)
theorem yd:gx P lib A all [] g id f T Q=Q f T:=by simp only[gx]
theorem uM (o:Oper):gx P lib A all (o::r) g id f T Q=wo P lib A g all o r id f T Q (cK all o f):=by
 simp only[gx]
 cases cK all o f with
 |false=>rfl
 |true=>
  simp only[wo]
  cases aM P o with
  |true=>
   simp only[cond_true]
   cases cM P o f T with
   |none=>rfl
   |some a=>cases a<;>rfl
  |false=>
   cases aK P o with
   |true=>
    simp only[cond_true,cond_false]
    cases ff id (cM P o f ⟨.nil,id⟩) with
    |none=>rfl
    |some a=>rfl
   |false=>
    simp only[cond_false]
    cases cM P o f T with
    |none=>rfl
    |some a=>cases a<;>rfl
variable (d:Option Tmp) (ty:TypeId) (ps:String) (af:Array Edge) (gd:Option (Nat×Bool))
theorem Mv (o:Oper):wo P lib A g all o r id f T Q true=bif aM P o then FX P lib A g all o r id f T Q (cM P o f T) else bif aK P o then Cx P lib A g all r id f T o.dst Q (ff id (cM P o f ⟨.nil,id⟩)) else sB P lib A g all r id f o.dst T Q (cM P o f T):=rfl
theorem FY (o:Oper):wo P lib A g all o r id f T Q true=if aM P o=true then FX P lib A g all o r id f T Q (cM P o f T) else if aK P o=true then Cx P lib A g all r id f T o.dst Q (ff id (cM P o f ⟨.nil,id⟩)) else sB P lib A g all r id f o.dst T Q (cM P o f T):=by
 rw[Mv]
 cases aM P o<;>cases aK P o<;>rfl
theorem py (op:Op)(t:Tmp):wo P lib A g all ⟨some t,op,ty,ps,af,gd⟩ r id f T Q false=if t<f.n then gx P lib A all r (if aM P ⟨some t,op,ty,ps,af,gd⟩=true then g else if aK P ⟨some t,op,ty,ps,af,gd⟩=true then g else g-1) (if aK P ⟨some t,op,ty,ps,af,gd⟩=true then id+1 else id) (f.put t undef) T Q else False:=by
 have e:(if bd P ⟨some t,op,ty,ps,af,gd⟩=true then g-1 else g)=(if aM P ⟨some t,op,ty,ps,af,gd⟩=true then g else if aK P ⟨some t,op,ty,ps,af,gd⟩=true then g else g-1):=by
  unfold bd
  cases aM P ⟨some t,op,ty,ps,af,gd⟩<;>cases aK P ⟨some t,op,ty,ps,af,gd⟩<;>rfl
 rw[<-e]
 simp only[wo,eg]
theorem FZ (o:Op)(t:Tmp)(v:Value)(s' :aq):FX P lib A g all ⟨some t,o,ty,ps,af,gd⟩ r id f T Q (some (.val v s'))=if LA.lS ⟨some t,o,ty,ps,af,gd⟩ f A=true/\cf v v=true/\t<f.n then gx P lib A all r g id (f.put t v) T Q else False:=by
 simp only[FX,eg]
 by_cases h0:LA.lS ⟨some t,o,ty,ps,af,gd⟩ f A=true<;>by_cases h1:cf v v=true<;>by_cases h2:t<f.n<;>simp[h0,h1,h2]
theorem Cy (gg:FuncId)(args:List Value):sB P lib A g all r id f d T Q (some (.call gg args))=Runs P lib gg args T (fun v T' =>(g≠0->LA.dD A T T')/\px P lib A (g-1) all r id f d Q v T'):=rfl
theorem Cz (t:Tmp)(v:Value)(s' :aq):px P lib A g all r id f (some t) Q v s' =if t<f.n then gx P lib A all r g id (f.put t v) s' Q else False:=by
 simp only[px,eg]
theorem CA (v:Value):sB P lib A g all r id f d T Q (some (.val v T))=px P lib A (g-1) all r id f d Q v T:=by
 simp only[sB,px,LA.dD.refl,implies_true,true_and]
theorem Q4 (v:Value)(T' :aq):sB P lib A g all r id f d T Q (some (.val v T'))=((g≠0->LA.dD A T T')/\px P lib A (g-1) all r id f d Q v T'):=rfl
theorem CB (v:Value)(s' :aq):px P lib A g all r id f none Q v s' =gx P lib A all r g id f s' Q:=rfl
theorem JH (v:Value)(bl:jE):Cx P lib A g all r id f T d Q (some (v,bl))=px P lib A g all r (id+1) f d Q v (T.put id (.dK bl)):=rfl
end
def Mw (P:Program)(ops:List Oper)(K0:Nat):Bool:=
 let ms:=cq ops []
 ops.zipIdx.all fun x=>
  (ops.zipIdx.all fun y=> !aK P y.1||(bif Nat.blt y.2 x.2 then !LA.Cw P x.1||Nat.testBit (cW ms x.2) y.2 else !Nat.testBit (cW ms x.2) y.2))&&
  (!(LA.hJ P x.1&& !eW x.1)||(Nat.ble (countP (fun j=> !Nat.testBit (cW ms j) x.2) P ops 0) K0&&Nat.ble (countP (fun j=>Nat.blt j x.2) P ops 0) K0))&&
  (!(aM P x.1&& !LA.hJ P x.1)||(Nat.ble (countP (fun j=> !Nat.testBit (cW ms j) x.2) P ops 0) (countP (fun j=>Nat.blt j x.2) P ops 0)&&Nat.beq (countP (Nat.testBit (cW ms x.2)) P ops 0) (countP (fun j=>Nat.blt j x.2) P ops 0)))
structure qj (A:Nat->Bool) (b:Prop) (s0:aq) (K:Nat) (i id:Nat) (arv:List (Nat×Nat×jE)) (T U:aq):Prop extends Stands s0 K i id arv T U where
 Xx:b->LA.dD A s0 T
 Xy:b->LA.dD A s0 U
 ids:∀x∈arv,A x.2.1=false
theorem F1 {P:Program}{o:Oper}{A:Nat->Bool}{s0:aq}(h:LA.hJ P o=true){f:aT}{s t:aq}(hl:LA.lS o f A=true)(hs:eW o=false->LA.dD A s0 s)(ht:eW o=false->LA.dD A s0 t){v:Value}{s' :aq}(ha:cM P o f s=some (.val v s')):cM P o f t=some (.val v t):=by
 cases hp:eW o with
 |true=>exact wg hp ha
 |false=>exact LA.TU h hl (hs hp) (ht hp) ha
theorem El {P:Program}{lib:az}{all:List Oper}{A:Nat->Bool}(s0:aq)(hA:∀i,A i=true->i<s0.next)(K0:Nat)(vP:List Nat){Q:aT->aq->Prop}
  (ez:∀(o:Oper) (i:Nat),all[i]?=some o->LA.hJ P o=true->eW o=false->countP (fun j=> !Nat.testBit (cW vP j) i) P all 0<=K0/\fV P all i<=K0)
  (aa6:∀(o:Oper) (i:Nat),all[i]?=some o->aM P o=true->LA.hJ P o=false->countP (fun j=> !Nat.testBit (cW vP j) i) P all 0<=fV P all i/\countP (Nat.testBit (cW vP i)) P all 0=fV P all i)
  (TO:∀(o p:Oper) (i j:Nat),all[i]?=some o->all[j]?=some p->aK P p=true->j<i->LA.Cw P o=true->Nat.testBit (cW vP i) j=true)
  (aa7:∀(o p:Oper) (i j:Nat),all[i]?=some o->all[j]?=some p->aK P p=true->i<=j->Nat.testBit (cW vP i) j=false):
  ∀(l pre:List Oper) (ms:List Nat) (id:Nat) (f:aT) (T U:aq) (arv:List (Nat×Nat×jE)),all=pre++l->ms=vP.drop pre.length->ms.length=l.length->id+aP P l<=s0.next+aP P all->qj A (fV P pre pre.length<=K0) s0 (aP P all) pre.length id arv T U->(∀x∈arv,∃p,all[x.1]?=some p/\aK P p=true)->gx P lib A all l (K0-fV P pre pre.length) id f U Q->
  ∃es f' T' U',(∃n,∀m,n<=m->cG P (gV P lib m) all ms l pre.length id f T arv=some es)/\(aF P l es T).getLastD T=T' /\cL l es f=f' /\Cl.fill (fun _=>true) T' (arv++madeOf es pre.length)=U' /\
   (∀x∈madeOf es pre.length,pre.length<=x.1/\∃p,all[x.1]?=some p/\aK P p=true)/\
   (∀k x,(aF P l es T)[k]?=some x->fV P pre pre.length+k<=K0->LA.dD A s0 x)/\(∀oX before,oX=before++aF P l es T->(∀k x,oX[k]?=some x->k<=K0->LA.dD A s0 x)->before.length=fV P pre pre.length->cr P all vP (arv++madeOf es pre.length) oX ms l es pre.length f=true)/\bN s0 U' /\Q f' U' :=by
 intro l
 induction l with
 |nil=>
  intro pre ms id f T U arv _ _ hl _ aD _ hw
  rw[yd] at hw
  cases ms with
  |cons m r=>simp at hl
  |nil=>exact⟨[],f,T,U,⟨0,fun _ _=>rfl⟩,rfl,rfl,by simp only[madeOf,List.append_nil];exact aD.fill _ (fun _ _=>rfl),(fun x hx=>by simp[madeOf] at hx),(fun k x hx hk=>by
   simp only[aF] at hx
   cases k with
   |zero=>simp at hx;rw[<-hx];exact aD.Xx (by omega)
   |succ k=>simp at hx),fun _ _ _ _ _=>rfl,aD.keeps,hw⟩
 |cons o r ih=>
  intro pre ms id f T U arv dN OG hl gn aD has hw
  cases ms with
  |nil=>simp at hl
  |cons m ms=>
  have Jo:ms.length=r.length:=by simpa using hl
  have wi:all=(pre++[o])++r:=by rw[dN,List.append_assoc];rfl
  have ef:(pre++[o]).length=pre.length+1:=by simp
  have HM:ms=vP.drop (pre++[o]).length:=by
   rw[ef,<-List.drop_drop,<-OG];rfl
  have hmA:cW vP pre.length=m:=by
   have x8:∀(L:List Nat) (k:Nat) (x:Nat) (t:List Nat),L.drop k=x::t->cW L k=x:=by
    intro L
    induction L with
    |nil=>intro k x t h;simp at h
    |cons y L QM=>
     intro k x t h
     cases k with
     |zero=>simp at h;exact h.1
     |succ k=>simp only[List.drop_succ_cons] at h;simp only[cW];exact QM k x t h
   exact x8 vP pre.length m ms OG.symm
  have jV:all[pre.length]?=some o:=by rw[dN];simp
  have OT:fV P all pre.length=fV P pre pre.length:=by rw[dN,zt]
  have HN:=FL P o pre
  have nd:∀(v:Value) (g' id' :Nat) (U' :aq),(fa f o.dst v fun f' =>gx P lib A all r g' id' f' U' Q)->∃f1,kr f o.dst v=some f1/\gx P lib A all r g' id' f1 U' Q:=by
   intro v g' id' U' h
   unfold fa at h
   split at h
   ·exact⟨_,‹_›,h⟩
   ·exact h.elim
  have wq:∀b:Bool,bd P o=b->fV P (pre++[o]) (pre++[o]).length=if b then fV P pre pre.length+1 else fV P pre pre.length:=fun b hb=>by rw[HN,hb]
  have mA:aP P (o::r)=if aK P o then aP P r+1 else aP P r:=rfl
  have Ct:LA.Cw P o=true->Cl.fill (Nat.testBit m) T arv=U:=fun hn=>aD.fill _ (fun x hx=>by
   obtain⟨p,hp,SU⟩:=has x hx
   rw[<-hmA]
   exact TO o p pre.length x.1 jV hp SU (aD.before x hx) hn)
  rw[uM] at hw
  cases xy:cK all o f with
  |false=>
   rw[xy] at hw
   obtain⟨f1,hp,hw⟩:=nd _ _ _ _ hw
   have dC:qj A (fV P (pre++[o]) (pre++[o]).length<=K0) s0 (aP P all) (pre++[o]).length (if aK P o then id+1 else id) arv T U:=by
    refine⟨⟨aD.fill,aD.here,fun x hx=>by have:=aD.before x hx;omega,by have:=aD.lo;split<;>omega,fun k hk mv=>aD.free k (by split at hk<;>omega) mv,aD.next,aD.keeps⟩,fun h=>aD.Xx (by rw[HN] at h;split at h<;>omega),fun h=>aD.Xy (by rw[HN] at h;split at h<;>omega),aD.ids⟩
   obtain⟨es,f',T',U',⟨n,h1⟩,h3,h4,hf,wj,Em,h5,hk,h6⟩:=ih (pre++[o]) ms _ f1 T U arv wi HM Jo (by rw[mA] at gn;split<;>split at gn<;>first|omega|contradiction) dC has (by rw[HN];cases he:bd P o<;>simp only[he,Bool.false_eq_true,if_false,if_true] at hw|- <;>first|exact hw|(rw[Nat.sub_add_eq];exact hw))
   rw[ef] at h1 h5 hf wj
   refine⟨.skip::es,f',T',U',⟨n,fun q hq=> ?_⟩,?_,by simp only[cL,Ev.val,hp,h4],by simp only[madeOf];exact hf,(fun x hx=>by simp only[madeOf] at hx;obtain⟨a,b⟩:=wj x hx;exact⟨by omega,b⟩),(fun k x hx hk=>by
    simp only[aF] at hx
    split at hx
    ·rename_i he
     cases k with
     |zero=>simp at hx;rw[<-hx];exact aD.Xx (by omega)
     |succ k=>exact Em k x (by simpa using hx) (by rw[HN,if_pos he];omega)
    ·rename_i he
     exact Em k x hx (by rw[HN,if_neg he];omega)),fun oX before hs lJ hb=> ?_,hk,h6⟩
   ·simp only[cG,dL,xy,Ev.val,hp]
    rw[h1 q hq]
   ·simp only[aF]
    split
    ·obtain⟨rr,hr⟩:=fY P r es T
     rw[hr] at h3|-
     rw[List.getLastD_cons] at h3|-
     rw[List.getLastD_cons];exact h3
    ·exact h3
   ·simp only[cr,Ev.val,hp,Bool.true_and,madeOf]
    simp only[aF] at hs
    split at hs
    ·rename_i he
     refine h5 oX (before++[T]) (by rw[hs,List.append_assoc];rfl) lJ ?_
     rw[<-ef,HN,if_pos he,List.length_append,hb];rfl
    ·rename_i he
     refine h5 oX before hs lJ ?_
     rw[<-ef,HN,if_neg he,hb]
  |true=>
   rw[xy] at hw
   cases hq:aM P o with
   |true=>
    simp only[wo,hq,cond_true] at hw
    have ck:=kE hq
    have Mn:=lR hq
    rw[mA,if_neg (by simp[Mn])] at gn
    unfold FX at hw
    split at hw
    case h_2=>exact hw.elim
    rename_i v s1 fE
    obtain⟨ra,hv,hw⟩:=hw
    obtain⟨f1,hp,hw⟩:=nd _ _ _ _ hw
    have dC:qj A (fV P (pre++[o]) (pre++[o]).length<=K0) s0 (aP P all) (pre++[o]).length id arv T U:=⟨⟨aD.fill,aD.here,fun x hx=>by have:=aD.before x hx;omega,aD.lo,aD.free,aD.next,aD.keeps⟩,fun h=>aD.Xx (by rw[wq _ ck] at h;simpa using h),fun h=>aD.Xy (by rw[wq _ ck] at h;simpa using h),aD.ids⟩
    obtain⟨es,f',T',U',⟨n,h1⟩,h3,h4,hf,wj,Em,h5,hk,h6⟩:=ih (pre++[o]) ms id f1 T U arv wi HM Jo gn dC has (by rw[wq _ ck];exact hw)
    rw[ef] at h1 h5 hf wj
    have hle:LA.hJ P o=true->eW o=false->countP (fun j=> !Nat.testBit (cW vP j) pre.length) P all 0<=K0/\fV P pre pre.length<=K0:=fun h1 h2=>by rw[<-OT];exact ez o pre.length jV h1 h2
    have sd:∃s2,cM P o f (Cl.fill (Nat.testBit m) T arv)=some (.val v s2):=by
     cases uK:LA.hJ P o with
     |true=>exact⟨_,F1 uK ra (fun h=>aD.Xy (hle uK h).2) (fun h=>(aD.Xx (hle uK h).2).trans (LA.FP _ _ _ _ aD.ids)) fE⟩
     |false=>exact⟨s1,by rw[Ct (by simp[LA.Cw,uK,Mn])];exact fE⟩
    obtain⟨s2,sd⟩:=sd
    refine⟨.quiet v::es,f',T',U',⟨n,fun q QU=> ?_⟩,?_,by simp only[cL,Ev.val,hp,h4],by simp only[madeOf];exact hf,(fun x hx=>by simp only[madeOf] at hx;obtain⟨a,b⟩:=wj x hx;exact⟨by omega,b⟩),(fun k x hx hk=>Em k x (by simpa [aF,ck] using hx) (by rw[wq _ ck];simpa using hk)),fun oX before hs lJ hb=> ?_,hk,h6⟩
    ·simp only[cG,dL,xy,hq,sd,Ev.val,hp,Mn]
     rw[if_neg (by simp),h1 q QU]
    ·simp only[aF,ck];simpa using h3
    ·have Ba:oX=before++aF P r es T:=by simpa [aF,ck] using hs
     simp only[cr,Ev.val,hp,madeOf]
     rw[h5 oX before Ba lJ (by rw[<-ef,HN,if_neg (by simp[ck]),hb]),Bool.and_true]
     have hfw:∀X:aq,Cl.fill (Nat.testBit m) X (arv++madeOf es (pre.length+1))=Cl.fill (Nat.testBit m) X arv:=by
      intro X
      rw[nX,FM _ (madeOf es (pre.length+1))]
      intro x hx
      obtain⟨a,p,Tt,SU⟩:=wj x hx
      rw[<-hmA]
      exact aa7 o p pre.length x.1 jV Tt SU (by omega)
     have vA:∀(L:List aq),(LA.hJ P o=true->eW o=false->∀x∈L,LA.dD A s0 x)->(LA.hJ P o=false->∀x∈L,x=T)->sameAt P m (arv++madeOf es (pre.length+1)) o f v L=true:=by
      intro L
      induction L with
      |nil=>intro _ _;rfl
      |cons x L QM=>
       intro kv hx
       simp only[sameAt,hfw]
       have:∃s3,cM P o f (Cl.fill (Nat.testBit m) x arv)=some (.val v s3):=by
        cases uK:LA.hJ P o with
        |true=>exact⟨_,F1 uK ra (fun h=>aD.Xy (hle uK h).2) (fun h=>(kv uK h x (List.mem_cons_self ..)).trans (LA.FP _ _ _ _ aD.ids)) fE⟩
        |false=>rw[hx uK x (List.mem_cons_self ..)];exact⟨s2,sd⟩
       obtain⟨s3,ij⟩:=this
       rw[ij]
       simp only[hv,Bool.true_and]
       exact QM (fun h1 h2 y hy=>kv h1 h2 y (List.mem_cons_of_mem _ hy)) (fun uK y hy=>hx uK y (List.mem_cons_of_mem _ hy))
     refine vA _ (fun h1 h2 x hx=> ?_) (fun uK x hx=> ?_)
     ·obtain⟨k,hk⟩:=List.getElem?_of_mem (List.mem_of_mem_drop hx)
      rw[List.getElem?_take] at hk
      split at hk
      ·rename_i hkl
       have:=(hle h1 h2).1
       exact lJ k x hk (by omega)
      ·cases hk
     obtain⟨t1,t2⟩:=aa6 o pre.length jV hq uK
     rw[hmA] at t2
     rw[t2] at hx
     obtain⟨rr,hr⟩:=fY P r es T
     rw[OT,<-hb,List.drop_take,Ba,hr,List.drop_left] at hx
     have kD:countP (fun j=> !Nat.testBit (cW vP j) pre.length) P all 0+1-before.length<=1:=by omega
     generalize countP (fun j=> !Nat.testBit (cW vP j) pre.length) P all 0+1-before.length=k at hx kD
     cases k with
     |zero=>simp at hx
     |succ k=>
      obtain rfl:k=0:=by omega
      simpa using hx
   |false=>
    cases ha:aK P o with
    |true=>
     simp only[wo,hq,ha,cond_true,cond_false] at hw
     rw[mA,if_pos ha] at gn
     have ck:bd P o=false:=by simp[bd,ha]
     unfold Cx at hw
     split at hw
     case h_2=>exact hw.elim
     rename_i v b fE
     obtain⟨f1,hp,hw⟩:=nd _ _ _ _ hw
     have aba:∃s1,cM P o f ⟨.nil,id⟩=some (.val v s1)/\s1.bA id=some b:=by
      unfold ff at fE
      split at fE
      ·rename_i v1 s1 h1
       split at fE
       ·rename_i b1 gu
        injection fE with fE;injection fE with e1 e2;subst e1;subst e2
        exact⟨s1,h1,gu⟩
       ·cases fE
      ·cases fE
     obtain⟨s1,tE,fx⟩:=aba
     have mi:=aD.free id (Nat.le_refl _) (by omega)
     have bc:id<U.next:=by have:=aD.next;omega
     have dC:qj A (fV P (pre++[o]) (pre++[o]).length<=K0) s0 (aP P all) (pre++[o]).length (id+1) (arv++[(pre.length,id,b)]) T (U.put id (.dK b)):=by
      refine⟨⟨fun p hp=> ?_,fun x hx=> ?_,fun x hx=> ?_,by have:=aD.lo;omega,fun k hk mv=> ?_,by have:=aD.next;simpa [aq.put] using this,?_⟩,fun h=>aD.Xx (by rw[wq _ ck] at h;simpa using h),fun h=>(aD.Xy (by rw[wq _ ck] at h;simpa using h)).trans ⟨Nat.le_refl _,fun i hi=>aq.bD _ _ _ _ (by have:=aD.lo;have:=hA i hi;omega)⟩,fun x hx=> ?_⟩
      ·rw[nX,aD.fill p (fun x hx=>hp x (List.mem_append_left _ hx))]
       have Ow:p pre.length=true:=hp (pre.length,id,b) (List.mem_append_right _ (List.mem_cons_self ..))
       simp only[Cl.fill,Ow,mi]
      ·rcases List.mem_append.mp hx with hx|hx
       ·have hh:=aD.here x hx
        have:x.2.1≠id:=fun e=>hh (by rw[e];exact mi)
        rw[aq.bD _ _ _ _ (Ne.symm this)];exact hh
       ·rw[List.mem_singleton] at hx;subst hx
        simp only[aq.put,Tr.bp _ _ _ _ (deep (by omega))];simp
      ·rcases List.mem_append.mp hx with hx|hx
       ·have:=aD.before x hx;omega
       ·rw[List.mem_singleton] at hx;subst hx;simp
      ·rw[aq.bD _ _ _ _ (by omega)];exact aD.free k (by omega) mv
      ·have hk:=aD.keeps
       refine⟨hk.next,fun j hj hn=> ?_,fun j hj=> ?_,⟨by omega,fun j ob hj=> ?_⟩⟩
       ·have:=aD.lo
        rw[aq.bD _ _ _ _ (by omega)];exact hk.gone j hj hn
       ·by_cases gz:id=j
        ·subst gz;simp only[aq.put,Tr.bp _ _ _ _ (deep (by omega))];simp
        ·rw[aq.bD _ _ _ _ gz];exact hk.here j hj
       ·by_cases gz:id=j
        ·subst gz;simpa [aq.put] using bc
        ·rw[aq.bD _ _ _ _ gz] at hj;have:=hk.wf.bound j ob hj;simpa [aq.put] using this
      ·rcases List.mem_append.mp hx with hx|hx
       ·exact aD.ids x hx
       ·rw[List.mem_singleton] at hx;subst hx;exact(by cases hAi:A id with|false=>rfl|true=>(have:=hA id hAi;have:=aD.lo;omega))
     have abb:∀x∈arv++[(pre.length,id,b)],∃p,all[x.1]?=some p/\aK P p=true:=by
      intro x hx
      rcases List.mem_append.mp hx with hx|hx
      ·exact has x hx
      ·rw[List.mem_singleton] at hx;subst hx;exact⟨o,jV,ha⟩
     obtain⟨es,f',T',U',⟨n,h1⟩,h3,h4,hf,wj,Em,h5,hk,h6⟩:=ih (pre++[o]) ms (id+1) f1 T _ _ wi HM Jo (by omega) dC abb (by rw[wq _ ck];exact hw)
     rw[ef] at h1 h5 hf wj
     have hap:∀L,arv++(pre.length,id,b)::L=(arv++[(pre.length,id,b)])++L:=fun L=>by rw[List.append_assoc];rfl
     refine⟨.made v id b::es,f',T',U',⟨n,fun q QU=> ?_⟩,?_,by simp only[cL,Ev.val,hp,h4],by simp only[madeOf];rw[hap];exact hf,(fun x hx=> ?_),(fun k x hx hk=>Em k x (by simpa [aF,ck] using hx) (by rw[wq _ ck];simpa using hk)),fun oX before hs lJ hb=> ?_,hk,h6⟩
     ·simp only[cG,dL,xy,hq,ha,tE,fx,Ev.val,hp,if_true]
      rw[h1 q QU]
     ·simp only[aF,ck];simpa using h3
     ·simp only[madeOf] at hx
      rcases List.mem_cons.mp hx with rfl|hx
      ·exact⟨Nat.le_refl _,o,jV,ha⟩
      ·obtain⟨a,c⟩:=wj x hx;exact⟨by omega,c⟩
     ·simp only[cr,Ev.val,hp,Bool.true_and,madeOf]
      rw[hap]
      have Ba:oX=before++aF P r es T:=by simpa [aF,ck] using hs
      exact h5 oX before Ba lJ (by rw[<-ef,HN,if_neg (by simp[ck]),hb])
    |false=>
     simp only[wo,hq,ha,cond_false] at hw
     rw[mA,if_neg (by simp[ha])] at gn
     have he:bd P o=true:=by simp[bd,hq,ha]
     have uK:LA.hJ P o=false:=by
      cases uK:LA.hJ P o with
      |false=>rfl
      |true=>rw[LA.Q3 uK] at hq;cases hq
     have hU:=Ct (by simp[LA.Cw,uK,ha])
     have fin:∀(v:Value) (U1:aq) (n0:Nat),(∀q,n0<=q->dL P (gV P lib q) all m id arv o f T=some (.DV v U1))->bN U U1->(K0-fV P pre pre.length≠0->LA.dD A U U1)->(fa f o.dst v fun f' =>gx P lib A all r (K0-fV P pre pre.length-1) id f' U1 Q)->
       ∃es f' T' U',(∃n,∀m',n<=m' ->cG P (gV P lib m') all (m::ms) (o::r) pre.length id f T arv=some es)/\(aF P (o::r) es T).getLastD T=T' /\cL (o::r) es f=f' /\Cl.fill (fun _=>true) T' (arv++madeOf es pre.length)=U' /\
        (∀x∈madeOf es pre.length,pre.length<=x.1/\∃p,all[x.1]?=some p/\aK P p=true)/\
        (∀k x,(aF P (o::r) es T)[k]?=some x->fV P pre pre.length+k<=K0->LA.dD A s0 x)/\(∀oX before,oX=before++aF P (o::r) es T->(∀k x,oX[k]?=some x->k<=K0->LA.dD A s0 x)->before.length=fV P pre pre.length->cr P all vP (arv++madeOf es pre.length) oX (m::ms) (o::r) es pre.length f=true)/\bN s0 U' /\Q f' U' :=by
      intro v U1 n0 hd QV hkS hw
      obtain⟨f1,hp,hw⟩:=nd _ _ _ _ hw
      have Jy:∀x∈arv,U1.heap.get x.2.1≠none:=fun x hx=>QV.here _ (aD.here x hx)
      have dC:qj A (fV P (pre++[o]) (pre++[o]).length<=K0) s0 (aP P all) (pre++[o]).length id arv U1 U1:=by
       refine⟨⟨fun p hp=>FN p arv U1 Jy,Jy,fun x hx=>by have:=aD.before x hx;omega,aD.lo,fun k hk mv=>QV.gone k (by have:=aD.next;omega) (aD.free k hk mv),by have:=aD.next;have:=QV.next;omega,aD.keeps.trans QV⟩,fun h=>(aD.Xy (by rw[wq _ he] at h;simp at h;omega)).trans (hkS (by rw[wq _ he] at h;simp at h;omega)),fun h=>(aD.Xy (by rw[wq _ he] at h;simp at h;omega)).trans (hkS (by rw[wq _ he] at h;simp at h;omega)),aD.ids⟩
      obtain⟨es,f',T',U',⟨n,h1⟩,h3,h4,hf,wj,Em,h5,hk,h6⟩:=ih (pre++[o]) ms id f1 U1 U1 arv wi HM Jo gn dC has (by rw[wq _ he,if_pos rfl,Nat.sub_add_eq];exact hw)
      rw[ef] at h1 h5 hf wj
      refine⟨.DV v U1::es,f',T',U',⟨n+n0,fun q QU=> ?_⟩,?_,by simp only[cL,Ev.val,hp,h4],by simp only[madeOf];exact hf,(fun x hx=>by simp only[madeOf] at hx;obtain⟨a,b⟩:=wj x hx;exact⟨by omega,b⟩),(fun k x hx hk=>by
       simp only[aF] at hx
       cases k with
       |zero=>simp at hx;rw[<-hx];exact aD.Xx (by omega)
       |succ k=>exact Em k x (by simpa using hx) (by rw[wq _ he,if_pos rfl];omega)),fun oX before hs lJ hb=> ?_,hk,h6⟩
      ·simp only[cG,hd q (by omega),Ev.val,hp,ha]
       rw[if_neg (by simp),h1 q (by omega)]
      ·simp only[aF]
       obtain⟨rr,hr⟩:=fY P r es U1
       rw[hr] at h3|-
       rw[List.getLastD_cons] at h3|-
       rw[List.getLastD_cons];exact h3
      ·simp only[cr,Ev.val,hp,Bool.true_and,madeOf]
       simp only[aF] at hs
       refine h5 oX (before++[T]) (by rw[hs,List.append_assoc];rfl) lJ ?_
       rw[<-ef,HN,if_pos he,List.length_append,hb];rfl
     unfold sB at hw
     split at hw
     case h_3=>exact hw.elim
     ·rename_i v U1 fE
      obtain⟨hkS,hw⟩:=hw
      exact fin v U1 0 (fun q _=>by simp only[dL,xy,hq,ha,hU,fE]) (xT aD.keeps.wf fE) hkS hw
     ·rename_i g args fE
      obtain⟨v,U1,⟨nc,hc⟩,QV,hkS,hw⟩:=hw aD.keeps.wf
      exact fin v U1 nc (fun q QU=>by simp only[dL,xy,hq,ha,hU,fE,hc q QU]) QV hkS hw
theorem da.loose {P:Program}{lib:az}{ops:List Oper}{A:Nat->Bool}(K0:Nat)(ht:Mw P ops K0=true){f:aT}{s:aq}{Q:aT->aq->Prop}(hA:∀i,A i=true->i<s.next)(h:gx P lib A ops ops K0 s.next f (spare s (aP P ops)) Q):da P lib ops f s Q:=by
 intro pW
 simp only[Mw,List.all_eq_true,Bool.and_eq_true,Bool.or_eq_true,Bool.not_eq_true'] at ht
 have o7:∀(o:Oper) (i:Nat),ops[i]?=some o->(o,i)∈ops.zipIdx:=fun o i hi=>by rw[List.mem_zipIdx_iff_getElem?];simpa using hi
 have OG:(cq ops []).length=ops.length:=by
  obtain⟨r,h1,h2⟩:=mM ops []
  rw[h1];simpa using h2
 have mi:∀k,s.next<=k->s.heap.get k=none:=fun k kD=>by
  cases hg:s.heap.get k with
  |none=>rfl
  |some o=>have:=pW.bound k o hg;omega
 have SB:bN s (spare s (aP P ops)):=⟨by simp[spare],fun _ _ h=>h,fun _ h=>h,⟨by omega,fun j o hj=>by have:=pW.bound j o hj;simp only[spare];omega⟩⟩
 obtain⟨es,f',T',U',⟨n,h1⟩,h3,h4,hf,wj,Em,h5,hk,h6⟩:=El (P:=P) (lib:=lib) (all:=ops) (A:=A) s hA K0 (cq ops []) (Q:=Q) (fun o i hi hc hp=>by
   have:=(ht (o,i) (o7 o i hi)).1.2
   have IG:=oL P ops 0 i
   rw[Nat.zero_add] at IG
   rcases this with h|h
   ·simp[hc,hp] at h
   ·obtain⟨t1,t2⟩:=h
    rw[IG] at t2
    exact⟨by simpa [Nat.ble_eq] using t1,by simpa [Nat.ble_eq] using t2⟩)
  (fun o i hi hq hp=>by
   have:=(ht (o,i) (o7 o i hi)).2
   have IG:=oL P ops 0 i
   rw[Nat.zero_add] at IG
   rcases this with h|h
   ·simp[hq,hp] at h
   ·obtain⟨t1,t2⟩:=h
    rw[IG] at t1 t2
    exact⟨by simpa [Nat.ble_eq] using t1,by simpa [Nat.beq_eq] using t2⟩)
  (fun o p i j hi hj ha gz hn=>by
   have:=(ht (o,i) (o7 o i hi)).1.1 (p,j) (o7 p j hj)
   have hb:Nat.blt j i=true:=by simpa [Nat.blt_eq] using gz
   simp only[ha,hb,cond_true,hn] at this
   simpa using this)
  (fun o p i j hi hj ha th=>by
   have:=(ht (o,i) (o7 o i hi)).1.1 (p,j) (o7 p j hj)
   have hb:Nat.blt j i=false:=by rw[<-Bool.not_eq_true,Nat.blt_eq];omega
   simp only[ha,hb,cond_false] at this
   simpa using this)
  ops [] (cq ops []) s.next f (spare s (aP P ops)) (spare s (aP P ops)) [] rfl rfl OG (by omega)
  ⟨⟨fun _ _=>rfl,fun _ hx=>(by cases hx),fun _ hx=>(by cases hx),Nat.le_refl _,fun k kD _=>mi k kD,by simp[spare],SB⟩,fun _=>LA.ar.OW hA (ar.spare _ _),fun _=>LA.ar.OW hA (ar.spare _ _),fun _ hx=>(by cases hx)⟩ (fun _ hx=>(by cases hx)) h
 simp only[List.nil_append,List.length_nil] at h1 h5 hf wj
 refine⟨f',U',⟨n,fun m hm=> ?_⟩,hk,h6⟩
 unfold fj
 have Xh:=h1 m hm
 have hb:Nat.ble 0 16000000=true:=rfl
 simp only[]
 show(match cG P (gV P lib m) ops (cq ops []) ops 0 s.next f (spare s (aP P ops)) [] with
  |some es=>match cr P ops (cq ops []) (madeOf es 0) (aF P ops es (spare s (aP P ops))) (cq ops []) ops es 0 f with
   |true=>some (cL ops es f,Cl.fill (fun _=>true) ((aF P ops es (spare s (aP P ops))).getLastD s) (madeOf es 0))
   |false=>none
  |none=>none)=_
 rw[Xh]
 have h5' :=h5 (aF P ops es (spare s (aP P ops))) [] rfl (fun k x hx hk=>Em k x hx (by simpa [fV] using hk)) rfl
 simp only[h5',h4]
 obtain⟨rr,hr⟩:=fY P ops es (spare s (aP P ops))
 rw[hr] at h3|-
 rw[List.getLastD_cons] at h3|-
 rw[h3,hf]
theorem da.fL {P:Program}{lib:az}{ops:List Oper}{f:aT}{s:aq}{Q:aT->aq->Prop}(A:Nat->Bool)(hA:∀i,A i=true->i<s.next)(g k:Nat)(ht:Mw P ops g=true)(hk:Nat.beq (aP P ops) k=true)(h:gx P lib A ops ops g s.next f (spare s k) Q):Fi P lib ops f s Q false:=by
 have:aP P ops=k:=by simpa [Nat.beq_eq] using hk
 exact da.loose g ht hA (by rw[this];exact h)
section
variable {P:Program} {lib:az} {A:Nat->Bool} {g:Nat} {all r:List Oper} {id:Nat} {f:aT} {T:aq} {d:Option Tmp} {Q:aT->aq->Prop}
theorem dx {cs:List Value}{n z base:Nat}(h:cs.length=n*z)(gn:id<T.next)(hb:base<=id)
  (K:∀v T',Own T' z v n cs->aE v=some id->ar base T T' ->T'.next=T.next->(∀j,j≠id->T'.heap.get j=T.heap.get j)->px P lib A g all r (id+1) f d Q v T'):Cx P lib A g all r id f T d Q (ff id (nO (aZ ⟨.nil,id⟩ cs n z))):=by
 have e:ff id (nO (aZ ⟨.nil,id⟩ cs n z))=some (.slice (some ⟨id,0,none⟩) n (cs.length+1),⟨cs,1,true,z⟩):=by
  have:aZ ⟨.nil,id⟩ cs n z=some (.slice (some ⟨id,0,none⟩) n (cs.length+1),(⟨.nil,id⟩:aq).new (.dK ⟨cs,1,true,z⟩)):=by simp[aZ,aq.room]
  rw[this,eV]
  have hb:((⟨.nil,id⟩:aq).new (.dK ⟨cs,1,true,z⟩)).bA id=some ⟨cs,1,true,z⟩:=nU ⟨.nil,id⟩ _
  simp only[ff,hb]
 rw[e,JH]
 have LZ:∀j,j≠id->(T.put id (.dK ⟨cs,1,true,z⟩)).heap.get j=T.heap.get j:=fun j hj=>aq.bD _ _ _ _ (Ne.symm hj)
 refine K _ _ (.of id n 1 cs (by simpa [aq.put] using gn) (aq.b9 _ _ _ (by omega)) (by omega) h) rfl ⟨Nat.le_refl _,fun j hj=>LZ j (by omega)⟩ rfl LZ
theorem j9 {st xt e:TypeId}{xd:TypeDesc}{z nN:Nat}{zv:Value}(hu:P.underlying st=some (.slice e))(Xr:P.underlying xt=some xd)(Ox:(∃e2,xd= .slice e2)\/xd= .string)(b6:aW P e=some z)(rS:fe P e=some nN)(tR:bW P e=some zv)(o8:Nat.beq zv.cells.toList.length z=true)
  {x y:Value} {n m:Nat} {l new:List Value} (hx:Own T z x n l) (hy:dH T z y=some (m,new)) (lN:new.length=m*z) (vu:0<z) (dF:new.all aJ=true) (gu:(n+m)*nN<=140737488355328) (dB:n+m<=140737488355328) {base:Nat} (hF:aH base x) (hB:base<=T.next) (hA1:g≠0->∀i,aE x=some i->A i=false) (WG:∀i,A i=true->i<T.next)
  (K:∀x' T',Own T' z x' (n+m) (l++new)->aH base x' ->aY x T T' ->(aE x' =aE x\/∃i,aE x' =some i/\T.next<=i)->px P lib A (g-1) all r id f d Q x' T'):sB P lib A g all r id f d T Q (nO (gD P T st xt x y)):=by
 obtain⟨x',s',h1,h2,h3,h4⟩:=Own.append hu Xr Ox b6 rS tR o8 hx hy lN vu dF gu dB
 rw[h1,eV]
 have hk:g≠0->LA.dD A T s' :=fun hg=>⟨h3.next,fun i hi=>h3.get i (WG i hi) (fun e=>by have:=hA1 hg i e;rw[hi] at this;cases this)⟩
 refine⟨hk,K _ _ h2 (fun i hi=> ?_) h3 h4⟩
 rcases h4 with h4|⟨j,hj,hl⟩
 ·exact hF i (by rw[<-h4];exact hi)
 ·rw[hj] at hi;injection hi with hi;omega
end
end LB
theorem bT:type_of%
 (And.intro (And.intro (And.intro @LB.yd @LB.uM) (And.intro @LB.FY @LB.py)) (And.intro (And.intro @LB.FZ
 @LB.Cz) (And.intro @LB.CB (And.intro @LB.Cy @LB.CA)))):=
 (And.intro (And.intro (And.intro @LB.yd @LB.uM) (And.intro @LB.FY @LB.py)) (And.intro (And.intro @LB.FZ
 @LB.Cz) (And.intro @LB.CB (And.intro @LB.Cy @LB.CA))))
end Go.Cl
namespace Go.Cl
theorem av.aI {s s' :aq}{i j:Nat}{cs:List Value}(h:av s i cs)(h1:s'.next=s.next)(h2:∀q,q≠j->s'.heap.get q=s.heap.get q)(th:i≠j):av s' i cs:=
 h.turns (aY.aI (o:=0) (c:=none) h1 h2) (fun e=>by have e:some j=some i:=e;injection e with e;exact th e.symm)
theorem aY.put {v:Value}{s s' ss:aq}{j:Nat}(h:aY v s s')(hn:s.next<=j)(h1:ss.next=s'.next)(h2:∀q,q≠j->ss.heap.get q=s'.heap.get q):aY v s ss:=
 ⟨by have:=h.next;omega,fun q hq ck=>(h2 q (by omega)).trans (h.get q hq ck)⟩
def over (l:List Value)(off:Nat)(vs:List Value):List Value:=l.take off++vs++l.drop (off+vs.length)
theorem sC {l:List Value}{off:Nat}{vs:List Value}(h:off+vs.length<=l.length):(over l off vs).length=l.length:=by
 unfold over;simp;omega
theorem JI {l vs:List Value}(h:vs.length=l.length):over l 0 vs=vs:=by
 unfold over
 rw[List.take_zero,List.nil_append,Nat.zero_add,h,List.drop_length,List.append_nil]
theorem JJ {P:Program}{e:TypeId}{s:aq}{i:Nat}{l:List Value}{low z m:Nat}(hb:s.bA i=some ⟨l,low,true,z⟩)(hl:low<=l.length+1){off c:Nat}(hc:c=l.length+1){v:Value}{vs:List Value}(hv:v.cells.toList=vs)(hm:vs.length=m)(SK:0<m)(b6:aW P e=some m)(ho:off+m<=l.length)(dF:vs.all aJ=true):
  dE P s e (.pointer (some ⟨i,off,some c⟩)) v=some (s.put i (.dK ⟨over l off vs,l.length+1,true,z⟩)):=by
 subst hc
 obtain⟨k,rfl⟩:∃k,m=k+1:=⟨m-1,by omega⟩
 obtain⟨a,w,rfl⟩:∃a w,vs=a::w:=by
  cases vs with
  |nil=>simp at hm
  |cons a w=>exact⟨a,w,rfl⟩
 unfold dE
 have ai3:Nat.beq (a::w).length (k+1)=true:=by rw[Nat.beq_eq];exact hm
 simp only[b6,hv,ai3,if_true]
 unfold aq.storeAt
 have yc:setAt l off (a::w)=some (over l off (a::w)):=j7 _ _ _ (by omega)
 have gX:(true&&Nat.ble low (l.length+1)&&Nat.beq (l.length+1) (l.length+1)&&(a::w).all aJ)=true:=by
  simp only[dF,Bool.and_true,Bool.true_and,Bool.and_eq_true,Nat.ble_eq,Nat.beq_eq];exact⟨hl,trivial⟩
 simp only[hb,gX,if_true,yc]
theorem av.TW {P:Program}{e:TypeId}{s:aq}{i:Nat}{cs:List Value}(h:av s i cs){m off c:Nat}(b6:aW P e=some m)(SK:0<m)(hc:c=cs.length+1){v:Value}{vs:List Value}(hv:v.cells.toList=vs)(hm:vs.length=m)(ho:off+m<=cs.length)(dF:vs.all aJ=true):
  ∃s',dE P s e (.pointer (some ⟨i,off,some c⟩)) v=some s' /\av s' i (over cs off vs)/\(s'.next=s.next/\∀j,j≠i->s'.heap.get j=s.heap.get j):=by
 obtain⟨low,z,h1,h2⟩:=h.dK
 refine⟨_,JJ h1 h2 hc hv hm SK b6 ho dF,⟨h.lt,cs.length+1,z,aq.b9 _ _ _ (by omega),by rw[sC (by omega)];omega⟩,rfl,fun j hj=>aq.bD _ _ _ _ (Ne.symm hj)⟩
theorem qk {P:Program}{lib:az}{all r:List Oper}{f:aT}{s:aq}{d:Option Tmp}{Q:aT->aq->Prop}{e:TypeId}{m:Nat}(b6:aW P e=some m)(SK:0<m){i:Nat}{cs:List Value}(h:av s i cs){off c:Nat}(hc:c=cs.length+1){v:Value}{vs:List Value}(hv:v.cells.toList=vs)(hm:vs.length=m)(ho:off+m<=cs.length)(dF:vs.all aJ=true)
  (K:∀s',av s' i (over cs off vs)->s'.next=s.next->(∀j,j≠i->s'.heap.get j=s.heap.get j)->dI P lib all r f s d Q (some (.val undef s'))):dI P lib all r f s d Q (AY (dE P s e (.pointer (some ⟨i,off,some c⟩)) v)):=by
 obtain⟨s',h1,h2,h3,h4⟩:=h.TW b6 SK hc hv hm ho dF
 rw[h1,g7]
 exact K s' h2 h3 h4
theorem aA {P:Program}{lib:az}{all r:List Oper}{f:aT}{s:aq}{d:Option Tmp}{Q:aT->aq->Prop}{e:TypeId}{m:Nat}(b6:aW P e=some m)(SK:0<m){i:Nat}{cs:List Value}(h:av s i cs)(Af:cs.length=m){c:Nat}(hc:c=m+1){vs:Array Value}(hm:vs.toList.length=m)(dF:vs.toList.all aJ=true)
  (K:∀s',av s' i vs.toList->s'.next=s.next->(∀j,j≠i->s'.heap.get j=s.heap.get j)->dI P lib all r f s d Q (some (.val undef s'))):dI P lib all r f s d Q (AY (dE P s e (.pointer (some ⟨i,0,some c⟩)) (.agg vs))):=by
 refine qk b6 SK h (by omega) (v:= .agg vs) (vs:=vs.toList) rfl hm (by omega) dF ?_
 rw[JI (by omega)]
 exact K
theorem Own.aeU {P:Program}{e:TypeId}{m z:Nat}(b6:aW P e=some m)(SK:0<m){s:aq}{v:Value}{n:Nat}{l:List Value}(h:Own s z v n l){k j:Nat}(hk:k<n)(hj:j+m<=z){w:Value}{vs:List Value}(hv:w.cells.toList=vs)(hm:vs.length=m)(dF:vs.all aJ=true)
  {p:Value} (hp:∀i o c,bJ z v k= .pointer (some ⟨i,o,some c⟩)->p= .pointer (some ⟨i,o+j,some c⟩)):
  ∃s',dE P s e p w=some s' /\Own s' z v n (over l (k*z+j) vs)/\aY v s s' :=by
 cases h with
 |nil=>omega
 |of i n low l hi hb hl hlen=>
  have hkz:k*z+z<=n*z:=by
   have:(k+1)*z<=n*z:=Nat.mul_le_mul_right z hk
   rwa [Nat.succ_mul] at this
  have Tt:p= .pointer (some ⟨i,k*z+j,some (l.length+1)⟩):=by
   have:=hp i (0+k*z) (l.length+1) rfl
   rw[this,Nat.zero_add]
  rw[Tt]
  have EW:(over l (k*z+j) vs).length=l.length:=sC (by omega)
  refine⟨_,JJ hb hl rfl hv hm SK b6 (by omega) dF,?_,⟨by simp[aq.put],fun q _ hq=> ?_⟩⟩
  ·rw[<-EW]
   exact .of i n _ _ (by simpa [aq.put] using hi) (aq.b9 _ _ _ (by omega)) (by omega) (by omega)
  ·rw[aq.bD]
   intro e;subst e;exact hq rfl
theorem Own.Xz {P:Program}{e:TypeId}{z:Nat}(b6:aW P e=some z)(vu:0<z){s:aq}{v:Value}{n:Nat}{l:List Value}(h:Own s z v n l){k:Nat}(hk:k<n){vs:Array Value}(hm:vs.toList.length=z)(dF:vs.toList.all aJ=true):
  ∃s',dE P s e (bJ z v k) (.agg vs)=some s' /\Own s' z v n (over l (k*z) vs.toList)/\aY v s s' :=by
 have:=h.aeU b6 vu (j:=0) hk (by omega) (w:= .agg vs) (vs:=vs.toList) rfl hm dF (p:=bJ z v k) (fun i o c h=>h)
 simpa using this
theorem CC {P:Program}{lib:az}{all r:List Oper}{f:aT}{s:aq}{d:Option Tmp}{Q:aT->aq->Prop}{e:TypeId}{z:Nat}(b6:aW P e=some z)(vu:0<z){v:Value}{n:Nat}{l:List Value}(h:Own s z v n l){k:Nat}(hk:k<n){vs:Array Value}(hm:vs.toList.length=z)(dF:vs.toList.all aJ=true)
  (K:∀s',Own s' z v n (over l (k*z) vs.toList)->aY v s s' ->dI P lib all r f s d Q (some (.val undef s'))):dI P lib all r f s d Q (AY (dE P s e (bJ z v k) (.agg vs))):=by
 obtain⟨s',h1,h2,h3⟩:=h.Xz b6 vu hk hm dF
 rw[h1,g7]
 exact K s' h2 h3
theorem aV (P:Program)(f:aT)(s:aq)(t:Tmp)(ty:TypeId)(r:List ResultVar):cy P f s (.cell t ty::r)=if t<f.n then(match aR P s ty (f.get t),cy P f s r with
  |some v,some l=>some (v::l)
  |_,_=>none) else none:=by
 by_cases h:t<f.n
 ·have hb:Nat.blt t f.n=true:=by simpa [Nat.blt_eq] using h
  rw[if_pos h]
  conv=>lhs;rw[cy]
  simp only[hb,if_true]
  rfl
 ·have hb:Nat.blt t f.n=false:=by rw[<-Bool.not_eq_true,Nat.blt_eq];exact h
  rw[if_neg h]
  conv=>lhs;rw[cy]
  simp[hb]
theorem fM {P:Program}{s:aq}{t e:TypeId}{z:Nat}{zv:Value}{cs:Array Value}(hu:P.underlying t=some (.slice e))(b6:aW P e=some z)(hz:bW P e=some zv)(oY:bP zv=true)(o8:Nat.beq zv.cells.toList.length z=true)(hl:cs.toList.length=z)(hz6:z<=65536):aL P s t 1 [(0,.agg cs)]=aZ s cs.toList 1 z:=by
 unfold aL;rw[hu]
 have abi:zv.cells.toList.length=z:=by simpa [Nat.beq_eq] using o8
 have hr:bw zv.cells.toList 1=zv.cells.toList:=by simp[bw]
 have yc:setAt zv.cells.toList 0 cs.toList=some cs.toList:=by
  rw[j7 _ _ _ (by omega)]
  rw[List.take_zero,List.nil_append,Nat.zero_add,List.drop_of_length_le (by omega),List.append_nil]
 have hc:(Nat.ble (1*z) 65536&&bP zv&&Nat.beq zv.cells.toList.length z)=true:=by rw[oY,o8];simp[Nat.ble_eq];exact hz6
 simp only[b6,hz,hc,hr,fI,bO,Nat.zero_mul,yc,if_true]
 simp[abi,hl]
namespace LB
section
variable {P:Program} {lib:az} {A:Nat->Bool} {g:Nat} {all r:List Oper} {id:Nat} {f:aT} {T:aq} {d:Option Tmp} {Q:aT->aq->Prop}
theorem mC {cs:List Value}{z:Nat}(gn:id<T.next)
  (K:∀T',av T' id cs->T'.next=T.next->(∀j,j≠id->T'.heap.get j=T.heap.get j)->px P lib A g all r (id+1) f d Q (.pointer (some ⟨id,0,some (cs.length+1)⟩)) T'):Cx P lib A g all r id f T d Q (ff id (nO (eR ⟨.nil,id⟩ cs z))):=by
 have e:ff id (nO (eR ⟨.nil,id⟩ cs z))=some (.pointer (some ⟨id,0,some (cs.length+1)⟩),⟨cs,1,true,z⟩):=by
  have:eR ⟨.nil,id⟩ cs z=some (.pointer (some ⟨id,0,some (cs.length+1)⟩),(⟨.nil,id⟩:aq).new (.dK ⟨cs,1,true,z⟩)):=by simp[eR,aq.room]
  rw[this,eV]
  have hb:((⟨.nil,id⟩:aq).new (.dK ⟨cs,1,true,z⟩)).bA id=some ⟨cs,1,true,z⟩:=nU ⟨.nil,id⟩ _
  simp only[ff,hb]
 rw[e,JH]
 exact K _ ⟨by simpa [aq.put] using gn,1,z,aq.b9 _ _ _ (by omega),by omega⟩ rfl (fun j hj=>aq.bD _ _ _ _ (Ne.symm hj))
theorem eN {e:TypeId}{m:Nat}(b6:aW P e=some m)(SK:0<m){i:Nat}{cs:List Value}(h:av T i cs){off c:Nat}(hc:c=cs.length+1){v:Value}{vs:List Value}(hv:v.cells.toList=vs)(hm:vs.length=m)(ho:off+m<=cs.length)(dF:vs.all aJ=true)(hA:g≠0->A i=false)
  (K:∀T',av T' i (over cs off vs)->T'.next=T.next->(∀j,j≠i->T'.heap.get j=T.heap.get j)->px P lib A (g-1) all r id f d Q undef T'):sB P lib A g all r id f d T Q (AY (dE P T e (.pointer (some ⟨i,off,some c⟩)) v)):=by
 obtain⟨s',h1,h2,h3,h4⟩:=h.TW b6 SK hc hv hm ho dF
 rw[h1,g7,Q4]
 exact⟨fun hg=>⟨by omega,fun j hj=>h4 j (fun e=>by have:=hA hg;rw[e,this] at hj;cases hj)⟩,K s' h2 h3 h4⟩
theorem cF {e:TypeId}{m:Nat}(b6:aW P e=some m)(SK:0<m){i:Nat}{cs:List Value}(h:av T i cs)(Af:cs.length=m){c:Nat}(hc:c=m+1){vs:Array Value}(hm:vs.toList.length=m)(dF:vs.toList.all aJ=true)(hA:g≠0->A i=false)
  (K:∀T',av T' i vs.toList->T'.next=T.next->(∀j,j≠i->T'.heap.get j=T.heap.get j)->px P lib A (g-1) all r id f d Q undef T'):sB P lib A g all r id f d T Q (AY (dE P T e (.pointer (some ⟨i,0,some c⟩)) (.agg vs))):=by
 refine eN b6 SK h (by omega) (v:= .agg vs) (vs:=vs.toList) rfl hm (by omega) dF hA ?_
 rw[JI (by omega)]
 exact K
end
end LB
end Go.Cl
set_option linter.unusedSimpArgs false
set_option linter.unusedVariables false
set_option maxRecDepth 100000
namespace Go.Proofs.YtdfjfncifneocaaGreat
open Go.Cl Go.Cl.Pr
theorem wu (i o c:Nat):ay Tryz.prog 56 (.pointer (some ⟨i,o,some c⟩)) 0=some (.pointer (some ⟨i,o+0,some c⟩)):=by
 unfold ay;rw[Tryz.underlying56];simp[bB]
theorem TX (i o c:Nat):ay Tryz.prog 56 (.pointer (some ⟨i,o,some c⟩)) 1=some (.pointer (some ⟨i,o+1,some c⟩)):=by
 unfold ay;rw[Tryz.underlying56];simp[bB]
theorem TY (i o c:Nat):ay Tryz.prog 56 (.pointer (some ⟨i,o,some c⟩)) 2=some (.pointer (some ⟨i,o+2,some c⟩)):=by
 unfold ay;rw[Tryz.underlying56];simp[bB]
abbrev i3 (a b c:Int):Value:= .agg #[.int .i64 a,.int .i64 b,.int .i64 c]
abbrev l3 (a b c:Int):List Value:=[.int .i64 a,.int .i64 b,.int .i64 c]
theorem zz:bY Tryz.prog 56=some true:=by kernel_rfl
theorem qS:aW Tryz.prog 56=some 3:=by kernel_rfl
def Mx (s:aq)(p:Prop)[Decidable p](v:Value)(s' :aq):Prop:=v= .bool (decide p)/\ar s.next s s'
set_option maxHeartbeats 4000000 in
theorem wv {lib:az}(hl:lib.at 46=none)(s:aq)(p co cl:Int):Runs Tryz.prog lib 46 [i3 p co cl] s (Mx s (ri p co cl)):=by
 obtain⟨QQ,gp⟩:∃QQ:Value->aq->Prop,QQ=Mx s (ri p co cl):=⟨_,rfl⟩
 rw[<-gp]
 refine Runs.enter 43 Tryz.func46 rfl hl rfl rfl ?_
 intro f hn hf
 have h0:f.get 0=i3 p co cl:=hf 0
 clear hf
 simp-implicitDefEqProofs(disch:=omega)only[aj,QS,↓reduceIte,hn,h0]
 refine ax ?_
 intro s1 ht aD DQ
 have ht:av s1 s.next (l3 p co cl):=ht
 have p0:aR Tryz.prog s1 3 (.pointer (some ⟨s.next,0,some 4⟩))=some (.int .i64 p):=ht.load bC (off:=0) (c:=4) rfl (by simp)
 have p1:aR Tryz.prog s1 3 (.pointer (some ⟨s.next,1,some 4⟩))=some (.int .i64 co):=ht.load bC (off:=1) (c:=4) rfl (by simp)
 have p2:aR Tryz.prog s1 3 (.pointer (some ⟨s.next,2,some 4⟩))=some (.int .i64 cl):=ht.load bC (off:=2) (c:=4) rfl (by simp)
 have XA:[Value.int .i64 p,.int .i64 co,.int .i64 cl].length+1=4:=rfl
 simp-implicitDefEqProofs(disch:=omega)only[aj,ak,QS,WP,↓reduceIte,hn,XA,wu,p0]
 refine Mt (fun f' s' =>s' =s1/\f'.n=43/\f'.get 1= .pointer (some ⟨s.next,0,some 4⟩)/\∃t:Bool,f'.get 3= .bool t/\(t=true↔(p=1\/p=2\/(10<=p/\p<=15)))) ?_ ?_
 ·intro Q' hQ
  by_cases c1:p=1
  ·simp-implicitDefEqProofs(disch:=omega)only[aj,ak,QS,WP,↓reduceIte,undef,hn,eq_true c1]
   exact hQ _ _ ⟨rfl,by simp only[ag,hn],by simp only[aa,↓reduceIte,WP],true,by simp only[aa,↓reduceIte],⟨fun _=>by omega,fun _=>rfl⟩⟩
  by_cases c2:p=2
  ·simp-implicitDefEqProofs(disch:=omega)only[aj,ak,QS,WP,↓reduceIte,undef,hn,wu,p0,eq_false c1,eq_true c2]
   exact hQ _ _ ⟨rfl,by simp only[ag,hn],by simp only[aa,↓reduceIte,WP],true,by simp only[aa,↓reduceIte],⟨fun _=>by omega,fun _=>rfl⟩⟩
  by_cases c3:10<=p
  rotate_left
  ·simp-implicitDefEqProofs(disch:=omega)only[aj,ak,QS,WP,↓reduceIte,undef,hn,wu,p0,eq_false c1,eq_false c2,eq_false c3]
   exact hQ _ _ ⟨rfl,by simp only[ag,hn],by simp only[aa,↓reduceIte,WP],false,by simp only[aa,↓reduceIte],⟨fun h=>by(cases h),fun h=>by omega⟩⟩
  simp-implicitDefEqProofs(disch:=omega)only[aj,ak,QS,WP,↓reduceIte,hn,wu,p0,eq_false c1,eq_false c2,eq_true c3]
  exact hQ _ _ ⟨rfl,by simp only[ag,hn],by simp only[aa,↓reduceIte,WP],decide (p<=15),by simp only[aa,↓reduceIte],by simp[c1,c2,c3]⟩
 clear hn h0 f
 rintro f s' ⟨Ba,hn,h1,t,h3,jt⟩
 rw[Ba]
 cases t with
 |false=>
  simp-implicitDefEqProofs(disch:=omega)only[aj,ak,al,oneOf,QS,WP,↓reduceIte,undef,hn,h3,Tryz.results46]
  rw[gp]
  exact⟨by rw[decide_eq_false (fun h=>Bool.noConfusion (jt.2 h.1))],aD⟩
 |true=>
 by_cases d1:1<=co
 rotate_left
 ·simp-implicitDefEqProofs(disch:=omega)only[aj,ak,al,oneOf,QS,WP,↓reduceIte,undef,hn,h1,h3,TX,p1,eq_false d1,Tryz.results46]
  rw[gp]
  exact⟨by rw[decide_eq_false (fun h:ri p co cl=>d1 h.2.1)],aD⟩
 by_cases d2:co<=4
 rotate_left
 ·simp-implicitDefEqProofs(disch:=omega)only[aj,ak,al,oneOf,QS,WP,↓reduceIte,undef,hn,h1,h3,TX,p1,eq_true d1,eq_false d2,Tryz.results46]
  rw[gp]
  exact⟨by rw[decide_eq_false (fun h:ri p co cl=>d2 h.2.2.1)],aD⟩
 by_cases d3:1<=cl
 rotate_left
 ·simp-implicitDefEqProofs(disch:=omega)only[aj,ak,al,oneOf,QS,WP,↓reduceIte,undef,hn,h1,h3,TX,TY,p1,p2,eq_true d1,eq_true d2,eq_false d3,Tryz.results46]
  rw[gp]
  exact⟨by rw[decide_eq_false (fun h:ri p co cl=>d3 h.2.2.2.1)],aD⟩
 simp-implicitDefEqProofs(disch:=omega)only[aj,ak,al,oneOf,QS,WP,↓reduceIte,hn,h1,h3,TX,TY,p1,p2,eq_true d1,eq_true d2,eq_true d3,Tryz.results46]
 rw[gp]
 refine⟨congrArg _ ?_,aD⟩
 exact decide_eq_decide.2 ⟨fun h=>⟨jt.1 rfl,d1,d2,d3,h⟩,fun h=>h.2.2.2.2⟩
end Go.Proofs.YtdfjfncifneocaaGreat
set_option linter.unusedSimpArgs false
set_option linter.unusedVariables false
set_option maxRecDepth 100000
namespace Go.Cl
theorem OY {P:Program}{s:aq}{t e:TypeId}{zv a b c d x:Value}(hu:P.underlying t=some (.slice e))(b6:aW P e=some 1)(hz:bW P e=some zv)(oY:bP zv=true)(o8:∃w,zv.cells.toList=[w])(h1:a.cells.toList=[a])(h2:b.cells.toList=[b])(h3:c.cells.toList=[c])(h4:d.cells.toList=[d])(h5:x.cells.toList=[x]):aL P s t 5 [(0,a),(1,b),(2,c),(3,d),(4,x)]=aZ s [a,b,c,d,x] 5 1:=by
 obtain⟨w,hw⟩:=o8
 unfold aL;rw[hu];simp only[b6,hz,oY,hw,bw,fI,h1,h2,h3,h4,h5,List.length_singleton];rfl
end Go.Cl
namespace Go.Proofs.YtdfjfncifneocaaGreat
open Go.Cl Go.Cl.Pr
structure abj (lib:az):Prop where
 ai4:lib.at 157=none
 first:lib.at 158=none
 upper:lib.at 159=none
 half:lib.at 160=none
 nearest:lib.at 161=none
 nL:lib.at 193=none
 amq:lib.at 116=none
 ai5:lib.at 115=none
 parts:lib.at 114=none
 may:lib.at 46=none
end Go.Proofs.YtdfjfncifneocaaGreat
set_option linter.unusedSimpArgs false
set_option linter.unusedVariables false
set_option maxRecDepth 100000
namespace Go.Cl
structure CD (s:aq) (vs:List Value) (L:List (List UInt8)):Prop where
 len:vs.length=L.length
 aG:∀k (h:k<L.length),aN s 1 (vs.getD k undef) (L[k]).length (ofBytes L[k])
theorem CD.nil (s:aq):CD s [] []:=⟨rfl,fun k h=>absurd h (Nat.not_lt_zero k)⟩
theorem CD.keeps {s s' :aq}{vs:List Value}{L:List (List UInt8)}(h:CD s vs L)(k:ar s.next s s'):CD s' vs L:=⟨h.len,fun j hj=>(h.aG j hj).keeps k⟩
theorem CD.snoc {s:aq}{v:Value}{a:List UInt8}{vs:List Value}{L:List (List UInt8)}(k:CD s vs L)(h:aN s 1 v a.length (ofBytes a)):CD s (vs++[v]) (L++[a]):=by
 refine⟨by simp[k.len],fun j hj=> ?_⟩
 have Ww:j<L.length+1:=by simpa using hj
 by_cases SL:j<L.length
 ·have:=k.aG j SL
  rw[List.getElem_append_left SL,List.getD_eq_getElem?_getD,List.getElem?_append_left (by rw[k.len];exact SL),<-List.getD_eq_getElem?_getD]
  exact this
 ·obtain rfl:j=L.length:=by omega
  rw[List.getElem_append_right (by omega),List.getD_eq_getElem?_getD,List.getElem?_append_right (by rw[k.len];omega)]
  simp only[k.len,Nat.sub_self,List.getElem_cons_zero]
  exact h
end Go.Cl
namespace Go.Proofs.YtdfjfncifneocaaGreat
open Go.Cl Go.Cl.Pr
def zA (s:aq)(l:List UInt8)(n:Nat)(v:Value)(s' :aq):Prop:=∃w vs,v= .tuple #[w,.bool (decide (l.length%n=0))]/\aN s' 1 w (l.length/n) vs/\CD s' vs (aeQ l n (l.length/n))/\ar s.next s s'
end Go.Proofs.YtdfjfncifneocaaGreat
set_option linter.unusedSimpArgs false
set_option linter.unusedVariables false
set_option maxRecDepth 100000
namespace Go.Cl.Pr
end Go.Cl.Pr
namespace Go.Proofs.YtdfjfncifneocaaGreat
open Go.Cl Go.Cl.Pr
def uf (s:aq)(p:List UInt8×Int)(v:Value)(s' :aq):Prop:=∃w,v= .tuple #[w,.int .i64 p.2]/\cC s w s' p.1
end Go.Proofs.YtdfjfncifneocaaGreat
set_option linter.unusedSimpArgs false
set_option linter.unusedVariables false
set_option maxRecDepth 100000
namespace Go.Cl.Pr
def ai6 (l:List UInt8)(h n i:Nat):UInt8:=l.getD (i/n*(h+n)+h+i%n) 0
def tgP (l:List UInt8)(h n r:Nat):Int:=if h=1 then(((l.getD (r*(h+n)) 0).toNat:Nat):Int) else 1
def abk (l:List UInt8)(h n c:Nat):Nat->List UInt8
 |0=>[]
 |m+1=>abk l h n c m++[OU ((((ai6 l h n m).toNat:Nat):Int)+gs (tgP l h n (m/n)) (abk l h n c m) n c m)]
def ai7 (l:List UInt8)(h n q:Nat):Bool:=(List.range q).any fun r=>decide (4<tgP l h n r)
def qT (p co cl:Int)(l:List UInt8):List UInt8×Int:=
 if¬ri p co cl then([],1) else if p=1 then(l,0)
 else if l.length%((if 10<=p then 1 else 0)+co.toNat*cl.toNat)≠0 then([],4)
 else if ai7 l (if 10<=p then 1 else 0) (co.toNat*cl.toNat) (l.length/((if 10<=p then 1 else 0)+co.toNat*cl.toNat))=true then([],4)
 else(abk l (if 10<=p then 1 else 0) (co.toNat*cl.toNat) co.toNat (l.length/((if 10<=p then 1 else 0)+co.toNat*cl.toNat)*(co.toNat*cl.toNat)),0)
end Go.Cl.Pr
set_option linter.unusedSimpArgs false
set_option linter.unusedVariables false
set_option maxRecDepth 100000
namespace Go.Proofs.YtdfjfncifneocaaGreat
open Go.Cl Go.Cl.Pr
end Go.Proofs.YtdfjfncifneocaaGreat
namespace Go.Cl
section
variable {P:Program} {t:TypeId}
theorem kh (a b:List UInt8):cI P .eql t (.string ⟨a.toArray⟩) (.string ⟨b.toArray⟩)=some (.bool (decide (a=b))):=by
 simp only[cI,Om]
 congr 2
 by_cases h:a=b
 ·subst h;simp
 ·simp[h]
theorem Q5 {s:aq}{dst e:TypeId}(hu:P.underlying t=some .string)(hd:P.underlying dst=some (.slice e))(he:P.underlying e=some (.int .u8)){a:List UInt8}(h:a.length<=9223372036854775807):fW P s t dst (.string ⟨a.toArray⟩)=aZ s (ofBytes a) a.length 1:=by
 unfold fW;rw[hu,hd]
 have h8:DU P e=true:=by unfold DU;rw[he]
 have hb:Nat.ble a.length 9223372036854775807=true:=by simpa [Nat.ble_eq] using h
 simp[h8,hb]
theorem My (a:List UInt8):nM (ofBytes a)=some a:=by
 induction a with
 |nil=>rfl
 |cons c a ih=>
  rw[HG]
  simp only[nM,ih,toByte]
  have:UInt8.ofNat ((c.toNat:Int)).toNat=c:=by simp
  rw[this]
theorem aN.str {s:aq}{dst e:TypeId}(hu:P.underlying t=some (.slice e))(hd:P.underlying dst=some .string)(he:P.underlying e=some (.int .u8)){v:Value}{a:List UInt8}(h:aN s 1 v a.length (ofBytes a)):fW P s t dst v=some (.string ⟨a.toArray⟩,s):=by
 have h8:DU P e=true:=by unfold DU;rw[he]
 generalize hn:a.length=n at h
 generalize ha:ofBytes a=l at h
 have hlen:l.length=n:=by rw[<-ha,bF,hn]
 cases h with
 |nil=>
  have:a=[]:=List.eq_nil_of_length_eq_zero hn
  subst this
  unfold fW;rw[hu,hd];simp[h8]
 |bare=>
  have:a=[]:=List.eq_nil_of_length_eq_zero hn
  subst this
  unfold fW;rw[hu,hd];simp[h8]
 |of i off n c b l hi hb hz hl hc jS eZ ht=>
  unfold fW;rw[hu,hd]
  simp only[h8,if_true]
  cases n with
  |zero=>
   have:a=[]:=List.eq_nil_of_length_eq_zero hn
   subst this;rfl
  |succ n=>
   simp only
   rw[gi hb hl hc (by omega)]
   have:(b.cells.drop off).take (n+1)=ofBytes a:=by rw[Nat.mul_one] at ht;rw[ht,ha]
   rw[this]
   simp only[My]
end
end Go.Cl
set_option linter.unusedSimpArgs false
set_option linter.unusedVariables false
set_option maxRecDepth 100000
namespace Go.Proofs.YtdfjfncifneocaaGreat
open Go.Cl
theorem CE:aW Tryz.prog 9=some 1:=by kernel_rfl
theorem uN:bY Tryz.prog 9=some false:=by kernel_rfl
def JK (T:List (List UInt8)):List Value:=T.map fun a=> .string ⟨a.toArray⟩
theorem F2 {T:List (List UInt8)}{i:Nat}(h:i<T.length):(JK T).getD i undef= .string ⟨(T[i]).toArray⟩:=by
 simp[JK,List.getD_eq_getElem?_getD,List.getElem?_eq_getElem h]
def aeV (s:aq)(a:List UInt8)(T:List (List UInt8))(v:Value)(s' :aq):Prop:=(∃r:Int,v= .int .i64 r/\(0<=r↔a∈T))/\s' =s
set_option maxHeartbeats 4000000 in
theorem Mz {lib:az}(hl:lib.at 78=none)(s:aq)(x:Value)(a:List UInt8)(T:List (List UInt8))(hx:aN s 1 x T.length (JK T))(hT:T.length<=1000000):
  Runs Tryz.prog lib 78 [x,.string ⟨a.toArray⟩] s (aeV s a T):=by
 refine Runs.enter 19 Tryz.func78 rfl hl rfl rfl ?_
 intro f hn hf
 have h0:f.get 0=x:=hf 0
 have h1:f.get 1= .string ⟨a.toArray⟩:=hf 1
 clear hf
 simp-implicitDefEqProofs(disch:=omega)only[aj,ad,QS,WP,↓reduceIte,hn,h0,hx.bh Tryz.underlying27]
 refine Comes.eU (fun z f s' =>∃(i:Nat),z=T.length-i/\i<=T.length/\a∉T.take i/\s' =s/\f.n=19/\f.get 0=x/\f.get 1= .string ⟨a.toArray⟩/\f.get 7= .int .i64 T.length/\f.get 8= .int .i64 i)
  ⟨0,rfl,by omega,by simp,rfl,by simp only[ag,hn],by simp only[aa,↓reduceIte,WP,h0],by simp only[aa,↓reduceIte,WP,h1],by simp only[aa,↓reduceIte,WP],by simp only[aa,↓reduceIte];rfl⟩ ?_
 clear hn h0 h1 f
 rintro z f s2 ⟨i,rfl,hi,SD,dg,hn,h0,h1,h7,h8⟩
 subst dg
 by_cases bc:i<T.length
 ·have c1:(i:Int)<(T.length:Int):=by omega
  have uO:=hx.indexAddr (k:= .i64) (x:=(i:Int)) Tryz.underlying27 CE (by omega) (by omega)
  rw[Int.toNat_natCast] at uO
  have iF:=hx.dJ (P:=Tryz.prog) uN bc
  rw[F2 bc] at iF
  have TZ:T.take (i+1)=T.take i++[T[i]]:=by rw[List.take_succ_eq_append_getElem bc]
  have he:=kh (P:=Tryz.prog) (t:=9) a T[i]
  by_cases c2:a=T[i]
  ·rw[decide_eq_true c2] at he
   simp-implicitDefEqProofs(disch:=omega)only[aj,QS,WP,↓reduceIte,hn,h0,h1,h7,h8,eq_true c1,uO,iF,he]
   simp-implicitDefEqProofs(disch:=omega)only[aj,al,oneOf,QS,↓reduceIte,hn,Tryz.results78]
   exact⟨⟨(i:Int),rfl,by rw[c2];simp⟩,rfl⟩
  ·rw[decide_eq_false c2] at he
   simp-implicitDefEqProofs(disch:=omega)only[aj,QS,WP,↓reduceIte,hn,h0,h1,h7,h8,eq_true c1,uO,iF,he,aB]
   refine au (T.length-(i+1)) (by omega) ⟨i+1,rfl,by omega,by rw[TZ];intro h;rcases List.mem_append.mp h with h|h;exact SD h;exact c2 (List.mem_singleton.mp h),rfl,by simp only[ag,hn],by simp only[aa,↓reduceIte,WP,h0],by simp only[aa,↓reduceIte,WP,h1],by simp only[aa,↓reduceIte,WP,h7],by simp only[aa,↓reduceIte];rfl⟩
 ·obtain rfl:i=T.length:=by omega
  have c1:¬(T.length:Int)<(T.length:Int):=by omega
  rw[List.take_of_length_le (Nat.le_refl _)] at SD
  simp-implicitDefEqProofs(disch:=omega)only[aj,al,oneOf,QS,↓reduceIte,hn,h7,h8,eq_false c1,Tryz.results78]
  exact⟨⟨-1,rfl,by simp[SD]⟩,rfl⟩
theorem En {lib:az}(hl:lib.at 43=none)(LM:lib.at 78=none)(s:aq)(x:Value)(a:List UInt8)(T:List (List UInt8))(hx:aN s 1 x T.length (JK T))(hT:T.length<=1000000):
  Runs Tryz.prog lib 43 [x,.string ⟨a.toArray⟩] s fun v s' =>v= .bool (decide (a∈T))/\s' =s:=by
 refine Runs.enter 9 Tryz.func43 rfl hl rfl rfl ?_
 intro f hn hf
 have h0:f.get 0=x:=hf 0
 have h1:f.get 1= .string ⟨a.toArray⟩:=hf 1
 clear hf
 simp-implicitDefEqProofs(disch:=omega)only[aj,ak,ad,QS,WP,↓reduceIte,hn,h0,h1]
 refine(Mz LM s x a T hx hT).mono ?_
 rintro _ s2 ⟨⟨r,rfl,hr⟩,dg⟩
 subst dg
 by_cases c1:a∈T
 ·have c2:0<=r:=hr.mpr c1
  rw[decide_eq_true c1]
  simp-implicitDefEqProofs(disch:=omega)only[aj,al,oneOf,QS,↓reduceIte,hn,eq_true c2,Tryz.results43]
 ·have c2:¬0<=r:=fun e=>c1 (hr.mp e)
  rw[decide_eq_false c1]
  simp-implicitDefEqProofs(disch:=omega)only[aj,al,oneOf,QS,↓reduceIte,hn,eq_false c2,Tryz.results43]
end Go.Proofs.YtdfjfncifneocaaGreat
set_option linter.unusedSimpArgs false
set_option linter.unusedVariables false
set_option maxRecDepth 100000
namespace Go.Proofs.YtdfjfncifneocaaGreat
open Go.Cl
end Go.Proofs.YtdfjfncifneocaaGreat
namespace Go.Cl
theorem T0 (P:Program)(t:TypeId)(k' :IntKind)(a:Int):cI P .shl t (.int .i64 a) (.int k' 8)=some (.int .i64 (IntKind.i64.wrap (a*256))):=by
 rw[my P t .i64 a 8 k' (by decide)];rfl
theorem XB {n:Nat}{x:UInt8}(h:n<4503599627370496):IntKind.i64.wrap (((BitVec.ofInt IntKind.i64.bits ((n:Int)*256)|||BitVec.ofInt IntKind.i64.bits (x.toNat:Int)).toNat:Nat):Int)=((n*256+x.toNat:Nat):Int):=by
 have e1:IntKind.i64.bits=64:=rfl
 have hx:=x.toNat_lt
 rw[e1]
 have:(BitVec.ofInt 64 ((n:Int)*256)|||BitVec.ofInt 64 (x.toNat:Int)).toNat=n*256+x.toNat:=by
  have e2:((n:Int)*256)=((n*256:Nat):Int):=by omega
  rw[e2,BitVec.toNat_or,BitVec.ofInt_natCast,BitVec.ofInt_natCast,BitVec.toNat_ofNat,BitVec.toNat_ofNat,Nat.mod_eq_of_lt (by omega),Nat.mod_eq_of_lt (by omega)]
  have:=Nat.shiftLeft_add_eq_or_of_lt (i:=8) (b:=x.toNat) hx n
  rw[Nat.shiftLeft_eq] at this
  exact this.symm
 rw[this,aB (by omega)]
def jJ (l:List UInt8):Nat:=l.foldl (fun n x=>n*256+x.toNat) 0
theorem uP (l:List UInt8)(x:UInt8):jJ (l++[x])=jJ l*256+x.toNat:=by simp[jJ]
theorem JL (l:List UInt8):∀n,l.length=n->jJ l<256^n:=by
 intro n
 induction n generalizing l with
 |zero=>intro h;have:l=[]:=List.eq_nil_of_length_eq_zero h
        subst this;simp[jJ]
 |succ n ih=>
  intro h
  have ck:l≠[]:=by intro e;subst e;simp at h
  rw[<-List.dropLast_concat_getLast ck,uP]
  have:=ih l.dropLast (by rw[List.length_dropLast];omega)
  have hx:=(l.getLast ck).toNat_lt
  rw[Nat.pow_succ];omega
theorem JM {l:List UInt8}(h:l.length<7):jJ l<4503599627370496:=by
 have:=JL l l.length rfl
 have h2:256^l.length<=256^6:=Nat.pow_le_pow_right (by omega) (by omega)
 have h3:(256:Nat)^6=281474976710656:=by decide
 omega
end Go.Cl
