/-
 The clean machine, part 20: what a call and a piece of code come to, whatever the fuel beyond some. A reading of code zS a sentence.
-/
import Derived.Test.YtdfjfncifneocaaGreatMcB
namespace Go.Cl
theorem cP.refl (s:aq):cP s s (fun _=>none):=⟨rfl,fun _ _ h=>(by cases h),fun _=>rfl⟩
theorem oX {P:Program}{o:Oper}{f:aR}{s:aq}(hw:WF s){v:Value}{t:aq}(h:cy P o f s=some (.val v t)):bL s t:=by
 obtain⟨_,_,_,k⟩:=j7 (cP.refl s) hw h
 exact k
def Runs (P:Program)(lib:ay)(g:FuncId)(args:List Value)(s:aq)(Q:Value->aq->Prop):Prop:=
 WF s->∃v s',(∃n,∀m,n<=m->fx P lib m g args s=some (v,s'))/\bL s s' /\Q v s'
def Comes (P:Program)(lib:ay)(c:Code)(f:aR)(s:aq)(Q:AX->aR->aq->Prop):Prop:=
 WF s->∃x f' s',(∃n,∀m,n<=m->exec P lib m c f s=some (x,f',s'))/\bL s s' /\Q x f' s'
def Hf (P:Program)(lib:ay)(all l:List Oper)(f:aR)(s:aq)(Q:aR->aq->Prop):Prop:=
 WF s->∃f' s',(∃n,∀m,n<=m->gn P (fx P lib m) all l f s=some (f',s'))/\bL s s' /\Q f' s'
theorem Runs.mono {P:Program}{lib:ay}{g:FuncId}{args:List Value}{s:aq}{Q Q' :Value->aq->Prop}(h:Runs P lib g args s Q)(k:∀v s',Q v s' ->Q' v s'):Runs P lib g args s Q' :=by
 intro hw
 obtain⟨v,s',hn,hk,hq⟩:=h hw
 exact⟨v,s',hn,hk,k _ _ hq⟩
theorem Runs.wf {P:Program}{lib:ay}{g:FuncId}{args:List Value}{s:aq}{Q:Value->aq->Prop}(h:WF s->Runs P lib g args s Q):Runs P lib g args s Q:=fun hw=>h hw hw
theorem Comes.mono {P:Program}{lib:ay}{c:Code}{f:aR}{s:aq}{Q Q' :AX->aR->aq->Prop}(h:Comes P lib c f s Q)(k:∀x f' s',Q x f' s' ->Q' x f' s'):Comes P lib c f s Q' :=by
 intro hw
 obtain⟨x,f',s',hn,hk,hq⟩:=h hw
 exact⟨x,f',s',hn,hk,k _ _ _ hq⟩
def cO (f:aR)(d:Option Tmp)(v:Value)(K:aR->Prop):Prop:=
 match jS f d v with
 |some f' =>K f'
 |none=>False
mutual
def jE (P:Program)(lib:ay)(all:List Oper):List Oper->aR->aq->(aR->aq->Prop)->Prop
 |[],f,s,Q=>Q f s
 |o::r,f,s,Q=>
  match b9 all o f with
  |true=>
   match cy P o f s with
   |some (.val v s')=>cO f o.dst v fun f' =>jE P lib all r f' s' Q
   |some (.call g args)=>Runs P lib g args s fun v s' =>cO f o.dst v fun f' =>jE P lib all r f' s' Q
   |none=>False
  |false=>cO f o.dst undef fun f' =>jE P lib all r f' s Q
end
def er (P:Program)(lib:ay)(all r:List Oper)(f:aR)(s:aq)(d:Option Tmp)(Q:aR->aq->Prop):Option AR->Prop
 |some (.val v s')=>cO f d v fun f' =>jE P lib all r f' s' Q
 |some (.call g args)=>Runs P lib g args s fun v s' =>cO f d v fun f' =>jE P lib all r f' s' Q
 |none=>False
def Lr (P:Program)(lib:ay)(all r:List Oper)(f:aR)(d:Option Tmp)(Q:aR->aq->Prop)(v:Value)(s' :aq):Prop:=cO f d v fun f' =>jE P lib all r f' s' Q
def rG (P:Program)(lib:ay)(all:List Oper)(o:Oper)(r:List Oper)(f:aR)(s:aq)(Q:aR->aq->Prop):Bool->Prop
 |true=>er P lib all r f s o.dst Q (cy P o f s)
 |false=>cO f o.dst undef fun f' =>jE P lib all r f' s Q
theorem vl (P:Program)(lib:ay)(all:List Oper)(f:aR)(s:aq)(Q:aR->aq->Prop):jE P lib all [] f s Q=Q f s:=by simp only[jE]
theorem mD (P:Program)(lib:ay)(all:List Oper)(o:Oper)(r:List Oper)(f:aR)(s:aq)(Q:aR->aq->Prop):jE P lib all (o::r) f s Q=rG P lib all o r f s Q (b9 all o f):=by
 simp only[jE]
 cases b9 all o f with
 |false=>rfl
 |true=>
  simp only[rG]
  cases cy P o f s with
  |none=>rfl
  |some a=>cases a<;>rfl
theorem jF (P:Program)(lib:ay)(all:List Oper)(o:Oper)(r:List Oper)(f:aR)(s:aq)(Q:aR->aq->Prop):rG P lib all o r f s Q true=er P lib all r f s o.dst Q (cy P o f s):=rfl
theorem dk (f:aR)(t:Tmp)(v:Value)(K:aR->Prop):cO f (some t) v K=if t<f.n then K (f.put t v) else False:=by
 unfold cO jS
 by_cases h:t<f.n
 ·have hb:Nat.blt t f.n=true:=by simpa [Nat.blt_eq] using h
  simp only[hb,if_true,if_pos h]
 ·have hb:Nat.blt t f.n=false:=by rw[<-Bool.not_eq_true,Nat.blt_eq];exact h
  simp[hb,if_neg h]
theorem DT (f:aR)(v:Value)(K:aR->Prop):cO f none v K=K f:=rfl
theorem oY (P:Program)(lib:ay)(all:List Oper)(op:Op)(ty:TypeId)(ps:String)(af:Array Edge)(gd:Option (Nat×Bool))(r:List Oper)(f:aR)(s:aq)(Q:aR->aq->Prop)(t:Tmp):rG P lib all ⟨some t,op,ty,ps,af,gd⟩ r f s Q false=if t<f.n then jE P lib all r (f.put t undef) s Q else False:=by
 unfold rG;simp only;rw[dk]
theorem oZ (P:Program)(lib:ay)(all:List Oper)(op:Op)(ty:TypeId)(ps:String)(af:Array Edge)(gd:Option (Nat×Bool))(r:List Oper)(f:aR)(s:aq)(Q:aR->aq->Prop):rG P lib all ⟨none,op,ty,ps,af,gd⟩ r f s Q false=jE P lib all r f s Q:=rfl
theorem w7 (P:Program)(lib:ay)(all r:List Oper)(f:aR)(s:aq)(t:Tmp)(Q:aR->aq->Prop)(v:Value)(s' :aq):er P lib all r f s (some t) Q (some (.val v s'))=if t<f.n then jE P lib all r (f.put t v) s' Q else False:=by
 simp only[er,dk]
theorem rH (P:Program)(lib:ay)(all r:List Oper)(f:aR)(s:aq)(Q:aR->aq->Prop)(v:Value)(s' :aq):er P lib all r f s none Q (some (.val v s'))=jE P lib all r f s' Q:=rfl
theorem AA (P:Program)(lib:ay)(all r:List Oper)(f:aR)(s:aq)(d:Option Tmp)(Q:aR->aq->Prop)(g:FuncId)(args:List Value):er P lib all r f s d Q (some (.call g args))=Runs P lib g args s (Lr P lib all r f d Q):=rfl
theorem AB (P:Program)(lib:ay)(all r:List Oper)(f:aR)(t:Tmp)(Q:aR->aq->Prop)(v:Value)(s' :aq):Lr P lib all r f (some t) Q v s' =if t<f.n then jE P lib all r (f.put t v) s' Q else False:=by
 simp only[Lr,dk]
theorem AD (P:Program)(lib:ay)(all r:List Oper)(f:aR)(Q:aR->aq->Prop)(v:Value)(s' :aq):Lr P lib all r f none Q v s' =jE P lib all r f s' Q:=rfl
theorem SZ {P:Program}{lib:ay}(all:List Oper):∀(l:List Oper) (f:aR) (s:aq) (Q:aR->aq->Prop),jE P lib all l f s Q->Hf P lib all l f s Q:=by
 intro l
 induction l with
 |nil=>intro f s Q h mE;rw[vl] at h;exact⟨f,s,⟨0,fun m _=>rfl⟩,bL.refl mE,h⟩
 |cons o r ih=>
  intro f s Q h mE
  rw[mD] at h
  have gr:∀(v:Value) (s' :aq),(cO f o.dst v fun f' =>jE P lib all r f' s' Q)->∃f1,jS f o.dst v=some f1/\Hf P lib all r f1 s' Q:=by
   intro v s' h
   unfold cO at h
   split at h
   ·exact⟨_,‹_›,ih _ _ _ h⟩
   ·exact h.elim
  cases hw:b9 all o f with
  |false=>
   rw[hw] at h
   obtain⟨f1,hp,hc⟩:=gr _ _ h
   obtain⟨f',s',⟨n,hn⟩,hk,hq⟩:=hc mE
   refine⟨f',s',⟨n,fun m hm=> ?_⟩,hk,hq⟩
   simp only[gn,hw,hp]
   simpa using hn m hm
  |true=>
   rw[hw] at h
   simp only[rG] at h
   unfold er at h
   split at h
   ·rename_i v s1 dZ
    have iW:=oX mE dZ
    obtain⟨f1,hp,hc⟩:=gr _ _ h
    obtain⟨f',s',⟨n,hn⟩,hk,hq⟩:=hc iW.wf
    refine⟨f',s',⟨n,fun m hm=> ?_⟩,iW.trans hk,hq⟩
    simp only[gn,hw,dZ,hp]
    simpa using hn m hm
   ·rename_i g args dZ
    obtain⟨v,s1,⟨n1,h1⟩,iW,h⟩:=h mE
    obtain⟨f1,hp,hc⟩:=gr _ _ h
    obtain⟨f',s',⟨n,hn⟩,hk,hq⟩:=hc iW.wf
    refine⟨f',s',⟨n+n1,fun m hm=> ?_⟩,iW.trans hk,hq⟩
    simp only[gn,hw,dZ,h1 m (by omega),hp]
    simpa using hn m (by omega)
   ·exact h.elim
def iw (P:Program)(l:List Oper):Bool:=l.all (aI P)
def iy (P:Program)(all:List Oper):List Oper->aR->aq->(aR->Prop)->Prop
 |[],f,_,Q=>Q f
 |o::r,f,s,Q=>
  match b9 all o f with
  |true=>
   match cy P o f s with
   |some (.val v _)=>bX v v=true/\cO f o.dst v fun f' =>iy P all r f' s Q
   |_=>False
  |false=>cO f o.dst undef fun f' =>iy P all r f' s Q
def AE (P:Program)(all r:List Oper)(f:aR)(s:aq)(d:Option Tmp)(Q:aR->Prop):Option AR->Prop
 |some (.val v _)=>bX v v=true/\cO f d v fun f' =>iy P all r f' s Q
 |_=>False
def tQ (P:Program)(all:List Oper)(o:Oper)(r:List Oper)(f:aR)(s:aq)(Q:aR->Prop):Bool->Prop
 |true=>AE P all r f s o.dst Q (cy P o f s)
 |false=>cO f o.dst undef fun f' =>iy P all r f' s Q
theorem uo (P:Program)(all:List Oper)(f:aR)(s:aq)(Q:aR->Prop):iy P all [] f s Q=Q f:=rfl
theorem nR (P:Program)(all:List Oper)(o:Oper)(r:List Oper)(f:aR)(s:aq)(Q:aR->Prop):iy P all (o::r) f s Q=tQ P all o r f s Q (b9 all o f):=by
 simp only[iy]
 cases b9 all o f with
 |false=>rfl
 |true=>
  simp only[tQ]
  cases cy P o f s with
  |none=>rfl
  |some a=>cases a<;>rfl
theorem AF (P:Program)(all:List Oper)(o:Oper)(r:List Oper)(f:aR)(s:aq)(Q:aR->Prop):tQ P all o r f s Q true=AE P all r f s o.dst Q (cy P o f s):=rfl
theorem o8 (P:Program)(all:List Oper)(op:Op)(ty:TypeId)(ps:String)(af:Array Edge)(gd:Option (Nat×Bool))(r:List Oper)(f:aR)(s:aq)(Q:aR->Prop)(t:Tmp):tQ P all ⟨some t,op,ty,ps,af,gd⟩ r f s Q false=if t<f.n then iy P all r (f.put t undef) s Q else False:=by
 unfold tQ;simp only;rw[dk]
theorem DU (P:Program)(all r:List Oper)(f:aR)(s:aq)(t:Tmp)(Q:aR->Prop)(v:Value)(s' :aq):AE P all r f s (some t) Q (some (.val v s'))=if bX v v=true/\t<f.n then iy P all r (f.put t v) s Q else False:=by
 simp only[AE,dk]
 by_cases h1:bX v v=true<;>by_cases h2:t<f.n<;>simp[h1,h2]
theorem tR {P:Program}:∀{l:List Oper},iw P l=true->(∀o∈l,aI P o=true)/\aF P l=0:=by
 intro l
 induction l with
 |nil=>intro _;exact⟨fun o h=>(by cases h),rfl⟩
 |cons o r ih=>
  intro h
  simp only[iw,List.all_cons,Bool.and_eq_true] at h
  obtain⟨h1,h2⟩:=ih (by simpa [iw] using h.2)
  have AG:aB P o=false:=by
   obtain⟨dst,op,type,pos,after,guard⟩:=o
   cases op<;>simp_all[aI,aB]
   case convert a b x=>
    simp only[jf]
    split
    ·rename_i _ e hb;simp_all
    ·rfl
  exact⟨fun p hp=>(List.mem_cons.mp hp).elim (fun e=>e▸h.1) (fun hp=>h1 p hp),by simp[aF,AG,h2]⟩
theorem gQ {P:Program}{o:Oper}(hq:aI P o=true):aB P o=false:=by
 have:=(tR (P:=P) (l:=[o]) (by simp[iw,hq])).2
 simp only[aF] at this
 cases h:aB P o with
 |false=>rfl
 |true=>rw[h] at this;simp at this
theorem gu {P:Program}{o:Oper}(hq:aI P o=true):aY P o=false:=by simp[aY,hq]
theorem Dd {P:Program}{all:List Oper}{s:aq}(kM:List Nat){Q:aR->Prop}:∀(l:List Oper) (ms:List Nat) (i id:Nat) (f:aR),(∀o∈l,aI P o=true)->ms.length=l.length->iy P all l f s Q->
  ∃es f',(∀call,bQ P call all ms l i id f s []=some es)/\(∀k,madeOf es k=[])/\ax P l es s=[s]/\bN l es f=f' /\bJ P all kM [] [s] ms l es i f=true/\Q f' :=by
 intro l
 induction l with
 |nil=>
  intro ms i id f _ hl hw
  rw[uo] at hw
  cases ms with
  |cons m r=>simp at hl
  |nil=>exact⟨[],f,fun _=>rfl,fun _=>rfl,rfl,rfl,rfl,hw⟩
 |cons o r ih=>
  intro ms i id f hq hl hw
  cases ms with
  |nil=>simp at hl
  |cons m ms=>
  have hqo:=hq o (List.mem_cons_self ..)
  have AG:=gQ hqo
  have cD:=gu hqo
  have hqr:∀p∈r,aI P p=true:=fun p hp=>hq p (List.mem_cons_of_mem _ hp)
  have CO:ms.length=r.length:=by simpa using hl
  rw[nR] at hw
  have gr:∀(v:Value),(cO f o.dst v fun f' =>iy P all r f' s Q)->∃f1,jS f o.dst v=some f1/\iy P all r f1 s Q:=by
   intro v h
   unfold cO at h
   split at h
   ·exact⟨_,‹_›,h⟩
   ·exact h.elim
  cases nO:b9 all o f with
  |false=>
   rw[nO] at hw
   obtain⟨f1,hp,hw⟩:=gr _ hw
   obtain⟨es,f',h1,h2,h3,h4,h5,h6⟩:=ih ms (i+1) id f1 hqr CO hw
   refine⟨.skip::es,f',fun call=> ?_,fun k=> ?_,?_,?_,?_,h6⟩
   ·simp only[bQ,cV,nO,Ev.val,hp,AG]
    rw[if_neg (by simp),h1 call]
   ·simp only[madeOf,h2]
   ·simp only[ax,cD,h3];simp
   ·simp only[bN,Ev.val,hp,h4]
   ·simp only[bJ,Ev.val,hp,h5];rfl
  |true=>
   rw[nO] at hw
   simp only[tQ] at hw
   unfold AE at hw
   split at hw
   case h_2=>exact hw.elim
   rename_i v s1 dZ
   obtain⟨hv,hw⟩:=hw
   obtain⟨f1,hp,hw⟩:=gr _ hw
   obtain⟨es,f',h1,h2,h3,h4,h5,h6⟩:=ih ms (i+1) id f1 hqr CO hw
   refine⟨.quiet v::es,f',fun call=> ?_,fun k=> ?_,?_,?_,?_,h6⟩
   ·simp only[bQ,cV,nO,hqo,Cl.fill,dZ,Ev.val,hp,AG]
    rw[if_neg (by simp),h1 call]
   ·simp only[madeOf,h2]
   ·simp only[ax,cD,h3];simp
   ·simp only[bN,Ev.val,hp,h4]
   ·simp only[bJ,Ev.val,hp,h5,Bool.and_true]
    have j6:∀(L:List aq),(∀x∈L,x=s)->sameAt P m [] o f v L=true:=by
     intro L
     induction L with
     |nil=>intro _;rfl
     |cons x L Dc=>
      intro hx
      obtain rfl:=hx x (List.mem_cons_self ..)
      simp only[sameAt,Cl.fill,dZ,hv,Bool.true_and]
      exact Dc (fun y hy=>hx y (List.mem_cons_of_mem _ hy))
    exact j6 _ (fun x hx=>by simpa using List.mem_of_mem_take (List.mem_of_mem_drop hx))
theorem De {P:Program}{ops:List Oper}(hq:iw P ops=true){f:aR}{s:aq}{Q:aR->Prop}(h:iy P ops ops f s Q):∃f',(∀call,fj P call ops f s=some (f',s))/\Q f' :=by
 obtain⟨hqs,wY⟩:=tR hq
 have zD:(bW ops []).length=ops.length:=by
  obtain⟨r,h1,h2⟩:=jP ops []
  rw[h1];simpa using h2
 obtain⟨es,f',h1,h2,h3,h4,h5,h6⟩:=Dd (bW ops []) ops (bW ops []) 0 s.next f hqs zD h
 refine⟨f',fun call=> ?_,h6⟩
 have hs:(⟨s.heap,s.next+aF P ops⟩:aq)=s:=by rw[wY];rfl
 unfold fj
 rw[hs,h1 call]
 simp only[h2,h3,h5,h4,Cl.fill,List.getLastD]
 rfl
def cF (P:Program)(lib:ay)(ops:List Oper)(f:aR)(s:aq)(Q:aR->aq->Prop):Prop:=
 WF s->∃f' s',(∃n,∀m,n<=m->fj P (fx P lib m) ops f s=some (f',s'))/\bL s s' /\Q f' s'
def yq (P:Program)(lib:ay)(ops:List Oper)(f:aR)(s:aq)(Q:aR->aq->Prop):Bool->Prop
 |true=>iy P ops ops f s (fun f' =>Q f' s)
 |false=>cF P lib ops f s Q
def Ls (id:Nat):AX->AX
 | .exit j=>if j=id then .normal else .exit j
 |x=>x
def eV (P:Program)(lib:ay):Code->aR->aq->(AX->aR->aq->Prop)->Prop
 | .skip,f,s,Q=>Q .normal f s
 | .label _,f,s,Q=>Q .normal f s
 | .region _ ops d,f,s,Q=>
  match d with
  |false=>jE P lib ops.toList ops.toList f s (Q .normal)
  |true=>yq P lib ops.toList f s (Q .normal) (iw P ops.toList)
 | .seq a b,f,s,Q=>eV P lib a f s fun x f' s' =>
  match x with
  | .normal=>eV P lib b f' s' Q
  |x=>Q x f' s'
 | .cond x a b,f,s,Q=>
  match aS f x with
  |some (.bool t)=>
   match t with
   |true=>eV P lib a f s Q
   |false=>eV P lib b f s Q
  |_=>False
 | .block id a,f,s,Q=>eV P lib a f s fun x f' s' =>Q (Ls id x) f' s'
 | .loop a,f,s,Q=>Comes P lib (.loop a) f s Q
 | .exit id,f,s,Q=>Q (.exit id) f s
 | .scope a,f,s,Q=>eV P lib a f s Q
 | .ret,f,s,Q=>Q .ret f s
 |_,_,_,_=>False
def mR (P:Program)(lib:ay)(b:Code)(Q:AX->aR->aq->Prop)(x:AX)(f' :aR)(s' :aq):Prop:=
 match x with
 | .normal=>eV P lib b f' s' Q
 |x=>Q x f' s'
def Nb (id:Nat)(Q:AX->aR->aq->Prop)(x:AX)(f' :aR)(s' :aq):Prop:=Q (Ls id x) f' s'
def S2 (P:Program)(lib:ay)(a b:Code)(f:aR)(s:aq)(Q:AX->aR->aq->Prop):Bool->Prop
 |true=>eV P lib a f s Q
 |false=>eV P lib b f s Q
def PJ (P:Program)(lib:ay)(a b:Code)(f:aR)(s:aq)(Q:AX->aR->aq->Prop):Option Value->Prop
 |some (.bool t)=>S2 P lib a b f s Q t
 |_=>False
section
variable (P:Program) (lib:ay) (f:aR) (s:aq) (Q:AX->aR->aq->Prop)
theorem AH:eV P lib .skip f s Q=Q .normal f s:=rfl
theorem vm (id:Nat)(ops:Array Oper):eV P lib (.region id ops false) f s Q=jE P lib ops.toList ops.toList f s (Q .normal):=rfl
theorem AJ (id:Nat)(ops:Array Oper):eV P lib (.region id ops true) f s Q=yq P lib ops.toList f s (Q .normal) (iw P ops.toList):=rfl
theorem AK (ops:List Oper)(R:aR->aq->Prop):yq P lib ops f s R true=iy P ops ops f s (fun f' =>R f' s):=rfl
theorem DV (a b:Code):eV P lib (.seq a b) f s Q=eV P lib a f s (mR P lib b Q):=rfl
theorem vn (b:Code):mR P lib b Q .normal f s=eV P lib b f s Q:=rfl
theorem DW (b:Code):mR P lib b Q .ret f s=Q .ret f s:=rfl
theorem AL (b:Code)(id:Nat):mR P lib b Q (.exit id) f s=Q (.exit id) f s:=rfl
theorem uq (x:Operand)(a b:Code):eV P lib (.cond x a b) f s Q=PJ P lib a b f s Q (aS f x):=by
 simp only[eV]
 cases aS f x with
 |none=>rfl
 |some v=>cases v<;>first|rfl|(rename_i t;cases t<;>rfl)
theorem AM (a b:Code)(t:Bool):PJ P lib a b f s Q (some (.bool t))=S2 P lib a b f s Q t:=rfl
theorem Hg (a b:Code):S2 P lib a b f s Q true=eV P lib a f s Q:=rfl
theorem DX (a b:Code):S2 P lib a b f s Q false=eV P lib b f s Q:=rfl
theorem yu (id:Nat)(a:Code):eV P lib (.block id a) f s Q=eV P lib a f s (Nb id Q):=rfl
theorem yv (id:Nat):Nb id Q .normal f s=Q .normal f s:=rfl
theorem Hh (id:Nat):Nb id Q .ret f s=Q .ret f s:=rfl
theorem DY (id j:Nat):Nb id Q (.exit j) f s=if j=id then Q .normal f s else Q (.exit j) f s:=by
 simp only[Nb,Ls];split<;>rfl
theorem AN (a:Code):eV P lib (.loop a) f s Q=Comes P lib (.loop a) f s Q:=rfl
theorem AP (id:Nat):eV P lib (.exit id) f s Q=Q (.exit id) f s:=rfl
theorem yw (a:Code):eV P lib (.scope a) f s Q=eV P lib a f s Q:=rfl
theorem DZ:eV P lib .ret f s Q=Q .ret f s:=rfl
end
theorem fI {P:Program}{lib:ay}{a b:Code}{f:aR}{s:aq}{Q:AX->aR->aq->Prop}{t:Bool}(h1:t=true->eV P lib a f s Q)(h2:t=false->eV P lib b f s Q):S2 P lib a b f s Q t:=by
 cases t
 ·exact h2 rfl
 ·exact h1 rfl
theorem Hi {P:Program}{lib:ay}:∀(c:Code) (f:aR) (s:aq) (Q:AX->aR->aq->Prop),eV P lib c f s Q->Comes P lib c f s Q:=by
 intro c
 induction c with
 |skip=>intro f s Q h mE;exact⟨.normal,f,s,⟨1,fun m hm=>by obtain⟨k,rfl⟩:∃k,m=k+1:=⟨m-1,by omega⟩;rfl⟩,bL.refl mE,h⟩
 |label l=>intro f s Q h mE;exact⟨.normal,f,s,⟨1,fun m hm=>by obtain⟨k,rfl⟩:∃k,m=k+1:=⟨m-1,by omega⟩;rfl⟩,bL.refl mE,h⟩
 |exit id=>intro f s Q h mE;exact⟨.exit id,f,s,⟨1,fun m hm=>by obtain⟨k,rfl⟩:∃k,m=k+1:=⟨m-1,by omega⟩;rfl⟩,bL.refl mE,h⟩
 |ret=>intro f s Q h mE;exact⟨.ret,f,s,⟨1,fun m hm=>by obtain⟨k,rfl⟩:∃k,m=k+1:=⟨m-1,by omega⟩;rfl⟩,bL.refl mE,h⟩
 |loop a _=>intro f s Q h;exact h
 |rangeFunc=>intro f s Q h;exact h.elim
 |goto=>intro f s Q h;exact h.elim
 |refuse=>intro f s Q h;exact h.elim
 |region id ops d=>
  intro f s Q h mE
  have fin:∀f' s',(∃n,∀m,n<=m->(match d with
    |false=>gn P (fx P lib m) ops.toList ops.toList f s
    |true=>fj P (fx P lib m) ops.toList f s)=some (f',s'))->bL s s' ->Q .normal f' s' ->∃x f' s',(∃n,∀m,n<=m->exec P lib m (.region id ops d) f s=some (x,f',s'))/\bL s s' /\Q x f' s' :=by
   rintro f' s' ⟨n,hn⟩ hk hq
   refine⟨.normal,f',s',⟨n+1,fun m hm=> ?_⟩,hk,hq⟩
   obtain⟨k,rfl⟩:∃k,m=k+1:=⟨m-1,by omega⟩
   have:=hn k (by omega)
   simp only[exec,step]
   have e:fx P lib k=eG P lib (exec P lib k):=rfl
   rw[e] at this
   cases d<;>(simp only at this;simp only[this])
  cases d with
  |false=>
   obtain⟨f',s',hn,hk,hq⟩:=SZ _ _ _ _ _ h mE
   exact fin f' s' hn hk hq
  |true=>
   simp only[eV] at h
   cases hq:iw P ops.toList with
   |true=>
    rw[hq] at h
    obtain⟨f',h1,h2⟩:=De hq h
    exact fin f' s ⟨0,fun m _=>h1 _⟩ (bL.refl mE) h2
   |false=>
    rw[hq] at h
    obtain⟨f',s',h1,hk,h2⟩:=h mE
    exact fin f' s' h1 hk h2
 |seq a b V5 ihb=>
  intro f s Q h mE
  obtain⟨x,f1,s1,⟨n1,h1⟩,iW,h⟩:=V5 f s _ h mE
  cases x with
  |normal=>
   obtain⟨x,f2,s2,⟨n2,h2⟩,kY,h⟩:=ihb f1 s1 _ h iW.wf
   refine⟨x,f2,s2,⟨n1+n2+1,fun m hm=> ?_⟩,iW.trans kY,h⟩
   obtain⟨k,rfl⟩:∃k,m=k+1:=⟨m-1,by omega⟩
   simp only[exec,step,h1 k (by omega),h2 k (by omega)]
  |exit id=>
   refine⟨_,f1,s1,⟨n1+1,fun m hm=> ?_⟩,iW,h⟩
   obtain⟨k,rfl⟩:∃k,m=k+1:=⟨m-1,by omega⟩
   simp only[exec,step,h1 k (by omega)]
  |ret=>
   refine⟨_,f1,s1,⟨n1+1,fun m hm=> ?_⟩,iW,h⟩
   obtain⟨k,rfl⟩:∃k,m=k+1:=⟨m-1,by omega⟩
   simp only[exec,step,h1 k (by omega)]
 |cond y a b V5 ihb=>
  intro f s Q h mE
  rw[uq] at h
  unfold PJ at h
  split at h
  ·rename_i t ht
   cases t with
   |true=>
    obtain⟨x,f1,s1,⟨n1,h1⟩,iW,h⟩:=V5 f s _ h mE
    refine⟨_,f1,s1,⟨n1+1,fun m hm=> ?_⟩,iW,h⟩
    obtain⟨k,rfl⟩:∃k,m=k+1:=⟨m-1,by omega⟩
    simp only[exec,step,ht,h1 k (by omega)]
   |false=>
    obtain⟨x,f1,s1,⟨n1,h1⟩,iW,h⟩:=ihb f s _ h mE
    refine⟨_,f1,s1,⟨n1+1,fun m hm=> ?_⟩,iW,h⟩
    obtain⟨k,rfl⟩:∃k,m=k+1:=⟨m-1,by omega⟩
    simp only[exec,step,ht,h1 k (by omega)]
  ·exact h.elim
 |block id a V5=>
  intro f s Q h mE
  obtain⟨x,f1,s1,⟨n1,h1⟩,iW,h⟩:=V5 f s _ h mE
  refine⟨_,f1,s1,⟨n1+1,fun m hm=> ?_⟩,iW,h⟩
  obtain⟨k,rfl⟩:∃k,m=k+1:=⟨m-1,by omega⟩
  simp only[exec,step,h1 k (by omega)]
  cases x with
  |normal=>rfl
  |ret=>rfl
  |exit j=>
   simp only[Ls]
   by_cases hj:j=id
   ·rw[if_pos hj,if_pos (by simpa [Nat.beq_eq] using hj)]
   ·rw[if_neg hj,if_neg (by simpa [Nat.beq_eq] using hj)]
 |scope a V5=>
  intro f s Q h mE
  obtain⟨x,f1,s1,⟨n1,h1⟩,iW,h⟩:=V5 f s _ h mE
  refine⟨_,f1,s1,⟨n1+1,fun m hm=> ?_⟩,iW,h⟩
  obtain⟨k,rfl⟩:∃k,m=k+1:=⟨m-1,by omega⟩
  simp only[exec,step,h1 k (by omega)]
def xe (Inv:Nat->aR->aq->Prop)(k:Nat)(Q:AX->aR->aq->Prop):AX->aR->aq->Prop
 | .normal,f,s=>∃j,j<k/\Inv j f s
 |x,f,s=>Q x f s
theorem au {Inv:Nat->aR->aq->Prop}{k:Nat}{Q:AX->aR->aq->Prop}{f:aR}{s:aq}(j:Nat)(hj:j<k)(h:Inv j f s):xe Inv k Q .normal f s:=⟨j,hj,h⟩
theorem AQ (Inv:Nat->aR->aq->Prop)(k:Nat)(Q:AX->aR->aq->Prop)(f:aR)(s:aq):xe Inv k Q .ret f s=Q .ret f s:=rfl
theorem yx (Inv:Nat->aR->aq->Prop)(k:Nat)(Q:AX->aR->aq->Prop)(f:aR)(s:aq)(id:Nat):xe Inv k Q (.exit id) f s=Q (.exit id) f s:=rfl
theorem Comes.loop {P:Program}{lib:ay}{a:Code}{Q:AX->aR->aq->Prop}(Inv:Nat->aR->aq->Prop)(hr:∀k f s,Inv k f s->eV P lib a f s (xe Inv k Q)):∀k f s,Inv k f s->Comes P lib (.loop a) f s Q:=by
 intro k
 induction k using Nat.strongRecOn with
 |_ k ih=>
  intro f s hi mE
  obtain⟨x,f1,s1,⟨n1,h1⟩,iW,h⟩:=Hi _ _ _ _ (hr k f s hi) mE
  cases x with
  |normal=>
   obtain⟨j,hj,u9⟩:=h
   obtain⟨x,f2,s2,⟨n2,h2⟩,kY,h⟩:=ih j hj f1 s1 u9 iW.wf
   refine⟨x,f2,s2,⟨n1+n2+1,fun m hm=> ?_⟩,iW.trans kY,h⟩
   obtain⟨m,rfl⟩:∃k,m=k+1:=⟨m-1,by omega⟩
   simp only[exec,step,h1 m (by omega),h2 m (by omega)]
  |exit id=>
   refine⟨_,f1,s1,⟨n1+1,fun m hm=> ?_⟩,iW,h⟩
   obtain⟨m,rfl⟩:∃k,m=k+1:=⟨m-1,by omega⟩
   simp only[exec,step,h1 m (by omega)]
  |ret=>
   refine⟨_,f1,s1,⟨n1+1,fun m hm=> ?_⟩,iW,h⟩
   obtain⟨m,rfl⟩:∃k,m=k+1:=⟨m-1,by omega⟩
   simp only[exec,step,h1 m (by omega)]
theorem Comes.eY {P:Program}{lib:ay}{a:Code}{Q:AX->aR->aq->Prop}{f:aR}{s:aq}(Inv:Nat->aR->aq->Prop){k:Nat}(h0:Inv k f s)(hr:∀k f s,Inv k f s->eV P lib a f s (xe Inv k Q)):Comes P lib (.loop a) f s Q:=
 Comes.loop Inv hr k f s h0
theorem Comes.bC {P:Program}{lib:ay}{a:Code}{Q' :AX->aR->aq->Prop}{f:aR}{s:aq}(Inv:Nat->aR->aq->Prop)(Out:AX->aR->aq->Prop){k:Nat}(h0:Inv k f s)
  (hr:∀Q:AX->aR->aq->Prop,(∀x f s,Out x f s->Q x f s)->∀k f s,Inv k f s->eV P lib a f s (xe Inv k Q)) (ho:∀x f s,Out x f s->Q' x f s):Comes P lib (.loop a) f s Q' :=
 (Comes.eY (Q:=Out) Inv h0 (hr Out (fun _ _ _ h=>h))).mono ho
def Nc (s:aq)(Q:Value->aq->Prop):Option (List Value)->Prop
 |some l=>Q (oneOf l) s
 |none=>False
def S3 (P:Program)(rs:List ResultVar)(Q:Value->aq->Prop)(x:AX)(f:aR)(s:aq):Prop:=
 match x with
 | .exit _=>False
 |_=>Nc s Q (cS P f s rs)
theorem al (P:Program)(rs:List ResultVar)(Q:Value->aq->Prop)(f:aR)(s:aq):S3 P rs Q .ret f s=Nc s Q (cS P f s rs):=rfl
theorem ak (P:Program)(rs:List ResultVar)(Q:Value->aq->Prop)(f:aR)(s:aq):S3 P rs Q .normal f s=Nc s Q (cS P f s rs):=rfl
theorem D0 (s:aq)(Q:Value->aq->Prop)(l:List Value):Nc s Q (some l)=Q (oneOf l) s:=rfl
theorem Runs.S4 {P:Program}{lib:ay}{g:FuncId}{args:List Value}{s:aq}{Q:Value->aq->Prop}{fn:Func}{c:Code}(hg:P.funcs[g]?=some fn)(hb:fn.body=some c)(hl:lib.at g=none)(hn:Nat.ble (args.length+(fn.ntmps-args.length)) 16000000=true)
  (h:Comes P lib c (mK fn args) s (S3 P fn.results.toList Q)):Runs P lib g args s Q:=by
 intro mE
 obtain⟨x,f1,s1,⟨n1,h1⟩,iW,h⟩:=h mE
 have go:∀l,cS P f1 s1 fn.results.toList=some l->Q (oneOf l) s1->(x= .normal\/x= .ret)->∃v s',(∃n,∀m,n<=m->fx P lib m g args s=some (v,s'))/\bL s s' /\Q v s' :=by
  intro l hr hq hx
  refine⟨oneOf l,s1,⟨n1,fun m hm=> ?_⟩,iW,hq⟩
  have h1:=h1 m hm
  rcases hx with rfl|rfl
  ·simp only[fx,eG,hl,hg,hb,hn,h1,hr]
  ·simp only[fx,eG,hl,hg,hb,hn,h1,hr]
 cases x with
 |exit id=>exact h.elim
 |normal=>
  simp only[S3,Nc] at h
  split at h
  ·exact go _ ‹_› h (.inl rfl)
  ·exact h.elim
 |ret=>
  simp only[S3,Nc] at h
  split at h
  ·exact go _ ‹_› h (.inr rfl)
  ·exact h.elim
end Go.Cl
namespace Go.Cl
theorem aa (f:aR)(t u:Nat)(v:Value):(f.put t v).get u=if t=u then v else f.get u:=by
 by_cases h:t=u
 ·subst h;simp only[aR.get,aR.put,Tr.bu _ _ _ _ (deep (by omega)),if_pos]
 ·simp only[aR.get,aR.put,Tr.ct _ _ _ _ _ h,if_neg h]
theorem ae (f:aR)(t:Nat)(v:Value):(f.put t v).n=f.n:=rfl
theorem S5 (fn:Func)(args:List Value):(mK fn args).n=args.length+(fn.ntmps-args.length):=rfl
theorem Nd (fn:Func)(args:List Value)(t:Nat):(mK fn args).get t=args.getD t undef:=by
 simp only[mK,aR.get,Az args .nil 0 t (by omega),Nat.zero_le,true_and,Nat.zero_add,Nat.sub_zero]
 by_cases h:t<args.length
 ·simp only[if_pos h]
 ·simp only[if_neg h,Tr.get]
  simp[List.getD,List.getElem?_eq_none (Nat.le_of_not_lt h)]
theorem xf (f:aR)(t:Tmp):aS f (.tmp t)=if t<f.n then some (f.get t) else none:=by
 unfold aS
 by_cases h:t<f.n
 ·have hb:Nat.blt t f.n=true:=by simpa [Nat.blt_eq] using h
  simp only[hb,if_true,if_pos h]
 ·have hb:Nat.blt t f.n=false:=by rw[<-Bool.not_eq_true,Nat.blt_eq];exact h
  simp[hb,if_neg h]
theorem AS (f:aR)(b:Bool):aS f (.const (.bool b))=some (.bool b):=rfl
theorem D2 (f:aR)(k:IntKind)(n:Int):aS f (.const (.int k n))=some (.int k n):=rfl
theorem vo (f:aR)(b:ByteArray):aS f (.const (.string b))=some (.string b):=rfl
theorem AU (f:aR):aS f (.const (.slice none 0 0))=some (.slice none 0 0):=rfl
theorem AV (f:aR):aS f (.const (.pointer none))=some (.pointer none):=rfl
theorem AW (f:aR):aS f (.const (.map none))=some (.map none):=rfl
theorem AY (f:aR)(g:FuncId):aS f (.func g)=some (.func (.func g) #[] #[]):=rfl
theorem Runs.enter {P:Program}{lib:ay}{g:FuncId}{args:List Value}{s:aq}{Q:Value->aq->Prop}{fn:Func}{c:Code}(N:Nat)(hg:P.funcs[g]?=some fn)(hb:fn.body=some c)(hl:lib.at g=none)(hN:args.length+(fn.ntmps-args.length)=N)(hn:Nat.ble N 16000000=true)
  (h:∀f:aR,f.n=N->(∀t,f.get t=args.getD t undef)->eV P lib c f s (S3 P fn.results.toList Q)):Runs P lib g args s Q:=
 Runs.S4 hg hb hl (by rw[hN];exact hn) (Hi _ _ _ _ (h _ (by rw[S5,hN]) (Nd fn args)))
section
variable (P:Program) (f:aR) (s:aq) (d:Option Tmp) (ty:TypeId) (ps:String) (af:Array Edge) (gd:Option (Nat×Bool))
theorem Hj (x:Operand):cy P ⟨d,.move x,ty,ps,af,gd⟩ f s=oo s (aS f x):=rfl
theorem AZ (x:Operand):cy P ⟨d,.assign x,ty,ps,af,gd⟩ f s=oo s (aS f x):=rfl
theorem A0 (c a b:Operand):cy P ⟨d,.pick c a b,ty,ps,af,gd⟩ f s=match aS f c,aS f a,aS f b with
  |some (.bool t),some u,some v=>some (.val (if t then u else v) s)
  |_,_,_=>none:=rfl
theorem D3 (e:TypeId):cy P ⟨d,.alloc e,ty,ps,af,gd⟩ f s=match cE P e with
  |some z=>if cH z then lZ (fw s z.cells.toList (zW P e)) else none
  |none=>none:=rfl
theorem Lt (e:TypeId)(x:Operand):cy P ⟨d,.box e x,ty,ps,af,gd⟩ f s=match aS f x with
  |some v=>lZ (fw s v.cells.toList (zW P e))
  |none=>none:=rfl
theorem xg (t:TypeId)(q:Array (Nat×Operand)):cy P ⟨d,.build t q,ty,ps,af,gd⟩ f s=match ag f q.toList with
  |some l=>oo s (dM P t l)
  |none=>none:=rfl
theorem rI (t:TypeId)(n:Nat)(q:Array (Nat×Operand)):cy P ⟨d,.buildSlice t n q,ty,ps,af,gd⟩ f s=match ag f q.toList with
  |some l=>lZ (aU P s t n l)
  |none=>none:=rfl
theorem vq (t:TypeId)(x:Operand):cy P ⟨d,.load t x,ty,ps,af,gd⟩ f s=match aS f x with
  |some a=>oo s (aG P s t a)
  |none=>none:=rfl
theorem D4 (t:TypeId)(x y:Operand):cy P ⟨d,.store t x y,ty,ps,af,gd⟩ f s=match aS f x,aS f y with
  |some a,some v=>CT (fi P s t a v)
  |_,_=>none:=rfl
theorem pY (x:Operand):cy P ⟨d,.nilCheck x,ty,ps,af,gd⟩ f s=match aS f x with
  |some (.pointer (some a))=>some (.val (.pointer (some a)) s)
  |some (.func (.func g) zS bs)=>some (.val (.func (.func g) zS bs) s)
  |_=>none:=rfl
theorem xh (op:BinOp)(t t2:TypeId)(x y:Operand):cy P ⟨d,.binOp op t x y t2,ty,ps,af,gd⟩ f s=match aS f x,aS f y with
  |some u,some v=>oo s (du P op t u v)
  |_,_=>none:=rfl
theorem A1 (op:UnOp)(t:TypeId)(x:Operand):cy P ⟨d,.unOp op t x,ty,ps,af,gd⟩ f s=match aS f x with
  |some u=>oo s (Uu op u)
  |none=>none:=rfl
theorem rJ (a b:TypeId)(x:Operand):cy P ⟨d,.convert a b x,ty,ps,af,gd⟩ f s=match aS f x with
  |some u=>lZ (gG P s a b u)
  |none=>none:=rfl
theorem yy (t:TypeId):cy P ⟨d,.makeMap t none,ty,ps,af,gd⟩ f s=some (.val (.map (some s.next)) (s.new (.map []))):=rfl
theorem tS (t:TypeId)(x y:Operand):cy P ⟨d,.makeSlice t x y,ty,ps,af,gd⟩ f s=match aS f x,aS f y with
  |some u,some v=>lZ (eu P s t u v)
  |_,_=>none:=rfl
theorem sL (t:TypeId)(x:Operand)(lo hi mx:Option Operand):cy P ⟨d,.slice t x lo hi mx,ty,ps,af,gd⟩ f s=match aS f x,ah f lo,ah f hi,ah f mx with
  |some u,some l,some h,some m=>oo s (dH P s t u l h m)
  |_,_,_,_=>none:=rfl
theorem oE (t:TypeId)(x:Operand)(i:Nat):cy P ⟨d,.fieldAddr t x i,ty,ps,af,gd⟩ f s=match aS f x with
  |some u=>oo s (az P t u i)
  |none=>none:=rfl
theorem xi (t:TypeId)(x:Operand)(i:Nat):cy P ⟨d,.field t x i,ty,ps,af,gd⟩ f s=match aS f x with
  |some u=>oo s (zU P t u i)
  |none=>none:=rfl
theorem oF (t:TypeId)(x y:Operand):cy P ⟨d,.indexAddr t x y,ty,ps,af,gd⟩ f s=match aS f x,aS f y with
  |some u,some v=>oo s (dC P t u v)
  |_,_=>none:=rfl
theorem xj (t:TypeId)(x y:Operand):cy P ⟨d,.index t x y,ty,ps,af,gd⟩ f s=match aS f x,aS f y with
  |some u,some v=>oo s (qZ P t u v)
  |_,_=>none:=rfl
theorem A2 (t:TypeId)(x y:Operand)(ok:Bool):cy P ⟨d,.lookup t x y ok,ty,ps,af,gd⟩ f s=match aS f x,aS f y with
  |some u,some v=>oo s (mi P s t u v ok)
  |_,_=>none:=rfl
theorem tT (t:TypeId)(x y z:Operand):cy P ⟨d,.mapUpdate t x y z,ty,ps,af,gd⟩ f s=match aS f x,aS f y,aS f z with
  |some m,some k,some v=>CT (fX P s t m k v)
  |_,_,_=>none:=rfl
theorem rK (x:Operand)(i:Nat):cy P ⟨d,.extract x i,ty,ps,af,gd⟩ f s=match aS f x with
  |some u=>oo s (cN u i)
  |none=>none:=rfl
theorem rL (x:Operand)(args:Array Operand)(ts:Array TypeId):cy P ⟨d,.call ⟨.value x,args,ts⟩,ty,ps,af,gd⟩ f s=match ad f args.toList with
  |some l=>match aS f x with
   |some (.func (.func g) zS bs)=>some (.call g (zS.toList++l++bs.toList))
   |_=>none
  |none=>none:=rfl
theorem gv (b:Builtin)(args:Array Operand)(ts:Array TypeId):cy P ⟨d,.call ⟨.builtin b,args,ts⟩,ty,ps,af,gd⟩ f s=match ad f args.toList with
  |some l=>im P s b ts.toList l
  |none=>none:=rfl
theorem rM (all:List Oper)(op:Op):b9 all ⟨d,op,ty,ps,af,none⟩ f=true:=rfl
theorem yz (all:List Oper)(op:Op)(j:Nat)(w:Bool):b9 all ⟨d,op,ty,ps,af,some (j,w)⟩ f=match pL all f j with
  |some b=>b==w
  |none=>false:=rfl
def yieldOf (f:aR):List Oper->Option Bool
 |o::_=>
  match o.dst with
  |some d=>if d<f.n then(match f.get d with
   | .bool b=>some b
   |_=>none) else none
  |none=>none
 |[]=>none
theorem D5 (all:List Oper)(j:Nat):pL all f j=yieldOf f (all.drop j):=by
 unfold pL yieldOf
 cases all.drop j with
 |nil=>rfl
 |cons o r=>
  simp only
  cases o.dst with
  |none=>rfl
  |some d=>
   simp only
   by_cases hd:d<f.n
   ·have hb:Nat.blt d f.n=true:=by simpa [Nat.blt_eq] using hd
    simp only[hb,if_true,if_pos hd]
    cases f.get d<;>rfl
   ·have hb:Nat.blt d f.n=false:=by rw[<-Bool.not_eq_true,Nat.blt_eq];exact hd
    simp[hb,if_neg hd]
theorem vu (t:Tmp)(op:Op)(r:List Oper):yieldOf f (⟨some t,op,ty,ps,af,gd⟩::r)=if t<f.n then(match f.get t with
    | .bool b=>some b
    |_=>none) else none:=rfl
end
theorem fJ (cs:Array Value):(Value.agg cs).cells=cs:=rfl
theorem rN (s:aq)(v:Value):oo s (some v)=some (.val v s):=rfl
theorem dW (v:Value)(s:aq):lZ (some (v,s))=some (.val v s):=rfl
theorem j9 (s:aq):CT (some s)=some (.val undef s):=rfl
theorem builtin_len (P:Program)(s:aq)(t:TypeId)(x:Value):im P s .len [t] [x]=oo s (aV P s t x):=rfl
theorem builtin_append (P:Program)(s:aq)(t u:TypeId)(x y:Value):im P s .append [t,u] [x,y]=lZ (gl P s t u x y):=rfl
theorem builtin_copy (P:Program)(s:aq)(t u:TypeId)(x y:Value):im P s .copy [t,u] [x,y]=lZ (lY P s t x y):=rfl
theorem builtin_min (P:Program)(s:aq)(t u:TypeId)(k:IntKind)(x y:Int):im P s .min [t,u] [.int k x,.int k y]=some (.val (.int k (if y<x then y else x)) s):=rfl
theorem builtin_max (P:Program)(s:aq)(t u:TypeId)(k:IntKind)(x y:Int):im P s .max [t,u] [.int k x,.int k y]=some (.val (.int k (if y>x then y else x)) s):=rfl
section
variable (P:Program) (d:Option Tmp) (ty:TypeId) (ps:String) (af:Array Edge) (gd:Option (Nat×Bool))
theorem vv:iw P []=true:=rfl
theorem tU (o:Oper)(r:List Oper):iw P (o::r)=(aI P o&&iw P r):=rfl
theorem A3 (x:Operand):aI P ⟨d,.move x,ty,ps,af,gd⟩=true:=rfl
theorem vw (x:Operand):aI P ⟨d,.assign x,ty,ps,af,gd⟩=true:=rfl
theorem A4 (a b c:Operand):aI P ⟨d,.pick a b c,ty,ps,af,gd⟩=true:=rfl
theorem A5 (t:TypeId)(x:Operand):aI P ⟨d,.load t x,ty,ps,af,gd⟩=true:=rfl
theorem rO (x:Operand):aI P ⟨d,.nilCheck x,ty,ps,af,gd⟩=true:=rfl
theorem yA (op:BinOp)(t t2:TypeId)(x y:Operand):aI P ⟨d,.binOp op t x y t2,ty,ps,af,gd⟩=true:=rfl
theorem A6 (op:UnOp)(t:TypeId)(x:Operand):aI P ⟨d,.unOp op t x,ty,ps,af,gd⟩=true:=rfl
theorem qw (t:TypeId)(x y:Operand):aI P ⟨d,.indexAddr t x y,ty,ps,af,gd⟩=true:=rfl
theorem yB (t:TypeId)(x y:Operand):aI P ⟨d,.index t x y,ty,ps,af,gd⟩=true:=rfl
theorem qx (t:TypeId)(x:Operand)(i:Nat):aI P ⟨d,.fieldAddr t x i,ty,ps,af,gd⟩=true:=rfl
theorem yC (t:TypeId)(x:Operand)(i:Nat):aI P ⟨d,.field t x i,ty,ps,af,gd⟩=true:=rfl
theorem yD (t:TypeId)(x:Operand)(l h m:Option Operand):aI P ⟨d,.slice t x l h m,ty,ps,af,gd⟩=true:=rfl
theorem tV (x:Operand)(i:Nat):aI P ⟨d,.extract x i,ty,ps,af,gd⟩=true:=rfl
theorem D6 (args:Array Operand)(ts:Array TypeId):aI P ⟨d,.call ⟨.builtin .len,args,ts⟩,ty,ps,af,gd⟩=true:=rfl
theorem A7 (x:Operand)(args:Array Operand)(ts:Array TypeId):aI P ⟨d,.call ⟨.value x,args,ts⟩,ty,ps,af,gd⟩=false:=rfl
theorem pa (t:TypeId)(n:Nat)(q:Array (Nat×Operand)):aI P ⟨d,.buildSlice t n q,ty,ps,af,gd⟩=false:=rfl
theorem yE (t:TypeId)(q:Array (Nat×Operand)):aI P ⟨d,.build t q,ty,ps,af,gd⟩=true:=rfl
theorem yF (t:TypeId)(x y:Operand):aI P ⟨d,.store t x y,ty,ps,af,gd⟩=false:=rfl
theorem D7 (t:TypeId)(x:Operand):aI P ⟨d,.box t x,ty,ps,af,gd⟩=false:=rfl
theorem yG (t:TypeId):aI P ⟨d,.alloc t,ty,ps,af,gd⟩=false:=rfl
theorem qy (t:TypeId)(x y:Operand):aI P ⟨d,.makeSlice t x y,ty,ps,af,gd⟩=false:=rfl
theorem vx (args:Array Operand)(ts:Array TypeId):aI P ⟨d,.call ⟨.builtin .append,args,ts⟩,ty,ps,af,gd⟩=false:=rfl
theorem A8 (args:Array Operand)(ts:Array TypeId):aI P ⟨d,.call ⟨.builtin .copy,args,ts⟩,ty,ps,af,gd⟩=false:=rfl
theorem D8 (args:Array Operand)(ts:Array TypeId):aI P ⟨d,.call ⟨.builtin .min,args,ts⟩,ty,ps,af,gd⟩=true:=rfl
theorem D9 (args:Array Operand)(ts:Array TypeId):aI P ⟨d,.call ⟨.builtin .max,args,ts⟩,ty,ps,af,gd⟩=true:=rfl
theorem pb (t:TypeId)(n:Nat)(q:Array (Nat×Operand)):aB P ⟨d,.buildSlice t n q,ty,ps,af,gd⟩=true:=rfl
theorem yH (t:TypeId)(x y:Operand):aB P ⟨d,.store t x y,ty,ps,af,gd⟩=false:=rfl
theorem Ea (t:TypeId)(x:Operand):aB P ⟨d,.box t x,ty,ps,af,gd⟩=true:=rfl
theorem yI (t:TypeId):aB P ⟨d,.alloc t,ty,ps,af,gd⟩=true:=rfl
theorem qz (t:TypeId)(x y:Operand):aB P ⟨d,.makeSlice t x y,ty,ps,af,gd⟩=true:=rfl
theorem A9 (c:Go.Call):aB P ⟨d,.call c,ty,ps,af,gd⟩=false:=rfl
theorem tW (a b:TypeId)(x:Operand):aB P ⟨d,.convert a b x,ty,ps,af,gd⟩=jf P a b:=rfl
theorem Ba (x:Operand):aB P ⟨d,.move x,ty,ps,af,gd⟩=false:=rfl
theorem vy (x:Operand):aB P ⟨d,.assign x,ty,ps,af,gd⟩=false:=rfl
theorem Bb (a b c:Operand):aB P ⟨d,.pick a b c,ty,ps,af,gd⟩=false:=rfl
theorem Bc (t:TypeId)(x:Operand):aB P ⟨d,.load t x,ty,ps,af,gd⟩=false:=rfl
theorem rP (x:Operand):aB P ⟨d,.nilCheck x,ty,ps,af,gd⟩=false:=rfl
theorem yJ (op:BinOp)(t t2:TypeId)(x y:Operand):aB P ⟨d,.binOp op t x y t2,ty,ps,af,gd⟩=false:=rfl
theorem Bd (op:UnOp)(t:TypeId)(x:Operand):aB P ⟨d,.unOp op t x,ty,ps,af,gd⟩=false:=rfl
theorem qA (t:TypeId)(x y:Operand):aB P ⟨d,.indexAddr t x y,ty,ps,af,gd⟩=false:=rfl
theorem yK (t:TypeId)(x y:Operand):aB P ⟨d,.index t x y,ty,ps,af,gd⟩=false:=rfl
theorem qB (t:TypeId)(x:Operand)(i:Nat):aB P ⟨d,.fieldAddr t x i,ty,ps,af,gd⟩=false:=rfl
theorem yL (t:TypeId)(x:Operand)(i:Nat):aB P ⟨d,.field t x i,ty,ps,af,gd⟩=false:=rfl
theorem yM (t:TypeId)(x:Operand)(l h m:Option Operand):aB P ⟨d,.slice t x l h m,ty,ps,af,gd⟩=false:=rfl
theorem tX (x:Operand)(i:Nat):aB P ⟨d,.extract x i,ty,ps,af,gd⟩=false:=rfl
theorem tY (a b:TypeId)(x:Operand):aI P ⟨d,.convert a b x,ty,ps,af,gd⟩=match P.underlying b with
  |some (.slice _)=>false
  |_=>true:=rfl
end
theorem vz (P:Program)(f:aR)(s:aq):cS P f s []=some []:=rfl
theorem vA (P:Program)(f:aR)(s:aq)(t:Tmp)(r:List ResultVar):cS P f s (.tmp t::r)=if t<f.n then(match cS P f s r with
  |some l=>some (f.get t::l)
  |none=>none) else none:=by
 by_cases h:t<f.n
 ·have hb:Nat.blt t f.n=true:=by simpa [Nat.blt_eq] using h
  rw[if_pos h]
  conv=>lhs;rw[cS]
  simp only[hb,if_true]
  rfl
 ·have hb:Nat.blt t f.n=false:=by rw[<-Bool.not_eq_true,Nat.blt_eq];exact h
  rw[if_neg h]
  conv=>lhs;rw[cS]
  simp[hb]
section
variable (P:Program) (t:TypeId) (k:IntKind) (a b:Int)
theorem Lu:du P .add t (.int k a) (.int k b)=some (.int k (k.wrap (a+b))):=by simp[du,jM]
theorem Lv:du P .sub t (.int k a) (.int k b)=some (.int k (k.wrap (a-b))):=by simp[du,jM]
theorem Lw:du P .mul t (.int k a) (.int k b)=some (.int k (k.wrap (a*b))):=by simp[du,jM]
theorem ej (h:b≠0):du P .quo t (.int k a) (.int k b)=some (.int k (k.wrap (a.tdiv b))):=by simp[du,jM,h]
theorem cK (h:b≠0):du P .rem t (.int k a) (.int k b)=some (.int k (a.tmod b)):=by simp[du,jM,h]
theorem ia:du P .and t (.int k a) (.int k b)=some (.int k (k.wrap (BitVec.ofInt k.bits a&&&BitVec.ofInt k.bits b).toNat)):=by simp[du,jM]
theorem mS:du P .or t (.int k a) (.int k b)=some (.int k (k.wrap (BitVec.ofInt k.bits a|||BitVec.ofInt k.bits b).toNat)):=by simp[du,jM]
theorem Lx:du P .eql t (.int k a) (.int k b)=some (.bool (decide (a=b))):=by simp[du,jM];rfl
theorem ic:du P .neq t (.int k a) (.int k b)=some (.bool (decide (a≠b))):=by
 simp only[du,jM,if_true]
 by_cases h:a=b<;>simp[h]
theorem Ly:du P .lss t (.int k a) (.int k b)=some (.bool (decide (a<b))):=by simp[du,jM]
theorem LF:du P .leq t (.int k a) (.int k b)=some (.bool (decide (a<=b))):=by simp[du,jM]
theorem LG:du P .gtr t (.int k a) (.int k b)=some (.bool (decide (b<a))):=by simp[du,jM]
theorem LH:du P .geq t (.int k a) (.int k b)=some (.bool (decide (b<=a))):=by simp[du,jM]
theorem sM (k' :IntKind)(h:0<=b):du P .shl t (.int k a) (.int k' b)=some (.int k (k.wrap (a*2^(min b.toNat k.bits)))):=by simp[du,sH];omega
theorem sO (k' :IntKind)(h:0<=b):du P .shr t (.int k a) (.int k' b)=some (.int k (a.fdiv (2^(min b.toNat k.bits)))):=by simp[du,sH];omega
theorem PK (x:Bool):Uu .not (.bool x)=some (.bool (!x)):=rfl
theorem PL:Uu .neg (.int k a)=some (.int k (k.wrap (0-a))):=rfl
end
theorem aD {x:Int}(h: -9223372036854775808<=x/\x<=9223372036854775807):IntKind.i64.wrap x=x:=by
 have e1:IntKind.i64.bits=64:=rfl
 have e2:IntKind.i64.signed=true:=rfl
 simp only[IntKind.wrap,e1,e2,Bool.true_and]
 split<;>simp_all<;>omega
theorem eZ {x:Int}:IntKind.u8.wrap x=x%256:=by
 have e1:IntKind.u8.bits=8:=rfl
 have e2:IntKind.u8.signed=false:=rfl
 simp only[IntKind.wrap,e1,e2,Bool.false_and]
 simp
theorem bd {P:Program}{s:aq}{src dst:TypeId}{k j:IntKind}{d:TypeDesc}{n:Int}(h1:P.underlying src=some d)(h2:P.underlying dst=some (.int k)):gG P s src dst (.int j n)=some (.int k (k.wrap n),s):=by
 unfold gG;rw[h1,h2]
theorem Be (b:Bool):bX (.bool b) (.bool b)=true:=by simp[bX,cW]
theorem dx (k:IntKind)(n:Int):bX (.int k n) (.int k n)=true:=by simp[bX,cW]
theorem cM (b:ByteArray):bX (.string b) (.string b)=true:=by simp[bX,cW]
theorem lf (a:Option Addr):bX (.pointer a) (.pointer a)=true:=by simp[bX,cW]
theorem nS (a:Option Addr)(n c:Nat):bX (.slice a n c) (.slice a n c)=true:=by
 simp only[bX,cW,if_true,Bool.true_and,Bool.and_eq_true];exact⟨Nat.beq_refl n,Nat.beq_refl c⟩
structure ar (base:Nat) (s s' :aq):Prop where
 next:s.next<=s'.next
 get:∀i,i<base->s'.heap.get i=s.heap.get i
theorem ar.refl (base:Nat)(s:aq):ar base s s:=⟨Nat.le_refl _,fun _ _=>rfl⟩
theorem ar.trans {base:Nat}{s s' Bf:aq}(h:ar base s s')(k:ar base s' Bf):ar base s Bf:=⟨Nat.le_trans h.next k.next,fun i hi=>(k.get i hi).trans (h.get i hi)⟩
theorem ar.weaken {base b2:Nat}{s s' :aq}(h:ar base s s')(hb:b2<=base):ar b2 s s' :=⟨h.next,fun i hi=>h.get i (by omega)⟩
theorem ar.dL {base:Nat}{s s' :aq}(h:ar base s s'){i:Nat}(hi:i<base):s'.bK i=s.bK i:=by simp only[aq.bK,h.get i hi]
theorem ar.new (s:aq)(o:AO):ar s.next s (s.new o):=by
 refine⟨by simp[aq.new],fun i hi=> ?_⟩
 simp only[aq.new,Tr.ct _ _ _ _ _ (Nat.ne_of_gt hi)]
theorem lh (s:aq)(b:iC):(s.new (.dL b)).bK s.next=some b:=by simp only[aq.new,aq.bK,Tr.bu _ _ _ _ (deep (by omega))]
theorem vB (s:aq)(o:AO):(s.new o).next=s.next+1:=rfl
inductive aM (s:aq) (z:Nat):Value->Nat->List Value->Prop
 |nil:aM s z (.slice none 0 0) 0 []
 |bare (i off:Nat):aM s z (.slice (some ⟨i,off,none⟩) 0 0) 0 []
 |of (i off n c:Nat) (b:iC) (l:List Value) (hi:i<s.next) (hb:s.bK i=some b) (hz:b.lW=z) (hl:b.low<=c) (hc:c<=b.cells.length+1)
  (hlen:l.length=n*z) (fL:off+n*z<c) (ht:(b.cells.drop off).take (n*z)=l):aM s z (.slice (some ⟨i,off,none⟩) n c) n l
theorem aM.length {s:aq}{z:Nat}{v:Value}{n:Nat}{l:List Value}(h:aM s z v n l):l.length=n*z:=by
 cases h with
 |nil=>simp
 |bare=>simp
 |of i off n c b l hi hb hz hl hc hlen fL ht=>exact hlen
theorem aM.keeps {s s' :aq}{z:Nat}{v:Value}{n:Nat}{l:List Value}(h:aM s z v n l)(k:ar s.next s s'):aM s' z v n l:=by
 cases h with
 |nil=>exact .nil
 |bare=>exact .bare _ _
 |of i off n c b l hi hb hz hl hc hlen fL ht=>exact .of i off n c b l (Nat.lt_of_lt_of_le hi k.next) ((k.dL hi).trans hb) hz hl hc hlen fL ht
theorem aM.aV {P:Program}{t e:TypeId}(hu:P.underlying t=some (.slice e)){s s2:aq}{z:Nat}{v:Value}{n:Nat}{l:List Value}(h:aM s z v n l):Cl.aV P s2 t v=some (.int .i64 n):=by
 unfold Cl.aV;rw[hu]
 cases h<;>rfl
def aT (z:Nat)(v:Value)(k:Nat):Value:=
 match v with
 | .slice (some ⟨i,off,none⟩) _ c=> .pointer (some ⟨i,off+k*z,some c⟩)
 |_=> .pointer none
theorem iz {s:aq}{i off c n:Nat}{b:iC}(hb:s.bK i=some b)(hl:b.low<=c)(hc:c<=b.cells.length+1)(ho:off+n<c):s.dm i off c n=some ((b.cells.drop off).take n):=by
 unfold aq.dm
 rw[hb]
 have h1:(Nat.ble b.low c&&Nat.ble c (b.cells.length+1)&&Nat.blt (off+n) c)=true:=by
  simp only[Bool.and_eq_true,Nat.ble_eq,Nat.blt_eq];exact⟨⟨hl,hc⟩,ho⟩
 simp only[h1,if_true]
 rw[q9,uY,if_pos (by simp;omega)]
theorem aM.indexAddr {P:Program}{t e:TypeId}{z:Nat}(hu:P.underlying t=some (.slice e))(cJ:bq P e=some z){s:aq}{v:Value}{n:Nat}{l:List Value}(h:aM s z v n l){k:IntKind}{x:Int}(h0:0<=x)(hx:x<n):
  dC P t v (.int k x)=some (aT z v x.toNat):=by
 obtain⟨y,rfl⟩:∃y:Nat,x=y:=⟨x.toNat,by omega⟩
 have hy:y<n:=by omega
 unfold dC;rw[hu]
 cases h with
 |nil=>omega
 |bare=>omega
 |of i off n c b l hi hb hz hl hc hlen fL ht=>
  have eR:Nat.blt y n=true:=by simpa [Nat.blt_eq] using hy
  show(match bq P e with|some z=>if Nat.blt y n then some (Value.pointer (some ⟨i,off+y*z,some c⟩)) else none|none=>none)=_
  rw[cJ]
  simp only[eR,if_true,aT,Int.toNat_natCast]
theorem aM.cells {s:aq}{z:Nat}{v:Value}{n:Nat}{l:List Value}(h:aM s z v n l){k:Nat}(hk:k<n):∃i off c,aT z v k= .pointer (some ⟨i,off,some c⟩)/\s.dm i off c z=some ((l.drop (k*z)).take z):=by
 cases h with
 |nil=>omega
 |bare=>omega
 |of i off n c b l hi hb hz hl hc hlen fL ht=>
  have YX:k*z+z<=n*z:=by
   have:(k+1)*z<=n*z:=Nat.mul_le_mul_right z hk
   rwa [Nat.succ_mul] at this
  refine⟨i,off+k*z,c,rfl,?_⟩
  rw[iz hb hl hc (by omega),<-ht,List.drop_take,List.drop_drop,List.take_take]
  congr 2
  omega
theorem aM.cU {P:Program}{e:TypeId}(ow:cw P e=some false){s:aq}{v:Value}{n:Nat}{l:List Value}(h:aM s 1 v n l){k:Nat}(hk:k<n):aG P s e (aT 1 v k)=some (l.getD k undef):=by
 obtain⟨i,off,c,e1,e2⟩:=h.cells hk
 have hl:=h.length
 rw[e1]
 unfold aG
 simp only[ow,e2]
 have:(l.drop (k*1)).take 1=[l.getD k undef]:=by
  rw[Nat.mul_one,List.take_one,List.head?_drop,List.getElem?_eq_getElem (by omega)]
  simp[List.getD,List.getElem?_eq_getElem (show k<l.length by omega)]
 rw[this]
theorem aM.eF {P:Program}{e:TypeId}{z:Nat}(ow:cw P e=some true)(cJ:bq P e=some z){s:aq}{v:Value}{n:Nat}{l:List Value}(h:aM s z v n l){k:Nat}(hk:k<n):aG P s e (aT z v k)=some (.agg ((l.drop (k*z)).take z).toArray):=by
 obtain⟨i,off,c,e1,e2⟩:=h.cells hk
 rw[e1]
 unfold aG
 simp only[ow,cJ,e2]
def ez (z:Nat)(v:Value)(lo hi:Nat):Value:=
 match v with
 | .slice (some ⟨i,off,none⟩) _ c=> .slice (some ⟨i,off+lo*z,none⟩) (hi-lo) c
 |_=> .slice none 0 0
theorem aM.cut {s:aq}{z:Nat}{v:Value}{n:Nat}{l:List Value}(h:aM s z v n l){lo hi:Nat}(h1:lo<=hi)(h2:hi<=n):aM s z (ez z v lo hi) (hi-lo) ((l.drop (lo*z)).take ((hi-lo)*z)):=by
 cases h with
 |nil=>obtain rfl:hi=0:=by omega
       obtain rfl:lo=0:=by omega
       simpa [ez] using(aM.nil (s:=s) (z:=z))
 |bare i off=>obtain rfl:hi=0:=by omega
              obtain rfl:lo=0:=by omega
              simpa [ez] using(aM.bare (s:=s) (z:=z) i (off+0*z))
 |of i off n c b l u9 hb hz hl hc hlen fL ht=>
  have e:lo*z+(hi-lo)*z<=n*z:=by
   rw[<-Nat.add_mul];exact Nat.mul_le_mul_right z (by omega)
  refine .of i (off+lo*z) (hi-lo) c b _ u9 hb hz hl hc ?_ (by omega) ?_
  ·rw[List.length_take,List.length_drop,hlen];omega
  ·rw[<-ht,List.drop_take,List.drop_drop,List.take_take]
   congr 1
   omega
theorem aM.slice {P:Program}{t e:TypeId}{z:Nat}(hu:P.underlying t=some (.slice e))(cJ:bq P e=some z){s:aq}{v:Value}{n:Nat}{l:List Value}(h:aM s z v n l){lo hi:Option Value}{a b:Nat}
  (ha:hJ lo 0=some a) (hb:hJ hi n=some b) (h1:a<=b) (h2:b<=n):dH P s t v lo hi none=some (ez z v a b):=by
 have CZ:(Nat.ble a b&&Nat.ble b n)=true:=by simp only[Bool.and_eq_true,Nat.ble_eq];exact⟨h1,h2⟩
 cases h with
 |nil=>unfold dH;rw[hu];simp only[ha,hb,cJ,CZ,if_true,ez]
 |bare i off=>
  unfold dH;rw[hu];simp only[ha,hb,cJ,CZ,if_true,jW,ez]
 |of i off n c bk l u9 hbk hz hl hc hlen fL ht=>
  have he:jW s i c z=true:=by
   unfold jW
   split
   ·rfl
   ·rw[hbk];simp[hz]
  unfold dH;rw[hu];simp only[ha,hb,cJ,CZ,if_true,he,ez]
theorem kN (d:Nat):hJ none d=some d:=rfl
theorem kO {k:IntKind}{x:Int}{d:Nat}(h:0<=x):hJ (some (.int k x)) d=some x.toNat:=by
 obtain⟨y,rfl⟩:∃y:Nat,x=y:=⟨x.toNat,by omega⟩
 rfl
theorem aM.src {s:aq}{z:Nat}{v:Value}{n:Nat}{l:List Value}(h:aM s z v n l):dJ s z v=some (n,l):=by
 cases h with
 |nil=>rfl
 |bare=>rfl
 |of i off n c b l u9 hb hz hl hc hlen fL ht=>
  cases n with
  |zero=>
   have:l=[]:=List.eq_nil_of_length_eq_zero (by simpa using hlen)
   subst this;rfl
  |succ n=>
   simp only[dJ]
   rw[iz hb hl hc fL,ht]
inductive Own (s:aq) (z:Nat):Value->Nat->List Value->Prop
 |nil:Own s z (.slice none 0 0) 0 []
 |of (i n low:Nat) (l:List Value) (hi:i<s.next) (hb:s.bK i=some ⟨l,low,true,z⟩) (hl:low<=l.length+1) (hlen:l.length=n*z):Own s z (.slice (some ⟨i,0,none⟩) n (l.length+1)) n l
def aJ:Value->Option Nat
 | .slice (some a) _ _=>some a.block
 | .pointer (some a)=>some a.block
 |_=>none
def aN (base:Nat)(v:Value):Prop:=∀i,aJ v=some i->base<=i
theorem aN.nil (base:Nat):aN base (.slice none 0 0):=fun i h=>by cases h
theorem Own.aH {s:aq}{z:Nat}{v:Value}{n:Nat}{l:List Value}(h:Own s z v n l):aM s z v n l:=by
 cases h with
 |nil=>exact .nil
 |of i n low l hi hb hl hlen=>exact .of i 0 n _ _ l hi hb rfl hl (Nat.le_refl _) hlen (by omega) (by simp[<-hlen])
theorem Own.length {s:aq}{z:Nat}{v:Value}{n:Nat}{l:List Value}(h:Own s z v n l):l.length=n*z:=h.aH.length
theorem Own.keeps {s s' :aq}{z:Nat}{v:Value}{n:Nat}{l:List Value}(h:Own s z v n l)(k:ar s.next s s'):Own s' z v n l:=by
 cases h with
 |nil=>exact .nil
 |of i n low l hi hb hl hlen=>exact .of i n low l (Nat.lt_of_lt_of_le hi k.next) ((k.dL hi).trans hb) hl hlen
structure bm (v:Value) (s s' :aq):Prop where
 next:s.next<=s'.next
 get:∀i,i<s.next->aJ v≠some i->s'.heap.get i=s.heap.get i
theorem bm.keeps {base:Nat}{v:Value}{s s' :aq}(h:bm v s s')(hf:aN base v)(hb:base<=s.next):ar base s s' :=
 ⟨h.next,fun i hi=>h.get i (by omega) (fun e=>by have:=hf i e;omega)⟩
theorem Own.turns {s s' :aq}{z:Nat}{v u:Value}{n:Nat}{l:List Value}(h:Own s z v n l)(k:bm u s s')(cD:∀i,aJ v=some i->aJ u≠some i):Own s' z v n l:=by
 cases h with
 |nil=>exact .nil
 |of i n low l hi hb hl hlen=>
  refine .of i n low l (Nat.lt_of_lt_of_le hi k.next) ?_ hl hlen
  simp only[aq.bK,k.get i hi (cD i rfl)];exact hb
theorem Own.new {s:aq}{cs:List Value}{n z:Nat}(h:cs.length=n*z):aX s cs n z=some (.slice (some ⟨s.next,0,none⟩) n (cs.length+1),s.new (.dL ⟨cs,1,true,z⟩))/\Own (s.new (.dL ⟨cs,1,true,z⟩)) z (.slice (some ⟨s.next,0,none⟩) n (cs.length+1)) n cs:=by
 refine⟨by simp[aX,aq.room],.of s.next n 1 cs (by rw[vB];omega) (lh _ _) (by omega) h⟩
theorem Own.append {P:Program}{st xt e:TypeId}{xd:TypeDesc}{z lX:Nat}{zv:Value}(hu:P.underlying st=some (.slice e))(Nf:P.underlying xt=some xd)(Gw:(∃e2,xd= .slice e2)\/xd= .string)(cJ:bq P e=some z)(yg:eW P e=some lX)(qW:cE P e=some zv)(mf:Nat.beq zv.cells.toList.length z=true)
  {s:aq} {x y:Value} {n m:Nat} {l new:List Value} (hx:Own s z x n l) (hy:dJ s z y=some (m,new)) (ir:new.length=m*z) (sJ:0<z) (dE:new.all aO=true) (jv:(n+m)*lX<=140737488355328) (eR:n+m<=140737488355328):
  ∃x' s',gl P s st xt x y=some (x',s')/\Own s' z x' (n+m) (l++new)/\bm x s s' /\(aJ x' =aJ x\/∃i,aJ x' =some i/\s.next<=i):=by
 have hy:EU s z lX zv xd y=some (m,new):=by rcases Gw with ⟨e2,rfl⟩|rfl<;>exact hy
 have jg:(Nat.ble ((n+m)*lX) 140737488355328&&Nat.ble (n+m) 140737488355328&&Nat.blt 0 z&&new.all aO&&Nat.beq zv.cells.toList.length z)=true:=by
  simp only[Bool.and_eq_true,Nat.ble_eq,Nat.blt_eq];exact⟨⟨⟨⟨jv,eR⟩,sJ⟩,dE⟩,mf⟩
 cases m with
 |zero=>
  have hn:new=[]:=List.eq_nil_of_length_eq_zero (by simpa using ir)
  subst hn
  refine⟨x,s,?_,by simpa using hx,⟨Nat.le_refl _,fun _ _ _=>rfl⟩,.inl rfl⟩
  unfold gl
  rcases Gw with ⟨e2,rfl⟩|rfl<;>
  simp only[hu,Nf,cJ,yg,qW,hy]
  all_goals (cases hx<;>simp only[jg,if_true])
 |succ m=>
  cases hx with
  |nil=>
   obtain⟨h1,h2⟩:=Own.new (s:=s) ir
   refine⟨_,_,?_,by simpa using h2,⟨by rw[vB];omega,fun i hi _=>(ar.new s _).get i hi⟩,.inr ⟨s.next,rfl,Nat.le_refl _⟩⟩
   unfold gl
   rcases Gw with ⟨e2,rfl⟩|rfl<;>
   simp only[hu,Nf,cJ,yg,qW,hy,jg,if_true,h1]
   all_goals simp
  |of i n low l hi hb hl hlen=>
   have oT:(true&&Nat.ble low (l.length+1)&&Nat.beq z z)=true:=by simp[hl]
   have va:(Nat.beq (l.length+1) (l.length+1)&&Nat.beq 0 0&&Nat.beq (n*z) l.length)=true:=by simp[hlen]
   refine⟨.slice (some ⟨i,0,none⟩) (n+(m+1)) ((l++new).length+1),s.put i (.dL ⟨l++new,low,true,z⟩),?_,?_,⟨by simp[aq.put],fun j _ hj=> ?_⟩,.inl rfl⟩
   ·unfold gl
    rcases Gw with ⟨e2,rfl⟩|rfl<;>
    simp only[hu,Nf,cJ,yg,qW,hy,jg,if_true,hb,oT,va]
   ·refine .of i _ low _ (by simpa [aq.put] using hi) (by rw[aq.cg _ _ _ (by omega)]) (by rw[List.length_append];omega) (by rw[List.length_append,hlen,ir,Nat.add_mul n (m+1) z])
   ·rw[aq.a8]
    intro e;subst e;exact hj rfl
theorem br (l:List UInt8):(ofBytes l).length=l.length:=by simp[ofBytes]
theorem aZ {l:List UInt8}{i:Nat}(h:i<l.length):(ofBytes l).getD i undef= .int .u8 ((l.getD i 0).toNat:Int):=by
 simp[ofBytes,List.getD,List.getElem?_eq_getElem h]
theorem aK (a b:List UInt8):ofBytes (a++b)=ofBytes a++ofBytes b:=by simp[ofBytes]
theorem Fu (a:UInt8)(b:List UInt8):ofBytes (a::b)= .int .u8 (a.toNat:Int)::ofBytes b:=rfl
theorem pZ (n:Nat)(l:List UInt8):(ofBytes l).take n=ofBytes (l.take n):=by simp[ofBytes,List.map_take]
theorem Fv (n:Nat)(l:List UInt8):(ofBytes l).drop n=ofBytes (l.drop n):=by simp[ofBytes,List.map_drop]
theorem cX (l:List UInt8):(ofBytes l).all aO=true:=by simp[ofBytes,aO]
theorem bA (z:Nat)(v:Value)(k:Nat):bX (aT z v k) (aT z v k)=true:=by
 unfold aT;split<;>exact lf _
theorem Bg (z:Nat)(v:Value)(a b:Nat):bX (ez z v a b) (ez z v a b)=true:=by
 unfold ez;split<;>exact nS _ _ _
theorem aM.self {s:aq}{z:Nat}{v:Value}{n:Nat}{l:List Value}(h:aM s z v n l):bX v v=true:=by
 cases h<;>exact nS _ _ _
theorem Own.self {s:aq}{z:Nat}{v:Value}{n:Nat}{l:List Value}(h:Own s z v n l):bX v v=true:=h.aH.self
theorem aM.mF {P:Program}{t e:TypeId}{z:Nat}(hu:P.underlying t=some (.slice e))(cJ:bq P e=some z){s:aq}{v:Value}{n:Nat}{l:List Value}(h:aM s z v n l){k k2:IntKind}{x y:Int}
  (h0:0<=x) (h1:x<=y) (h2:y<=n):dH P s t v (some (.int k x)) (some (.int k2 y)) none=some (ez z v x.toNat y.toNat):=
 h.slice hu cJ (kO h0) (kO (by omega)) (by omega) (by omega)
theorem aM.fz {P:Program}{t e:TypeId}{z:Nat}(hu:P.underlying t=some (.slice e))(cJ:bq P e=some z){s:aq}{v:Value}{n:Nat}{l:List Value}(h:aM s z v n l){k:IntKind}{x:Int}
  (h0:0<=x) (h2:x<=n):dH P s t v (some (.int k x)) none none=some (ez z v x.toNat n):=
 h.slice hu cJ (kO h0) rfl (by omega) (by omega)
theorem aM.gw {P:Program}{t e:TypeId}{z:Nat}(hu:P.underlying t=some (.slice e))(cJ:bq P e=some z){s:aq}{v:Value}{n:Nat}{l:List Value}(h:aM s z v n l){k:IntKind}{y:Int}
  (h1:0<=y) (h2:y<=n):dH P s t v none (some (.int k y)) none=some (ez z v 0 y.toNat):=
 h.slice hu cJ rfl (kO (by omega)) (by omega) (by omega)
theorem aM.kg {s:aq}{z:Nat}{v:Value}{n:Nat}{l:List Value}(h:aM s z v n l):v.cells.toList=[v]:=by cases h<;>rfl
theorem aM.aO {s:aq}{z:Nat}{v:Value}{n:Nat}{l:List Value}(h:aM s z v n l):Cl.aO v=true:=by cases h<;>rfl
theorem aM.turns {s s' :aq}{z:Nat}{v u:Value}{n:Nat}{l:List Value}(h:aM s z v n l)(k:bm u s s')(cD:∀i,i<s.next->aJ v=some i->aJ u≠some i):aM s' z v n l:=by
 cases h with
 |nil=>exact .nil
 |bare=>exact .bare _ _
 |of i off n c b l hi hb hz hl hc hlen fL ht=>
  refine .of i off n c b l (Nat.lt_of_lt_of_le hi k.next) ?_ hz hl hc hlen fL ht
  simp only[aq.bK,k.get i hi (cD i hi rfl)];exact hb
theorem aM.lL {s:aq}{v:Value}{l:List UInt8}(h:aM s 1 v l.length (ofBytes l)){lo hi:Nat}(h1:lo<=hi)(h2:hi<=l.length):aM s 1 (ez 1 v lo hi) ((l.drop lo).take (hi-lo)).length (ofBytes ((l.drop lo).take (hi-lo))):=by
 have:=h.cut h1 h2
 rw[Nat.mul_one,Nat.mul_one,Fv,pZ] at this
 rw[List.length_take,List.length_drop,Nat.min_eq_left (by omega)]
 exact this
structure Grown (x:Value) (s:aq) (v:Value) (s' :aq):Prop where
 turns:bm x s s'
 id:aJ v=aJ x\/∃i,aJ v=some i/\s.next<=i
theorem Grown.refl (x:Value)(s:aq):Grown x s x s:=⟨⟨Nat.le_refl _,fun _ _ _=>rfl⟩,.inl rfl⟩
theorem Grown.trans {x y v:Value}{s s' Bf:aq}(h:Grown x s y s')(k:Grown y s' v Bf):Grown x s v Bf:=by
 refine⟨⟨Nat.le_trans h.turns.next k.turns.next,fun i hi cD=> ?_⟩,?_⟩
 ·rw[k.turns.get i (Nat.lt_of_lt_of_le hi h.turns.next) ?_,h.turns.get i hi cD]
  rcases h.id with e|⟨j,e,hj⟩
  ·rw[e];exact cD
  ·rw[e];intro q;injection q with q;omega
 ·rcases k.id with e|⟨j,e,hj⟩
  ·rcases h.id with e2|⟨j,e2,hj⟩
   ·left;rw[e,e2]
   ·right;exact⟨j,by rw[e,e2],hj⟩
  ·right;exact⟨j,e,Nat.le_trans h.turns.next hj⟩
theorem Grown.stay {base:Nat}{x v:Value}{s s' :aq}(h:Grown x s v s')(hf:aN base x)(hb:base<=s.next):ar base s s' :=h.turns.keeps hf hb
theorem Grown.fresh {base:Nat}{x v:Value}{s s' :aq}(h:Grown x s v s')(hf:aN base x)(hb:base<=s.next):aN base v:=fun i hi=>by
 rcases h.id with e|⟨j,e,hj⟩
 ·exact hf i (by rw[<-e];exact hi)
 ·rw[e] at hi;injection hi with hi;omega
theorem Grown.after {x v:Value}{s s1 s' :aq}(k:ar s.next s s1)(h:Grown x s1 v s'):Grown x s v s' :=by
 refine⟨⟨Nat.le_trans k.next h.turns.next,fun i hi cD=> ?_⟩,h.id.imp (fun e=>e) (fun⟨i,a,b⟩=>⟨i,a,Nat.le_trans k.next b⟩)⟩
 rw[h.turns.get i (Nat.lt_of_lt_of_le hi k.next) cD,k.get i hi]
theorem Own.jh {s:aq}{z:Nat}{v:Value}{n:Nat}{l:List Value}(h:Own s z v n l):∀i,aJ v=some i->i<s.next:=by
 cases h with
 |nil=>intro i h;cases h
 |of i n low l hi hb hl hlen=>intro j h;injection h with h;subst h;exact hi
theorem lr {P:Program}{t e:TypeId}(hu:P.underlying t=some (.pointer e))(a:Addr):du P .eql t (.pointer (some a)) (.pointer none)=some (.bool false):=by
 simp[du,qY,hu]
def Bh:Value->Bool
 | .slice none _ _=>true
 |_=>false
theorem aM.p5 {P:Program}{t e:TypeId}(hu:P.underlying t=some (.slice e)){s:aq}{z:Nat}{v:Value}{n:Nat}{l:List Value}(h:aM s z v n l):du P .eql t v (.slice none 0 0)=some (.bool (Bh v)):=by
 cases h<;>simp[du,qY,hu,Bh]
theorem aM.isNil {s:aq}{z:Nat}{v:Value}{n:Nat}{l:List Value}(h:aM s z v n l)(hn:Bh v=true):n=0/\l=[]/\v= .slice none 0 0:=by
 cases h with
 |nil=>exact⟨rfl,rfl,rfl⟩
 |bare=>cases hn
 |of=>cases hn
def Df (base:Nat)(s:aq)(z:Nat)(v:Value)(n:Nat)(l:List Value):Prop:=∀s',ar base s s' ->aM s' z v n l
theorem Df.aH {base:Nat}{s:aq}{z:Nat}{v:Value}{n:Nat}{l:List Value}(h:Df base s z v n l):aM s z v n l:=h s (ar.refl _ _)
theorem Df.stay {base:Nat}{s s' :aq}{z:Nat}{v:Value}{n:Nat}{l:List Value}(h:Df base s z v n l)(k:ar base s s'):Df base s' z v n l:=fun Bf k' =>h Bf (k.trans k')
theorem aM.low {s:aq}{z:Nat}{v:Value}{n:Nat}{l:List Value}(h:aM s z v n l):Df s.next s z v n l:=fun _ k=>h.keeps k
theorem Df.up {base b2:Nat}{s:aq}{z:Nat}{v:Value}{n:Nat}{l:List Value}(h:Df base s z v n l)(hb:base<=b2):Df b2 s z v n l:=fun _ k=>h _ (k.weaken hb)
theorem xk {P:Program}{s:aq}{t e:TypeId}{zv:Value}{z:Nat}(hu:P.underlying t=some (.slice e))(cJ:bq P e=some z)(hz:cE P e=some zv)(hp:cH zv=true)(hl:Nat.beq zv.cells.toList.length z=true):aU P s t 0 []=aX s [] 0 z:=by
 unfold aU;rw[hu];simp only[cJ,hz,hp,hl];simp[bS,iM]
end Go.Cl
