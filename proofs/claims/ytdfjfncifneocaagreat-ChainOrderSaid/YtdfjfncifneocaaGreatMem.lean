/-
 The clean machine, part 20: what a call and a piece of code come to, whatever the fuel beyond some. A reading of code as a sentence.
-/
import Derived.Test.YtdfjfncifneocaaGreatMcB
namespace Go.Cl
theorem cI.refl (s:aq):cI s s (fun _=>none):=⟨rfl,fun _ _ h=>(by cases h),fun _=>rfl⟩
theorem yV {P:Program}{o:Oper}{f:aW}{s:aq}(hw:WF s){v:Value}{t:aq}(h:cS P o f s=some (.val v t)):bW s t:=by
 obtain⟨_,_,_,k⟩:=kE (cI.refl s) hw h
 exact k
def Runs (P:Program)(lib:aA)(g:FuncId)(args:List Value)(s:aq)(Q:Value->aq->Prop):Prop:=
 WF s->∃v s',(∃n,∀m,n<=m->gX P lib m g args s=some (v,s'))/\bW s s' /\Q v s'
def Comes (P:Program)(lib:aA)(c:Code)(f:aW)(s:aq)(Q:AX->aW->aq->Prop):Prop:=
 WF s->∃x f' s',(∃n,∀m,n<=m->exec P lib m c f s=some (x,f',s'))/\bW s s' /\Q x f' s'
def KK (P:Program)(lib:aA)(all l:List Oper)(f:aW)(s:aq)(Q:aW->aq->Prop):Prop:=
 WF s->∃f' s',(∃n,∀m,n<=m->gh P (gX P lib m) all l f s=some (f',s'))/\bW s s' /\Q f' s'
theorem Runs.mono {P:Program}{lib:aA}{g:FuncId}{args:List Value}{s:aq}{Q Q' :Value->aq->Prop}(h:Runs P lib g args s Q)(k:∀v s',Q v s' ->Q' v s'):Runs P lib g args s Q' :=by
 intro hw
 obtain⟨v,s',hn,hk,hq⟩:=h hw
 exact⟨v,s',hn,hk,k _ _ hq⟩
theorem Comes.mono {P:Program}{lib:aA}{c:Code}{f:aW}{s:aq}{Q Q' :AX->aW->aq->Prop}(h:Comes P lib c f s Q)(k:∀x f' s',Q x f' s' ->Q' x f' s'):Comes P lib c f s Q' :=by
 intro hw
 obtain⟨x,f',s',hn,hk,hq⟩:=h hw
 exact⟨x,f',s',hn,hk,k _ _ _ hq⟩
def fA (f:aW)(d:Option Tmp)(v:Value)(K:aW->Prop):Prop:=
 match kX f d v with
 |some f' =>K f'
 |none=>False
mutual
def pw (P:Program)(lib:aA)(all:List Oper):List Oper->aW->aq->(aW->aq->Prop)->Prop
 |[],f,s,Q=>Q f s
 |o::r,f,s,Q=>
  match cT all o f with
  |true=>
   match cS P o f s with
   |some (.val v s')=>fA f o.dst v fun f' =>pw P lib all r f' s' Q
   |some (.call g args)=>Runs P lib g args s fun v s' =>fA f o.dst v fun f' =>pw P lib all r f' s' Q
   |none=>False
  |false=>fA f o.dst undef fun f' =>pw P lib all r f' s Q
end
def dW (P:Program)(lib:aA)(all r:List Oper)(f:aW)(s:aq)(d:Option Tmp)(Q:aW->aq->Prop):Option AR->Prop
 |some (.val v s')=>fA f d v fun f' =>pw P lib all r f' s' Q
 |some (.call g args)=>Runs P lib g args s fun v s' =>fA f d v fun f' =>pw P lib all r f' s' Q
 |none=>False
def Gz (P:Program)(lib:aA)(all r:List Oper)(f:aW)(d:Option Tmp)(Q:aW->aq->Prop)(v:Value)(s' :aq):Prop:=fA f d v fun f' =>pw P lib all r f' s' Q
def w6 (P:Program)(lib:aA)(all:List Oper)(o:Oper)(r:List Oper)(f:aW)(s:aq)(Q:aW->aq->Prop):Bool->Prop
 |true=>dW P lib all r f s o.dst Q (cS P o f s)
 |false=>fA f o.dst undef fun f' =>pw P lib all r f' s Q
theorem Cu (P:Program)(lib:aA)(all:List Oper)(f:aW)(s:aq)(Q:aW->aq->Prop):pw P lib all [] f s Q=Q f s:=by simp only[pw]
theorem ub (P:Program)(lib:aA)(all:List Oper)(o:Oper)(r:List Oper)(f:aW)(s:aq)(Q:aW->aq->Prop):pw P lib all (o::r) f s Q=w6 P lib all o r f s Q (cT all o f):=by
 simp only[pw]
 cases cT all o f with
 |false=>rfl
 |true=>
  simp only[w6]
  cases cS P o f s with
  |none=>rfl
  |some a=>cases a<;>rfl
theorem vD (P:Program)(lib:aA)(all:List Oper)(o:Oper)(r:List Oper)(f:aW)(s:aq)(Q:aW->aq->Prop):w6 P lib all o r f s Q true=dW P lib all r f s o.dst Q (cS P o f s):=rfl
theorem eV (f:aW)(t:Tmp)(v:Value)(K:aW->Prop):fA f (some t) v K=if t<f.n then K (f.put t v) else False:=by
 unfold fA kX
 by_cases h:t<f.n
 ·have hb:Nat.blt t f.n=true:=by simpa [Nat.blt_eq] using h
  simp only[hb,if_true,if_pos h]
 ·have hb:Nat.blt t f.n=false:=by rw[<-Bool.not_eq_true,Nat.blt_eq];exact h
  simp[hb,if_neg h]
theorem GA (f:aW)(v:Value)(K:aW->Prop):fA f none v K=K f:=rfl
theorem pW (P:Program)(lib:aA)(all:List Oper)(op:Op)(ty:TypeId)(ps:String)(af:Array Edge)(gd:Option (Nat×Bool))(r:List Oper)(f:aW)(s:aq)(Q:aW->aq->Prop)(t:Tmp):w6 P lib all ⟨some t,op,ty,ps,af,gd⟩ r f s Q false=if t<f.n then pw P lib all r (f.put t undef) s Q else False:=by
 unfold w6;simp only;rw[eV]
theorem pX (P:Program)(lib:aA)(all:List Oper)(op:Op)(ty:TypeId)(ps:String)(af:Array Edge)(gd:Option (Nat×Bool))(r:List Oper)(f:aW)(s:aq)(Q:aW->aq->Prop):w6 P lib all ⟨none,op,ty,ps,af,gd⟩ r f s Q false=pw P lib all r f s Q:=rfl
theorem yW (P:Program)(lib:aA)(all r:List Oper)(f:aW)(s:aq)(t:Tmp)(Q:aW->aq->Prop)(v:Value)(s' :aq):dW P lib all r f s (some t) Q (some (.val v s'))=if t<f.n then pw P lib all r (f.put t v) s' Q else False:=by
 simp only[dW,eV]
theorem ta (P:Program)(lib:aA)(all r:List Oper)(f:aW)(s:aq)(Q:aW->aq->Prop)(v:Value)(s' :aq):dW P lib all r f s none Q (some (.val v s'))=pw P lib all r f s' Q:=rfl
theorem Cv (P:Program)(lib:aA)(all r:List Oper)(f:aW)(s:aq)(d:Option Tmp)(Q:aW->aq->Prop)(g:FuncId)(args:List Value):dW P lib all r f s d Q (some (.call g args))=Runs P lib g args s (Gz P lib all r f d Q):=rfl
theorem Cw (P:Program)(lib:aA)(all r:List Oper)(f:aW)(t:Tmp)(Q:aW->aq->Prop)(v:Value)(s' :aq):Gz P lib all r f (some t) Q v s' =if t<f.n then pw P lib all r (f.put t v) s' Q else False:=by
 simp only[Gz,eV]
theorem Cx (P:Program)(lib:aA)(all r:List Oper)(f:aW)(Q:aW->aq->Prop)(v:Value)(s' :aq):Gz P lib all r f none Q v s' =pw P lib all r f s' Q:=rfl
theorem px {P:Program}{lib:aA}{all r:List Oper}{f:aW}{d:Option Tmp}{Q:aW->aq->Prop}{v:Value}{s' :aq}(F:aW->Prop)(h:F f)(k:∀f,F f->Gz P lib all r f d Q v s'):Gz P lib all r f d Q v s' :=k f h
theorem ZC {P:Program}{lib:aA}(all:List Oper):∀(l:List Oper) (f:aW) (s:aq) (Q:aW->aq->Prop),pw P lib all l f s Q->KK P lib all l f s Q:=by
 intro l
 induction l with
 |nil=>intro f s Q h qC;rw[Cu] at h;exact⟨f,s,⟨0,fun m _=>rfl⟩,bW.refl qC,h⟩
 |cons o r ih=>
  intro f s Q h qC
  rw[ub] at h
  have nL:∀(v:Value) (s' :aq),(fA f o.dst v fun f' =>pw P lib all r f' s' Q)->∃f1,kX f o.dst v=some f1/\KK P lib all r f1 s' Q:=by
   intro v s' h
   unfold fA at h
   split at h
   ·exact⟨_,‹_›,ih _ _ _ h⟩
   ·exact h.elim
  cases hw:cT all o f with
  |false=>
   rw[hw] at h
   obtain⟨f1,hp,hc⟩:=nL _ _ h
   obtain⟨f',s',⟨n,hn⟩,hk,hq⟩:=hc qC
   refine⟨f',s',⟨n,fun m hm=> ?_⟩,hk,hq⟩
   simp only[gh,hw,hp]
   simpa using hn m hm
  |true=>
   rw[hw] at h
   simp only[w6] at h
   unfold dW at h
   split at h
   ·rename_i v s1 fY
    have lz:=yV qC fY
    obtain⟨f1,hp,hc⟩:=nL _ _ h
    obtain⟨f',s',⟨n,hn⟩,hk,hq⟩:=hc lz.wf
    refine⟨f',s',⟨n,fun m hm=> ?_⟩,lz.trans hk,hq⟩
    simp only[gh,hw,fY,hp]
    simpa using hn m hm
   ·rename_i g args fY
    obtain⟨v,s1,⟨n1,h1⟩,lz,h⟩:=h qC
    obtain⟨f1,hp,hc⟩:=nL _ _ h
    obtain⟨f',s',⟨n,hn⟩,hk,hq⟩:=hc lz.wf
    refine⟨f',s',⟨n+n1,fun m hm=> ?_⟩,lz.trans hk,hq⟩
    simp only[gh,hw,fY,h1 m (by omega),hp]
    simpa using hn m (by omega)
   ·exact h.elim
def iB (P:Program)(l:List Oper):Bool:=l.all (aP P)
def jU (P:Program)(all:List Oper):List Oper->aW->aq->(aW->Prop)->Prop
 |[],f,_,Q=>Q f
 |o::r,f,s,Q=>
  match cT all o f with
  |true=>
   match cS P o f s with
   |some (.val v _)=>bZ v v=true/\fA f o.dst v fun f' =>jU P all r f' s Q
   |_=>False
  |false=>fA f o.dst undef fun f' =>jU P all r f' s Q
def KL (P:Program)(all r:List Oper)(f:aW)(s:aq)(d:Option Tmp)(Q:aW->Prop):Option AR->Prop
 |some (.val v _)=>bZ v v=true/\fA f d v fun f' =>jU P all r f' s Q
 |_=>False
def GB (P:Program)(all:List Oper)(o:Oper)(r:List Oper)(f:aW)(s:aq)(Q:aW->Prop):Bool->Prop
 |true=>KL P all r f s o.dst Q (cS P o f s)
 |false=>fA f o.dst undef fun f' =>jU P all r f' s Q
theorem vE (P:Program)(all:List Oper)(f:aW)(s:aq)(Q:aW->Prop):jU P all [] f s Q=Q f:=rfl
theorem tc (P:Program)(all:List Oper)(o:Oper)(r:List Oper)(f:aW)(s:aq)(Q:aW->Prop):jU P all (o::r) f s Q=GB P all o r f s Q (cT all o f):=by
 simp only[jU]
 cases cT all o f with
 |false=>rfl
 |true=>
  simp only[GB]
  cases cS P o f s with
  |none=>rfl
  |some a=>cases a<;>rfl
theorem Cy (P:Program)(all:List Oper)(o:Oper)(r:List Oper)(f:aW)(s:aq)(Q:aW->Prop):GB P all o r f s Q true=KL P all r f s o.dst Q (cS P o f s):=rfl
theorem pY (P:Program)(all:List Oper)(op:Op)(ty:TypeId)(ps:String)(af:Array Edge)(gd:Option (Nat×Bool))(r:List Oper)(f:aW)(s:aq)(Q:aW->Prop)(t:Tmp):GB P all ⟨some t,op,ty,ps,af,gd⟩ r f s Q false=if t<f.n then jU P all r (f.put t undef) s Q else False:=by
 unfold GB;simp only;rw[eV]
theorem GC (P:Program)(all r:List Oper)(f:aW)(s:aq)(t:Tmp)(Q:aW->Prop)(v:Value)(s' :aq):KL P all r f s (some t) Q (some (.val v s'))=if bZ v v=true/\t<f.n then jU P all r (f.put t v) s Q else False:=by
 simp only[KL,eV]
 by_cases h1:bZ v v=true<;>by_cases h2:t<f.n<;>simp[h1,h2]
theorem uT {P:Program}:∀{l:List Oper},iB P l=true->(∀o∈l,aP P o=true)/\aT P l=0:=by
 intro l
 induction l with
 |nil=>intro _;exact⟨fun o h=>(by cases h),rfl⟩
 |cons o r ih=>
  intro h
  simp only[iB,List.all_cons,Bool.and_eq_true] at h
  obtain⟨h1,h2⟩:=ih (by simpa [iB] using h.2)
  have N1:aM P o=false:=by
   obtain⟨dst,op,type,pos,after,guard⟩:=o
   cases op<;>simp_all[aP,aM]
   case convert a b x=>
    simp only[jv]
    split
    ·rename_i _ e hb;simp_all
    ·rfl
  exact⟨fun p hp=>(List.mem_cons.mp hp).elim (fun e=>e▸h.1) (fun hp=>h1 p hp),by simp[aT,N1,h2]⟩
theorem mC {P:Program}{o:Oper}(hq:aP P o=true):aM P o=false:=by
 have:=(uT (P:=P) (l:=[o]) (by simp[iB,hq])).2
 simp only[aT] at this
 cases h:aM P o with
 |false=>rfl
 |true=>rw[h] at this;simp at this
theorem lA {P:Program}{o:Oper}(hq:aP P o=true):bp P o=false:=by simp[bp,hq]
theorem Fw {P:Program}{all:List Oper}{s:aq}(w7:List Nat){Q:aW->Prop}:∀(l:List Oper) (ms:List Nat) (i id:Nat) (f:aW),(∀o∈l,aP P o=true)->ms.length=l.length->jU P all l f s Q->
  ∃es f',(∀call,cO P call all ms l i id f s []=some es)/\(∀k,madeOf es k=[])/\aH P l es s=[s]/\cU l es f=f' /\cE P all w7 [] [s] ms l es i f=true/\Q f' :=by
 intro l
 induction l with
 |nil=>
  intro ms i id f _ hl hw
  rw[vE] at hw
  cases ms with
  |cons m r=>simp at hl
  |nil=>exact⟨[],f,fun _=>rfl,fun _=>rfl,rfl,rfl,rfl,hw⟩
 |cons o r ih=>
  intro ms i id f hq hl hw
  cases ms with
  |nil=>simp at hl
  |cons m ms=>
  have hqo:=hq o (List.mem_cons_self ..)
  have N1:=mC hqo
  have cH:=lA hqo
  have hqr:∀p∈r,aP P p=true:=fun p hp=>hq p (List.mem_cons_of_mem _ hp)
  have KM:ms.length=r.length:=by simpa using hl
  rw[tc] at hw
  have nL:∀(v:Value),(fA f o.dst v fun f' =>jU P all r f' s Q)->∃f1,kX f o.dst v=some f1/\jU P all r f1 s Q:=by
   intro v h
   unfold fA at h
   split at h
   ·exact⟨_,‹_›,h⟩
   ·exact h.elim
  cases yA:cT all o f with
  |false=>
   rw[yA] at hw
   obtain⟨f1,hp,hw⟩:=nL _ hw
   obtain⟨es,f',h1,h2,h3,h4,h5,h6⟩:=ih ms (i+1) id f1 hqr KM hw
   refine⟨.skip::es,f',fun call=> ?_,fun k=> ?_,?_,?_,?_,h6⟩
   ·simp only[cO,ei,yA,Ev.val,hp,N1]
    rw[if_neg (by simp),h1 call]
   ·simp only[madeOf,h2]
   ·simp only[aH,cH,h3];simp
   ·simp only[cU,Ev.val,hp,h4]
   ·simp only[cE,Ev.val,hp,h5];rfl
  |true=>
   rw[yA] at hw
   simp only[GB] at hw
   unfold KL at hw
   split at hw
   case h_2=>exact hw.elim
   rename_i v s1 fY
   obtain⟨hv,hw⟩:=hw
   obtain⟨f1,hp,hw⟩:=nL _ hw
   obtain⟨es,f',h1,h2,h3,h4,h5,h6⟩:=ih ms (i+1) id f1 hqr KM hw
   refine⟨.quiet v::es,f',fun call=> ?_,fun k=> ?_,?_,?_,?_,h6⟩
   ·simp only[cO,ei,yA,hqo,Cl.fill,fY,Ev.val,hp,N1]
    rw[if_neg (by simp),h1 call]
   ·simp only[madeOf,h2]
   ·simp only[aH,cH,h3];simp
   ·simp only[cU,Ev.val,hp,h4]
   ·simp only[cE,Ev.val,hp,h5,Bool.and_true]
    have wL:∀(L:List aq),(∀x∈L,x=s)->sameAt P m [] o f v L=true:=by
     intro L
     induction L with
     |nil=>intro _;rfl
     |cons x L So=>
      intro hx
      obtain rfl:=hx x (List.mem_cons_self ..)
      simp only[sameAt,Cl.fill,fY,hv,Bool.true_and]
      exact So (fun y hy=>hx y (List.mem_cons_of_mem _ hy))
    exact wL _ (fun x hx=>by simpa using List.mem_of_mem_take (List.mem_of_mem_drop hx))
theorem Fy {P:Program}{ops:List Oper}(hq:iB P ops=true){f:aW}{s:aq}{Q:aW->Prop}(h:jU P ops ops f s Q):∃f',(∀call,fH P call ops f s=some (f',s))/\Q f' :=by
 obtain⟨hqs,Vh⟩:=uT hq
 have Qj:(cD ops []).length=ops.length:=by
  obtain⟨r,h1,h2⟩:=nm ops []
  rw[h1];simpa using h2
 obtain⟨es,f',h1,h2,h3,h4,h5,h6⟩:=Fw (cD ops []) ops (cD ops []) 0 s.next f hqs Qj h
 refine⟨f',fun call=> ?_,h6⟩
 have hs:(⟨s.heap,s.next+aT P ops⟩:aq)=s:=by rw[Vh];rfl
 unfold fH
 rw[hs,h1 call]
 simp only[h2,h3,h5,h4,Cl.fill,List.getLastD]
 rfl
def cX (P:Program)(lib:aA)(ops:List Oper)(f:aW)(s:aq)(Q:aW->aq->Prop):Prop:=
 WF s->∃f' s',(∃n,∀m,n<=m->fH P (gX P lib m) ops f s=some (f',s'))/\bW s s' /\Q f' s'
def GD (P:Program)(lib:aA)(ops:List Oper)(f:aW)(s:aq)(Q:aW->aq->Prop):Bool->Prop
 |true=>jU P ops ops f s (fun f' =>Q f' s)
 |false=>cX P lib ops f s Q
def Qm (id:Nat):AX->AX
 | .exit j=>if j=id then .normal else .exit j
 |x=>x
def eW (P:Program)(lib:aA):Code->aW->aq->(AX->aW->aq->Prop)->Prop
 | .skip,f,s,Q=>Q .normal f s
 | .label _,f,s,Q=>Q .normal f s
 | .region _ ops d,f,s,Q=>
  match d with
  |false=>pw P lib ops.toList ops.toList f s (Q .normal)
  |true=>GD P lib ops.toList f s (Q .normal) (iB P ops.toList)
 | .seq a b,f,s,Q=>eW P lib a f s fun x f' s' =>
  match x with
  | .normal=>eW P lib b f' s' Q
  |x=>Q x f' s'
 | .cond x a b,f,s,Q=>
  match aS f x with
  |some (.bool t)=>
   match t with
   |true=>eW P lib a f s Q
   |false=>eW P lib b f s Q
  |_=>False
 | .block id a,f,s,Q=>eW P lib a f s fun x f' s' =>Q (Qm id x) f' s'
 | .loop a,f,s,Q=>Comes P lib (.loop a) f s Q
 | .exit id,f,s,Q=>Q (.exit id) f s
 | .scope a,f,s,Q=>eW P lib a f s Q
 | .ret,f,s,Q=>Q .ret f s
 |_,_,_,_=>False
def rP (P:Program)(lib:aA)(b:Code)(Q:AX->aW->aq->Prop)(x:AX)(f' :aW)(s' :aq):Prop:=
 match x with
 | .normal=>eW P lib b f' s' Q
 |x=>Q x f' s'
def Vx (id:Nat)(Q:AX->aW->aq->Prop)(x:AX)(f' :aW)(s' :aq):Prop:=Q (Qm id x) f' s'
def Vy (P:Program)(lib:aA)(a b:Code)(f:aW)(s:aq)(Q:AX->aW->aq->Prop):Bool->Prop
 |true=>eW P lib a f s Q
 |false=>eW P lib b f s Q
def Vz (P:Program)(lib:aA)(a b:Code)(f:aW)(s:aq)(Q:AX->aW->aq->Prop):Option Value->Prop
 |some (.bool t)=>Vy P lib a b f s Q t
 |_=>False
section
variable (P:Program) (lib:aA) (f:aW) (s:aq) (Q:AX->aW->aq->Prop)
theorem Cz:eW P lib .skip f s Q=Q .normal f s:=rfl
theorem w9 (id:Nat)(ops:Array Oper):eW P lib (.region id ops false) f s Q=pw P lib ops.toList ops.toList f s (Q .normal):=rfl
theorem CA (id:Nat)(ops:Array Oper):eW P lib (.region id ops true) f s Q=GD P lib ops.toList f s (Q .normal) (iB P ops.toList):=rfl
theorem CB (ops:List Oper)(R:aW->aq->Prop):GD P lib ops f s R true=jU P ops ops f s (fun f' =>R f' s):=rfl
theorem GF (a b:Code):eW P lib (.seq a b) f s Q=eW P lib a f s (rP P lib b Q):=rfl
theorem xe (b:Code):rP P lib b Q .normal f s=eW P lib b f s Q:=rfl
theorem GG (b:Code):rP P lib b Q .ret f s=Q .ret f s:=rfl
theorem CC (b:Code)(id:Nat):rP P lib b Q (.exit id) f s=Q (.exit id) f s:=rfl
theorem vF (x:Operand)(a b:Code):eW P lib (.cond x a b) f s Q=Vz P lib a b f s Q (aS f x):=by
 simp only[eW]
 cases aS f x with
 |none=>rfl
 |some v=>cases v<;>first|rfl|(rename_i t;cases t<;>rfl)
theorem CD (a b:Code)(t:Bool):Vz P lib a b f s Q (some (.bool t))=Vy P lib a b f s Q t:=rfl
theorem KN (a b:Code):Vy P lib a b f s Q true=eW P lib a f s Q:=rfl
theorem GH (a b:Code):Vy P lib a b f s Q false=eW P lib b f s Q:=rfl
theorem z5 (id:Nat)(a:Code):eW P lib (.block id a) f s Q=eW P lib a f s (Vx id Q):=rfl
theorem z6 (id:Nat):Vx id Q .normal f s=Q .normal f s:=rfl
theorem KO (id:Nat):Vx id Q .ret f s=Q .ret f s:=rfl
theorem GI (id j:Nat):Vx id Q (.exit j) f s=if j=id then Q .normal f s else Q (.exit j) f s:=by
 simp only[Vx,Qm];split<;>rfl
theorem CE (a:Code):eW P lib (.loop a) f s Q=Comes P lib (.loop a) f s Q:=rfl
theorem CF (id:Nat):eW P lib (.exit id) f s Q=Q (.exit id) f s:=rfl
theorem z8 (a:Code):eW P lib (.scope a) f s Q=eW P lib a f s Q:=rfl
theorem GJ:eW P lib .ret f s Q=Q .ret f s:=rfl
end
theorem iN {P:Program}{lib:aA}{a b:Code}{f:aW}{s:aq}{Q:AX->aW->aq->Prop}{t:Bool}(h1:t=true->eW P lib a f s Q)(h2:t=false->eW P lib b f s Q):Vy P lib a b f s Q t:=by
 cases t
 ·exact h2 rfl
 ·exact h1 rfl
theorem KP {P:Program}{lib:aA}:∀(c:Code) (f:aW) (s:aq) (Q:AX->aW->aq->Prop),eW P lib c f s Q->Comes P lib c f s Q:=by
 intro c
 induction c with
 |skip=>intro f s Q h qC;exact⟨.normal,f,s,⟨1,fun m hm=>by obtain⟨k,rfl⟩:∃k,m=k+1:=⟨m-1,by omega⟩;rfl⟩,bW.refl qC,h⟩
 |label l=>intro f s Q h qC;exact⟨.normal,f,s,⟨1,fun m hm=>by obtain⟨k,rfl⟩:∃k,m=k+1:=⟨m-1,by omega⟩;rfl⟩,bW.refl qC,h⟩
 |exit id=>intro f s Q h qC;exact⟨.exit id,f,s,⟨1,fun m hm=>by obtain⟨k,rfl⟩:∃k,m=k+1:=⟨m-1,by omega⟩;rfl⟩,bW.refl qC,h⟩
 |ret=>intro f s Q h qC;exact⟨.ret,f,s,⟨1,fun m hm=>by obtain⟨k,rfl⟩:∃k,m=k+1:=⟨m-1,by omega⟩;rfl⟩,bW.refl qC,h⟩
 |loop a _=>intro f s Q h;exact h
 |rangeFunc=>intro f s Q h;exact h.elim
 |goto=>intro f s Q h;exact h.elim
 |refuse=>intro f s Q h;exact h.elim
 |region id ops d=>
  intro f s Q h qC
  have fin:∀f' s',(∃n,∀m,n<=m->(match d with
    |false=>gh P (gX P lib m) ops.toList ops.toList f s
    |true=>fH P (gX P lib m) ops.toList f s)=some (f',s'))->bW s s' ->Q .normal f' s' ->∃x f' s',(∃n,∀m,n<=m->exec P lib m (.region id ops d) f s=some (x,f',s'))/\bW s s' /\Q x f' s' :=by
   rintro f' s' ⟨n,hn⟩ hk hq
   refine⟨.normal,f',s',⟨n+1,fun m hm=> ?_⟩,hk,hq⟩
   obtain⟨k,rfl⟩:∃k,m=k+1:=⟨m-1,by omega⟩
   have:=hn k (by omega)
   simp only[exec,step]
   have e:gX P lib k=eF P lib (exec P lib k):=rfl
   rw[e] at this
   cases d<;>(simp only at this;simp only[this])
  cases d with
  |false=>
   obtain⟨f',s',hn,hk,hq⟩:=ZC _ _ _ _ _ h qC
   exact fin f' s' hn hk hq
  |true=>
   simp only[eW] at h
   cases hq:iB P ops.toList with
   |true=>
    rw[hq] at h
    obtain⟨f',h1,h2⟩:=Fy hq h
    exact fin f' s ⟨0,fun m _=>h1 _⟩ (bW.refl qC) h2
   |false=>
    rw[hq] at h
    obtain⟨f',s',h1,hk,h2⟩:=h qC
    exact fin f' s' h1 hk h2
 |seq a b iha ihb=>
  intro f s Q h qC
  obtain⟨x,f1,s1,⟨n1,h1⟩,lz,h⟩:=iha f s _ h qC
  cases x with
  |normal=>
   obtain⟨x,f2,s2,⟨n2,h2⟩,oB,h⟩:=ihb f1 s1 _ h lz.wf
   refine⟨x,f2,s2,⟨n1+n2+1,fun m hm=> ?_⟩,lz.trans oB,h⟩
   obtain⟨k,rfl⟩:∃k,m=k+1:=⟨m-1,by omega⟩
   simp only[exec,step,h1 k (by omega),h2 k (by omega)]
  |exit id=>
   refine⟨_,f1,s1,⟨n1+1,fun m hm=> ?_⟩,lz,h⟩
   obtain⟨k,rfl⟩:∃k,m=k+1:=⟨m-1,by omega⟩
   simp only[exec,step,h1 k (by omega)]
  |ret=>
   refine⟨_,f1,s1,⟨n1+1,fun m hm=> ?_⟩,lz,h⟩
   obtain⟨k,rfl⟩:∃k,m=k+1:=⟨m-1,by omega⟩
   simp only[exec,step,h1 k (by omega)]
 |cond y a b iha ihb=>
  intro f s Q h qC
  rw[vF] at h
  unfold Vz at h
  split at h
  ·rename_i t ht
   cases t with
   |true=>
    obtain⟨x,f1,s1,⟨n1,h1⟩,lz,h⟩:=iha f s _ h qC
    refine⟨_,f1,s1,⟨n1+1,fun m hm=> ?_⟩,lz,h⟩
    obtain⟨k,rfl⟩:∃k,m=k+1:=⟨m-1,by omega⟩
    simp only[exec,step,ht,h1 k (by omega)]
   |false=>
    obtain⟨x,f1,s1,⟨n1,h1⟩,lz,h⟩:=ihb f s _ h qC
    refine⟨_,f1,s1,⟨n1+1,fun m hm=> ?_⟩,lz,h⟩
    obtain⟨k,rfl⟩:∃k,m=k+1:=⟨m-1,by omega⟩
    simp only[exec,step,ht,h1 k (by omega)]
  ·exact h.elim
 |block id a iha=>
  intro f s Q h qC
  obtain⟨x,f1,s1,⟨n1,h1⟩,lz,h⟩:=iha f s _ h qC
  refine⟨_,f1,s1,⟨n1+1,fun m hm=> ?_⟩,lz,h⟩
  obtain⟨k,rfl⟩:∃k,m=k+1:=⟨m-1,by omega⟩
  simp only[exec,step,h1 k (by omega)]
  cases x with
  |normal=>rfl
  |ret=>rfl
  |exit j=>
   simp only[Qm]
   by_cases hj:j=id
   ·rw[if_pos hj,if_pos (by simpa [Nat.beq_eq] using hj)]
   ·rw[if_neg hj,if_neg (by simpa [Nat.beq_eq] using hj)]
 |scope a iha=>
  intro f s Q h qC
  obtain⟨x,f1,s1,⟨n1,h1⟩,lz,h⟩:=iha f s _ h qC
  refine⟨_,f1,s1,⟨n1+1,fun m hm=> ?_⟩,lz,h⟩
  obtain⟨k,rfl⟩:∃k,m=k+1:=⟨m-1,by omega⟩
  simp only[exec,step,h1 k (by omega)]
def yX (Inv:Nat->aW->aq->Prop)(k:Nat)(Q:AX->aW->aq->Prop):AX->aW->aq->Prop
 | .normal,f,s=>∃j,j<k/\Inv j f s
 |x,f,s=>Q x f s
theorem ay {Inv:Nat->aW->aq->Prop}{k:Nat}{Q:AX->aW->aq->Prop}{f:aW}{s:aq}(j:Nat)(hj:j<k)(h:Inv j f s):yX Inv k Q .normal f s:=⟨j,hj,h⟩
theorem CG (Inv:Nat->aW->aq->Prop)(k:Nat)(Q:AX->aW->aq->Prop)(f:aW)(s:aq):yX Inv k Q .ret f s=Q .ret f s:=rfl
theorem z9 (Inv:Nat->aW->aq->Prop)(k:Nat)(Q:AX->aW->aq->Prop)(f:aW)(s:aq)(id:Nat):yX Inv k Q (.exit id) f s=Q (.exit id) f s:=rfl
theorem Comes.loop {P:Program}{lib:aA}{a:Code}{Q:AX->aW->aq->Prop}(Inv:Nat->aW->aq->Prop)(hr:∀k f s,Inv k f s->eW P lib a f s (yX Inv k Q)):∀k f s,Inv k f s->Comes P lib (.loop a) f s Q:=by
 intro k
 induction k using Nat.strongRecOn with
 |_ k ih=>
  intro f s hi qC
  obtain⟨x,f1,s1,⟨n1,h1⟩,lz,h⟩:=KP _ _ _ _ (hr k f s hi) qC
  cases x with
  |normal=>
   obtain⟨j,hj,wB⟩:=h
   obtain⟨x,f2,s2,⟨n2,h2⟩,oB,h⟩:=ih j hj f1 s1 wB lz.wf
   refine⟨x,f2,s2,⟨n1+n2+1,fun m hm=> ?_⟩,lz.trans oB,h⟩
   obtain⟨m,rfl⟩:∃k,m=k+1:=⟨m-1,by omega⟩
   simp only[exec,step,h1 m (by omega),h2 m (by omega)]
  |exit id=>
   refine⟨_,f1,s1,⟨n1+1,fun m hm=> ?_⟩,lz,h⟩
   obtain⟨m,rfl⟩:∃k,m=k+1:=⟨m-1,by omega⟩
   simp only[exec,step,h1 m (by omega)]
  |ret=>
   refine⟨_,f1,s1,⟨n1+1,fun m hm=> ?_⟩,lz,h⟩
   obtain⟨m,rfl⟩:∃k,m=k+1:=⟨m-1,by omega⟩
   simp only[exec,step,h1 m (by omega)]
theorem Comes.eZ {P:Program}{lib:aA}{a:Code}{Q:AX->aW->aq->Prop}{f:aW}{s:aq}(Inv:Nat->aW->aq->Prop){k:Nat}(h0:Inv k f s)(hr:∀k f s,Inv k f s->eW P lib a f s (yX Inv k Q)):Comes P lib (.loop a) f s Q:=
 Comes.loop Inv hr k f s h0
theorem Comes.bQ {P:Program}{lib:aA}{a:Code}{Q' :AX->aW->aq->Prop}{f:aW}{s:aq}(Inv:Nat->aW->aq->Prop)(Out:AX->aW->aq->Prop){k:Nat}(h0:Inv k f s)
  (hr:∀Q:AX->aW->aq->Prop,(∀x f s,Out x f s->Q x f s)->∀k f s,Inv k f s->eW P lib a f s (yX Inv k Q)) (ho:∀x f s,Out x f s->Q' x f s):Comes P lib (.loop a) f s Q' :=
 (Comes.eZ (Q:=Out) Inv h0 (hr Out (fun _ _ _ h=>h))).mono ho
def Sp (s:aq)(Q:Value->aq->Prop):Option (List Value)->Prop
 |some l=>Q (oneOf l) s
 |none=>False
def YR (P:Program)(rs:List ResultVar)(Q:Value->aq->Prop)(x:AX)(f:aW)(s:aq):Prop:=
 match x with
 | .exit _=>False
 |_=>Sp s Q (cL P f s rs)
theorem al (P:Program)(rs:List ResultVar)(Q:Value->aq->Prop)(f:aW)(s:aq):YR P rs Q .ret f s=Sp s Q (cL P f s rs):=rfl
theorem ah (P:Program)(rs:List ResultVar)(Q:Value->aq->Prop)(f:aW)(s:aq):YR P rs Q .normal f s=Sp s Q (cL P f s rs):=rfl
theorem GK (s:aq)(Q:Value->aq->Prop)(l:List Value):Sp s Q (some l)=Q (oneOf l) s:=rfl
theorem Runs.ZD {P:Program}{lib:aA}{g:FuncId}{args:List Value}{s:aq}{Q:Value->aq->Prop}{fn:Func}{c:Code}(hg:P.funcs[g]?=some fn)(hb:fn.body=some c)(hl:lib.at g=none)(hn:Nat.ble (args.length+(fn.ntmps-args.length)) 16000000=true)
  (h:Comes P lib c (nH fn args) s (YR P fn.results.toList Q)):Runs P lib g args s Q:=by
 intro qC
 obtain⟨x,f1,s1,⟨n1,h1⟩,lz,h⟩:=h qC
 have go:∀l,cL P f1 s1 fn.results.toList=some l->Q (oneOf l) s1->(x= .normal\/x= .ret)->∃v s',(∃n,∀m,n<=m->gX P lib m g args s=some (v,s'))/\bW s s' /\Q v s' :=by
  intro l hr hq hx
  refine⟨oneOf l,s1,⟨n1,fun m hm=> ?_⟩,lz,hq⟩
  have h1:=h1 m hm
  rcases hx with rfl|rfl
  ·simp only[gX,eF,hl,hg,hb,hn,h1,hr]
  ·simp only[gX,eF,hl,hg,hb,hn,h1,hr]
 cases x with
 |exit id=>exact h.elim
 |normal=>
  simp only[YR,Sp] at h
  split at h
  ·exact go _ ‹_› h (.inl rfl)
  ·exact h.elim
 |ret=>
  simp only[YR,Sp] at h
  split at h
  ·exact go _ ‹_› h (.inr rfl)
  ·exact h.elim
theorem ad (f:aW)(t u:Nat)(v:Value):(f.put t v).get u=if t=u then v else f.get u:=by
 by_cases h:t=u
 ·subst h;simp only[aW.get,aW.put,Tr.bD _ _ _ _ (deep (by omega)),if_pos]
 ·simp only[aW.get,aW.put,Tr.ch _ _ _ _ _ h,if_neg h]
theorem ag (f:aW)(t:Nat)(v:Value):(f.put t v).n=f.n:=rfl
theorem ZE (fn:Func)(args:List Value):(nH fn args).n=args.length+(fn.ntmps-args.length):=rfl
theorem Sq (fn:Func)(args:List Value)(t:Nat):(nH fn args).get t=args.getD t undef:=by
 simp only[nH,aW.get,Ct args .nil 0 t (by omega),Nat.zero_le,true_and,Nat.zero_add,Nat.sub_zero]
 by_cases h:t<args.length
 ·simp only[if_pos h]
 ·simp only[if_neg h,Tr.get]
  simp[List.getD,List.getElem?_eq_none (Nat.le_of_not_lt h)]
theorem yY (f:aW)(t:Tmp):aS f (.tmp t)=if t<f.n then some (f.get t) else none:=by
 unfold aS
 by_cases h:t<f.n
 ·have hb:Nat.blt t f.n=true:=by simpa [Nat.blt_eq] using h
  simp only[hb,if_true,if_pos h]
 ·have hb:Nat.blt t f.n=false:=by rw[<-Bool.not_eq_true,Nat.blt_eq];exact h
  simp[hb,if_neg h]
theorem CH (f:aW)(b:Bool):aS f (.const (.bool b))=some (.bool b):=rfl
theorem GL (f:aW)(k:IntKind)(n:Int):aS f (.const (.int k n))=some (.int k n):=rfl
theorem xf (f:aW)(b:ByteArray):aS f (.const (.string b))=some (.string b):=rfl
theorem CI (f:aW):aS f (.const (.slice none 0 0))=some (.slice none 0 0):=rfl
theorem CJ (f:aW):aS f (.const (.pointer none))=some (.pointer none):=rfl
theorem CK (f:aW):aS f (.const (.map none))=some (.map none):=rfl
theorem CL (f:aW)(g:FuncId):aS f (.func g)=some (.func (.func g) #[] #[]):=rfl
theorem Runs.enter {P:Program}{lib:aA}{g:FuncId}{args:List Value}{s:aq}{Q:Value->aq->Prop}{fn:Func}{c:Code}(N:Nat)(hg:P.funcs[g]?=some fn)(hb:fn.body=some c)(hl:lib.at g=none)(hN:args.length+(fn.ntmps-args.length)=N)(hn:Nat.ble N 16000000=true)
  (h:∀f:aW,f.n=N->(∀t,f.get t=args.getD t undef)->eW P lib c f s (YR P fn.results.toList Q)):Runs P lib g args s Q:=
 Runs.ZD hg hb hl (by rw[hN];exact hn) (KP _ _ _ _ (h _ (by rw[ZE,hN]) (Sq fn args)))
section
variable (P:Program) (f:aW) (s:aq) (d:Option Tmp) (ty:TypeId) (ps:String) (af:Array Edge) (gd:Option (Nat×Bool))
theorem KQ (x:Operand):cS P ⟨d,.move x,ty,ps,af,gd⟩ f s=pO s (aS f x):=rfl
theorem CM (x:Operand):cS P ⟨d,.assign x,ty,ps,af,gd⟩ f s=pO s (aS f x):=rfl
theorem CN (c a b:Operand):cS P ⟨d,.pick c a b,ty,ps,af,gd⟩ f s=match aS f c,aS f a,aS f b with
  |some (.bool t),some u,some v=>some (.val (if t then u else v) s)
  |_,_,_=>none:=rfl
theorem GM (e:TypeId):cS P ⟨d,.alloc e,ty,ps,af,gd⟩ f s=match bV P e with
  |some z=>if bN z then oF (fm s z.cells.toList (BM P e)) else none
  |none=>none:=rfl
theorem Qn (e:TypeId)(x:Operand):cS P ⟨d,.box e x,ty,ps,af,gd⟩ f s=match aS f x with
  |some v=>oF (fm s v.cells.toList (BM P e))
  |none=>none:=rfl
theorem yZ (t:TypeId)(q:Array (Nat×Operand)):cS P ⟨d,.build t q,ty,ps,af,gd⟩ f s=match ae f q.toList with
  |some l=>pO s (cC P t l)
  |none=>none:=rfl
theorem td (t:TypeId)(n:Nat)(q:Array (Nat×Operand)):cS P ⟨d,.buildSlice t n q,ty,ps,af,gd⟩ f s=match ae f q.toList with
  |some l=>oF (aO P s t n l)
  |none=>none:=rfl
theorem CO (t:TypeId)(x:Operand):cS P ⟨d,.load t x,ty,ps,af,gd⟩ f s=match aS f x with
  |some a=>pO s (aJ P s t a)
  |none=>none:=rfl
theorem GN (t:TypeId)(x y:Operand):cS P ⟨d,.store t x y,ty,ps,af,gd⟩ f s=match aS f x,aS f y with
  |some a,some v=>BN (dR P s t a v)
  |_,_=>none:=rfl
theorem qR (x:Operand):cS P ⟨d,.nilCheck x,ty,ps,af,gd⟩ f s=match aS f x with
  |some (.pointer (some a))=>some (.val (.pointer (some a)) s)
  |some (.func (.func g) ava bs)=>some (.val (.func (.func g) ava bs) s)
  |_=>none:=rfl
theorem y5 (op:BinOp)(t t2:TypeId)(x y:Operand):cS P ⟨d,.binOp op t x y t2,ty,ps,af,gd⟩ f s=match aS f x,aS f y with
  |some u,some v=>pO s (cQ P op t u v)
  |_,_=>none:=rfl
theorem CP (op:UnOp)(t:TypeId)(x:Operand):cS P ⟨d,.unOp op t x,ty,ps,af,gd⟩ f s=match aS f x with
  |some u=>pO s (unA op u)
  |none=>none:=rfl
theorem te (a b:TypeId)(x:Operand):cS P ⟨d,.convert a b x,ty,ps,af,gd⟩ f s=match aS f x with
  |some u=>oF (gw P s a b u)
  |none=>none:=rfl
theorem Aa (t:TypeId):cS P ⟨d,.makeMap t none,ty,ps,af,gd⟩ f s=some (.val (.map (some s.next)) (s.new (.map []))):=rfl
theorem uU (t:TypeId)(x y:Operand):cS P ⟨d,.makeSlice t x y,ty,ps,af,gd⟩ f s=match aS f x,aS f y with
  |some u,some v=>oF (ef P s t u v)
  |_,_=>none:=rfl
theorem y6 (t:TypeId)(x:Operand)(lo hi mx:Option Operand):cS P ⟨d,.slice t x lo hi mx,ty,ps,af,gd⟩ f s=match aS f x,ai f lo,ai f hi,ai f mx with
  |some u,some l,some h,some m=>pO s (dj P s t u l h m)
  |_,_,_,_=>none:=rfl
theorem py (t:TypeId)(x:Operand)(i:Nat):cS P ⟨d,.fieldAddr t x i,ty,ps,af,gd⟩ f s=match aS f x with
  |some u=>pO s (au P t u i)
  |none=>none:=rfl
theorem y7 (t:TypeId)(x:Operand)(i:Nat):cS P ⟨d,.field t x i,ty,ps,af,gd⟩ f s=match aS f x with
  |some u=>pO s (BK P t u i)
  |none=>none:=rfl
theorem pz (t:TypeId)(x y:Operand):cS P ⟨d,.indexAddr t x y,ty,ps,af,gd⟩ f s=match aS f x,aS f y with
  |some u,some v=>pO s (bT P t u v)
  |_,_=>none:=rfl
theorem y8 (t:TypeId)(x y:Operand):cS P ⟨d,.index t x y,ty,ps,af,gd⟩ f s=match aS f x,aS f y with
  |some u,some v=>pO s (sA P t u v)
  |_,_=>none:=rfl
theorem CQ (t:TypeId)(x y:Operand)(ok:Bool):cS P ⟨d,.lookup t x y ok,ty,ps,af,gd⟩ f s=match aS f x,aS f y with
  |some u,some v=>pO s (mT P s t u v ok)
  |_,_=>none:=rfl
theorem uW (t:TypeId)(x y z:Operand):cS P ⟨d,.mapUpdate t x y z,ty,ps,af,gd⟩ f s=match aS f x,aS f y,aS f z with
  |some m,some k,some v=>BN (fO P s t m k v)
  |_,_,_=>none:=rfl
theorem tf (x:Operand)(i:Nat):cS P ⟨d,.extract x i,ty,ps,af,gd⟩ f s=match aS f x with
  |some u=>pO s (ba u i)
  |none=>none:=rfl
theorem tg (x:Operand)(args:Array Operand)(ts:Array TypeId):cS P ⟨d,.call ⟨.value x,args,ts⟩,ty,ps,af,gd⟩ f s=match aa f args.toList with
  |some l=>match aS f x with
   |some (.func (.func g) ava bs)=>some (.call g (ava.toList++l++bs.toList))
   |_=>none
  |none=>none:=rfl
theorem iP (b:Builtin)(args:Array Operand)(ts:Array TypeId):cS P ⟨d,.call ⟨.builtin b,args,ts⟩,ty,ps,af,gd⟩ f s=match aa f args.toList with
  |some l=>ju P s b ts.toList l
  |none=>none:=rfl
theorem th (all:List Oper)(op:Op):cT all ⟨d,op,ty,ps,af,none⟩ f=true:=rfl
theorem Ab (all:List Oper)(op:Op)(j:Nat)(w:Bool):cT all ⟨d,op,ty,ps,af,some (j,w)⟩ f=match qG all f j with
  |some b=>b==w
  |none=>false:=rfl
def yieldOf (f:aW):List Oper->Option Bool
 |o::_=>
  match o.dst with
  |some d=>if d<f.n then(match f.get d with
   | .bool b=>some b
   |_=>none) else none
  |none=>none
 |[]=>none
theorem GO (all:List Oper)(j:Nat):qG all f j=yieldOf f (all.drop j):=by
 unfold qG yieldOf
 cases all.drop j with
 |nil=>rfl
 |cons o r=>
  simp only
  cases o.dst with
  |none=>rfl
  |some d=>
   simp only
   by_cases hd:d<f.n
   ·have hb:Nat.blt d f.n=true:=by simpa [Nat.blt_eq] using hd
    simp only[hb,if_true,if_pos hd]
    cases f.get d<;>rfl
   ·have hb:Nat.blt d f.n=false:=by rw[<-Bool.not_eq_true,Nat.blt_eq];exact hd
    simp[hb,if_neg hd]
theorem xg (t:Tmp)(op:Op)(r:List Oper):yieldOf f (⟨some t,op,ty,ps,af,gd⟩::r)=if t<f.n then(match f.get t with
    | .bool b=>some b
    |_=>none) else none:=rfl
end
theorem bS (cs:Array Value):(Value.agg cs).cells=cs:=rfl
theorem xh (s:aq)(v:Value):pO s (some v)=some (.val v s):=rfl
theorem ft (v:Value)(s:aq):oF (some (v,s))=some (.val v s):=rfl
theorem iC (s:aq):BN (some s)=some (.val undef s):=rfl
theorem builtin_len (P:Program)(s:aq)(t:TypeId)(x:Value):ju P s .len [t] [x]=pO s (bm P s t x):=rfl
theorem builtin_append (P:Program)(s:aq)(t u:TypeId)(x y:Value):ju P s .append [t,u] [x,y]=oF (gW P s t u x y):=rfl
theorem builtin_copy (P:Program)(s:aq)(t u:TypeId)(x y:Value):ju P s .copy [t,u] [x,y]=oF (mN P s t x y):=rfl
theorem builtin_min (P:Program)(s:aq)(t u:TypeId)(k:IntKind)(x y:Int):ju P s .min [t,u] [.int k x,.int k y]=some (.val (.int k (if y<x then y else x)) s):=rfl
theorem builtin_max (P:Program)(s:aq)(t u:TypeId)(k:IntKind)(x y:Int):ju P s .max [t,u] [.int k x,.int k y]=some (.val (.int k (if y>x then y else x)) s):=rfl
section
variable (P:Program) (d:Option Tmp) (ty:TypeId) (ps:String) (af:Array Edge) (gd:Option (Nat×Bool))
theorem xi:iB P []=true:=rfl
theorem uX (o:Oper)(r:List Oper):iB P (o::r)=(aP P o&&iB P r):=rfl
theorem CR (x:Operand):aP P ⟨d,.move x,ty,ps,af,gd⟩=true:=rfl
theorem xj (x:Operand):aP P ⟨d,.assign x,ty,ps,af,gd⟩=true:=rfl
theorem CS (a b c:Operand):aP P ⟨d,.pick a b c,ty,ps,af,gd⟩=true:=rfl
theorem CT (t:TypeId)(x:Operand):aP P ⟨d,.load t x,ty,ps,af,gd⟩=true:=rfl
theorem ti (x:Operand):aP P ⟨d,.nilCheck x,ty,ps,af,gd⟩=true:=rfl
theorem Ac (op:BinOp)(t t2:TypeId)(x y:Operand):aP P ⟨d,.binOp op t x y t2,ty,ps,af,gd⟩=true:=rfl
theorem CU (op:UnOp)(t:TypeId)(x:Operand):aP P ⟨d,.unOp op t x,ty,ps,af,gd⟩=true:=rfl
theorem rQ (t:TypeId)(x y:Operand):aP P ⟨d,.indexAddr t x y,ty,ps,af,gd⟩=true:=rfl
theorem Ad (t:TypeId)(x y:Operand):aP P ⟨d,.index t x y,ty,ps,af,gd⟩=true:=rfl
theorem rR (t:TypeId)(x:Operand)(i:Nat):aP P ⟨d,.fieldAddr t x i,ty,ps,af,gd⟩=true:=rfl
theorem Ae (t:TypeId)(x:Operand)(i:Nat):aP P ⟨d,.field t x i,ty,ps,af,gd⟩=true:=rfl
theorem Af (t:TypeId)(x:Operand)(l h m:Option Operand):aP P ⟨d,.slice t x l h m,ty,ps,af,gd⟩=true:=rfl
theorem uY (x:Operand)(i:Nat):aP P ⟨d,.extract x i,ty,ps,af,gd⟩=true:=rfl
theorem GP (args:Array Operand)(ts:Array TypeId):aP P ⟨d,.call ⟨.builtin .len,args,ts⟩,ty,ps,af,gd⟩=true:=rfl
theorem CV (x:Operand)(args:Array Operand)(ts:Array TypeId):aP P ⟨d,.call ⟨.value x,args,ts⟩,ty,ps,af,gd⟩=false:=rfl
theorem pZ (t:TypeId)(n:Nat)(q:Array (Nat×Operand)):aP P ⟨d,.buildSlice t n q,ty,ps,af,gd⟩=false:=rfl
theorem Ag (t:TypeId)(q:Array (Nat×Operand)):aP P ⟨d,.build t q,ty,ps,af,gd⟩=true:=rfl
theorem Ah (t:TypeId)(x y:Operand):aP P ⟨d,.store t x y,ty,ps,af,gd⟩=false:=rfl
theorem GQ (t:TypeId)(x:Operand):aP P ⟨d,.box t x,ty,ps,af,gd⟩=false:=rfl
theorem Ai (t:TypeId):aP P ⟨d,.alloc t,ty,ps,af,gd⟩=false:=rfl
theorem rS (t:TypeId)(x y:Operand):aP P ⟨d,.makeSlice t x y,ty,ps,af,gd⟩=false:=rfl
theorem xk (args:Array Operand)(ts:Array TypeId):aP P ⟨d,.call ⟨.builtin .append,args,ts⟩,ty,ps,af,gd⟩=false:=rfl
theorem CW (args:Array Operand)(ts:Array TypeId):aP P ⟨d,.call ⟨.builtin .copy,args,ts⟩,ty,ps,af,gd⟩=false:=rfl
theorem GR (args:Array Operand)(ts:Array TypeId):aP P ⟨d,.call ⟨.builtin .min,args,ts⟩,ty,ps,af,gd⟩=true:=rfl
theorem GS (args:Array Operand)(ts:Array TypeId):aP P ⟨d,.call ⟨.builtin .max,args,ts⟩,ty,ps,af,gd⟩=true:=rfl
theorem p5 (t:TypeId)(n:Nat)(q:Array (Nat×Operand)):aM P ⟨d,.buildSlice t n q,ty,ps,af,gd⟩=true:=rfl
theorem Aj (t:TypeId)(x y:Operand):aM P ⟨d,.store t x y,ty,ps,af,gd⟩=false:=rfl
theorem GU (t:TypeId)(x:Operand):aM P ⟨d,.box t x,ty,ps,af,gd⟩=true:=rfl
theorem Ak (t:TypeId):aM P ⟨d,.alloc t,ty,ps,af,gd⟩=true:=rfl
theorem rT (t:TypeId)(x y:Operand):aM P ⟨d,.makeSlice t x y,ty,ps,af,gd⟩=true:=rfl
theorem CX (c:Go.Call):aM P ⟨d,.call c,ty,ps,af,gd⟩=false:=rfl
theorem uZ (a b:TypeId)(x:Operand):aM P ⟨d,.convert a b x,ty,ps,af,gd⟩=jv P a b:=rfl
theorem CY (x:Operand):aM P ⟨d,.move x,ty,ps,af,gd⟩=false:=rfl
theorem xm (x:Operand):aM P ⟨d,.assign x,ty,ps,af,gd⟩=false:=rfl
theorem CZ (a b c:Operand):aM P ⟨d,.pick a b c,ty,ps,af,gd⟩=false:=rfl
theorem C0 (t:TypeId)(x:Operand):aM P ⟨d,.load t x,ty,ps,af,gd⟩=false:=rfl
theorem tj (x:Operand):aM P ⟨d,.nilCheck x,ty,ps,af,gd⟩=false:=rfl
theorem Al (op:BinOp)(t t2:TypeId)(x y:Operand):aM P ⟨d,.binOp op t x y t2,ty,ps,af,gd⟩=false:=rfl
theorem C1 (op:UnOp)(t:TypeId)(x:Operand):aM P ⟨d,.unOp op t x,ty,ps,af,gd⟩=false:=rfl
theorem rU (t:TypeId)(x y:Operand):aM P ⟨d,.indexAddr t x y,ty,ps,af,gd⟩=false:=rfl
theorem Am (t:TypeId)(x y:Operand):aM P ⟨d,.index t x y,ty,ps,af,gd⟩=false:=rfl
theorem rV (t:TypeId)(x:Operand)(i:Nat):aM P ⟨d,.fieldAddr t x i,ty,ps,af,gd⟩=false:=rfl
theorem An (t:TypeId)(x:Operand)(i:Nat):aM P ⟨d,.field t x i,ty,ps,af,gd⟩=false:=rfl
theorem Ao (t:TypeId)(x:Operand)(l h m:Option Operand):aM P ⟨d,.slice t x l h m,ty,ps,af,gd⟩=false:=rfl
theorem u0 (x:Operand)(i:Nat):aM P ⟨d,.extract x i,ty,ps,af,gd⟩=false:=rfl
theorem u5 (a b:TypeId)(x:Operand):aP P ⟨d,.convert a b x,ty,ps,af,gd⟩=match P.underlying b with
  |some (.slice _)=>false
  |_=>true:=rfl
end
theorem xo (P:Program)(f:aW)(s:aq):cL P f s []=some []:=rfl
theorem xp (P:Program)(f:aW)(s:aq)(t:Tmp)(r:List ResultVar):cL P f s (.tmp t::r)=if t<f.n then(match cL P f s r with
  |some l=>some (f.get t::l)
  |none=>none) else none:=by
 by_cases h:t<f.n
 ·have hb:Nat.blt t f.n=true:=by simpa [Nat.blt_eq] using h
  rw[if_pos h]
  conv=>lhs;rw[cL]
  simp only[hb,if_true]
  rfl
 ·have hb:Nat.blt t f.n=false:=by rw[<-Bool.not_eq_true,Nat.blt_eq];exact h
  rw[if_neg h]
  conv=>lhs;rw[cL]
  simp[hb]
section
variable (P:Program) (t:TypeId) (k:IntKind) (a b:Int)
theorem Qo:cQ P .add t (.int k a) (.int k b)=some (.int k (k.wrap (a+b))):=by simp[cQ,js]
theorem Qp:cQ P .sub t (.int k a) (.int k b)=some (.int k (k.wrap (a-b))):=by simp[cQ,js]
theorem Qq:cQ P .mul t (.int k a) (.int k b)=some (.int k (k.wrap (a*b))):=by simp[cQ,js]
theorem iQ (h:b≠0):cQ P .quo t (.int k a) (.int k b)=some (.int k (k.wrap (a.tdiv b))):=by simp[cQ,js,h]
theorem fg (h:b≠0):cQ P .rem t (.int k a) (.int k b)=some (.int k (a.tmod b)):=by simp[cQ,js,h]
theorem fh:cQ P .and t (.int k a) (.int k b)=some (.int k (k.wrap (BitVec.ofInt k.bits a&&&BitVec.ofInt k.bits b).toNat)):=by simp[cQ,js]
theorem jV:cQ P .or t (.int k a) (.int k b)=some (.int k (k.wrap (BitVec.ofInt k.bits a|||BitVec.ofInt k.bits b).toNat)):=by simp[cQ,js]
theorem Qr:cQ P .xor t (.int k a) (.int k b)=some (.int k (k.wrap (BitVec.ofInt k.bits a^^^BitVec.ofInt k.bits b).toNat)):=by simp[cQ,js]
theorem IM:cQ P .eql t (.int k a) (.int k b)=some (.bool (decide (a=b))):=by simp[cQ,js];rfl
theorem dS:cQ P .neq t (.int k a) (.int k b)=some (.bool (decide (a≠b))):=by
 simp only[cQ,js,if_true]
 by_cases h:a=b<;>simp[h]
theorem Qs:cQ P .lss t (.int k a) (.int k b)=some (.bool (decide (a<b))):=by simp[cQ,js]
theorem Qt:cQ P .leq t (.int k a) (.int k b)=some (.bool (decide (a<=b))):=by simp[cQ,js]
theorem Qu:cQ P .gtr t (.int k a) (.int k b)=some (.bool (decide (b<a))):=by simp[cQ,js]
theorem Qv:cQ P .geq t (.int k a) (.int k b)=some (.bool (decide (b<=a))):=by simp[cQ,js]
theorem mW (k' :IntKind)(h:0<=b):cQ P .shl t (.int k a) (.int k' b)=some (.int k (k.wrap (a*2^(min b.toNat k.bits)))):=by simp[cQ,tY];omega
theorem lS (k' :IntKind)(h:0<=b):cQ P .shr t (.int k a) (.int k' b)=some (.int k (a.fdiv (2^(min b.toNat k.bits)))):=by simp[cQ,tY];omega
theorem VA (x:Bool):unA .not (.bool x)=some (.bool (!x)):=rfl
theorem VB:unA .neg (.int k a)=some (.int k (k.wrap (0-a))):=rfl
end
theorem aD {x:Int}(h: -9223372036854775808<=x/\x<=9223372036854775807):IntKind.i64.wrap x=x:=by
 have e1:IntKind.i64.bits=64:=rfl
 have e2:IntKind.i64.signed=true:=rfl
 simp only[IntKind.wrap,e1,e2,Bool.true_and]
 split<;>simp_all<;>omega
theorem fu {x:Int}:IntKind.u8.wrap x=x%256:=by
 have e1:IntKind.u8.bits=8:=rfl
 have e2:IntKind.u8.signed=false:=rfl
 simp only[IntKind.wrap,e1,e2,Bool.false_and]
 simp
theorem bL {P:Program}{s:aq}{src dst:TypeId}{k j:IntKind}{d:TypeDesc}{n:Int}(h1:P.underlying src=some d)(h2:P.underlying dst=some (.int k)):gw P s src dst (.int j n)=some (.int k (k.wrap n),s):=by
 unfold gw;rw[h1,h2]
theorem C2 (b:Bool):bZ (.bool b) (.bool b)=true:=by simp[bZ,cN]
theorem cF (k:IntKind)(n:Int):bZ (.int k n) (.int k n)=true:=by simp[bZ,cN]
theorem kG (b:ByteArray):bZ (.string b) (.string b)=true:=by simp[bZ,cN]
theorem lU (a:Option Addr):bZ (.pointer a) (.pointer a)=true:=by simp[bZ,cN]
theorem oN (a:Option Addr)(n c:Nat):bZ (.slice a n c) (.slice a n c)=true:=by
 simp only[bZ,cN,if_true,Bool.true_and,Bool.and_eq_true];exact⟨Nat.beq_refl n,Nat.beq_refl c⟩
structure ar (base:Nat) (s s' :aq):Prop where
 next:s.next<=s'.next
 get:∀i,i<base->s'.heap.get i=s.heap.get i
theorem ar.refl (base:Nat)(s:aq):ar base s s:=⟨Nat.le_refl _,fun _ _=>rfl⟩
theorem ar.trans {base:Nat}{s s' yB:aq}(h:ar base s s')(k:ar base s' yB):ar base s yB:=⟨Nat.le_trans h.next k.next,fun i hi=>(k.get i hi).trans (h.get i hi)⟩
theorem ar.weaken {base b2:Nat}{s s' :aq}(h:ar base s s')(hb:b2<=base):ar b2 s s' :=⟨h.next,fun i hi=>h.get i (by omega)⟩
theorem ar.dZ {base:Nat}{s s' :aq}(h:ar base s s'){i:Nat}(hi:i<base):s'.bR i=s.bR i:=by simp only[aq.bR,h.get i hi]
theorem ar.new (s:aq)(o:AO):ar s.next s (s.new o):=by
 refine⟨by simp[aq.new],fun i hi=> ?_⟩
 simp only[aq.new,Tr.ch _ _ _ _ _ (Nat.ne_of_gt hi)]
theorem oO (s:aq)(b:jZ):(s.new (.dZ b)).bR s.next=some b:=by simp only[aq.new,aq.bR,Tr.bD _ _ _ _ (deep (by omega))]
theorem xq (s:aq)(o:AO):(s.new o).next=s.next+1:=rfl
inductive aN (s:aq) (z:Nat):Value->Nat->List Value->Prop
 |nil:aN s z (.slice none 0 0) 0 []
 |bare (i off:Nat):aN s z (.slice (some ⟨i,off,none⟩) 0 0) 0 []
 |of (i off n c:Nat) (b:jZ) (l:List Value) (hi:i<s.next) (hb:s.bR i=some b) (hz:b.mM=z) (hl:b.low<=c) (hc:c<=b.cells.length+1)
  (hlen:l.length=n*z) (fy:off+n*z<c) (ht:(b.cells.drop off).take (n*z)=l):aN s z (.slice (some ⟨i,off,none⟩) n c) n l
theorem aN.length {s:aq}{z:Nat}{v:Value}{n:Nat}{l:List Value}(h:aN s z v n l):l.length=n*z:=by
 cases h with
 |nil=>simp
 |bare=>simp
 |of i off n c b l hi hb hz hl hc hlen fy ht=>exact hlen
theorem aN.keeps {s s' :aq}{z:Nat}{v:Value}{n:Nat}{l:List Value}(h:aN s z v n l)(k:ar s.next s s'):aN s' z v n l:=by
 cases h with
 |nil=>exact .nil
 |bare=>exact .bare _ _
 |of i off n c b l hi hb hz hl hc hlen fy ht=>exact .of i off n c b l (Nat.lt_of_lt_of_le hi k.next) ((k.dZ hi).trans hb) hz hl hc hlen fy ht
theorem aN.bm {P:Program}{t e:TypeId}(hu:P.underlying t=some (.slice e)){s s2:aq}{z:Nat}{v:Value}{n:Nat}{l:List Value}(h:aN s z v n l):Cl.bm P s2 t v=some (.int .i64 n):=by
 unfold Cl.bm;rw[hu]
 cases h<;>rfl
def bc (z:Nat)(v:Value)(k:Nat):Value:=
 match v with
 | .slice (some ⟨i,off,none⟩) _ c=> .pointer (some ⟨i,off+k*z,some c⟩)
 |_=> .pointer none
theorem gF {s:aq}{i off c n:Nat}{b:jZ}(hb:s.bR i=some b)(hl:b.low<=c)(hc:c<=b.cells.length+1)(ho:off+n<c):s.dr i off c n=some ((b.cells.drop off).take n):=by
 unfold aq.dr
 rw[hb]
 have h1:(Nat.ble b.low c&&Nat.ble c (b.cells.length+1)&&Nat.blt (off+n) c)=true:=by
  simp only[Bool.and_eq_true,Nat.ble_eq,Nat.blt_eq];exact⟨⟨hl,hc⟩,ho⟩
 simp only[h1,if_true]
 rw[sD,wI,if_pos (by simp;omega)]
theorem aN.indexAddr {P:Program}{t e:TypeId}{z:Nat}(hu:P.underlying t=some (.slice e))(cf:aX P e=some z){s:aq}{v:Value}{n:Nat}{l:List Value}(h:aN s z v n l){k:IntKind}{x:Int}(h0:0<=x)(hx:x<n):
  bT P t v (.int k x)=some (bc z v x.toNat):=by
 obtain⟨y,rfl⟩:∃y:Nat,x=y:=⟨x.toNat,by omega⟩
 have hy:y<n:=by omega
 unfold bT;rw[hu]
 cases h with
 |nil=>omega
 |bare=>omega
 |of i off n c b l hi hb hz hl hc hlen fy ht=>
  have dI:Nat.blt y n=true:=by simpa [Nat.blt_eq] using hy
  show(match aX P e with|some z=>if Nat.blt y n then some (Value.pointer (some ⟨i,off+y*z,some c⟩)) else none|none=>none)=_
  rw[cf]
  simp only[dI,if_true,bc,Int.toNat_natCast]
theorem aN.cells {s:aq}{z:Nat}{v:Value}{n:Nat}{l:List Value}(h:aN s z v n l){k:Nat}(hk:k<n):∃i off c,bc z v k= .pointer (some ⟨i,off,some c⟩)/\s.dr i off c z=some ((l.drop (k*z)).take z):=by
 cases h with
 |nil=>omega
 |bare=>omega
 |of i off n c b l hi hb hz hl hc hlen fy ht=>
  have hkz:k*z+z<=n*z:=by
   have:(k+1)*z<=n*z:=Nat.mul_le_mul_right z hk
   rwa [Nat.succ_mul] at this
  refine⟨i,off+k*z,c,rfl,?_⟩
  rw[gF hb hl hc (by omega),<-ht,List.drop_take,List.drop_drop,List.take_take]
  congr 2
  omega
theorem aN.di {P:Program}{e:TypeId}(ow:bX P e=some false){s:aq}{v:Value}{n:Nat}{l:List Value}(h:aN s 1 v n l){k:Nat}(hk:k<n):aJ P s e (bc 1 v k)=some (l.getD k undef):=by
 obtain⟨i,off,c,e1,e2⟩:=h.cells hk
 have hl:=h.length
 rw[e1]
 unfold aJ
 simp only[ow,e2]
 have:(l.drop (k*1)).take 1=[l.getD k undef]:=by
  rw[Nat.mul_one,List.take_one,List.head?_drop,List.getElem?_eq_getElem (by omega)]
  simp[List.getD,List.getElem?_eq_getElem (show k<l.length by omega)]
 rw[this]
theorem aN.fJ {P:Program}{e:TypeId}{z:Nat}(ow:bX P e=some true)(cf:aX P e=some z){s:aq}{v:Value}{n:Nat}{l:List Value}(h:aN s z v n l){k:Nat}(hk:k<n):aJ P s e (bc z v k)=some (.agg ((l.drop (k*z)).take z).toArray):=by
 obtain⟨i,off,c,e1,e2⟩:=h.cells hk
 rw[e1]
 unfold aJ
 simp only[ow,cf,e2]
def dJ (z:Nat)(v:Value)(lo hi:Nat):Value:=
 match v with
 | .slice (some ⟨i,off,none⟩) _ c=> .slice (some ⟨i,off+lo*z,none⟩) (hi-lo) c
 |_=> .slice none 0 0
theorem aN.cut {s:aq}{z:Nat}{v:Value}{n:Nat}{l:List Value}(h:aN s z v n l){lo hi:Nat}(h1:lo<=hi)(h2:hi<=n):aN s z (dJ z v lo hi) (hi-lo) ((l.drop (lo*z)).take ((hi-lo)*z)):=by
 cases h with
 |nil=>obtain rfl:hi=0:=by omega
       obtain rfl:lo=0:=by omega
       simpa [dJ] using(aN.nil (s:=s) (z:=z))
 |bare i off=>obtain rfl:hi=0:=by omega
              obtain rfl:lo=0:=by omega
              simpa [dJ] using(aN.bare (s:=s) (z:=z) i (off+0*z))
 |of i off n c b l wB hb hz hl hc hlen fy ht=>
  have e:lo*z+(hi-lo)*z<=n*z:=by
   rw[<-Nat.add_mul];exact Nat.mul_le_mul_right z (by omega)
  refine .of i (off+lo*z) (hi-lo) c b _ wB hb hz hl hc ?_ (by omega) ?_
  ·rw[List.length_take,List.length_drop,hlen];omega
  ·rw[<-ht,List.drop_take,List.drop_drop,List.take_take]
   congr 1
   omega
theorem aN.slice {P:Program}{t e:TypeId}{z:Nat}(hu:P.underlying t=some (.slice e))(cf:aX P e=some z){s:aq}{v:Value}{n:Nat}{l:List Value}(h:aN s z v n l){lo hi:Option Value}{a b:Nat}
  (ha:gV lo 0=some a) (hb:gV hi n=some b) (h1:a<=b) (h2:b<=n):dj P s t v lo hi none=some (dJ z v a b):=by
 have Iu:(Nat.ble a b&&Nat.ble b n)=true:=by simp only[Bool.and_eq_true,Nat.ble_eq];exact⟨h1,h2⟩
 cases h with
 |nil=>unfold dj;rw[hu];simp only[ha,hb,cf,Iu,if_true,dJ]
 |bare i off=>
  unfold dj;rw[hu];simp only[ha,hb,cf,Iu,if_true,kv,dJ]
 |of i off n c bk l wB hbk hz hl hc hlen fy ht=>
  have he:kv s i c z=true:=by
   unfold kv
   split
   ·rfl
   ·rw[hbk];simp[hz]
  unfold dj;rw[hu];simp only[ha,hb,cf,Iu,if_true,he,dJ]
theorem fR (d:Nat):gV none d=some d:=rfl
theorem p8 {k:IntKind}{x:Int}{d:Nat}(h:0<=x):gV (some (.int k x)) d=some x.toNat:=by
 obtain⟨y,rfl⟩:∃y:Nat,x=y:=⟨x.toNat,by omega⟩
 rfl
theorem aN.src {s:aq}{z:Nat}{v:Value}{n:Nat}{l:List Value}(h:aN s z v n l):dV s z v=some (n,l):=by
 cases h with
 |nil=>rfl
 |bare=>rfl
 |of i off n c b l wB hb hz hl hc hlen fy ht=>
  cases n with
  |zero=>
   have:l=[]:=List.eq_nil_of_length_eq_zero (by simpa using hlen)
   subst this;rfl
  |succ n=>
   simp only[dV]
   rw[gF hb hl hc fy,ht]
inductive Own (s:aq) (z:Nat):Value->Nat->List Value->Prop
 |nil:Own s z (.slice none 0 0) 0 []
 |of (i n low:Nat) (l:List Value) (hi:i<s.next) (hb:s.bR i=some ⟨l,low,true,z⟩) (hl:low<=l.length+1) (hlen:l.length=n*z):Own s z (.slice (some ⟨i,0,none⟩) n (l.length+1)) n l
def aI:Value->Option Nat
 | .slice (some a) _ _=>some a.block
 | .pointer (some a)=>some a.block
 |_=>none
def aF (base:Nat)(v:Value):Prop:=∀i,aI v=some i->base<=i
theorem aF.nil (base:Nat):aF base (.slice none 0 0):=fun i h=>by cases h
theorem Own.aG {s:aq}{z:Nat}{v:Value}{n:Nat}{l:List Value}(h:Own s z v n l):aN s z v n l:=by
 cases h with
 |nil=>exact .nil
 |of i n low l hi hb hl hlen=>exact .of i 0 n _ _ l hi hb rfl hl (Nat.le_refl _) hlen (by omega) (by simp[<-hlen])
theorem Own.length {s:aq}{z:Nat}{v:Value}{n:Nat}{l:List Value}(h:Own s z v n l):l.length=n*z:=h.aG.length
theorem Own.keeps {s s' :aq}{z:Nat}{v:Value}{n:Nat}{l:List Value}(h:Own s z v n l)(k:ar s.next s s'):Own s' z v n l:=by
 cases h with
 |nil=>exact .nil
 |of i n low l hi hb hl hlen=>exact .of i n low l (Nat.lt_of_lt_of_le hi k.next) ((k.dZ hi).trans hb) hl hlen
structure bt (v:Value) (s s' :aq):Prop where
 next:s.next<=s'.next
 get:∀i,i<s.next->aI v≠some i->s'.heap.get i=s.heap.get i
theorem bt.keeps {base:Nat}{v:Value}{s s' :aq}(h:bt v s s')(hf:aF base v)(hb:base<=s.next):ar base s s' :=
 ⟨h.next,fun i hi=>h.get i (by omega) (fun e=>by have:=hf i e;omega)⟩
theorem Own.turns {s s' :aq}{z:Nat}{v u:Value}{n:Nat}{l:List Value}(h:Own s z v n l)(k:bt u s s')(cH:∀i,aI v=some i->aI u≠some i):Own s' z v n l:=by
 cases h with
 |nil=>exact .nil
 |of i n low l hi hb hl hlen=>
  refine .of i n low l (Nat.lt_of_lt_of_le hi k.next) ?_ hl hlen
  simp only[aq.bR,k.get i hi (cH i rfl)];exact hb
theorem Own.new {s:aq}{cs:List Value}{n z:Nat}(h:cs.length=n*z):aZ s cs n z=some (.slice (some ⟨s.next,0,none⟩) n (cs.length+1),s.new (.dZ ⟨cs,1,true,z⟩))/\Own (s.new (.dZ ⟨cs,1,true,z⟩)) z (.slice (some ⟨s.next,0,none⟩) n (cs.length+1)) n cs:=by
 refine⟨by simp[aZ,aq.room],.of s.next n 1 cs (by rw[xq];omega) (oO _ _) (by omega) h⟩
theorem Own.append {P:Program}{st xt e:TypeId}{xd:TypeDesc}{z oo:Nat}{zv:Value}(hu:P.underlying st=some (.slice e))(ZF:P.underlying xt=some xd)(Qc:(∃e2,xd= .slice e2)\/xd= .string)(cf:aX P e=some z)(sQ:eY P e=some oo)(uP:bV P e=some zv)(oK:Nat.beq zv.cells.toList.length z=true)
  {s:aq} {x y:Value} {n m:Nat} {l new:List Value} (hx:Own s z x n l) (hy:dV s z y=some (m,new)) (mA:new.length=m*z) (wC:0<z) (dH:new.all aL=true) (gL:(n+m)*oo<=140737488355328) (dI:n+m<=140737488355328):
  ∃x' s',gW P s st xt x y=some (x',s')/\Own s' z x' (n+m) (l++new)/\bt x s s' /\(aI x' =aI x\/∃i,aI x' =some i/\s.next<=i):=by
 have hy:Im s z oo zv xd y=some (m,new):=by rcases Qc with ⟨e2,rfl⟩|rfl<;>exact hy
 have iy:(Nat.ble ((n+m)*oo) 140737488355328&&Nat.ble (n+m) 140737488355328&&Nat.blt 0 z&&new.all aL&&Nat.beq zv.cells.toList.length z)=true:=by
  simp only[Bool.and_eq_true,Nat.ble_eq,Nat.blt_eq];exact⟨⟨⟨⟨gL,dI⟩,wC⟩,dH⟩,oK⟩
 cases m with
 |zero=>
  have hn:new=[]:=List.eq_nil_of_length_eq_zero (by simpa using mA)
  subst hn
  refine⟨x,s,?_,by simpa using hx,⟨Nat.le_refl _,fun _ _ _=>rfl⟩,.inl rfl⟩
  unfold gW
  rcases Qc with ⟨e2,rfl⟩|rfl<;>
  simp only[hu,ZF,cf,sQ,uP,hy]
  all_goals (cases hx<;>simp only[iy,if_true])
 |succ m=>
  cases hx with
  |nil=>
   obtain⟨h1,h2⟩:=Own.new (s:=s) mA
   refine⟨_,_,?_,by simpa using h2,⟨by rw[xq];omega,fun i hi _=>(ar.new s _).get i hi⟩,.inr ⟨s.next,rfl,Nat.le_refl _⟩⟩
   unfold gW
   rcases Qc with ⟨e2,rfl⟩|rfl<;>
   simp only[hu,ZF,cf,sQ,uP,hy,iy,if_true,h1]
   all_goals simp
  |of i n low l hi hb hl hlen=>
   have iK:(true&&Nat.ble low (l.length+1)&&Nat.beq z z)=true:=by simp[hl]
   have kY:(Nat.beq (l.length+1) (l.length+1)&&Nat.beq 0 0&&Nat.beq (n*z) l.length)=true:=by simp[hlen]
   refine⟨.slice (some ⟨i,0,none⟩) (n+(m+1)) ((l++new).length+1),s.put i (.dZ ⟨l++new,low,true,z⟩),?_,?_,⟨by simp[aq.put],fun j _ hj=> ?_⟩,.inl rfl⟩
   ·unfold gW
    rcases Qc with ⟨e2,rfl⟩|rfl<;>
    simp only[hu,ZF,cf,sQ,uP,hy,iy,if_true,hb,iK,kY]
   ·refine .of i _ low _ (by simpa [aq.put] using hi) (by rw[aq.ck _ _ _ (by omega)]) (by rw[List.length_append];omega) (by rw[List.length_append,hlen,mA,Nat.add_mul n (m+1) z])
   ·rw[aq.bP]
    intro e;subst e;exact hj rfl
theorem bM (l:List UInt8):(ofBytes l).length=l.length:=by simp[ofBytes]
theorem bw {l:List UInt8}{i:Nat}(h:i<l.length):(ofBytes l).getD i undef= .int .u8 ((l.getD i 0).toNat:Int):=by
 simp[ofBytes,List.getD,List.getElem?_eq_getElem h]
theorem br (a b:List UInt8):ofBytes (a++b)=ofBytes a++ofBytes b:=by simp[ofBytes]
theorem IP (a:UInt8)(b:List UInt8):ofBytes (a::b)= .int .u8 (a.toNat:Int)::ofBytes b:=rfl
theorem qS (n:Nat)(l:List UInt8):(ofBytes l).take n=ofBytes (l.take n):=by simp[ofBytes,List.map_take]
theorem IQ (n:Nat)(l:List UInt8):(ofBytes l).drop n=ofBytes (l.drop n):=by simp[ofBytes,List.map_drop]
theorem dh (l:List UInt8):(ofBytes l).all aL=true:=by simp[ofBytes,aL]
theorem dk (z:Nat)(v:Value)(k:Nat):bZ (bc z v k) (bc z v k)=true:=by
 unfold bc;split<;>exact lU _
theorem C3 (z:Nat)(v:Value)(a b:Nat):bZ (dJ z v a b) (dJ z v a b)=true:=by
 unfold dJ;split<;>exact oN _ _ _
theorem aN.self {s:aq}{z:Nat}{v:Value}{n:Nat}{l:List Value}(h:aN s z v n l):bZ v v=true:=by
 cases h<;>exact oN _ _ _
theorem Own.self {s:aq}{z:Nat}{v:Value}{n:Nat}{l:List Value}(h:Own s z v n l):bZ v v=true:=h.aG.self
theorem aN.GV {P:Program}{t e:TypeId}{z:Nat}(hu:P.underlying t=some (.slice e))(cf:aX P e=some z){s:aq}{v:Value}{n:Nat}{l:List Value}(h:aN s z v n l){k k2:IntKind}{x y:Int}
  (h0:0<=x) (h1:x<=y) (h2:y<=n):dj P s t v (some (.int k x)) (some (.int k2 y)) none=some (dJ z v x.toNat y.toNat):=
 h.slice hu cf (p8 h0) (p8 (by omega)) (by omega) (by omega)
theorem aN.ff {P:Program}{t e:TypeId}{z:Nat}(hu:P.underlying t=some (.slice e))(cf:aX P e=some z){s:aq}{v:Value}{n:Nat}{l:List Value}(h:aN s z v n l){k:IntKind}{x:Int}
  (h0:0<=x) (h2:x<=n):dj P s t v (some (.int k x)) none none=some (dJ z v x.toNat n):=
 h.slice hu cf (p8 h0) rfl (by omega) (by omega)
theorem aN.iS {P:Program}{t e:TypeId}{z:Nat}(hu:P.underlying t=some (.slice e))(cf:aX P e=some z){s:aq}{v:Value}{n:Nat}{l:List Value}(h:aN s z v n l){k:IntKind}{y:Int}
  (h1:0<=y) (h2:y<=n):dj P s t v none (some (.int k y)) none=some (dJ z v 0 y.toNat):=
 h.slice hu cf rfl (p8 (by omega)) (by omega) (by omega)
theorem aN.tk {s:aq}{z:Nat}{v:Value}{n:Nat}{l:List Value}(h:aN s z v n l):v.cells.toList=[v]:=by cases h<;>rfl
theorem aN.aL {s:aq}{z:Nat}{v:Value}{n:Nat}{l:List Value}(h:aN s z v n l):Cl.aL v=true:=by cases h<;>rfl
theorem aN.turns {s s' :aq}{z:Nat}{v u:Value}{n:Nat}{l:List Value}(h:aN s z v n l)(k:bt u s s')(cH:∀i,i<s.next->aI v=some i->aI u≠some i):aN s' z v n l:=by
 cases h with
 |nil=>exact .nil
 |bare=>exact .bare _ _
 |of i off n c b l hi hb hz hl hc hlen fy ht=>
  refine .of i off n c b l (Nat.lt_of_lt_of_le hi k.next) ?_ hz hl hc hlen fy ht
  simp only[aq.bR,k.get i hi (cH i hi rfl)];exact hb
theorem aN.p9 {s:aq}{v:Value}{l:List UInt8}(h:aN s 1 v l.length (ofBytes l)){lo hi:Nat}(h1:lo<=hi)(h2:hi<=l.length):aN s 1 (dJ 1 v lo hi) ((l.drop lo).take (hi-lo)).length (ofBytes ((l.drop lo).take (hi-lo))):=by
 have:=h.cut h1 h2
 rw[Nat.mul_one,Nat.mul_one,IQ,qS] at this
 rw[List.length_take,List.length_drop,Nat.min_eq_left (by omega)]
 exact this
structure Grown (x:Value) (s:aq) (v:Value) (s' :aq):Prop where
 turns:bt x s s'
 id:aI v=aI x\/∃i,aI v=some i/\s.next<=i
theorem Grown.refl (x:Value)(s:aq):Grown x s x s:=⟨⟨Nat.le_refl _,fun _ _ _=>rfl⟩,.inl rfl⟩
theorem Grown.trans {x y v:Value}{s s' yB:aq}(h:Grown x s y s')(k:Grown y s' v yB):Grown x s v yB:=by
 refine⟨⟨Nat.le_trans h.turns.next k.turns.next,fun i hi cH=> ?_⟩,?_⟩
 ·rw[k.turns.get i (Nat.lt_of_lt_of_le hi h.turns.next) ?_,h.turns.get i hi cH]
  rcases h.id with e|⟨j,e,hj⟩
  ·rw[e];exact cH
  ·rw[e];intro q;injection q with q;omega
 ·rcases k.id with e|⟨j,e,hj⟩
  ·rcases h.id with e2|⟨j,e2,hj⟩
   ·left;rw[e,e2]
   ·right;exact⟨j,by rw[e,e2],hj⟩
  ·right;exact⟨j,e,Nat.le_trans h.turns.next hj⟩
theorem Grown.stay {base:Nat}{x v:Value}{s s' :aq}(h:Grown x s v s')(hf:aF base x)(hb:base<=s.next):ar base s s' :=h.turns.keeps hf hb
theorem Grown.fresh {base:Nat}{x v:Value}{s s' :aq}(h:Grown x s v s')(hf:aF base x)(hb:base<=s.next):aF base v:=fun i hi=>by
 rcases h.id with e|⟨j,e,hj⟩
 ·exact hf i (by rw[<-e];exact hi)
 ·rw[e] at hi;injection hi with hi;omega
theorem Own.iD {s:aq}{z:Nat}{v:Value}{n:Nat}{l:List Value}(h:Own s z v n l):∀i,aI v=some i->i<s.next:=by
 cases h with
 |nil=>intro i h;cases h
 |of i n low l hi hb hl hlen=>intro j h;injection h with h;subst h;exact hi
theorem cY {P:Program}{t e:TypeId}(hu:P.underlying t=some (.pointer e))(a:Addr):cQ P .eql t (.pointer (some a)) (.pointer none)=some (.bool false):=by
 simp[cQ,rM,hu]
theorem VC {P:Program}{t e:TypeId}(hu:P.underlying t=some (.pointer e))(a:Addr):cQ P .neq t (.pointer (some a)) (.pointer none)=some (.bool true):=by
 simp[cQ,rM,hu]
def C4:Value->Bool
 | .slice none _ _=>true
 |_=>false
theorem aN.oP {P:Program}{t e:TypeId}(hu:P.underlying t=some (.slice e)){s:aq}{z:Nat}{v:Value}{n:Nat}{l:List Value}(h:aN s z v n l):cQ P .eql t v (.slice none 0 0)=some (.bool (C4 v)):=by
 cases h<;>simp[cQ,rM,hu,C4]
theorem aN.isNil {s:aq}{z:Nat}{v:Value}{n:Nat}{l:List Value}(h:aN s z v n l)(hn:C4 v=true):n=0/\l=[]/\v= .slice none 0 0:=by
 cases h with
 |nil=>exact⟨rfl,rfl,rfl⟩
 |bare=>cases hn
 |of=>cases hn
def Br (base:Nat)(s:aq)(z:Nat)(v:Value)(n:Nat)(l:List Value):Prop:=∀s',ar base s s' ->aN s' z v n l
theorem Br.aG {base:Nat}{s:aq}{z:Nat}{v:Value}{n:Nat}{l:List Value}(h:Br base s z v n l):aN s z v n l:=h s (ar.refl _ _)
theorem Br.stay {base:Nat}{s s' :aq}{z:Nat}{v:Value}{n:Nat}{l:List Value}(h:Br base s z v n l)(k:ar base s s'):Br base s' z v n l:=fun yB k' =>h yB (k.trans k')
theorem aN.low {s:aq}{z:Nat}{v:Value}{n:Nat}{l:List Value}(h:aN s z v n l):Br s.next s z v n l:=fun _ k=>h.keeps k
theorem aN.full {P:Program}{t e:TypeId}{z:Nat}(hu:P.underlying t=some (.slice e))(cf:aX P e=some z){s:aq}{v:Value}{n:Nat}{l:List Value}(h:aN s z v n l)(k k2:IntKind):
  ∃v',dj P s t v none (some (.int k n)) (some (.int k2 n))=some v' /\∀s',aN s' z v n l->aN s' z v' n l:=by
 have h1:gV (some (.int k (n:Int))) n=some n:=rfl
 have h2:gV (some (.int k2 (n:Int))) 0=some n:=rfl
 have h3:(Nat.ble 0 n&&Nat.ble n n)=true:=by simp
 have h4:(Nat.ble n n&&Nat.ble n n)=true:=by simp
 cases h with
 |nil=>exact⟨.slice none 0 0,by unfold dj;rw[hu];simp only[fR,h1,cf,h3,if_true,h2],fun _ h=>h⟩
 |bare i off=>exact⟨.slice (some ⟨i,off+0*z,none⟩) 0 0,by unfold dj;rw[hu];simp only[fR,h1,cf,h3,if_true,h2,kv];rfl,fun s' _=> .bare _ _⟩
 |of i off n c b l hi hb hz hl hc hlen fy ht=>
  have he:kv s i c z=true:=by
   unfold kv
   split
   ·rfl
   ·rw[hb];simp[hz]
  by_cases h0:n=0
  ·subst h0
   refine⟨.slice (some ⟨i,off+0*z,none⟩) 0 0,by unfold dj;rw[hu];simp only[fR,h1,cf,h3,if_true,h2,he];rfl,fun s' _=> ?_⟩
   have:l=[]:=List.eq_nil_of_length_eq_zero (by simpa using hlen)
   subst this;exact .bare _ _
  ·refine⟨.slice (some ⟨i,off,none⟩) n c,?_,fun s' h=>h⟩
   have cH:Nat.beq 0 n=false:=by rw[<-Bool.not_eq_true,Nat.beq_eq];omega
   unfold dj;rw[hu];simp only[fR,h1,cf,h3,if_true,h2,h4,he,cH];simp
theorem y9 {P:Program}{s:aq}{t e:TypeId}{zv:Value}{z:Nat}(hu:P.underlying t=some (.slice e))(cf:aX P e=some z)(hz:bV P e=some zv)(hp:bN zv=true)(hl:Nat.beq zv.cells.toList.length z=true):aO P s t 0 []=aZ s [] 0 z:=by
 unfold aO;rw[hu];simp only[cf,hz,hp,hl];simp[bB,fG]
end Go.Cl
