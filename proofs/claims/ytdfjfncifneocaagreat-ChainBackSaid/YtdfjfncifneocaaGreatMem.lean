/-
 The clean machine, part 20: what a call and a piece of code come to, whatever the fuel beyond some. A reading of code as a sentence.
-/
import Derived.Test.YtdfjfncifneocaaGreatMcB
open Go renaming Program->ab,Value->an,Operand->ao,TypeId->av,Oper->a0,IntKind->a9,Code->bn,FuncId->cv
open _root_ renaming List->aE,Nat->aR,Option->a1,if_true->a2,Array->a4,if_neg->bq,Bool->bC,if_pos->b4,UInt8->cp,Int->c5
open Nat renaming blt_eq->a3,lt_of_lt_of_le->a6,ble->bd,blt->bg,le_refl->bo,beq->bz,mul_le_mul_right->b7,le_trans->cc,mul_one->cm,beq_eq->cx,ble_eq->cz,beq_refl->c3,add_mul->c4
open List renaming eq_nil_of_length_eq_zero->a5,getElem?_eq_getElem->bb,mem_cons_of_mem->b5,mem_cons_self->ca,length_append->cb,length_take->cd,length_drop->cg,drop_take->cA,drop_drop->cB,take_take->cR,getD->c0
open Bool renaming not_eq_true->a7,and_eq_true->a8,true_and->b8
open BitVec renaming ofInt->bl
namespace Go.Cl
theorem cI.refl (s:aq):cI s s (fun _=>none):=⟨rfl,fun _ _ h=>(by cases h),fun _=>rfl⟩
theorem yV {P:ab}{o:a0}{f:aW}{s:aq}(hw:WF s){v:an}{t:aq}(h:cS P o f s=some (.val v t)):bW s t:=by
 obtain⟨_,_,_,k⟩:=kE (cI.refl s) hw h
 exact k
def Runs (P:ab)(lib:aA)(g:cv)(args:aE an)(s:aq)(Q:an->aq->Prop):Prop:=
 WF s->∃v s',(∃n,∀m,n<=m->gX P lib m g args s=some (v,s'))/\bW s s' /\Q v s'
def Comes (P:ab)(lib:aA)(c:bn)(f:aW)(s:aq)(Q:AX->aW->aq->Prop):Prop:=
 WF s->∃x f' s',(∃n,∀m,n<=m->exec P lib m c f s=some (x,f',s'))/\bW s s' /\Q x f' s'
def KK (P:ab)(lib:aA)(all l:aE a0)(f:aW)(s:aq)(Q:aW->aq->Prop):Prop:=
 WF s->∃f' s',(∃n,∀m,n<=m->gh P (gX P lib m) all l f s=some (f',s'))/\bW s s' /\Q f' s'
theorem Runs.mono {P:ab}{lib:aA}{g:cv}{args:aE an}{s:aq}{Q Q' :an->aq->Prop}(h:Runs P lib g args s Q)(k:∀v s',Q v s' ->Q' v s'):Runs P lib g args s Q' :=by
 intro hw
 obtain⟨v,s',hn,hk,hq⟩:=h hw
 exact⟨v,s',hn,hk,k _ _ hq⟩
theorem Comes.mono {P:ab}{lib:aA}{c:bn}{f:aW}{s:aq}{Q Q' :AX->aW->aq->Prop}(h:Comes P lib c f s Q)(k:∀x f' s',Q x f' s' ->Q' x f' s'):Comes P lib c f s Q' :=by
 intro hw
 obtain⟨x,f',s',hn,hk,hq⟩:=h hw
 exact⟨x,f',s',hn,hk,k _ _ _ hq⟩
def fA (f:aW)(d:a1 Tmp)(v:an)(K:aW->Prop):Prop:=
 match kX f d v with
 |some f' =>K f'
 |none=>False
mutual
def pw (P:ab)(lib:aA)(all:aE a0):aE a0->aW->aq->(aW->aq->Prop)->Prop
 |[],f,s,Q=>Q f s
 |o::r,f,s,Q=>
  match cT all o f with
  |true=>
   match cS P o f s with
   |some (.val v s')=>fA f o.dst v fun f' =>pw P lib all r f' s' Q
   |some (.call g args)=>Runs P lib g args s fun v s' =>fA f o.dst v fun f' =>pw P lib all r f' s' Q
   |none=>False
  |false=>fA f o.dst undef fun f' =>pw P lib all r f' s Q
end
def dW (P:ab)(lib:aA)(all r:aE a0)(f:aW)(s:aq)(d:a1 Tmp)(Q:aW->aq->Prop):a1 AR->Prop
 |some (.val v s')=>fA f d v fun f' =>pw P lib all r f' s' Q
 |some (.call g args)=>Runs P lib g args s fun v s' =>fA f d v fun f' =>pw P lib all r f' s' Q
 |none=>False
def Gz (P:ab)(lib:aA)(all r:aE a0)(f:aW)(d:a1 Tmp)(Q:aW->aq->Prop)(v:an)(s' :aq):Prop:=fA f d v fun f' =>pw P lib all r f' s' Q
def w6 (P:ab)(lib:aA)(all:aE a0)(o:a0)(r:aE a0)(f:aW)(s:aq)(Q:aW->aq->Prop):bC->Prop
 |true=>dW P lib all r f s o.dst Q (cS P o f s)
 |false=>fA f o.dst undef fun f' =>pw P lib all r f' s Q
theorem Cu (P:ab)(lib:aA)(all:aE a0)(f:aW)(s:aq)(Q:aW->aq->Prop):pw P lib all [] f s Q=Q f s:=by simp only[pw]
theorem ub (P:ab)(lib:aA)(all:aE a0)(o:a0)(r:aE a0)(f:aW)(s:aq)(Q:aW->aq->Prop):pw P lib all (o::r) f s Q=w6 P lib all o r f s Q (cT all o f):=by
 simp only[pw]
 cases cT all o f with
 |false=>rfl
 |true=>
  simp only[w6]
  cases cS P o f s with
  |none=>rfl
  |some a=>cases a<;>rfl
theorem vD (P:ab)(lib:aA)(all:aE a0)(o:a0)(r:aE a0)(f:aW)(s:aq)(Q:aW->aq->Prop):w6 P lib all o r f s Q true=dW P lib all r f s o.dst Q (cS P o f s):=rfl
theorem eV (f:aW)(t:Tmp)(v:an)(K:aW->Prop):fA f (some t) v K=if t<f.n then K (f.put t v) else False:=by
 unfold fA kX
 by_cases h:t<f.n
 ·have hb:bg t f.n=true:=by simpa [a3] using h
  simp only[hb,a2,b4 h]
 ·have hb:bg t f.n=false:=by rw[<-a7,a3];exact h
  simp[hb,bq h]
theorem GA (f:aW)(v:an)(K:aW->Prop):fA f none v K=K f:=rfl
theorem pW (P:ab)(lib:aA)(all:aE a0)(op:Op)(ty:av)(ps:String)(af:a4 Edge)(gd:a1 (aR×bC))(r:aE a0)(f:aW)(s:aq)(Q:aW->aq->Prop)(t:Tmp):w6 P lib all ⟨some t,op,ty,ps,af,gd⟩ r f s Q false=if t<f.n then pw P lib all r (f.put t undef) s Q else False:=by
 unfold w6;simp only;rw[eV]
theorem pX (P:ab)(lib:aA)(all:aE a0)(op:Op)(ty:av)(ps:String)(af:a4 Edge)(gd:a1 (aR×bC))(r:aE a0)(f:aW)(s:aq)(Q:aW->aq->Prop):w6 P lib all ⟨none,op,ty,ps,af,gd⟩ r f s Q false=pw P lib all r f s Q:=rfl
theorem yW (P:ab)(lib:aA)(all r:aE a0)(f:aW)(s:aq)(t:Tmp)(Q:aW->aq->Prop)(v:an)(s' :aq):dW P lib all r f s (some t) Q (some (.val v s'))=if t<f.n then pw P lib all r (f.put t v) s' Q else False:=by
 simp only[dW,eV]
theorem ta (P:ab)(lib:aA)(all r:aE a0)(f:aW)(s:aq)(Q:aW->aq->Prop)(v:an)(s' :aq):dW P lib all r f s none Q (some (.val v s'))=pw P lib all r f s' Q:=rfl
theorem Cv (P:ab)(lib:aA)(all r:aE a0)(f:aW)(s:aq)(d:a1 Tmp)(Q:aW->aq->Prop)(g:cv)(args:aE an):dW P lib all r f s d Q (some (.call g args))=Runs P lib g args s (Gz P lib all r f d Q):=rfl
theorem Cw (P:ab)(lib:aA)(all r:aE a0)(f:aW)(t:Tmp)(Q:aW->aq->Prop)(v:an)(s' :aq):Gz P lib all r f (some t) Q v s' =if t<f.n then pw P lib all r (f.put t v) s' Q else False:=by
 simp only[Gz,eV]
theorem Cx (P:ab)(lib:aA)(all r:aE a0)(f:aW)(Q:aW->aq->Prop)(v:an)(s' :aq):Gz P lib all r f none Q v s' =pw P lib all r f s' Q:=rfl
theorem px {P:ab}{lib:aA}{all r:aE a0}{f:aW}{d:a1 Tmp}{Q:aW->aq->Prop}{v:an}{s' :aq}(F:aW->Prop)(h:F f)(k:∀f,F f->Gz P lib all r f d Q v s'):Gz P lib all r f d Q v s' :=k f h
theorem ZC {P:ab}{lib:aA}(all:aE a0):∀(l:aE a0) (f:aW) (s:aq) (Q:aW->aq->Prop),pw P lib all l f s Q->KK P lib all l f s Q:=by
 intro l
 induction l with
 |nil=>intro f s Q h qC;rw[Cu] at h;exact⟨f,s,⟨0,fun m _=>rfl⟩,bW.refl qC,h⟩
 |cons o r ih=>
  intro f s Q h qC
  rw[ub] at h
  have nL:∀(v:an) (s' :aq),(fA f o.dst v fun f' =>pw P lib all r f' s' Q)->∃f1,kX f o.dst v=some f1/\KK P lib all r f1 s' Q:=by
   intro v s' h
   unfold fA at h
   split at h
   ·exact⟨_,‹_›,ih _ _ _ h⟩
   ·exact h.elim
  cases hw:cT all o f with
  |false=>
   rw[hw] at h
   obtain⟨f1,hp,hc⟩:=nL _ _ h
   obtain⟨f',s',⟨n,hn⟩,hk,hq⟩:=hc qC
   refine⟨f',s',⟨n,fun m hm=> ?_⟩,hk,hq⟩
   simp only[gh,hw,hp]
   simpa using hn m hm
  |true=>
   rw[hw] at h
   simp only[w6] at h
   unfold dW at h
   split at h
   ·rename_i v s1 fY
    have lz:=yV qC fY
    obtain⟨f1,hp,hc⟩:=nL _ _ h
    obtain⟨f',s',⟨n,hn⟩,hk,hq⟩:=hc lz.wf
    refine⟨f',s',⟨n,fun m hm=> ?_⟩,lz.trans hk,hq⟩
    simp only[gh,hw,fY,hp]
    simpa using hn m hm
   ·rename_i g args fY
    obtain⟨v,s1,⟨n1,h1⟩,lz,h⟩:=h qC
    obtain⟨f1,hp,hc⟩:=nL _ _ h
    obtain⟨f',s',⟨n,hn⟩,hk,hq⟩:=hc lz.wf
    refine⟨f',s',⟨n+n1,fun m hm=> ?_⟩,lz.trans hk,hq⟩
    simp only[gh,hw,fY,h1 m (by omega),hp]
    simpa using hn m (by omega)
   ·exact h.elim
def iB (P:ab)(l:aE a0):bC:=l.all (aP P)
def jU (P:ab)(all:aE a0):aE a0->aW->aq->(aW->Prop)->Prop
 |[],f,_,Q=>Q f
 |o::r,f,s,Q=>
  match cT all o f with
  |true=>
   match cS P o f s with
   |some (.val v _)=>bZ v v=true/\fA f o.dst v fun f' =>jU P all r f' s Q
   |_=>False
  |false=>fA f o.dst undef fun f' =>jU P all r f' s Q
def KL (P:ab)(all r:aE a0)(f:aW)(s:aq)(d:a1 Tmp)(Q:aW->Prop):a1 AR->Prop
 |some (.val v _)=>bZ v v=true/\fA f d v fun f' =>jU P all r f' s Q
 |_=>False
def GB (P:ab)(all:aE a0)(o:a0)(r:aE a0)(f:aW)(s:aq)(Q:aW->Prop):bC->Prop
 |true=>KL P all r f s o.dst Q (cS P o f s)
 |false=>fA f o.dst undef fun f' =>jU P all r f' s Q
theorem vE (P:ab)(all:aE a0)(f:aW)(s:aq)(Q:aW->Prop):jU P all [] f s Q=Q f:=rfl
theorem tc (P:ab)(all:aE a0)(o:a0)(r:aE a0)(f:aW)(s:aq)(Q:aW->Prop):jU P all (o::r) f s Q=GB P all o r f s Q (cT all o f):=by
 simp only[jU]
 cases cT all o f with
 |false=>rfl
 |true=>
  simp only[GB]
  cases cS P o f s with
  |none=>rfl
  |some a=>cases a<;>rfl
theorem Cy (P:ab)(all:aE a0)(o:a0)(r:aE a0)(f:aW)(s:aq)(Q:aW->Prop):GB P all o r f s Q true=KL P all r f s o.dst Q (cS P o f s):=rfl
theorem pY (P:ab)(all:aE a0)(op:Op)(ty:av)(ps:String)(af:a4 Edge)(gd:a1 (aR×bC))(r:aE a0)(f:aW)(s:aq)(Q:aW->Prop)(t:Tmp):GB P all ⟨some t,op,ty,ps,af,gd⟩ r f s Q false=if t<f.n then jU P all r (f.put t undef) s Q else False:=by
 unfold GB;simp only;rw[eV]
theorem GC (P:ab)(all r:aE a0)(f:aW)(s:aq)(t:Tmp)(Q:aW->Prop)(v:an)(s' :aq):KL P all r f s (some t) Q (some (.val v s'))=if bZ v v=true/\t<f.n then jU P all r (f.put t v) s Q else False:=by
 simp only[KL,eV]
 by_cases h1:bZ v v=true<;>by_cases h2:t<f.n<;>simp[h1,h2]
theorem uT {P:ab}:∀{l:aE a0},iB P l=true->(∀o∈l,aP P o=true)/\aT P l=0:=by
 intro l
 induction l with
 |nil=>intro _;exact⟨fun o h=>(by cases h),rfl⟩
 |cons o r ih=>
  intro h
  simp only[iB,List.all_cons,a8] at h
  obtain⟨h1,h2⟩:=ih (by simpa [iB] using h.2)
  have N1:aM P o=false:=by
   obtain⟨dst,op,type,pos,after,guard⟩:=o
   cases op<;>simp_all[aP,aM]
   case convert a b x=>
    simp only[jv]
    split
    ·rename_i _ e hb;simp_all
    ·rfl
  exact⟨fun p hp=>(List.mem_cons.mp hp).elim (fun e=>e▸h.1) (fun hp=>h1 p hp),by simp[aT,N1,h2]⟩
theorem mC {P:ab}{o:a0}(hq:aP P o=true):aM P o=false:=by
 have:=(uT (P:=P) (l:=[o]) (by simp[iB,hq])).2
 simp only[aT] at this
 cases h:aM P o with
 |false=>rfl
 |true=>rw[h] at this;simp at this
theorem lA {P:ab}{o:a0}(hq:aP P o=true):bp P o=false:=by simp[bp,hq]
theorem Fw {P:ab}{all:aE a0}{s:aq}(w7:aE aR){Q:aW->Prop}:∀(l:aE a0) (ms:aE aR) (i id:aR) (f:aW),(∀o∈l,aP P o=true)->ms.length=l.length->jU P all l f s Q->
  ∃es f',(∀call,cO P call all ms l i id f s []=some es)/\(∀k,madeOf es k=[])/\aH P l es s=[s]/\cU l es f=f' /\cE P all w7 [] [s] ms l es i f=true/\Q f' :=by
 intro l
 induction l with
 |nil=>
  intro ms i id f _ hl hw
  rw[vE] at hw
  cases ms with
  |cons m r=>simp at hl
  |nil=>exact⟨[],f,fun _=>rfl,fun _=>rfl,rfl,rfl,rfl,hw⟩
 |cons o r ih=>
  intro ms i id f hq hl hw
  cases ms with
  |nil=>simp at hl
  |cons m ms=>
  have hqo:=hq o (ca ..)
  have N1:=mC hqo
  have cH:=lA hqo
  have hqr:∀p∈r,aP P p=true:=fun p hp=>hq p (b5 _ hp)
  have KM:ms.length=r.length:=by simpa using hl
  rw[tc] at hw
  have nL:∀(v:an),(fA f o.dst v fun f' =>jU P all r f' s Q)->∃f1,kX f o.dst v=some f1/\jU P all r f1 s Q:=by
   intro v h
   unfold fA at h
   split at h
   ·exact⟨_,‹_›,h⟩
   ·exact h.elim
  cases yA:cT all o f with
  |false=>
   rw[yA] at hw
   obtain⟨f1,hp,hw⟩:=nL _ hw
   obtain⟨es,f',h1,h2,h3,h4,h5,h6⟩:=ih ms (i+1) id f1 hqr KM hw
   refine⟨.skip::es,f',fun call=> ?_,fun k=> ?_,?_,?_,?_,h6⟩
   ·simp only[cO,ei,yA,Ev.val,hp,N1]
    rw[bq (by simp),h1 call]
   ·simp only[madeOf,h2]
   ·simp only[aH,cH,h3];simp
   ·simp only[cU,Ev.val,hp,h4]
   ·simp only[cE,Ev.val,hp,h5];rfl
  |true=>
   rw[yA] at hw
   simp only[GB] at hw
   unfold KL at hw
   split at hw
   case h_2=>exact hw.elim
   rename_i v s1 fY
   obtain⟨hv,hw⟩:=hw
   obtain⟨f1,hp,hw⟩:=nL _ hw
   obtain⟨es,f',h1,h2,h3,h4,h5,h6⟩:=ih ms (i+1) id f1 hqr KM hw
   refine⟨.quiet v::es,f',fun call=> ?_,fun k=> ?_,?_,?_,?_,h6⟩
   ·simp only[cO,ei,yA,hqo,Cl.fill,fY,Ev.val,hp,N1]
    rw[bq (by simp),h1 call]
   ·simp only[madeOf,h2]
   ·simp only[aH,cH,h3];simp
   ·simp only[cU,Ev.val,hp,h4]
   ·simp only[cE,Ev.val,hp,h5,Bool.and_true]
    have wL:∀(L:aE aq),(∀x∈L,x=s)->sameAt P m [] o f v L=true:=by
     intro L
     induction L with
     |nil=>intro _;rfl
     |cons x L So=>
      intro hx
      obtain rfl:=hx x (ca ..)
      simp only[sameAt,Cl.fill,fY,hv,b8]
      exact So (fun y hy=>hx y (b5 _ hy))
    exact wL _ (fun x hx=>by simpa using List.mem_of_mem_take (List.mem_of_mem_drop hx))
theorem Fy {P:ab}{ops:aE a0}(hq:iB P ops=true){f:aW}{s:aq}{Q:aW->Prop}(h:jU P ops ops f s Q):∃f',(∀call,fH P call ops f s=some (f',s))/\Q f' :=by
 obtain⟨hqs,Vh⟩:=uT hq
 have Qj:(cD ops []).length=ops.length:=by
  obtain⟨r,h1,h2⟩:=nm ops []
  rw[h1];simpa using h2
 obtain⟨es,f',h1,h2,h3,h4,h5,h6⟩:=Fw (cD ops []) ops (cD ops []) 0 s.next f hqs Qj h
 refine⟨f',fun call=> ?_,h6⟩
 have hs:(⟨s.heap,s.next+aT P ops⟩:aq)=s:=by rw[Vh];rfl
 unfold fH
 rw[hs,h1 call]
 simp only[h2,h3,h5,h4,Cl.fill,List.getLastD]
 rfl
def cX (P:ab)(lib:aA)(ops:aE a0)(f:aW)(s:aq)(Q:aW->aq->Prop):Prop:=
 WF s->∃f' s',(∃n,∀m,n<=m->fH P (gX P lib m) ops f s=some (f',s'))/\bW s s' /\Q f' s'
def GD (P:ab)(lib:aA)(ops:aE a0)(f:aW)(s:aq)(Q:aW->aq->Prop):bC->Prop
 |true=>jU P ops ops f s (fun f' =>Q f' s)
 |false=>cX P lib ops f s Q
def Qm (id:aR):AX->AX
 | .exit j=>if j=id then .normal else .exit j
 |x=>x
def eW (P:ab)(lib:aA):bn->aW->aq->(AX->aW->aq->Prop)->Prop
 | .skip,f,s,Q=>Q .normal f s
 | .label _,f,s,Q=>Q .normal f s
 | .region _ ops d,f,s,Q=>
  match d with
  |false=>pw P lib ops.toList ops.toList f s (Q .normal)
  |true=>GD P lib ops.toList f s (Q .normal) (iB P ops.toList)
 | .seq a b,f,s,Q=>eW P lib a f s fun x f' s' =>
  match x with
  | .normal=>eW P lib b f' s' Q
  |x=>Q x f' s'
 | .cond x a b,f,s,Q=>
  match aS f x with
  |some (.bool t)=>
   match t with
   |true=>eW P lib a f s Q
   |false=>eW P lib b f s Q
  |_=>False
 | .block id a,f,s,Q=>eW P lib a f s fun x f' s' =>Q (Qm id x) f' s'
 | .loop a,f,s,Q=>Comes P lib (.loop a) f s Q
 | .exit id,f,s,Q=>Q (.exit id) f s
 | .scope a,f,s,Q=>eW P lib a f s Q
 | .ret,f,s,Q=>Q .ret f s
 |_,_,_,_=>False
def rP (P:ab)(lib:aA)(b:bn)(Q:AX->aW->aq->Prop)(x:AX)(f' :aW)(s' :aq):Prop:=
 match x with
 | .normal=>eW P lib b f' s' Q
 |x=>Q x f' s'
def Vx (id:aR)(Q:AX->aW->aq->Prop)(x:AX)(f' :aW)(s' :aq):Prop:=Q (Qm id x) f' s'
def Vy (P:ab)(lib:aA)(a b:bn)(f:aW)(s:aq)(Q:AX->aW->aq->Prop):bC->Prop
 |true=>eW P lib a f s Q
 |false=>eW P lib b f s Q
def Vz (P:ab)(lib:aA)(a b:bn)(f:aW)(s:aq)(Q:AX->aW->aq->Prop):a1 an->Prop
 |some (.bool t)=>Vy P lib a b f s Q t
 |_=>False
section
variable (P:ab) (lib:aA) (f:aW) (s:aq) (Q:AX->aW->aq->Prop)
theorem Cz:eW P lib .skip f s Q=Q .normal f s:=rfl
theorem w9 (id:aR)(ops:a4 a0):eW P lib (.region id ops false) f s Q=pw P lib ops.toList ops.toList f s (Q .normal):=rfl
theorem CA (id:aR)(ops:a4 a0):eW P lib (.region id ops true) f s Q=GD P lib ops.toList f s (Q .normal) (iB P ops.toList):=rfl
theorem CB (ops:aE a0)(R:aW->aq->Prop):GD P lib ops f s R true=jU P ops ops f s (fun f' =>R f' s):=rfl
theorem GF (a b:bn):eW P lib (.seq a b) f s Q=eW P lib a f s (rP P lib b Q):=rfl
theorem xe (b:bn):rP P lib b Q .normal f s=eW P lib b f s Q:=rfl
theorem GG (b:bn):rP P lib b Q .ret f s=Q .ret f s:=rfl
theorem CC (b:bn)(id:aR):rP P lib b Q (.exit id) f s=Q (.exit id) f s:=rfl
theorem vF (x:ao)(a b:bn):eW P lib (.cond x a b) f s Q=Vz P lib a b f s Q (aS f x):=by
 simp only[eW]
 cases aS f x with
 |none=>rfl
 |some v=>cases v<;>first|rfl|(rename_i t;cases t<;>rfl)
theorem CD (a b:bn)(t:bC):Vz P lib a b f s Q (some (.bool t))=Vy P lib a b f s Q t:=rfl
theorem KN (a b:bn):Vy P lib a b f s Q true=eW P lib a f s Q:=rfl
theorem GH (a b:bn):Vy P lib a b f s Q false=eW P lib b f s Q:=rfl
theorem z5 (id:aR)(a:bn):eW P lib (.block id a) f s Q=eW P lib a f s (Vx id Q):=rfl
theorem z6 (id:aR):Vx id Q .normal f s=Q .normal f s:=rfl
theorem KO (id:aR):Vx id Q .ret f s=Q .ret f s:=rfl
theorem GI (id j:aR):Vx id Q (.exit j) f s=if j=id then Q .normal f s else Q (.exit j) f s:=by
 simp only[Vx,Qm];split<;>rfl
theorem CE (a:bn):eW P lib (.loop a) f s Q=Comes P lib (.loop a) f s Q:=rfl
theorem CF (id:aR):eW P lib (.exit id) f s Q=Q (.exit id) f s:=rfl
theorem z8 (a:bn):eW P lib (.scope a) f s Q=eW P lib a f s Q:=rfl
theorem GJ:eW P lib .ret f s Q=Q .ret f s:=rfl
end
theorem iN {P:ab}{lib:aA}{a b:bn}{f:aW}{s:aq}{Q:AX->aW->aq->Prop}{t:bC}(h1:t=true->eW P lib a f s Q)(h2:t=false->eW P lib b f s Q):Vy P lib a b f s Q t:=by
 cases t
 ·exact h2 rfl
 ·exact h1 rfl
theorem KP {P:ab}{lib:aA}:∀(c:bn) (f:aW) (s:aq) (Q:AX->aW->aq->Prop),eW P lib c f s Q->Comes P lib c f s Q:=by
 intro c
 induction c with
 |skip=>intro f s Q h qC;exact⟨.normal,f,s,⟨1,fun m hm=>by obtain⟨k,rfl⟩:∃k,m=k+1:=⟨m-1,by omega⟩;rfl⟩,bW.refl qC,h⟩
 |label l=>intro f s Q h qC;exact⟨.normal,f,s,⟨1,fun m hm=>by obtain⟨k,rfl⟩:∃k,m=k+1:=⟨m-1,by omega⟩;rfl⟩,bW.refl qC,h⟩
 |exit id=>intro f s Q h qC;exact⟨.exit id,f,s,⟨1,fun m hm=>by obtain⟨k,rfl⟩:∃k,m=k+1:=⟨m-1,by omega⟩;rfl⟩,bW.refl qC,h⟩
 |ret=>intro f s Q h qC;exact⟨.ret,f,s,⟨1,fun m hm=>by obtain⟨k,rfl⟩:∃k,m=k+1:=⟨m-1,by omega⟩;rfl⟩,bW.refl qC,h⟩
 |loop a _=>intro f s Q h;exact h
 |rangeFunc=>intro f s Q h;exact h.elim
 |goto=>intro f s Q h;exact h.elim
 |refuse=>intro f s Q h;exact h.elim
 |region id ops d=>
  intro f s Q h qC
  have fin:∀f' s',(∃n,∀m,n<=m->(match d with
    |false=>gh P (gX P lib m) ops.toList ops.toList f s
    |true=>fH P (gX P lib m) ops.toList f s)=some (f',s'))->bW s s' ->Q .normal f' s' ->∃x f' s',(∃n,∀m,n<=m->exec P lib m (.region id ops d) f s=some (x,f',s'))/\bW s s' /\Q x f' s' :=by
   rintro f' s' ⟨n,hn⟩ hk hq
   refine⟨.normal,f',s',⟨n+1,fun m hm=> ?_⟩,hk,hq⟩
   obtain⟨k,rfl⟩:∃k,m=k+1:=⟨m-1,by omega⟩
   have:=hn k (by omega)
   simp only[exec,step]
   have e:gX P lib k=eF P lib (exec P lib k):=rfl
   rw[e] at this
   cases d<;>(simp only at this;simp only[this])
  cases d with
  |false=>
   obtain⟨f',s',hn,hk,hq⟩:=ZC _ _ _ _ _ h qC
   exact fin f' s' hn hk hq
  |true=>
   simp only[eW] at h
   cases hq:iB P ops.toList with
   |true=>
    rw[hq] at h
    obtain⟨f',h1,h2⟩:=Fy hq h
    exact fin f' s ⟨0,fun m _=>h1 _⟩ (bW.refl qC) h2
   |false=>
    rw[hq] at h
    obtain⟨f',s',h1,hk,h2⟩:=h qC
    exact fin f' s' h1 hk h2
 |seq a b iha ihb=>
  intro f s Q h qC
  obtain⟨x,f1,s1,⟨n1,h1⟩,lz,h⟩:=iha f s _ h qC
  cases x with
  |normal=>
   obtain⟨x,f2,s2,⟨n2,h2⟩,oB,h⟩:=ihb f1 s1 _ h lz.wf
   refine⟨x,f2,s2,⟨n1+n2+1,fun m hm=> ?_⟩,lz.trans oB,h⟩
   obtain⟨k,rfl⟩:∃k,m=k+1:=⟨m-1,by omega⟩
   simp only[exec,step,h1 k (by omega),h2 k (by omega)]
  |exit id=>
   refine⟨_,f1,s1,⟨n1+1,fun m hm=> ?_⟩,lz,h⟩
   obtain⟨k,rfl⟩:∃k,m=k+1:=⟨m-1,by omega⟩
   simp only[exec,step,h1 k (by omega)]
  |ret=>
   refine⟨_,f1,s1,⟨n1+1,fun m hm=> ?_⟩,lz,h⟩
   obtain⟨k,rfl⟩:∃k,m=k+1:=⟨m-1,by omega⟩
   simp only[exec,step,h1 k (by omega)]
 |cond y a b iha ihb=>
  intro f s Q h qC
  rw[vF] at h
  unfold Vz at h
  split at h
  ·rename_i t ht
   cases t with
   |true=>
    obtain⟨x,f1,s1,⟨n1,h1⟩,lz,h⟩:=iha f s _ h qC
    refine⟨_,f1,s1,⟨n1+1,fun m hm=> ?_⟩,lz,h⟩
    obtain⟨k,rfl⟩:∃k,m=k+1:=⟨m-1,by omega⟩
    simp only[exec,step,ht,h1 k (by omega)]
   |false=>
    obtain⟨x,f1,s1,⟨n1,h1⟩,lz,h⟩:=ihb f s _ h qC
    refine⟨_,f1,s1,⟨n1+1,fun m hm=> ?_⟩,lz,h⟩
    obtain⟨k,rfl⟩:∃k,m=k+1:=⟨m-1,by omega⟩
    simp only[exec,step,ht,h1 k (by omega)]
  ·exact h.elim
 |block id a iha=>
  intro f s Q h qC
  obtain⟨x,f1,s1,⟨n1,h1⟩,lz,h⟩:=iha f s _ h qC
  refine⟨_,f1,s1,⟨n1+1,fun m hm=> ?_⟩,lz,h⟩
  obtain⟨k,rfl⟩:∃k,m=k+1:=⟨m-1,by omega⟩
  simp only[exec,step,h1 k (by omega)]
  cases x with
  |normal=>rfl
  |ret=>rfl
  |exit j=>
   simp only[Qm]
   by_cases hj:j=id
   ·rw[b4 hj,b4 (by simpa [cx] using hj)]
   ·rw[bq hj,bq (by simpa [cx] using hj)]
 |scope a iha=>
  intro f s Q h qC
  obtain⟨x,f1,s1,⟨n1,h1⟩,lz,h⟩:=iha f s _ h qC
  refine⟨_,f1,s1,⟨n1+1,fun m hm=> ?_⟩,lz,h⟩
  obtain⟨k,rfl⟩:∃k,m=k+1:=⟨m-1,by omega⟩
  simp only[exec,step,h1 k (by omega)]
def yX (Inv:aR->aW->aq->Prop)(k:aR)(Q:AX->aW->aq->Prop):AX->aW->aq->Prop
 | .normal,f,s=>∃j,j<k/\Inv j f s
 |x,f,s=>Q x f s
theorem ay {Inv:aR->aW->aq->Prop}{k:aR}{Q:AX->aW->aq->Prop}{f:aW}{s:aq}(j:aR)(hj:j<k)(h:Inv j f s):yX Inv k Q .normal f s:=⟨j,hj,h⟩
theorem CG (Inv:aR->aW->aq->Prop)(k:aR)(Q:AX->aW->aq->Prop)(f:aW)(s:aq):yX Inv k Q .ret f s=Q .ret f s:=rfl
theorem z9 (Inv:aR->aW->aq->Prop)(k:aR)(Q:AX->aW->aq->Prop)(f:aW)(s:aq)(id:aR):yX Inv k Q (.exit id) f s=Q (.exit id) f s:=rfl
theorem Comes.loop {P:ab}{lib:aA}{a:bn}{Q:AX->aW->aq->Prop}(Inv:aR->aW->aq->Prop)(hr:∀k f s,Inv k f s->eW P lib a f s (yX Inv k Q)):∀k f s,Inv k f s->Comes P lib (.loop a) f s Q:=by
 intro k
 induction k using Nat.strongRecOn with
 |_ k ih=>
  intro f s hi qC
  obtain⟨x,f1,s1,⟨n1,h1⟩,lz,h⟩:=KP _ _ _ _ (hr k f s hi) qC
  cases x with
  |normal=>
   obtain⟨j,hj,wB⟩:=h
   obtain⟨x,f2,s2,⟨n2,h2⟩,oB,h⟩:=ih j hj f1 s1 wB lz.wf
   refine⟨x,f2,s2,⟨n1+n2+1,fun m hm=> ?_⟩,lz.trans oB,h⟩
   obtain⟨m,rfl⟩:∃k,m=k+1:=⟨m-1,by omega⟩
   simp only[exec,step,h1 m (by omega),h2 m (by omega)]
  |exit id=>
   refine⟨_,f1,s1,⟨n1+1,fun m hm=> ?_⟩,lz,h⟩
   obtain⟨m,rfl⟩:∃k,m=k+1:=⟨m-1,by omega⟩
   simp only[exec,step,h1 m (by omega)]
  |ret=>
   refine⟨_,f1,s1,⟨n1+1,fun m hm=> ?_⟩,lz,h⟩
   obtain⟨m,rfl⟩:∃k,m=k+1:=⟨m-1,by omega⟩
   simp only[exec,step,h1 m (by omega)]
theorem Comes.eZ {P:ab}{lib:aA}{a:bn}{Q:AX->aW->aq->Prop}{f:aW}{s:aq}(Inv:aR->aW->aq->Prop){k:aR}(h0:Inv k f s)(hr:∀k f s,Inv k f s->eW P lib a f s (yX Inv k Q)):Comes P lib (.loop a) f s Q:=
 Comes.loop Inv hr k f s h0
theorem Comes.bQ {P:ab}{lib:aA}{a:bn}{Q' :AX->aW->aq->Prop}{f:aW}{s:aq}(Inv:aR->aW->aq->Prop)(Out:AX->aW->aq->Prop){k:aR}(h0:Inv k f s)
  (hr:∀Q:AX->aW->aq->Prop,(∀x f s,Out x f s->Q x f s)->∀k f s,Inv k f s->eW P lib a f s (yX Inv k Q)) (ho:∀x f s,Out x f s->Q' x f s):Comes P lib (.loop a) f s Q' :=
 (Comes.eZ (Q:=Out) Inv h0 (hr Out (fun _ _ _ h=>h))).mono ho
def Sp (s:aq)(Q:an->aq->Prop):a1 (aE an)->Prop
 |some l=>Q (oneOf l) s
 |none=>False
def YR (P:ab)(rs:aE ResultVar)(Q:an->aq->Prop)(x:AX)(f:aW)(s:aq):Prop:=
 match x with
 | .exit _=>False
 |_=>Sp s Q (cL P f s rs)
theorem al (P:ab)(rs:aE ResultVar)(Q:an->aq->Prop)(f:aW)(s:aq):YR P rs Q .ret f s=Sp s Q (cL P f s rs):=rfl
theorem ah (P:ab)(rs:aE ResultVar)(Q:an->aq->Prop)(f:aW)(s:aq):YR P rs Q .normal f s=Sp s Q (cL P f s rs):=rfl
theorem GK (s:aq)(Q:an->aq->Prop)(l:aE an):Sp s Q (some l)=Q (oneOf l) s:=rfl
theorem Runs.ZD {P:ab}{lib:aA}{g:cv}{args:aE an}{s:aq}{Q:an->aq->Prop}{fn:Func}{c:bn}(hg:P.funcs[g]?=some fn)(hb:fn.body=some c)(hl:lib.at g=none)(hn:bd (args.length+(fn.ntmps-args.length)) 16000000=true)
  (h:Comes P lib c (nH fn args) s (YR P fn.results.toList Q)):Runs P lib g args s Q:=by
 intro qC
 obtain⟨x,f1,s1,⟨n1,h1⟩,lz,h⟩:=h qC
 have go:∀l,cL P f1 s1 fn.results.toList=some l->Q (oneOf l) s1->(x= .normal\/x= .ret)->∃v s',(∃n,∀m,n<=m->gX P lib m g args s=some (v,s'))/\bW s s' /\Q v s' :=by
  intro l hr hq hx
  refine⟨oneOf l,s1,⟨n1,fun m hm=> ?_⟩,lz,hq⟩
  have h1:=h1 m hm
  rcases hx with rfl|rfl
  ·simp only[gX,eF,hl,hg,hb,hn,h1,hr]
  ·simp only[gX,eF,hl,hg,hb,hn,h1,hr]
 cases x with
 |exit id=>exact h.elim
 |normal=>
  simp only[YR,Sp] at h
  split at h
  ·exact go _ ‹_› h (.inl rfl)
  ·exact h.elim
 |ret=>
  simp only[YR,Sp] at h
  split at h
  ·exact go _ ‹_› h (.inr rfl)
  ·exact h.elim
theorem ad (f:aW)(t u:aR)(v:an):(f.put t v).get u=if t=u then v else f.get u:=by
 by_cases h:t=u
 ·subst h;simp only[aW.get,aW.put,Tr.bD _ _ _ _ (deep (by omega)),b4]
 ·simp only[aW.get,aW.put,Tr.ch _ _ _ _ _ h,bq h]
theorem ag (f:aW)(t:aR)(v:an):(f.put t v).n=f.n:=rfl
theorem ZE (fn:Func)(args:aE an):(nH fn args).n=args.length+(fn.ntmps-args.length):=rfl
theorem Sq (fn:Func)(args:aE an)(t:aR):(nH fn args).get t=args.getD t undef:=by
 simp only[nH,aW.get,Ct args .nil 0 t (by omega),Nat.zero_le,true_and,Nat.zero_add,Nat.sub_zero]
 by_cases h:t<args.length
 ·simp only[b4 h]
 ·simp only[bq h,Tr.get]
  simp[c0,List.getElem?_eq_none (Nat.le_of_not_lt h)]
theorem yY (f:aW)(t:Tmp):aS f (.tmp t)=if t<f.n then some (f.get t) else none:=by
 unfold aS
 by_cases h:t<f.n
 ·have hb:bg t f.n=true:=by simpa [a3] using h
  simp only[hb,a2,b4 h]
 ·have hb:bg t f.n=false:=by rw[<-a7,a3];exact h
  simp[hb,bq h]
theorem CH (f:aW)(b:bC):aS f (.const (.bool b))=some (.bool b):=rfl
theorem GL (f:aW)(k:a9)(n:c5):aS f (.const (.int k n))=some (.int k n):=rfl
theorem xf (f:aW)(b:ByteArray):aS f (.const (.string b))=some (.string b):=rfl
theorem CI (f:aW):aS f (.const (.slice none 0 0))=some (.slice none 0 0):=rfl
theorem CJ (f:aW):aS f (.const (.pointer none))=some (.pointer none):=rfl
theorem CK (f:aW):aS f (.const (.map none))=some (.map none):=rfl
theorem CL (f:aW)(g:cv):aS f (.func g)=some (.func (.func g) #[] #[]):=rfl
theorem Runs.enter {P:ab}{lib:aA}{g:cv}{args:aE an}{s:aq}{Q:an->aq->Prop}{fn:Func}{c:bn}(N:aR)(hg:P.funcs[g]?=some fn)(hb:fn.body=some c)(hl:lib.at g=none)(hN:args.length+(fn.ntmps-args.length)=N)(hn:bd N 16000000=true)
  (h:∀f:aW,f.n=N->(∀t,f.get t=args.getD t undef)->eW P lib c f s (YR P fn.results.toList Q)):Runs P lib g args s Q:=
 Runs.ZD hg hb hl (by rw[hN];exact hn) (KP _ _ _ _ (h _ (by rw[ZE,hN]) (Sq fn args)))
section
variable (P:ab) (f:aW) (s:aq) (d:a1 Tmp) (ty:av) (ps:String) (af:a4 Edge) (gd:a1 (aR×bC))
theorem KQ (x:ao):cS P ⟨d,.move x,ty,ps,af,gd⟩ f s=pO s (aS f x):=rfl
theorem CM (x:ao):cS P ⟨d,.assign x,ty,ps,af,gd⟩ f s=pO s (aS f x):=rfl
theorem CN (c a b:ao):cS P ⟨d,.pick c a b,ty,ps,af,gd⟩ f s=match aS f c,aS f a,aS f b with
  |some (.bool t),some u,some v=>some (.val (if t then u else v) s)
  |_,_,_=>none:=rfl
theorem GM (e:av):cS P ⟨d,.alloc e,ty,ps,af,gd⟩ f s=match bV P e with
  |some z=>if bN z then oF (fm s z.cells.toList (BM P e)) else none
  |none=>none:=rfl
theorem Qn (e:av)(x:ao):cS P ⟨d,.box e x,ty,ps,af,gd⟩ f s=match aS f x with
  |some v=>oF (fm s v.cells.toList (BM P e))
  |none=>none:=rfl
theorem yZ (t:av)(q:a4 (aR×ao)):cS P ⟨d,.build t q,ty,ps,af,gd⟩ f s=match ae f q.toList with
  |some l=>pO s (cC P t l)
  |none=>none:=rfl
theorem td (t:av)(n:aR)(q:a4 (aR×ao)):cS P ⟨d,.buildSlice t n q,ty,ps,af,gd⟩ f s=match ae f q.toList with
  |some l=>oF (aO P s t n l)
  |none=>none:=rfl
theorem CO (t:av)(x:ao):cS P ⟨d,.load t x,ty,ps,af,gd⟩ f s=match aS f x with
  |some a=>pO s (aJ P s t a)
  |none=>none:=rfl
theorem GN (t:av)(x y:ao):cS P ⟨d,.store t x y,ty,ps,af,gd⟩ f s=match aS f x,aS f y with
  |some a,some v=>BN (dR P s t a v)
  |_,_=>none:=rfl
theorem qR (x:ao):cS P ⟨d,.nilCheck x,ty,ps,af,gd⟩ f s=match aS f x with
  |some (.pointer (some a))=>some (.val (.pointer (some a)) s)
  |some (.func (.func g) ava bs)=>some (.val (.func (.func g) ava bs) s)
  |_=>none:=rfl
theorem y5 (op:BinOp)(t t2:av)(x y:ao):cS P ⟨d,.binOp op t x y t2,ty,ps,af,gd⟩ f s=match aS f x,aS f y with
  |some u,some v=>pO s (cQ P op t u v)
  |_,_=>none:=rfl
theorem CP (op:UnOp)(t:av)(x:ao):cS P ⟨d,.unOp op t x,ty,ps,af,gd⟩ f s=match aS f x with
  |some u=>pO s (unA op u)
  |none=>none:=rfl
theorem te (a b:av)(x:ao):cS P ⟨d,.convert a b x,ty,ps,af,gd⟩ f s=match aS f x with
  |some u=>oF (gw P s a b u)
  |none=>none:=rfl
theorem Aa (t:av):cS P ⟨d,.makeMap t none,ty,ps,af,gd⟩ f s=some (.val (.map (some s.next)) (s.new (.map []))):=rfl
theorem uU (t:av)(x y:ao):cS P ⟨d,.makeSlice t x y,ty,ps,af,gd⟩ f s=match aS f x,aS f y with
  |some u,some v=>oF (ef P s t u v)
  |_,_=>none:=rfl
theorem y6 (t:av)(x:ao)(lo hi mx:a1 ao):cS P ⟨d,.slice t x lo hi mx,ty,ps,af,gd⟩ f s=match aS f x,ai f lo,ai f hi,ai f mx with
  |some u,some l,some h,some m=>pO s (dj P s t u l h m)
  |_,_,_,_=>none:=rfl
theorem py (t:av)(x:ao)(i:aR):cS P ⟨d,.fieldAddr t x i,ty,ps,af,gd⟩ f s=match aS f x with
  |some u=>pO s (au P t u i)
  |none=>none:=rfl
theorem y7 (t:av)(x:ao)(i:aR):cS P ⟨d,.field t x i,ty,ps,af,gd⟩ f s=match aS f x with
  |some u=>pO s (BK P t u i)
  |none=>none:=rfl
theorem pz (t:av)(x y:ao):cS P ⟨d,.indexAddr t x y,ty,ps,af,gd⟩ f s=match aS f x,aS f y with
  |some u,some v=>pO s (bT P t u v)
  |_,_=>none:=rfl
theorem y8 (t:av)(x y:ao):cS P ⟨d,.index t x y,ty,ps,af,gd⟩ f s=match aS f x,aS f y with
  |some u,some v=>pO s (sA P t u v)
  |_,_=>none:=rfl
theorem CQ (t:av)(x y:ao)(ok:bC):cS P ⟨d,.lookup t x y ok,ty,ps,af,gd⟩ f s=match aS f x,aS f y with
  |some u,some v=>pO s (mT P s t u v ok)
  |_,_=>none:=rfl
theorem uW (t:av)(x y z:ao):cS P ⟨d,.mapUpdate t x y z,ty,ps,af,gd⟩ f s=match aS f x,aS f y,aS f z with
  |some m,some k,some v=>BN (fO P s t m k v)
  |_,_,_=>none:=rfl
theorem tf (x:ao)(i:aR):cS P ⟨d,.extract x i,ty,ps,af,gd⟩ f s=match aS f x with
  |some u=>pO s (ba u i)
  |none=>none:=rfl
theorem tg (x:ao)(args:a4 ao)(ts:a4 av):cS P ⟨d,.call ⟨.value x,args,ts⟩,ty,ps,af,gd⟩ f s=match aa f args.toList with
  |some l=>match aS f x with
   |some (.func (.func g) ava bs)=>some (.call g (ava.toList++l++bs.toList))
   |_=>none
  |none=>none:=rfl
theorem iP (b:Builtin)(args:a4 ao)(ts:a4 av):cS P ⟨d,.call ⟨.builtin b,args,ts⟩,ty,ps,af,gd⟩ f s=match aa f args.toList with
  |some l=>ju P s b ts.toList l
  |none=>none:=rfl
theorem th (all:aE a0)(op:Op):cT all ⟨d,op,ty,ps,af,none⟩ f=true:=rfl
theorem Ab (all:aE a0)(op:Op)(j:aR)(w:bC):cT all ⟨d,op,ty,ps,af,some (j,w)⟩ f=match qG all f j with
  |some b=>b==w
  |none=>false:=rfl
def yieldOf (f:aW):aE a0->a1 bC
 |o::_=>
  match o.dst with
  |some d=>if d<f.n then(match f.get d with
   | .bool b=>some b
   |_=>none) else none
  |none=>none
 |[]=>none
theorem GO (all:aE a0)(j:aR):qG all f j=yieldOf f (all.drop j):=by
 unfold qG yieldOf
 cases all.drop j with
 |nil=>rfl
 |cons o r=>
  simp only
  cases o.dst with
  |none=>rfl
  |some d=>
   simp only
   by_cases hd:d<f.n
   ·have hb:bg d f.n=true:=by simpa [a3] using hd
    simp only[hb,a2,b4 hd]
    cases f.get d<;>rfl
   ·have hb:bg d f.n=false:=by rw[<-a7,a3];exact hd
    simp[hb,bq hd]
theorem xg (t:Tmp)(op:Op)(r:aE a0):yieldOf f (⟨some t,op,ty,ps,af,gd⟩::r)=if t<f.n then(match f.get t with
    | .bool b=>some b
    |_=>none) else none:=rfl
end
theorem bS (cs:a4 an):(Value.agg cs).cells=cs:=rfl
theorem xh (s:aq)(v:an):pO s (some v)=some (.val v s):=rfl
theorem ft (v:an)(s:aq):oF (some (v,s))=some (.val v s):=rfl
theorem iC (s:aq):BN (some s)=some (.val undef s):=rfl
theorem builtin_len (P:ab)(s:aq)(t:av)(x:an):ju P s .len [t] [x]=pO s (bm P s t x):=rfl
theorem builtin_append (P:ab)(s:aq)(t u:av)(x y:an):ju P s .append [t,u] [x,y]=oF (gW P s t u x y):=rfl
theorem builtin_copy (P:ab)(s:aq)(t u:av)(x y:an):ju P s .copy [t,u] [x,y]=oF (mN P s t x y):=rfl
theorem builtin_min (P:ab)(s:aq)(t u:av)(k:a9)(x y:c5):ju P s .min [t,u] [.int k x,.int k y]=some (.val (.int k (if y<x then y else x)) s):=rfl
theorem builtin_max (P:ab)(s:aq)(t u:av)(k:a9)(x y:c5):ju P s .max [t,u] [.int k x,.int k y]=some (.val (.int k (if y>x then y else x)) s):=rfl
section
variable (P:ab) (d:a1 Tmp) (ty:av) (ps:String) (af:a4 Edge) (gd:a1 (aR×bC))
theorem xi:iB P []=true:=rfl
theorem uX (o:a0)(r:aE a0):iB P (o::r)=(aP P o&&iB P r):=rfl
theorem CR (x:ao):aP P ⟨d,.move x,ty,ps,af,gd⟩=true:=rfl
theorem xj (x:ao):aP P ⟨d,.assign x,ty,ps,af,gd⟩=true:=rfl
theorem CS (a b c:ao):aP P ⟨d,.pick a b c,ty,ps,af,gd⟩=true:=rfl
theorem CT (t:av)(x:ao):aP P ⟨d,.load t x,ty,ps,af,gd⟩=true:=rfl
theorem ti (x:ao):aP P ⟨d,.nilCheck x,ty,ps,af,gd⟩=true:=rfl
theorem Ac (op:BinOp)(t t2:av)(x y:ao):aP P ⟨d,.binOp op t x y t2,ty,ps,af,gd⟩=true:=rfl
theorem CU (op:UnOp)(t:av)(x:ao):aP P ⟨d,.unOp op t x,ty,ps,af,gd⟩=true:=rfl
theorem rQ (t:av)(x y:ao):aP P ⟨d,.indexAddr t x y,ty,ps,af,gd⟩=true:=rfl
theorem Ad (t:av)(x y:ao):aP P ⟨d,.index t x y,ty,ps,af,gd⟩=true:=rfl
theorem rR (t:av)(x:ao)(i:aR):aP P ⟨d,.fieldAddr t x i,ty,ps,af,gd⟩=true:=rfl
theorem Ae (t:av)(x:ao)(i:aR):aP P ⟨d,.field t x i,ty,ps,af,gd⟩=true:=rfl
theorem Af (t:av)(x:ao)(l h m:a1 ao):aP P ⟨d,.slice t x l h m,ty,ps,af,gd⟩=true:=rfl
theorem uY (x:ao)(i:aR):aP P ⟨d,.extract x i,ty,ps,af,gd⟩=true:=rfl
theorem GP (args:a4 ao)(ts:a4 av):aP P ⟨d,.call ⟨.builtin .len,args,ts⟩,ty,ps,af,gd⟩=true:=rfl
theorem CV (x:ao)(args:a4 ao)(ts:a4 av):aP P ⟨d,.call ⟨.value x,args,ts⟩,ty,ps,af,gd⟩=false:=rfl
theorem pZ (t:av)(n:aR)(q:a4 (aR×ao)):aP P ⟨d,.buildSlice t n q,ty,ps,af,gd⟩=false:=rfl
theorem Ag (t:av)(q:a4 (aR×ao)):aP P ⟨d,.build t q,ty,ps,af,gd⟩=true:=rfl
theorem Ah (t:av)(x y:ao):aP P ⟨d,.store t x y,ty,ps,af,gd⟩=false:=rfl
theorem GQ (t:av)(x:ao):aP P ⟨d,.box t x,ty,ps,af,gd⟩=false:=rfl
theorem Ai (t:av):aP P ⟨d,.alloc t,ty,ps,af,gd⟩=false:=rfl
theorem rS (t:av)(x y:ao):aP P ⟨d,.makeSlice t x y,ty,ps,af,gd⟩=false:=rfl
theorem xk (args:a4 ao)(ts:a4 av):aP P ⟨d,.call ⟨.builtin .append,args,ts⟩,ty,ps,af,gd⟩=false:=rfl
theorem CW (args:a4 ao)(ts:a4 av):aP P ⟨d,.call ⟨.builtin .copy,args,ts⟩,ty,ps,af,gd⟩=false:=rfl
theorem GR (args:a4 ao)(ts:a4 av):aP P ⟨d,.call ⟨.builtin .min,args,ts⟩,ty,ps,af,gd⟩=true:=rfl
theorem GS (args:a4 ao)(ts:a4 av):aP P ⟨d,.call ⟨.builtin .max,args,ts⟩,ty,ps,af,gd⟩=true:=rfl
theorem p5 (t:av)(n:aR)(q:a4 (aR×ao)):aM P ⟨d,.buildSlice t n q,ty,ps,af,gd⟩=true:=rfl
theorem Aj (t:av)(x y:ao):aM P ⟨d,.store t x y,ty,ps,af,gd⟩=false:=rfl
theorem GU (t:av)(x:ao):aM P ⟨d,.box t x,ty,ps,af,gd⟩=true:=rfl
theorem Ak (t:av):aM P ⟨d,.alloc t,ty,ps,af,gd⟩=true:=rfl
theorem rT (t:av)(x y:ao):aM P ⟨d,.makeSlice t x y,ty,ps,af,gd⟩=true:=rfl
theorem CX (c:Go.Call):aM P ⟨d,.call c,ty,ps,af,gd⟩=false:=rfl
theorem uZ (a b:av)(x:ao):aM P ⟨d,.convert a b x,ty,ps,af,gd⟩=jv P a b:=rfl
theorem CY (x:ao):aM P ⟨d,.move x,ty,ps,af,gd⟩=false:=rfl
theorem xm (x:ao):aM P ⟨d,.assign x,ty,ps,af,gd⟩=false:=rfl
theorem CZ (a b c:ao):aM P ⟨d,.pick a b c,ty,ps,af,gd⟩=false:=rfl
theorem C0 (t:av)(x:ao):aM P ⟨d,.load t x,ty,ps,af,gd⟩=false:=rfl
theorem tj (x:ao):aM P ⟨d,.nilCheck x,ty,ps,af,gd⟩=false:=rfl
theorem Al (op:BinOp)(t t2:av)(x y:ao):aM P ⟨d,.binOp op t x y t2,ty,ps,af,gd⟩=false:=rfl
theorem C1 (op:UnOp)(t:av)(x:ao):aM P ⟨d,.unOp op t x,ty,ps,af,gd⟩=false:=rfl
theorem rU (t:av)(x y:ao):aM P ⟨d,.indexAddr t x y,ty,ps,af,gd⟩=false:=rfl
theorem Am (t:av)(x y:ao):aM P ⟨d,.index t x y,ty,ps,af,gd⟩=false:=rfl
theorem rV (t:av)(x:ao)(i:aR):aM P ⟨d,.fieldAddr t x i,ty,ps,af,gd⟩=false:=rfl
theorem An (t:av)(x:ao)(i:aR):aM P ⟨d,.field t x i,ty,ps,af,gd⟩=false:=rfl
theorem Ao (t:av)(x:ao)(l h m:a1 ao):aM P ⟨d,.slice t x l h m,ty,ps,af,gd⟩=false:=rfl
theorem u0 (x:ao)(i:aR):aM P ⟨d,.extract x i,ty,ps,af,gd⟩=false:=rfl
theorem u5 (a b:av)(x:ao):aP P ⟨d,.convert a b x,ty,ps,af,gd⟩=match P.underlying b with
  |some (.slice _)=>false
  |_=>true:=rfl
end
theorem xo (P:ab)(f:aW)(s:aq):cL P f s []=some []:=rfl
theorem xp (P:ab)(f:aW)(s:aq)(t:Tmp)(r:aE ResultVar):cL P f s (.tmp t::r)=if t<f.n then(match cL P f s r with
  |some l=>some (f.get t::l)
  |none=>none) else none:=by
 by_cases h:t<f.n
 ·have hb:bg t f.n=true:=by simpa [a3] using h
  rw[b4 h]
  conv=>lhs;rw[cL]
  simp only[hb,a2]
  rfl
 ·have hb:bg t f.n=false:=by rw[<-a7,a3];exact h
  rw[bq h]
  conv=>lhs;rw[cL]
  simp[hb]
section
variable (P:ab) (t:av) (k:a9) (a b:c5)
theorem Qo:cQ P .add t (.int k a) (.int k b)=some (.int k (k.wrap (a+b))):=by simp[cQ,js]
theorem Qp:cQ P .sub t (.int k a) (.int k b)=some (.int k (k.wrap (a-b))):=by simp[cQ,js]
theorem Qq:cQ P .mul t (.int k a) (.int k b)=some (.int k (k.wrap (a*b))):=by simp[cQ,js]
theorem iQ (h:b≠0):cQ P .quo t (.int k a) (.int k b)=some (.int k (k.wrap (a.tdiv b))):=by simp[cQ,js,h]
theorem fg (h:b≠0):cQ P .rem t (.int k a) (.int k b)=some (.int k (a.tmod b)):=by simp[cQ,js,h]
theorem fh:cQ P .and t (.int k a) (.int k b)=some (.int k (k.wrap (bl k.bits a&&&bl k.bits b).toNat)):=by simp[cQ,js]
theorem jV:cQ P .or t (.int k a) (.int k b)=some (.int k (k.wrap (bl k.bits a|||bl k.bits b).toNat)):=by simp[cQ,js]
theorem Qr:cQ P .xor t (.int k a) (.int k b)=some (.int k (k.wrap (bl k.bits a^^^bl k.bits b).toNat)):=by simp[cQ,js]
theorem IM:cQ P .eql t (.int k a) (.int k b)=some (.bool (decide (a=b))):=by simp[cQ,js];rfl
theorem dS:cQ P .neq t (.int k a) (.int k b)=some (.bool (decide (a≠b))):=by
 simp only[cQ,js,a2]
 by_cases h:a=b<;>simp[h]
theorem Qs:cQ P .lss t (.int k a) (.int k b)=some (.bool (decide (a<b))):=by simp[cQ,js]
theorem Qt:cQ P .leq t (.int k a) (.int k b)=some (.bool (decide (a<=b))):=by simp[cQ,js]
theorem Qu:cQ P .gtr t (.int k a) (.int k b)=some (.bool (decide (b<a))):=by simp[cQ,js]
theorem Qv:cQ P .geq t (.int k a) (.int k b)=some (.bool (decide (b<=a))):=by simp[cQ,js]
theorem mW (k' :a9)(h:0<=b):cQ P .shl t (.int k a) (.int k' b)=some (.int k (k.wrap (a*2^(min b.toNat k.bits)))):=by simp[cQ,tY];omega
theorem lS (k' :a9)(h:0<=b):cQ P .shr t (.int k a) (.int k' b)=some (.int k (a.fdiv (2^(min b.toNat k.bits)))):=by simp[cQ,tY];omega
theorem VA (x:bC):unA .not (.bool x)=some (.bool (!x)):=rfl
theorem VB:unA .neg (.int k a)=some (.int k (k.wrap (0-a))):=rfl
end
theorem aD {x:c5}(h: -9223372036854775808<=x/\x<=9223372036854775807):IntKind.i64.wrap x=x:=by
 have e1:IntKind.i64.bits=64:=rfl
 have e2:IntKind.i64.signed=true:=rfl
 simp only[IntKind.wrap,e1,e2,b8]
 split<;>simp_all<;>omega
theorem fu {x:c5}:IntKind.u8.wrap x=x%256:=by
 have e1:IntKind.u8.bits=8:=rfl
 have e2:IntKind.u8.signed=false:=rfl
 simp only[IntKind.wrap,e1,e2,Bool.false_and]
 simp
theorem bL {P:ab}{s:aq}{src dst:av}{k j:a9}{d:TypeDesc}{n:c5}(h1:P.underlying src=some d)(h2:P.underlying dst=some (.int k)):gw P s src dst (.int j n)=some (.int k (k.wrap n),s):=by
 unfold gw;rw[h1,h2]
theorem C2 (b:bC):bZ (.bool b) (.bool b)=true:=by simp[bZ,cN]
theorem cF (k:a9)(n:c5):bZ (.int k n) (.int k n)=true:=by simp[bZ,cN]
theorem kG (b:ByteArray):bZ (.string b) (.string b)=true:=by simp[bZ,cN]
theorem lU (a:a1 Addr):bZ (.pointer a) (.pointer a)=true:=by simp[bZ,cN]
theorem oN (a:a1 Addr)(n c:aR):bZ (.slice a n c) (.slice a n c)=true:=by
 simp only[bZ,cN,a2,b8,a8];exact⟨c3 n,c3 c⟩
structure ar (base:aR) (s s' :aq):Prop where
 next:s.next<=s'.next
 get:∀i,i<base->s'.heap.get i=s.heap.get i
theorem ar.refl (base:aR)(s:aq):ar base s s:=⟨bo _,fun _ _=>rfl⟩
theorem ar.trans {base:aR}{s s' yB:aq}(h:ar base s s')(k:ar base s' yB):ar base s yB:=⟨cc h.next k.next,fun i hi=>(k.get i hi).trans (h.get i hi)⟩
theorem ar.weaken {base b2:aR}{s s' :aq}(h:ar base s s')(hb:b2<=base):ar b2 s s' :=⟨h.next,fun i hi=>h.get i (by omega)⟩
theorem ar.dZ {base:aR}{s s' :aq}(h:ar base s s'){i:aR}(hi:i<base):s'.bR i=s.bR i:=by simp only[aq.bR,h.get i hi]
theorem ar.new (s:aq)(o:AO):ar s.next s (s.new o):=by
 refine⟨by simp[aq.new],fun i hi=> ?_⟩
 simp only[aq.new,Tr.ch _ _ _ _ _ (Nat.ne_of_gt hi)]
theorem oO (s:aq)(b:jZ):(s.new (.dZ b)).bR s.next=some b:=by simp only[aq.new,aq.bR,Tr.bD _ _ _ _ (deep (by omega))]
theorem xq (s:aq)(o:AO):(s.new o).next=s.next+1:=rfl
inductive aN (s:aq) (z:aR):an->aR->aE an->Prop
 |nil:aN s z (.slice none 0 0) 0 []
 |bare (i off:aR):aN s z (.slice (some ⟨i,off,none⟩) 0 0) 0 []
 |of (i off n c:aR) (b:jZ) (l:aE an) (hi:i<s.next) (hb:s.bR i=some b) (hz:b.mM=z) (hl:b.low<=c) (hc:c<=b.cells.length+1)
  (hlen:l.length=n*z) (fy:off+n*z<c) (ht:(b.cells.drop off).take (n*z)=l):aN s z (.slice (some ⟨i,off,none⟩) n c) n l
theorem aN.length {s:aq}{z:aR}{v:an}{n:aR}{l:aE an}(h:aN s z v n l):l.length=n*z:=by
 cases h with
 |nil=>simp
 |bare=>simp
 |of i off n c b l hi hb hz hl hc hlen fy ht=>exact hlen
theorem aN.keeps {s s' :aq}{z:aR}{v:an}{n:aR}{l:aE an}(h:aN s z v n l)(k:ar s.next s s'):aN s' z v n l:=by
 cases h with
 |nil=>exact .nil
 |bare=>exact .bare _ _
 |of i off n c b l hi hb hz hl hc hlen fy ht=>exact .of i off n c b l (a6 hi k.next) ((k.dZ hi).trans hb) hz hl hc hlen fy ht
theorem aN.bm {P:ab}{t e:av}(hu:P.underlying t=some (.slice e)){s s2:aq}{z:aR}{v:an}{n:aR}{l:aE an}(h:aN s z v n l):Cl.bm P s2 t v=some (.int .i64 n):=by
 unfold Cl.bm;rw[hu]
 cases h<;>rfl
def bc (z:aR)(v:an)(k:aR):an:=
 match v with
 | .slice (some ⟨i,off,none⟩) _ c=> .pointer (some ⟨i,off+k*z,some c⟩)
 |_=> .pointer none
theorem gF {s:aq}{i off c n:aR}{b:jZ}(hb:s.bR i=some b)(hl:b.low<=c)(hc:c<=b.cells.length+1)(ho:off+n<c):s.dr i off c n=some ((b.cells.drop off).take n):=by
 unfold aq.dr
 rw[hb]
 have h1:(bd b.low c&&bd c (b.cells.length+1)&&bg (off+n) c)=true:=by
  simp only[a8,cz,a3];exact⟨⟨hl,hc⟩,ho⟩
 simp only[h1,a2]
 rw[sD,wI,b4 (by simp;omega)]
theorem aN.indexAddr {P:ab}{t e:av}{z:aR}(hu:P.underlying t=some (.slice e))(cf:aX P e=some z){s:aq}{v:an}{n:aR}{l:aE an}(h:aN s z v n l){k:a9}{x:c5}(h0:0<=x)(hx:x<n):
  bT P t v (.int k x)=some (bc z v x.toNat):=by
 obtain⟨y,rfl⟩:∃y:aR,x=y:=⟨x.toNat,by omega⟩
 have hy:y<n:=by omega
 unfold bT;rw[hu]
 cases h with
 |nil=>omega
 |bare=>omega
 |of i off n c b l hi hb hz hl hc hlen fy ht=>
  have dI:bg y n=true:=by simpa [a3] using hy
  show(match aX P e with|some z=>if bg y n then some (Value.pointer (some ⟨i,off+y*z,some c⟩)) else none|none=>none)=_
  rw[cf]
  simp only[dI,a2,bc,Int.toNat_natCast]
theorem aN.cells {s:aq}{z:aR}{v:an}{n:aR}{l:aE an}(h:aN s z v n l){k:aR}(hk:k<n):∃i off c,bc z v k= .pointer (some ⟨i,off,some c⟩)/\s.dr i off c z=some ((l.drop (k*z)).take z):=by
 cases h with
 |nil=>omega
 |bare=>omega
 |of i off n c b l hi hb hz hl hc hlen fy ht=>
  have hkz:k*z+z<=n*z:=by
   have:(k+1)*z<=n*z:=b7 z hk
   rwa [Nat.succ_mul] at this
  refine⟨i,off+k*z,c,rfl,?_⟩
  rw[gF hb hl hc (by omega),<-ht,cA,cB,cR]
  congr 2
  omega
theorem aN.di {P:ab}{e:av}(ow:bX P e=some false){s:aq}{v:an}{n:aR}{l:aE an}(h:aN s 1 v n l){k:aR}(hk:k<n):aJ P s e (bc 1 v k)=some (l.getD k undef):=by
 obtain⟨i,off,c,e1,e2⟩:=h.cells hk
 have hl:=h.length
 rw[e1]
 unfold aJ
 simp only[ow,e2]
 have:(l.drop (k*1)).take 1=[l.getD k undef]:=by
  rw[cm,List.take_one,List.head?_drop,bb (by omega)]
  simp[c0,bb (show k<l.length by omega)]
 rw[this]
theorem aN.fJ {P:ab}{e:av}{z:aR}(ow:bX P e=some true)(cf:aX P e=some z){s:aq}{v:an}{n:aR}{l:aE an}(h:aN s z v n l){k:aR}(hk:k<n):aJ P s e (bc z v k)=some (.agg ((l.drop (k*z)).take z).toArray):=by
 obtain⟨i,off,c,e1,e2⟩:=h.cells hk
 rw[e1]
 unfold aJ
 simp only[ow,cf,e2]
def dJ (z:aR)(v:an)(lo hi:aR):an:=
 match v with
 | .slice (some ⟨i,off,none⟩) _ c=> .slice (some ⟨i,off+lo*z,none⟩) (hi-lo) c
 |_=> .slice none 0 0
theorem aN.cut {s:aq}{z:aR}{v:an}{n:aR}{l:aE an}(h:aN s z v n l){lo hi:aR}(h1:lo<=hi)(h2:hi<=n):aN s z (dJ z v lo hi) (hi-lo) ((l.drop (lo*z)).take ((hi-lo)*z)):=by
 cases h with
 |nil=>obtain rfl:hi=0:=by omega
       obtain rfl:lo=0:=by omega
       simpa [dJ] using(aN.nil (s:=s) (z:=z))
 |bare i off=>obtain rfl:hi=0:=by omega
              obtain rfl:lo=0:=by omega
              simpa [dJ] using(aN.bare (s:=s) (z:=z) i (off+0*z))
 |of i off n c b l wB hb hz hl hc hlen fy ht=>
  have e:lo*z+(hi-lo)*z<=n*z:=by
   rw[<-c4];exact b7 z (by omega)
  refine .of i (off+lo*z) (hi-lo) c b _ wB hb hz hl hc ?_ (by omega) ?_
  ·rw[cd,cg,hlen];omega
  ·rw[<-ht,cA,cB,cR]
   congr 1
   omega
theorem aN.slice {P:ab}{t e:av}{z:aR}(hu:P.underlying t=some (.slice e))(cf:aX P e=some z){s:aq}{v:an}{n:aR}{l:aE an}(h:aN s z v n l){lo hi:a1 an}{a b:aR}
  (ha:gV lo 0=some a) (hb:gV hi n=some b) (h1:a<=b) (h2:b<=n):dj P s t v lo hi none=some (dJ z v a b):=by
 have Iu:(bd a b&&bd b n)=true:=by simp only[a8,cz];exact⟨h1,h2⟩
 cases h with
 |nil=>unfold dj;rw[hu];simp only[ha,hb,cf,Iu,a2,dJ]
 |bare i off=>
  unfold dj;rw[hu];simp only[ha,hb,cf,Iu,a2,kv,dJ]
 |of i off n c bk l wB hbk hz hl hc hlen fy ht=>
  have he:kv s i c z=true:=by
   unfold kv
   split
   ·rfl
   ·rw[hbk];simp[hz]
  unfold dj;rw[hu];simp only[ha,hb,cf,Iu,a2,he,dJ]
theorem fR (d:aR):gV none d=some d:=rfl
theorem p8 {k:a9}{x:c5}{d:aR}(h:0<=x):gV (some (.int k x)) d=some x.toNat:=by
 obtain⟨y,rfl⟩:∃y:aR,x=y:=⟨x.toNat,by omega⟩
 rfl
theorem aN.src {s:aq}{z:aR}{v:an}{n:aR}{l:aE an}(h:aN s z v n l):dV s z v=some (n,l):=by
 cases h with
 |nil=>rfl
 |bare=>rfl
 |of i off n c b l wB hb hz hl hc hlen fy ht=>
  cases n with
  |zero=>
   have:l=[]:=a5 (by simpa using hlen)
   subst this;rfl
  |succ n=>
   simp only[dV]
   rw[gF hb hl hc fy,ht]
inductive Own (s:aq) (z:aR):an->aR->aE an->Prop
 |nil:Own s z (.slice none 0 0) 0 []
 |of (i n low:aR) (l:aE an) (hi:i<s.next) (hb:s.bR i=some ⟨l,low,true,z⟩) (hl:low<=l.length+1) (hlen:l.length=n*z):Own s z (.slice (some ⟨i,0,none⟩) n (l.length+1)) n l
def aI:an->a1 aR
 | .slice (some a) _ _=>some a.block
 | .pointer (some a)=>some a.block
 |_=>none
def aF (base:aR)(v:an):Prop:=∀i,aI v=some i->base<=i
theorem aF.nil (base:aR):aF base (.slice none 0 0):=fun i h=>by cases h
theorem Own.aG {s:aq}{z:aR}{v:an}{n:aR}{l:aE an}(h:Own s z v n l):aN s z v n l:=by
 cases h with
 |nil=>exact .nil
 |of i n low l hi hb hl hlen=>exact .of i 0 n _ _ l hi hb rfl hl (bo _) hlen (by omega) (by simp[<-hlen])
theorem Own.length {s:aq}{z:aR}{v:an}{n:aR}{l:aE an}(h:Own s z v n l):l.length=n*z:=h.aG.length
theorem Own.keeps {s s' :aq}{z:aR}{v:an}{n:aR}{l:aE an}(h:Own s z v n l)(k:ar s.next s s'):Own s' z v n l:=by
 cases h with
 |nil=>exact .nil
 |of i n low l hi hb hl hlen=>exact .of i n low l (a6 hi k.next) ((k.dZ hi).trans hb) hl hlen
structure bt (v:an) (s s' :aq):Prop where
 next:s.next<=s'.next
 get:∀i,i<s.next->aI v≠some i->s'.heap.get i=s.heap.get i
theorem bt.keeps {base:aR}{v:an}{s s' :aq}(h:bt v s s')(hf:aF base v)(hb:base<=s.next):ar base s s' :=
 ⟨h.next,fun i hi=>h.get i (by omega) (fun e=>by have:=hf i e;omega)⟩
theorem Own.turns {s s' :aq}{z:aR}{v u:an}{n:aR}{l:aE an}(h:Own s z v n l)(k:bt u s s')(cH:∀i,aI v=some i->aI u≠some i):Own s' z v n l:=by
 cases h with
 |nil=>exact .nil
 |of i n low l hi hb hl hlen=>
  refine .of i n low l (a6 hi k.next) ?_ hl hlen
  simp only[aq.bR,k.get i hi (cH i rfl)];exact hb
theorem Own.new {s:aq}{cs:aE an}{n z:aR}(h:cs.length=n*z):aZ s cs n z=some (.slice (some ⟨s.next,0,none⟩) n (cs.length+1),s.new (.dZ ⟨cs,1,true,z⟩))/\Own (s.new (.dZ ⟨cs,1,true,z⟩)) z (.slice (some ⟨s.next,0,none⟩) n (cs.length+1)) n cs:=by
 refine⟨by simp[aZ,aq.room],.of s.next n 1 cs (by rw[xq];omega) (oO _ _) (by omega) h⟩
theorem Own.append {P:ab}{st xt e:av}{xd:TypeDesc}{z oo:aR}{zv:an}(hu:P.underlying st=some (.slice e))(ZF:P.underlying xt=some xd)(Qc:(∃e2,xd= .slice e2)\/xd= .string)(cf:aX P e=some z)(sQ:eY P e=some oo)(uP:bV P e=some zv)(oK:bz zv.cells.toList.length z=true)
  {s:aq} {x y:an} {n m:aR} {l new:aE an} (hx:Own s z x n l) (hy:dV s z y=some (m,new)) (mA:new.length=m*z) (wC:0<z) (dH:new.all aL=true) (gL:(n+m)*oo<=140737488355328) (dI:n+m<=140737488355328):
  ∃x' s',gW P s st xt x y=some (x',s')/\Own s' z x' (n+m) (l++new)/\bt x s s' /\(aI x' =aI x\/∃i,aI x' =some i/\s.next<=i):=by
 have hy:Im s z oo zv xd y=some (m,new):=by rcases Qc with ⟨e2,rfl⟩|rfl<;>exact hy
 have iy:(bd ((n+m)*oo) 140737488355328&&bd (n+m) 140737488355328&&bg 0 z&&new.all aL&&bz zv.cells.toList.length z)=true:=by
  simp only[a8,cz,a3];exact⟨⟨⟨⟨gL,dI⟩,wC⟩,dH⟩,oK⟩
 cases m with
 |zero=>
  have hn:new=[]:=a5 (by simpa using mA)
  subst hn
  refine⟨x,s,?_,by simpa using hx,⟨bo _,fun _ _ _=>rfl⟩,.inl rfl⟩
  unfold gW
  rcases Qc with ⟨e2,rfl⟩|rfl<;>
  simp only[hu,ZF,cf,sQ,uP,hy]
  all_goals (cases hx<;>simp only[iy,a2])
 |succ m=>
  cases hx with
  |nil=>
   obtain⟨h1,h2⟩:=Own.new (s:=s) mA
   refine⟨_,_,?_,by simpa using h2,⟨by rw[xq];omega,fun i hi _=>(ar.new s _).get i hi⟩,.inr ⟨s.next,rfl,bo _⟩⟩
   unfold gW
   rcases Qc with ⟨e2,rfl⟩|rfl<;>
   simp only[hu,ZF,cf,sQ,uP,hy,iy,a2,h1]
   all_goals simp
  |of i n low l hi hb hl hlen=>
   have iK:(true&&bd low (l.length+1)&&bz z z)=true:=by simp[hl]
   have kY:(bz (l.length+1) (l.length+1)&&bz 0 0&&bz (n*z) l.length)=true:=by simp[hlen]
   refine⟨.slice (some ⟨i,0,none⟩) (n+(m+1)) ((l++new).length+1),s.put i (.dZ ⟨l++new,low,true,z⟩),?_,?_,⟨by simp[aq.put],fun j _ hj=> ?_⟩,.inl rfl⟩
   ·unfold gW
    rcases Qc with ⟨e2,rfl⟩|rfl<;>
    simp only[hu,ZF,cf,sQ,uP,hy,iy,a2,hb,iK,kY]
   ·refine .of i _ low _ (by simpa [aq.put] using hi) (by rw[aq.ck _ _ _ (by omega)]) (by rw[cb];omega) (by rw[cb,hlen,mA,c4 n (m+1) z])
   ·rw[aq.bP]
    intro e;subst e;exact hj rfl
theorem bM (l:aE cp):(ofBytes l).length=l.length:=by simp[ofBytes]
theorem bw {l:aE cp}{i:aR}(h:i<l.length):(ofBytes l).getD i undef= .int .u8 ((l.getD i 0).toNat:c5):=by
 simp[ofBytes,c0,bb h]
theorem br (a b:aE cp):ofBytes (a++b)=ofBytes a++ofBytes b:=by simp[ofBytes]
theorem IP (a:cp)(b:aE cp):ofBytes (a::b)= .int .u8 (a.toNat:c5)::ofBytes b:=rfl
theorem qS (n:aR)(l:aE cp):(ofBytes l).take n=ofBytes (l.take n):=by simp[ofBytes,List.map_take]
theorem IQ (n:aR)(l:aE cp):(ofBytes l).drop n=ofBytes (l.drop n):=by simp[ofBytes,List.map_drop]
theorem dh (l:aE cp):(ofBytes l).all aL=true:=by simp[ofBytes,aL]
theorem dk (z:aR)(v:an)(k:aR):bZ (bc z v k) (bc z v k)=true:=by
 unfold bc;split<;>exact lU _
theorem C3 (z:aR)(v:an)(a b:aR):bZ (dJ z v a b) (dJ z v a b)=true:=by
 unfold dJ;split<;>exact oN _ _ _
theorem aN.self {s:aq}{z:aR}{v:an}{n:aR}{l:aE an}(h:aN s z v n l):bZ v v=true:=by
 cases h<;>exact oN _ _ _
theorem Own.self {s:aq}{z:aR}{v:an}{n:aR}{l:aE an}(h:Own s z v n l):bZ v v=true:=h.aG.self
theorem aN.GV {P:ab}{t e:av}{z:aR}(hu:P.underlying t=some (.slice e))(cf:aX P e=some z){s:aq}{v:an}{n:aR}{l:aE an}(h:aN s z v n l){k k2:a9}{x y:c5}
  (h0:0<=x) (h1:x<=y) (h2:y<=n):dj P s t v (some (.int k x)) (some (.int k2 y)) none=some (dJ z v x.toNat y.toNat):=
 h.slice hu cf (p8 h0) (p8 (by omega)) (by omega) (by omega)
theorem aN.ff {P:ab}{t e:av}{z:aR}(hu:P.underlying t=some (.slice e))(cf:aX P e=some z){s:aq}{v:an}{n:aR}{l:aE an}(h:aN s z v n l){k:a9}{x:c5}
  (h0:0<=x) (h2:x<=n):dj P s t v (some (.int k x)) none none=some (dJ z v x.toNat n):=
 h.slice hu cf (p8 h0) rfl (by omega) (by omega)
theorem aN.iS {P:ab}{t e:av}{z:aR}(hu:P.underlying t=some (.slice e))(cf:aX P e=some z){s:aq}{v:an}{n:aR}{l:aE an}(h:aN s z v n l){k:a9}{y:c5}
  (h1:0<=y) (h2:y<=n):dj P s t v none (some (.int k y)) none=some (dJ z v 0 y.toNat):=
 h.slice hu cf rfl (p8 (by omega)) (by omega) (by omega)
theorem aN.tk {s:aq}{z:aR}{v:an}{n:aR}{l:aE an}(h:aN s z v n l):v.cells.toList=[v]:=by cases h<;>rfl
theorem aN.aL {s:aq}{z:aR}{v:an}{n:aR}{l:aE an}(h:aN s z v n l):Cl.aL v=true:=by cases h<;>rfl
theorem aN.turns {s s' :aq}{z:aR}{v u:an}{n:aR}{l:aE an}(h:aN s z v n l)(k:bt u s s')(cH:∀i,i<s.next->aI v=some i->aI u≠some i):aN s' z v n l:=by
 cases h with
 |nil=>exact .nil
 |bare=>exact .bare _ _
 |of i off n c b l hi hb hz hl hc hlen fy ht=>
  refine .of i off n c b l (a6 hi k.next) ?_ hz hl hc hlen fy ht
  simp only[aq.bR,k.get i hi (cH i hi rfl)];exact hb
theorem aN.p9 {s:aq}{v:an}{l:aE cp}(h:aN s 1 v l.length (ofBytes l)){lo hi:aR}(h1:lo<=hi)(h2:hi<=l.length):aN s 1 (dJ 1 v lo hi) ((l.drop lo).take (hi-lo)).length (ofBytes ((l.drop lo).take (hi-lo))):=by
 have:=h.cut h1 h2
 rw[cm,cm,IQ,qS] at this
 rw[cd,cg,Nat.min_eq_left (by omega)]
 exact this
structure Grown (x:an) (s:aq) (v:an) (s' :aq):Prop where
 turns:bt x s s'
 id:aI v=aI x\/∃i,aI v=some i/\s.next<=i
theorem Grown.refl (x:an)(s:aq):Grown x s x s:=⟨⟨bo _,fun _ _ _=>rfl⟩,.inl rfl⟩
theorem Grown.trans {x y v:an}{s s' yB:aq}(h:Grown x s y s')(k:Grown y s' v yB):Grown x s v yB:=by
 refine⟨⟨cc h.turns.next k.turns.next,fun i hi cH=> ?_⟩,?_⟩
 ·rw[k.turns.get i (a6 hi h.turns.next) ?_,h.turns.get i hi cH]
  rcases h.id with e|⟨j,e,hj⟩
  ·rw[e];exact cH
  ·rw[e];intro q;injection q with q;omega
 ·rcases k.id with e|⟨j,e,hj⟩
  ·rcases h.id with e2|⟨j,e2,hj⟩
   ·left;rw[e,e2]
   ·right;exact⟨j,by rw[e,e2],hj⟩
  ·right;exact⟨j,e,cc h.turns.next hj⟩
theorem Grown.stay {base:aR}{x v:an}{s s' :aq}(h:Grown x s v s')(hf:aF base x)(hb:base<=s.next):ar base s s' :=h.turns.keeps hf hb
theorem Grown.fresh {base:aR}{x v:an}{s s' :aq}(h:Grown x s v s')(hf:aF base x)(hb:base<=s.next):aF base v:=fun i hi=>by
 rcases h.id with e|⟨j,e,hj⟩
 ·exact hf i (by rw[<-e];exact hi)
 ·rw[e] at hi;injection hi with hi;omega
theorem Own.iD {s:aq}{z:aR}{v:an}{n:aR}{l:aE an}(h:Own s z v n l):∀i,aI v=some i->i<s.next:=by
 cases h with
 |nil=>intro i h;cases h
 |of i n low l hi hb hl hlen=>intro j h;injection h with h;subst h;exact hi
theorem cY {P:ab}{t e:av}(hu:P.underlying t=some (.pointer e))(a:Addr):cQ P .eql t (.pointer (some a)) (.pointer none)=some (.bool false):=by
 simp[cQ,rM,hu]
theorem VC {P:ab}{t e:av}(hu:P.underlying t=some (.pointer e))(a:Addr):cQ P .neq t (.pointer (some a)) (.pointer none)=some (.bool true):=by
 simp[cQ,rM,hu]
def C4:an->bC
 | .slice none _ _=>true
 |_=>false
theorem aN.oP {P:ab}{t e:av}(hu:P.underlying t=some (.slice e)){s:aq}{z:aR}{v:an}{n:aR}{l:aE an}(h:aN s z v n l):cQ P .eql t v (.slice none 0 0)=some (.bool (C4 v)):=by
 cases h<;>simp[cQ,rM,hu,C4]
theorem aN.isNil {s:aq}{z:aR}{v:an}{n:aR}{l:aE an}(h:aN s z v n l)(hn:C4 v=true):n=0/\l=[]/\v= .slice none 0 0:=by
 cases h with
 |nil=>exact⟨rfl,rfl,rfl⟩
 |bare=>cases hn
 |of=>cases hn
def Br (base:aR)(s:aq)(z:aR)(v:an)(n:aR)(l:aE an):Prop:=∀s',ar base s s' ->aN s' z v n l
theorem Br.aG {base:aR}{s:aq}{z:aR}{v:an}{n:aR}{l:aE an}(h:Br base s z v n l):aN s z v n l:=h s (ar.refl _ _)
theorem Br.stay {base:aR}{s s' :aq}{z:aR}{v:an}{n:aR}{l:aE an}(h:Br base s z v n l)(k:ar base s s'):Br base s' z v n l:=fun yB k' =>h yB (k.trans k')
theorem aN.low {s:aq}{z:aR}{v:an}{n:aR}{l:aE an}(h:aN s z v n l):Br s.next s z v n l:=fun _ k=>h.keeps k
theorem aN.full {P:ab}{t e:av}{z:aR}(hu:P.underlying t=some (.slice e))(cf:aX P e=some z){s:aq}{v:an}{n:aR}{l:aE an}(h:aN s z v n l)(k k2:a9):
  ∃v',dj P s t v none (some (.int k n)) (some (.int k2 n))=some v' /\∀s',aN s' z v n l->aN s' z v' n l:=by
 have h1:gV (some (.int k (n:c5))) n=some n:=rfl
 have h2:gV (some (.int k2 (n:c5))) 0=some n:=rfl
 have h3:(bd 0 n&&bd n n)=true:=by simp
 have h4:(bd n n&&bd n n)=true:=by simp
 cases h with
 |nil=>exact⟨.slice none 0 0,by unfold dj;rw[hu];simp only[fR,h1,cf,h3,a2,h2],fun _ h=>h⟩
 |bare i off=>exact⟨.slice (some ⟨i,off+0*z,none⟩) 0 0,by unfold dj;rw[hu];simp only[fR,h1,cf,h3,a2,h2,kv];rfl,fun s' _=> .bare _ _⟩
 |of i off n c b l hi hb hz hl hc hlen fy ht=>
  have he:kv s i c z=true:=by
   unfold kv
   split
   ·rfl
   ·rw[hb];simp[hz]
  by_cases h0:n=0
  ·subst h0
   refine⟨.slice (some ⟨i,off+0*z,none⟩) 0 0,by unfold dj;rw[hu];simp only[fR,h1,cf,h3,a2,h2,he];rfl,fun s' _=> ?_⟩
   have:l=[]:=a5 (by simpa using hlen)
   subst this;exact .bare _ _
  ·refine⟨.slice (some ⟨i,off,none⟩) n c,?_,fun s' h=>h⟩
   have cH:bz 0 n=false:=by rw[<-a7,cx];omega
   unfold dj;rw[hu];simp only[fR,h1,cf,h3,a2,h2,h4,he,cH];simp
theorem y9 {P:ab}{s:aq}{t e:av}{zv:an}{z:aR}(hu:P.underlying t=some (.slice e))(cf:aX P e=some z)(hz:bV P e=some zv)(hp:bN zv=true)(hl:bz zv.cells.toList.length z=true):aO P s t 0 []=aZ s [] 0 z:=by
 unfold aO;rw[hu];simp only[cf,hz,hp,hl];simp[bB,fG]
end Go.Cl
