/-
 The clean machine, part 20: what a call and a piece of code come to, whatever the fuel beyond some. A reading of code as a sentence.
-/
import Derived.Test.YtdfjfncifneocaaGreatMcB
import Derived.ProofKit
import Derived.OpenShut
import Derived.Carry
import Derived.ChangeSlices
import Derived.WideShapes
open Go renaming Program->ab,Value->an,Operand->ao,TypeId->av,Oper->aR,IntKind->b8,Code->cm,FuncId->c5,World->dT
open _root_ renaming List->ax,Nat->aC,Option->aY,if_true->bb,Array->bq,if_neg->bA,Bool->ch,if_pos->cp,UInt8->c3,Int->dK
open Nat renaming blt_eq->a0,blt->a3,le_refl->bt,testBit->bw,ble->b7,lt_of_lt_of_le->cb,beq->ck,beq_eq->cz,mul_le_mul_right->cD,ble_eq->cU,ne_of_lt->c4,mul_one->c9,zero_add->dA,beq_refl->dI,add_mul->dP
open List renaming mem_cons_self->a1,mem_cons_of_mem->a8,eq_nil_of_length_eq_zero->bz,getLastD_cons->b4,getElem?_eq_getElem->ca,length_append->cc,append_assoc->cg,mem_singleton->cv,cons_append->cx,mem_append->cA,mem_append_right->cB,drop_take->cJ,drop_drop->cL,mem_append_left->cM,length_take->c6,length_drop->c7,length_cons->c8,append_nil->dc,take_take->dg,mem_cons->dv,getD->dw
open Bool renaming not_eq_true->a2,and_eq_true->bl,true_and->b5,and_true->cT,false_eq_true->c0,and_false->dt
open BitVec renaming ofInt->cd
namespace Go.Cl
theorem du.refl (s:au):du s s (fun _=>none):=⟨rfl,fun _ _ h=>(by cases h),fun _=>rfl⟩
theorem qS {P:ab}{o:aR}{f:aZ}{s:au}(hw:WF s){v:an}{t:au}(h:cV P o f s=some (.val v t)):bQ s t:=by
 obtain⟨_,_,_,k⟩:=mK (du.refl s) hw h;exact k
def Runs (P:ab)(lib:aD)(g:c5)(args:ax an)(s:au)(Q:an->au->Prop):Prop:=
 WF s->∃v s',(∃n,∀m,n<=m->iZ P lib m g args s=some (v,s'))/\bQ s s' /\Q v s'
def Comes (P:ab)(lib:aD)(c:cm)(f:aZ)(s:au)(Q:AX->aZ->au->Prop):Prop:=
 WF s->∃x f' s',(∃n,∀m,n<=m->exec P lib m c f s=some (x,f',s'))/\bQ s s' /\Q x f' s'
def Kc (P:ab)(lib:aD)(all l:ax aR)(f:aZ)(s:au)(Q:aZ->au->Prop):Prop:=
 WF s->∃f' s',(∃n,∀m,n<=m->jW P (iZ P lib m) all l f s=some (f',s'))/\bQ s s' /\Q f' s'
theorem Runs.mono {P:ab}{lib:aD}{g:c5}{args:ax an}{s:au}{Q Q' :an->au->Prop}(h:Runs P lib g args s Q)(k:∀v s',Q v s' ->Q' v s'):Runs P lib g args s Q' :=by
 intro hw;obtain⟨v,s',hn,hk,hq⟩:=h hw;exact⟨v,s',hn,hk,k _ _ hq⟩
theorem Comes.mono {P:ab}{lib:aD}{c:cm}{f:aZ}{s:au}{Q Q' :AX->aZ->au->Prop}(h:Comes P lib c f s Q)(k:∀x f' s',Q x f' s' ->Q' x f' s'):Comes P lib c f s Q' :=by
 intro hw;obtain⟨x,f',s',hn,hk,hq⟩:=h hw;exact⟨x,f',s',hn,hk,k _ _ _ hq⟩
def dm (f:aZ)(d:aY Tmp)(v:an)(K:aZ->Prop):Prop:=
 match my f d v with
 |some f' =>K f'
 |none=>False
mutual
def lP (P:ab)(lib:aD)(all:ax aR):ax aR->aZ->au->(aZ->au->Prop)->Prop
 |[],f,s,Q=>Q f s
 |o::r,f,s,Q=>
  match cH all o f with
  |true=>
   match cV P o f s with
   |some (.val v s')=>dm f o.dst v fun f' =>lP P lib all r f' s' Q
   |some (.call g args)=>Runs P lib g args s fun v s' =>dm f o.dst v fun f' =>lP P lib all r f' s' Q
   |none=>False
  |false=>dm f o.dst undef fun f' =>lP P lib all r f' s Q
end
def iH (P:ab)(lib:aD)(all r:ax aR)(f:aZ)(s:au)(d:aY Tmp)(Q:aZ->au->Prop):aY AR->Prop
 |some (.val v s')=>dm f d v fun f' =>lP P lib all r f' s' Q
 |some (.call g args)=>Runs P lib g args s fun v s' =>dm f d v fun f' =>lP P lib all r f' s' Q
 |none=>False
def GO (P:ab)(lib:aD)(all r:ax aR)(f:aZ)(d:aY Tmp)(Q:aZ->au->Prop)(v:an)(s' :au):Prop:=dm f d v fun f' =>lP P lib all r f' s' Q
def pk (P:ab)(lib:aD)(all:ax aR)(o:aR)(r:ax aR)(f:aZ)(s:au)(Q:aZ->au->Prop):ch->Prop
 |true=>iH P lib all r f s o.dst Q (cV P o f s)
 |false=>dm f o.dst undef fun f' =>lP P lib all r f' s Q
theorem yq (P:ab)(lib:aD)(all:ax aR)(f:aZ)(s:au)(Q:aZ->au->Prop):lP P lib all [] f s Q=Q f s:=by simp only[lP]
theorem oV (P:ab)(lib:aD)(all:ax aR)(o:aR)(r:ax aR)(f:aZ)(s:au)(Q:aZ->au->Prop):lP P lib all (o::r) f s Q=pk P lib all o r f s Q (cH all o f):=by
 simp only[lP];cases cH all o f with
 |false=>rfl
 |true=>
  simp only[pk];cases cV P o f s with
  |none=>rfl
  |some a=>cases a<;>rfl
theorem lQ (P:ab)(lib:aD)(all:ax aR)(o:aR)(r:ax aR)(f:aZ)(s:au)(Q:aZ->au->Prop):pk P lib all o r f s Q true=iH P lib all r f s o.dst Q (cV P o f s):=rfl
theorem dJ (f:aZ)(t:Tmp)(v:an)(K:aZ->Prop):dm f (some t) v K=if t<f.n then K (f.put t v) else False:=by
 unfold dm my;by_cases h:t<f.n
 ·have hb:a3 t f.n=true:=by simpa [a0] using h
  simp only[hb,bb,cp h]
 have hb:a3 t f.n=false:=by rw[<-a2,a0];exact h
 simp[hb,bA h]
theorem GP (f:aZ)(v:an)(K:aZ->Prop):dm f none v K=K f:=rfl
theorem qT (P:ab)(lib:aD)(all:ax aR)(op:Op)(ty:av)(ps:String)(af:bq Edge)(gd:aY (aC×ch))(r:ax aR)(f:aZ)(s:au)(Q:aZ->au->Prop)(t:Tmp):pk P lib all ⟨some t,op,ty,ps,af,gd⟩ r f s Q false=if t<f.n then lP P lib all r (f.put t undef) s Q else False:=by
 unfold pk;simp only;rw[dJ]
theorem qU (P:ab)(lib:aD)(all:ax aR)(op:Op)(ty:av)(ps:String)(af:bq Edge)(gd:aY (aC×ch))(r:ax aR)(f:aZ)(s:au)(Q:aZ->au->Prop):pk P lib all ⟨none,op,ty,ps,af,gd⟩ r f s Q false=lP P lib all r f s Q:=rfl
theorem zX (P:ab)(lib:aD)(all r:ax aR)(f:aZ)(s:au)(t:Tmp)(Q:aZ->au->Prop)(v:an)(s' :au):iH P lib all r f s (some t) Q (some (.val v s'))=if t<f.n then lP P lib all r (f.put t v) s' Q else False:=by
 simp only[iH,dJ]
theorem uf (P:ab)(lib:aD)(all r:ax aR)(f:aZ)(s:au)(Q:aZ->au->Prop)(v:an)(s' :au):iH P lib all r f s none Q (some (.val v s'))=lP P lib all r f s' Q:=rfl
theorem Df (P:ab)(lib:aD)(all r:ax aR)(f:aZ)(s:au)(d:aY Tmp)(Q:aZ->au->Prop)(g:c5)(args:ax an):iH P lib all r f s d Q (some (.call g args))=Runs P lib g args s (GO P lib all r f d Q):=rfl
theorem Dg (P:ab)(lib:aD)(all r:ax aR)(f:aZ)(t:Tmp)(Q:aZ->au->Prop)(v:an)(s' :au):GO P lib all r f (some t) Q v s' =if t<f.n then lP P lib all r (f.put t v) s' Q else False:=by
 simp only[GO,dJ]
theorem Dh (P:ab)(lib:aD)(all r:ax aR)(f:aZ)(Q:aZ->au->Prop)(v:an)(s' :au):GO P lib all r f none Q v s' =lP P lib all r f s' Q:=rfl
theorem qx {P:ab}{lib:aD}{all r:ax aR}{f:aZ}{d:aY Tmp}{Q:aZ->au->Prop}{v:an}{s' :au}(F:aZ->Prop)(h:F f)(k:∀f,F f->GO P lib all r f d Q v s'):GO P lib all r f d Q v s' :=k f h
theorem WY {P:ab}{lib:aD}(all:ax aR):∀(l:ax aR) (f:aZ) (s:au) (Q:aZ->au->Prop),lP P lib all l f s Q->Kc P lib all l f s Q:=by
 intro l
 induction l with
 |nil=>intro f s Q h pZ;rw[yq] at h;exact⟨f,s,⟨0,fun m _=>rfl⟩,bQ.refl pZ,h⟩
 |cons o r ih=>
  intro f s Q h pZ;rw[oV] at h;have jA:∀(v:an) (s' :au),(dm f o.dst v fun f' =>lP P lib all r f' s' Q)->∃f1,my f o.dst v=some f1/\Kc P lib all r f1 s' Q:=by
   intro v s' h;unfold dm at h;split at h
   ·exact⟨_,‹_›,ih _ _ _ h⟩
   exact h.elim
  cases hw:cH all o f with
  |false=>
   rw[hw] at h;obtain⟨f1,hp,hc⟩:=jA _ _ h;obtain⟨f',s',⟨n,hn⟩,hk,hq⟩:=hc pZ;refine⟨f',s',⟨n,fun m hm=> ?_⟩,hk,hq⟩;simp only[jW,hw,hp]
   simpa using hn m hm
  |true=>
   rw[hw] at h;simp only[pk] at h;unfold iH at h;split at h
   ·rename_i v s1 er;have oK:=qS pZ er;obtain⟨f1,hp,hc⟩:=jA _ _ h;obtain⟨f',s',⟨n,hn⟩,hk,hq⟩:=hc oK.wf;refine⟨f',s',⟨n,fun m hm=> ?_⟩,oK.trans hk,hq⟩;simp only[jW,hw,er,hp]
    simpa using hn m hm
   ·rename_i g args er;obtain⟨v,s1,⟨n1,h1⟩,oK,h⟩:=h pZ;obtain⟨f1,hp,hc⟩:=jA _ _ h;obtain⟨f',s',⟨n,hn⟩,hk,hq⟩:=hc oK.wf;refine⟨f',s',⟨n+n1,fun m hm=> ?_⟩,oK.trans hk,hq⟩;simp only[jW,hw,er,h1 m (by omega),hp]
    simpa using hn m (by omega)
   exact h.elim
def j9 (P:ab)(l:ax aR):ch:=l.all (aS P)
def lR (P:ab)(all:ax aR):ax aR->aZ->au->(aZ->Prop)->Prop
 |[],f,_,Q=>Q f
 |o::r,f,s,Q=>
  match cH all o f with
  |true=>
   match cV P o f s with
   |some (.val v _)=>bI v v=true/\dm f o.dst v fun f' =>lR P all r f' s Q
   |_=>False
  |false=>dm f o.dst undef fun f' =>lR P all r f' s Q
def Kd (P:ab)(all r:ax aR)(f:aZ)(s:au)(d:aY Tmp)(Q:aZ->Prop):aY AR->Prop
 |some (.val v _)=>bI v v=true/\dm f d v fun f' =>lR P all r f' s Q
 |_=>False
def GQ (P:ab)(all:ax aR)(o:aR)(r:ax aR)(f:aZ)(s:au)(Q:aZ->Prop):ch->Prop
 |true=>Kd P all r f s o.dst Q (cV P o f s)
 |false=>dm f o.dst undef fun f' =>lR P all r f' s Q
theorem wV (P:ab)(all:ax aR)(f:aZ)(s:au)(Q:aZ->Prop):lR P all [] f s Q=Q f:=rfl
theorem ug (P:ab)(all:ax aR)(o:aR)(r:ax aR)(f:aZ)(s:au)(Q:aZ->Prop):lR P all (o::r) f s Q=GQ P all o r f s Q (cH all o f):=by
 simp only[lR];cases cH all o f with
 |false=>rfl
 |true=>
  simp only[GQ];cases cV P o f s with
  |none=>rfl
  |some a=>cases a<;>rfl
theorem Di (P:ab)(all:ax aR)(o:aR)(r:ax aR)(f:aZ)(s:au)(Q:aZ->Prop):GQ P all o r f s Q true=Kd P all r f s o.dst Q (cV P o f s):=rfl
theorem qV (P:ab)(all:ax aR)(op:Op)(ty:av)(ps:String)(af:bq Edge)(gd:aY (aC×ch))(r:ax aR)(f:aZ)(s:au)(Q:aZ->Prop)(t:Tmp):GQ P all ⟨some t,op,ty,ps,af,gd⟩ r f s Q false=if t<f.n then lR P all r (f.put t undef) s Q else False:=by
 unfold GQ;simp only;rw[dJ]
theorem GR (P:ab)(all r:ax aR)(f:aZ)(s:au)(t:Tmp)(Q:aZ->Prop)(v:an)(s' :au):Kd P all r f s (some t) Q (some (.val v s'))=if bI v v=true/\t<f.n then lR P all r (f.put t v) s Q else False:=by
 simp only[Kd,dJ];by_cases h1:bI v v=true<;>by_cases h2:t<f.n<;>simp[h1,h2]
theorem wj {P:ab}:∀{l:ax aR},j9 P l=true->(∀o∈l,aS P o=true)/\aO P l=0:=by
 intro l
 induction l with
 |nil=>intro _;exact⟨fun o h=>(by cases h),rfl⟩
 |cons o r ih=>
  intro h;simp only[j9,List.all_cons,bl] at h;obtain⟨h1,h2⟩:=ih (by simpa [j9] using h.2);have Fp:aJ P o=false:=by
   obtain⟨dst,op,type,pos,after,guard⟩:=o;cases op<;>simp_all[aS,aJ]
   case convert a b x=>
    simp only[jV];split
    ·rename_i _ e hb;simp_all
    rfl
  exact⟨fun p hp=>(dv.mp hp).elim (fun e=>e▸h.1) (fun hp=>h1 p hp),by simp[aO,Fp,h2]⟩
theorem jB {P:ab}{o:aR}(hq:aS P o=true):aJ P o=false:=by
 have:=(wj (P:=P) (l:=[o]) (by simp[j9,hq])).2;simp only[aO] at this;cases h:aJ P o with
 |false=>rfl
 |true=>rw[h] at this;simp at this
theorem iI {P:ab}{o:aR}(hq:aS P o=true):bh P o=false:=by simp[bh,hq]
theorem FV {P:ab}{all:ax aR}{s:au}(nv:ax aC){Q:aZ->Prop}:∀(l:ax aR) (ms:ax aC) (i id:aC) (f:aZ),(∀o∈l,aS P o=true)->ms.length=l.length->lR P all l f s Q->
  ∃es f',(∀call,cf P call all ms l i id f s []=some es)/\(∀k,madeOf es k=[])/\aE P l es s=[s]/\bV l es f=f' /\bO P all nv [] [s] ms l es i f=true/\Q f' :=by
 intro l
 induction l with
 |nil=>
  intro ms i id f _ hl hw;rw[wV] at hw;cases ms with
  |cons m r=>simp at hl
  |nil=>exact⟨[],f,fun _=>rfl,fun _=>rfl,rfl,rfl,rfl,hw⟩
 |cons o r ih=>
  intro ms i id f hq hl hw;cases ms with
  |nil=>simp at hl
  |cons m ms=>
  have hqo:=hq o (a1 ..);have Fp:=jB hqo;have cE:=iI hqo;have hqr:∀p∈r,aS P p=true:=fun p hp=>hq p (a8 _ hp)
  have xN:ms.length=r.length:=by simpa using hl
  rw[ug] at hw;have jA:∀(v:an),(dm f o.dst v fun f' =>lR P all r f' s Q)->∃f1,my f o.dst v=some f1/\lR P all r f1 s Q:=by
   intro v h;unfold dm at h;split at h
   ·exact⟨_,‹_›,h⟩
   exact h.elim
  cases pV:cH all o f with
  |false=>
   rw[pV] at hw;obtain⟨f1,hp,hw⟩:=jA _ hw;obtain⟨es,f',h1,h2,h3,h4,h5,h6⟩:=ih ms (i+1) id f1 hqr xN hw;refine⟨.skip::es,f',fun call=> ?_,fun k=> ?_,?_,?_,?_,h6⟩
   ·simp only[cf,dH,pV,Ev.val,hp,Fp];rw[bA (by simp),h1 call]
   ·simp only[madeOf,h2]
   ·simp only[aE,cE,h3];simp
   ·simp only[bV,Ev.val,hp,h4]
   simp only[bO,Ev.val,hp,h5];rfl
  |true=>
   rw[pV] at hw;simp only[GQ] at hw;unfold Kd at hw;split at hw
   case h_2=>exact hw.elim
   rename_i v s1 er;obtain⟨hv,hw⟩:=hw;obtain⟨f1,hp,hw⟩:=jA _ hw;obtain⟨es,f',h1,h2,h3,h4,h5,h6⟩:=ih ms (i+1) id f1 hqr xN hw;refine⟨.quiet v::es,f',fun call=> ?_,fun k=> ?_,?_,?_,?_,h6⟩
   ·simp only[cf,dH,pV,hqo,Cl.fill,er,Ev.val,hp,Fp];rw[bA (by simp),h1 call]
   ·simp only[madeOf,h2]
   ·simp only[aE,cE,h3];simp
   ·simp only[bV,Ev.val,hp,h4]
   simp only[bO,Ev.val,hp,h5,cT];have tP:∀(L:ax au),(∀x∈L,x=s)->sameAt P m [] o f v L=true:=by
    intro L
    induction L with
    |nil=>intro _;rfl
    |cons x L FU=>
     intro hx;obtain rfl:=hx x (a1 ..);simp only[sameAt,Cl.fill,er,hv,b5];exact FU (fun y hy=>hx y (a8 _ hy))
   exact tP _ (fun x hx=>by simpa using List.mem_of_mem_take (List.mem_of_mem_drop hx))
theorem FW {P:ab}{ops:ax aR}(hq:j9 P ops=true){f:aZ}{s:au}{Q:aZ->Prop}(h:lR P ops ops f s Q):∃f',(∀call,iC P call ops f s=some (f',s))/\Q f' :=by
 obtain⟨hqs,hal⟩:=wj hq;have Ci:(b9 ops []).length=ops.length:=by
  obtain⟨r,h1,h2⟩:=mg ops [];rw[h1];simpa using h2
 obtain⟨es,f',h1,h2,h3,h4,h5,h6⟩:=FV (b9 ops []) ops (b9 ops []) 0 s.next f hqs Ci h;refine⟨f',fun call=> ?_,h6⟩;have hs:(⟨s.heap,s.next+aO P ops⟩:au)=s:=by rw[hal];rfl
 unfold iC;rw[hs,h1 call];simp only[h2,h3,h5,h4,Cl.fill,List.getLastD];rfl
def cN (P:ab)(lib:aD)(ops:ax aR)(f:aZ)(s:au)(Q:aZ->au->Prop):Prop:=
 WF s->∃f' s',(∃n,∀m,n<=m->iC P (iZ P lib m) ops f s=some (f',s'))/\bQ s s' /\Q f' s'
def AL (P:ab)(lib:aD)(ops:ax aR)(f:aZ)(s:au)(Q:aZ->au->Prop):ch->Prop
 |true=>lR P ops ops f s (fun f' =>Q f' s)
 |false=>cN P lib ops f s Q
def OQ (id:aC):AX->AX
 | .exit j=>if j=id then .normal else .exit j
 |x=>x
def fI (P:ab)(lib:aD):cm->aZ->au->(AX->aZ->au->Prop)->Prop
 | .skip,f,s,Q=>Q .normal f s
 | .label _,f,s,Q=>Q .normal f s
 | .region _ ops d,f,s,Q=>
  match d with
  |false=>lP P lib ops.toList ops.toList f s (Q .normal)
  |true=>AL P lib ops.toList f s (Q .normal) (j9 P ops.toList)
 | .seq a b,f,s,Q=>fI P lib a f s fun x f' s' =>
  match x with
  | .normal=>fI P lib b f' s' Q
  |x=>Q x f' s'
 | .cond x a b,f,s,Q=>
  match a5 f x with
  |some (.bool t)=>
   match t with
   |true=>fI P lib a f s Q
   |false=>fI P lib b f s Q
  |_=>False
 | .block id a,f,s,Q=>fI P lib a f s fun x f' s' =>Q (OQ id x) f' s'
 | .loop a,f,s,Q=>Comes P lib (.loop a) f s Q
 | .exit id,f,s,Q=>Q (.exit id) f s
 | .scope a,f,s,Q=>fI P lib a f s Q
 | .ret,f,s,Q=>Q .ret f s
 |_,_,_,_=>False
def oD (P:ab)(lib:aD)(b:cm)(Q:AX->aZ->au->Prop)(x:AX)(f' :aZ)(s' :au):Prop:=
 match x with
 | .normal=>fI P lib b f' s' Q
 |x=>Q x f' s'
def Tq (id:aC)(Q:AX->aZ->au->Prop)(x:AX)(f' :aZ)(s' :au):Prop:=Q (OQ id x) f' s'
def WZ (P:ab)(lib:aD)(a b:cm)(f:aZ)(s:au)(Q:AX->aZ->au->Prop):ch->Prop
 |true=>fI P lib a f s Q
 |false=>fI P lib b f s Q
def Ts (P:ab)(lib:aD)(a b:cm)(f:aZ)(s:au)(Q:AX->aZ->au->Prop):aY an->Prop
 |some (.bool t)=>WZ P lib a b f s Q t
 |_=>False
section
variable (P:ab) (lib:aD) (f:aZ) (s:au) (Q:AX->aZ->au->Prop)
theorem Dj:fI P lib .skip f s Q=Q .normal f s:=rfl
theorem yu (id:aC)(ops:bq aR):fI P lib (.region id ops false) f s Q=lP P lib ops.toList ops.toList f s (Q .normal):=rfl
theorem Dk (id:aC)(ops:bq aR):fI P lib (.region id ops true) f s Q=AL P lib ops.toList f s (Q .normal) (j9 P ops.toList):=rfl
theorem Dl (ops:ax aR)(R:aZ->au->Prop):AL P lib ops f s R true=lR P ops ops f s (fun f' =>R f' s):=rfl
theorem GS (a b:cm):fI P lib (.seq a b) f s Q=fI P lib a f s (oD P lib b Q):=rfl
theorem yv (b:cm):oD P lib b Q .normal f s=fI P lib b f s Q:=rfl
theorem GU (b:cm):oD P lib b Q .ret f s=Q .ret f s:=rfl
theorem Dm (b:cm)(id:aC):oD P lib b Q (.exit id) f s=Q (.exit id) f s:=rfl
theorem wW (x:ao)(a b:cm):fI P lib (.cond x a b) f s Q=Ts P lib a b f s Q (a5 f x):=by
 simp only[fI];cases a5 f x with
 |none=>rfl
 |some v=>cases v<;>first|rfl|(rename_i t;cases t<;>rfl)
theorem Dn (a b:cm)(t:ch):Ts P lib a b f s Q (some (.bool t))=WZ P lib a b f s Q t:=rfl
theorem Ke (a b:cm):WZ P lib a b f s Q true=fI P lib a f s Q:=rfl
theorem GV (a b:cm):WZ P lib a b f s Q false=fI P lib b f s Q:=rfl
theorem AM (id:aC)(a:cm):fI P lib (.block id a) f s Q=fI P lib a f s (Tq id Q):=rfl
theorem AN (id:aC):Tq id Q .normal f s=Q .normal f s:=rfl
theorem Kf (id:aC):Tq id Q .ret f s=Q .ret f s:=rfl
theorem GW (id j:aC):Tq id Q (.exit j) f s=if j=id then Q .normal f s else Q (.exit j) f s:=by
 simp only[Tq,OQ];split<;>rfl
theorem Dp (a:cm):fI P lib (.loop a) f s Q=Comes P lib (.loop a) f s Q:=rfl
theorem Dq (id:aC):fI P lib (.exit id) f s Q=Q (.exit id) f s:=rfl
theorem AP (a:cm):fI P lib (.scope a) f s Q=fI P lib a f s Q:=rfl
theorem GX:fI P lib .ret f s Q=Q .ret f s:=rfl
end
theorem qW {P:ab}{lib:aD}{a b:cm}{f:aZ}{s:au}{Q:AX->aZ->au->Prop}{t:ch}(h1:t=true->fI P lib a f s Q)(h2:t=false->fI P lib b f s Q):WZ P lib a b f s Q t:=by
 cases t
 ·exact h2 rfl
 exact h1 rfl
theorem Kg {P:ab}{lib:aD}:∀(c:cm) (f:aZ) (s:au) (Q:AX->aZ->au->Prop),fI P lib c f s Q->Comes P lib c f s Q:=by
 intro c
 induction c with
 |skip=>intro f s Q h pZ;exact⟨.normal,f,s,⟨1,fun m hm=>by obtain⟨k,rfl⟩:∃k,m=k+1:=⟨m-1,by omega⟩;rfl⟩,bQ.refl pZ,h⟩
 |label l=>intro f s Q h pZ;exact⟨.normal,f,s,⟨1,fun m hm=>by obtain⟨k,rfl⟩:∃k,m=k+1:=⟨m-1,by omega⟩;rfl⟩,bQ.refl pZ,h⟩
 |exit id=>intro f s Q h pZ;exact⟨.exit id,f,s,⟨1,fun m hm=>by obtain⟨k,rfl⟩:∃k,m=k+1:=⟨m-1,by omega⟩;rfl⟩,bQ.refl pZ,h⟩
 |ret=>intro f s Q h pZ;exact⟨.ret,f,s,⟨1,fun m hm=>by obtain⟨k,rfl⟩:∃k,m=k+1:=⟨m-1,by omega⟩;rfl⟩,bQ.refl pZ,h⟩
 |loop a _=>intro f s Q h;exact h
 |rangeFunc=>intro f s Q h;exact h.elim
 |goto=>intro f s Q h;exact h.elim
 |refuse=>intro f s Q h;exact h.elim
 |region id ops d=>
  intro f s Q h pZ;have fin:∀f' s',(∃n,∀m,n<=m->(match d with
    |false=>jW P (iZ P lib m) ops.toList ops.toList f s
    |true=>iC P (iZ P lib m) ops.toList f s)=some (f',s'))->bQ s s' ->Q .normal f' s' ->∃x f' s',(∃n,∀m,n<=m->exec P lib m (.region id ops d) f s=some (x,f',s'))/\bQ s s' /\Q x f' s' :=by
   rintro f' s' ⟨n,hn⟩ hk hq;refine⟨.normal,f',s',⟨n+1,fun m hm=> ?_⟩,hk,hq⟩;obtain⟨k,rfl⟩:∃k,m=k+1:=⟨m-1,by omega⟩
   have:=hn k (by omega);simp only[exec,step];have e:iZ P lib k=iF P lib (exec P lib k):=rfl;rw[e] at this;cases d<;>(simp only at this;simp only[this])
  cases d with
  |false=>
   obtain⟨f',s',hn,hk,hq⟩:=WY _ _ _ _ _ h pZ;exact fin f' s' hn hk hq
  |true=>
   simp only[fI] at h;cases hq:j9 P ops.toList with
   |true=>
    rw[hq] at h;obtain⟨f',h1,h2⟩:=FW hq h;exact fin f' s ⟨0,fun m _=>h1 _⟩ (bQ.refl pZ) h2
   |false=>
    rw[hq] at h;obtain⟨f',s',h1,hk,h2⟩:=h pZ;exact fin f' s' h1 hk h2
 |seq a b iha ihb=>
  intro f s Q h pZ;obtain⟨x,f1,s1,⟨n1,h1⟩,oK,h⟩:=iha f s _ h pZ;cases x with
  |normal=>
   obtain⟨x,f2,s2,⟨n2,h2⟩,qP,h⟩:=ihb f1 s1 _ h oK.wf;refine⟨x,f2,s2,⟨n1+n2+1,fun m hm=> ?_⟩,oK.trans qP,h⟩;obtain⟨k,rfl⟩:∃k,m=k+1:=⟨m-1,by omega⟩
   simp only[exec,step,h1 k (by omega),h2 k (by omega)]
  |exit id=>
   refine⟨_,f1,s1,⟨n1+1,fun m hm=> ?_⟩,oK,h⟩;obtain⟨k,rfl⟩:∃k,m=k+1:=⟨m-1,by omega⟩
   simp only[exec,step,h1 k (by omega)]
  |ret=>
   refine⟨_,f1,s1,⟨n1+1,fun m hm=> ?_⟩,oK,h⟩;obtain⟨k,rfl⟩:∃k,m=k+1:=⟨m-1,by omega⟩
   simp only[exec,step,h1 k (by omega)]
 |cond y a b iha ihb=>
  intro f s Q h pZ;rw[wW] at h;unfold Ts at h;split at h
  ·rename_i t ht;cases t with
   |true=>
    obtain⟨x,f1,s1,⟨n1,h1⟩,oK,h⟩:=iha f s _ h pZ;refine⟨_,f1,s1,⟨n1+1,fun m hm=> ?_⟩,oK,h⟩;obtain⟨k,rfl⟩:∃k,m=k+1:=⟨m-1,by omega⟩
    simp only[exec,step,ht,h1 k (by omega)]
   |false=>
    obtain⟨x,f1,s1,⟨n1,h1⟩,oK,h⟩:=ihb f s _ h pZ;refine⟨_,f1,s1,⟨n1+1,fun m hm=> ?_⟩,oK,h⟩;obtain⟨k,rfl⟩:∃k,m=k+1:=⟨m-1,by omega⟩
    simp only[exec,step,ht,h1 k (by omega)]
  exact h.elim
 |block id a iha=>
  intro f s Q h pZ;obtain⟨x,f1,s1,⟨n1,h1⟩,oK,h⟩:=iha f s _ h pZ;refine⟨_,f1,s1,⟨n1+1,fun m hm=> ?_⟩,oK,h⟩;obtain⟨k,rfl⟩:∃k,m=k+1:=⟨m-1,by omega⟩
  simp only[exec,step,h1 k (by omega)];cases x with
  |normal=>rfl
  |ret=>rfl
  |exit j=>
   simp only[OQ];by_cases hj:j=id
   ·rw[cp hj,cp (by simpa [cz] using hj)]
   rw[bA hj,bA (by simpa [cz] using hj)]
 |scope a iha=>
  intro f s Q h pZ;obtain⟨x,f1,s1,⟨n1,h1⟩,oK,h⟩:=iha f s _ h pZ;refine⟨_,f1,s1,⟨n1+1,fun m hm=> ?_⟩,oK,h⟩;obtain⟨k,rfl⟩:∃k,m=k+1:=⟨m-1,by omega⟩
  simp only[exec,step,h1 k (by omega)]
def zY (Inv:aC->aZ->au->Prop)(k:aC)(Q:AX->aZ->au->Prop):AX->aZ->au->Prop
 | .normal,f,s=>∃j,j<k/\Inv j f s
 |x,f,s=>Q x f s
theorem ar {Inv:aC->aZ->au->Prop}{k:aC}{Q:AX->aZ->au->Prop}{f:aZ}{s:au}(j:aC)(hj:j<k)(h:Inv j f s):zY Inv k Q .normal f s:=⟨j,hj,h⟩
theorem Dr (Inv:aC->aZ->au->Prop)(k:aC)(Q:AX->aZ->au->Prop)(f:aZ)(s:au):zY Inv k Q .ret f s=Q .ret f s:=rfl
theorem AQ (Inv:aC->aZ->au->Prop)(k:aC)(Q:AX->aZ->au->Prop)(f:aZ)(s:au)(id:aC):zY Inv k Q (.exit id) f s=Q (.exit id) f s:=rfl
theorem Comes.loop {P:ab}{lib:aD}{a:cm}{Q:AX->aZ->au->Prop}(Inv:aC->aZ->au->Prop)(hr:∀k f s,Inv k f s->fI P lib a f s (zY Inv k Q)):∀k f s,Inv k f s->Comes P lib (.loop a) f s Q:=by
 intro k
 induction k using Nat.strongRecOn with
 |_ k ih=>
  intro f s hi pZ;obtain⟨x,f1,s1,⟨n1,h1⟩,oK,h⟩:=Kg _ _ _ _ (hr k f s hi) pZ;cases x with
  |normal=>
   obtain⟨j,hj,sO⟩:=h;obtain⟨x,f2,s2,⟨n2,h2⟩,qP,h⟩:=ih j hj f1 s1 sO oK.wf;refine⟨x,f2,s2,⟨n1+n2+1,fun m hm=> ?_⟩,oK.trans qP,h⟩;obtain⟨m,rfl⟩:∃k,m=k+1:=⟨m-1,by omega⟩
   simp only[exec,step,h1 m (by omega),h2 m (by omega)]
  |exit id=>
   refine⟨_,f1,s1,⟨n1+1,fun m hm=> ?_⟩,oK,h⟩;obtain⟨m,rfl⟩:∃k,m=k+1:=⟨m-1,by omega⟩
   simp only[exec,step,h1 m (by omega)]
  |ret=>
   refine⟨_,f1,s1,⟨n1+1,fun m hm=> ?_⟩,oK,h⟩;obtain⟨m,rfl⟩:∃k,m=k+1:=⟨m-1,by omega⟩
   simp only[exec,step,h1 m (by omega)]
theorem Comes.de {P:ab}{lib:aD}{a:cm}{Q:AX->aZ->au->Prop}{f:aZ}{s:au}(Inv:aC->aZ->au->Prop){k:aC}(h0:Inv k f s)(hr:∀k f s,Inv k f s->fI P lib a f s (zY Inv k Q)):Comes P lib (.loop a) f s Q:=
 Comes.loop Inv hr k f s h0
theorem Comes.bD {P:ab}{lib:aD}{a:cm}{Q' :AX->aZ->au->Prop}{f:aZ}{s:au}(Inv:aC->aZ->au->Prop)(Out:AX->aZ->au->Prop){k:aC}(h0:Inv k f s)
  (hr:∀Q:AX->aZ->au->Prop,(∀x f s,Out x f s->Q x f s)->∀k f s,Inv k f s->fI P lib a f s (zY Inv k Q)) (ho:∀x f s,Out x f s->Q' x f s):Comes P lib (.loop a) f s Q' :=
 (Comes.de (Q:=Out) Inv h0 (hr Out (fun _ _ _ h=>h))).mono ho
def QD (s:au)(Q:an->au->Prop):aY (ax an)->Prop
 |some l=>Q (oneOf l) s
 |none=>False
def L9 (P:ab)(rs:ax ResultVar)(Q:an->au->Prop)(x:AX)(f:aZ)(s:au):Prop:=
 match x with
 | .exit _=>False
 |_=>QD s Q (dj P f s rs)
theorem al (P:ab)(rs:ax ResultVar)(Q:an->au->Prop)(f:aZ)(s:au):L9 P rs Q .ret f s=QD s Q (dj P f s rs):=rfl
theorem ah (P:ab)(rs:ax ResultVar)(Q:an->au->Prop)(f:aZ)(s:au):L9 P rs Q .normal f s=QD s Q (dj P f s rs):=rfl
theorem GY (s:au)(Q:an->au->Prop)(l:ax an):QD s Q (some l)=Q (oneOf l) s:=rfl
theorem Runs.W0 {P:ab}{lib:aD}{g:c5}{args:ax an}{s:au}{Q:an->au->Prop}{fn:Func}{c:cm}(hg:P.funcs[g]?=some fn)(hb:fn.body=some c)(hl:lib.at g=none)(hn:b7 (args.length+(fn.ntmps-args.length)) 16000000=true)
  (h:Comes P lib c (pa fn args) s (L9 P fn.results.toList Q)):Runs P lib g args s Q:=by
 intro pZ;obtain⟨x,f1,s1,⟨n1,h1⟩,oK,h⟩:=h pZ;have go:∀l,dj P f1 s1 fn.results.toList=some l->Q (oneOf l) s1->(x= .normal\/x= .ret)->∃v s',(∃n,∀m,n<=m->iZ P lib m g args s=some (v,s'))/\bQ s s' /\Q v s' :=by
  intro l hr hq hx;refine⟨oneOf l,s1,⟨n1,fun m hm=> ?_⟩,oK,hq⟩;have h1:=h1 m hm;rcases hx with rfl|rfl
  ·simp only[iZ,iF,hl,hg,hb,hn,h1,hr]
  simp only[iZ,iF,hl,hg,hb,hn,h1,hr]
 cases x with
 |exit id=>exact h.elim
 |normal=>
  simp only[L9,QD] at h;split at h
  ·exact go _ ‹_› h (.inl rfl)
  exact h.elim
 |ret=>
  simp only[L9,QD] at h;split at h
  ·exact go _ ‹_› h (.inr rfl)
  exact h.elim
theorem aa (f:aZ)(t u:aC)(v:an):(f.put t v).get u=if t=u then v else f.get u:=by
 by_cases h:t=u
 ·subst h;simp only[aZ.get,aZ.put,Tr.bF _ _ _ _ (deep (by omega)),cp]
 simp only[aZ.get,aZ.put,Tr.cK _ _ _ _ _ h,bA h]
theorem ag (f:aZ)(t:aC)(v:an):(f.put t v).n=f.n:=rfl
theorem W1 (fn:Func)(args:ax an):(pa fn args).n=args.length+(fn.ntmps-args.length):=rfl
theorem QE (fn:Func)(args:ax an)(t:aC):(pa fn args).get t=args.getD t undef:=by
 simp only[pa,aZ.get,De args .nil 0 t (by omega),Nat.zero_le,true_and,dA,Nat.sub_zero];by_cases h:t<args.length
 ·simp only[cp h]
 simp only[bA h,Tr.get];simp[dw,List.getElem?_eq_none (Nat.le_of_not_lt h)]
theorem zZ (f:aZ)(t:Tmp):a5 f (.tmp t)=if t<f.n then some (f.get t) else none:=by
 unfold a5;by_cases h:t<f.n
 ·have hb:a3 t f.n=true:=by simpa [a0] using h
  simp only[hb,bb,cp h]
 have hb:a3 t f.n=false:=by rw[<-a2,a0];exact h
 simp[hb,bA h]
theorem Ds (f:aZ)(b:ch):a5 f (.const (.bool b))=some (.bool b):=rfl
theorem GZ (f:aZ)(k:b8)(n:dK):a5 f (.const (.int k n))=some (.int k n):=rfl
theorem yw (f:aZ)(b:ByteArray):a5 f (.const (.string b))=some (.string b):=rfl
theorem Dt (f:aZ):a5 f (.const (.slice none 0 0))=some (.slice none 0 0):=rfl
theorem Du (f:aZ):a5 f (.const (.pointer none))=some (.pointer none):=rfl
theorem Dv (f:aZ):a5 f (.const (.map none))=some (.map none):=rfl
theorem Dw (f:aZ)(g:c5):a5 f (.func g)=some (.func (.func g) #[] #[]):=rfl
theorem Runs.enter {P:ab}{lib:aD}{g:c5}{args:ax an}{s:au}{Q:an->au->Prop}{fn:Func}{c:cm}(N:aC)(hg:P.funcs[g]?=some fn)(hb:fn.body=some c)(hl:lib.at g=none)(hN:args.length+(fn.ntmps-args.length)=N)(hn:b7 N 16000000=true)
  (h:∀f:aZ,f.n=N->(∀t,f.get t=args.getD t undef)->fI P lib c f s (L9 P fn.results.toList Q)):Runs P lib g args s Q:=
 Runs.W0 hg hb hl (by rw[hN];exact hn) (Kg _ _ _ _ (h _ (by rw[W1,hN]) (QE fn args)))
section
variable (P:ab) (f:aZ) (s:au) (d:aY Tmp) (ty:av) (ps:String) (af:bq Edge) (gd:aY (aC×ch))
theorem Kh (x:ao):cV P ⟨d,.move x,ty,ps,af,gd⟩ f s=qo s (a5 f x):=rfl
theorem Dx (x:ao):cV P ⟨d,.assign x,ty,ps,af,gd⟩ f s=qo s (a5 f x):=rfl
theorem Dy (c a b:ao):cV P ⟨d,.pick c a b,ty,ps,af,gd⟩ f s=match a5 f c,a5 f a,a5 f b with
  |some (.bool t),some u,some v=>some (.val (if t then u else v) s)
  |_,_,_=>none:=rfl
theorem G1 (e:av):cV P ⟨d,.alloc e,ty,ps,af,gd⟩ f s=match b6 P e with
  |some z=>if cr z then oU (iE s z.cells.toList (H9 P e)) else none
  |none=>none:=rfl
theorem OR (e:av)(x:ao):cV P ⟨d,.box e x,ty,ps,af,gd⟩ f s=match a5 f x with
  |some v=>oU (iE s v.cells.toList (H9 P e))
  |none=>none:=rfl
theorem z2 (t:av)(q:bq (aC×ao)):cV P ⟨d,.build t q,ty,ps,af,gd⟩ f s=match ae f q.toList with
  |some l=>qo s (da P t l)
  |none=>none:=rfl
theorem uh (t:av)(n:aC)(q:bq (aC×ao)):cV P ⟨d,.buildSlice t n q,ty,ps,af,gd⟩ f s=match ae f q.toList with
  |some l=>oU (bp P s t n l)
  |none=>none:=rfl
theorem yx (t:av)(x:ao):cV P ⟨d,.load t x,ty,ps,af,gd⟩ f s=match a5 f x with
  |some a=>qo s (aN P s t a)
  |none=>none:=rfl
theorem G2 (t:av)(x y:ao):cV P ⟨d,.store t x y,ty,ps,af,gd⟩ f s=match a5 f x,a5 f y with
  |some a,some v=>Fk (fw P s t a v)
  |_,_=>none:=rfl
theorem si (x:ao):cV P ⟨d,.nilCheck x,ty,ps,af,gd⟩ f s=match a5 f x with
  |some (.pointer (some a))=>some (.val (.pointer (some a)) s)
  |some (.func (.func g) ars bs)=>some (.val (.func (.func g) ars bs) s)
  |_=>none:=rfl
theorem z3 (op:BinOp)(t t2:av)(x y:ao):cV P ⟨d,.binOp op t x y t2,ty,ps,af,gd⟩ f s=match a5 f x,a5 f y with
  |some u,some v=>qo s (dB P op t u v)
  |_,_=>none:=rfl
theorem Dz (op:UnOp)(t:av)(x:ao):cV P ⟨d,.unOp op t x,ty,ps,af,gd⟩ f s=match a5 f x with
  |some u=>qo s (ZY op u)
  |none=>none:=rfl
theorem ui (a b:av)(x:ao):cV P ⟨d,.convert a b x,ty,ps,af,gd⟩ f s=match a5 f x with
  |some u=>oU (ir P s a b u)
  |none=>none:=rfl
theorem AS (t:av):cV P ⟨d,.makeMap t none,ty,ps,af,gd⟩ f s=some (.val (.map (some s.next)) (s.new (.map []))):=rfl
theorem wk (t:av)(x y:ao):cV P ⟨d,.makeSlice t x y,ty,ps,af,gd⟩ f s=match a5 f x,a5 f y with
  |some u,some v=>oU (dq P s t u v)
  |_,_=>none:=rfl
theorem vt (t:av)(x:ao)(lo hi mx:aY ao):cV P ⟨d,.slice t x lo hi mx,ty,ps,af,gd⟩ f s=match a5 f x,ai f lo,ai f hi,ai f mx with
  |some u,some l,some h,some m=>qo s (fa P s t u l h m)
  |_,_,_,_=>none:=rfl
theorem qy (t:av)(x:ao)(i:aC):cV P ⟨d,.fieldAddr t x i,ty,ps,af,gd⟩ f s=match a5 f x with
  |some u=>qo s (ay P t u i)
  |none=>none:=rfl
theorem z4 (t:av)(x:ao)(i:aC):cV P ⟨d,.field t x i,ty,ps,af,gd⟩ f s=match a5 f x with
  |some u=>qo s (CA P t u i)
  |none=>none:=rfl
theorem qz (t:av)(x y:ao):cV P ⟨d,.indexAddr t x y,ty,ps,af,gd⟩ f s=match a5 f x,a5 f y with
  |some u,some v=>qo s (bK P t u v)
  |_,_=>none:=rfl
theorem z5 (t:av)(x y:ao):cV P ⟨d,.index t x y,ty,ps,af,gd⟩ f s=match a5 f x,a5 f y with
  |some u,some v=>qo s (Cz P t u v)
  |_,_=>none:=rfl
theorem DA (t:av)(x y:ao)(ok:ch):cV P ⟨d,.lookup t x y ok,ty,ps,af,gd⟩ f s=match a5 f x,a5 f y with
  |some u,some v=>qo s (rW P s t u v ok)
  |_,_=>none:=rfl
theorem wm (t:av)(x y z:ao):cV P ⟨d,.mapUpdate t x y z,ty,ps,af,gd⟩ f s=match a5 f x,a5 f y,a5 f z with
  |some m,some k,some v=>Fk (lM P s t m k v)
  |_,_,_=>none:=rfl
theorem uj (x:ao)(i:aC):cV P ⟨d,.extract x i,ty,ps,af,gd⟩ f s=match a5 f x with
  |some u=>qo s (aH u i)
  |none=>none:=rfl
theorem uk (x:ao)(args:bq ao)(ts:bq av):cV P ⟨d,.call ⟨.value x,args,ts⟩,ty,ps,af,gd⟩ f s=match ad f args.toList with
  |some l=>match a5 f x with
   |some (.func (.func g) ars bs)=>some (.call g (ars.toList++l++bs.toList))
   |_=>none
  |none=>none:=rfl
theorem iJ (b:Builtin)(args:bq ao)(ts:bq av):cV P ⟨d,.call ⟨.builtin b,args,ts⟩,ty,ps,af,gd⟩ f s=match ad f args.toList with
  |some l=>jU P s b ts.toList l
  |none=>none:=rfl
theorem um (all:ax aR)(op:Op):cH all ⟨d,op,ty,ps,af,none⟩ f=true:=rfl
theorem AU (all:ax aR)(op:Op)(j:aC)(w:ch):cH all ⟨d,op,ty,ps,af,some (j,w)⟩ f=match rX all f j with
  |some b=>b==w
  |none=>false:=rfl
def yieldOf (f:aZ):ax aR->aY ch
 |o::_=>
  match o.dst with
  |some d=>if d<f.n then(match f.get d with
   | .bool b=>some b
   |_=>none) else none
  |none=>none
 |[]=>none
theorem G3 (all:ax aR)(j:aC):rX all f j=yieldOf f (all.drop j):=by
 unfold rX yieldOf;cases all.drop j with
 |nil=>rfl
 |cons o r=>
  simp only;cases o.dst with
  |none=>rfl
  |some d=>
   simp only;by_cases hd:d<f.n
   ·have hb:a3 d f.n=true:=by simpa [a0] using hd
    simp only[hb,bb,cp hd];cases f.get d<;>rfl
   have hb:a3 d f.n=false:=by rw[<-a2,a0];exact hd
   simp[hb,bA hd]
theorem yz (t:Tmp)(op:Op)(r:ax aR):yieldOf f (⟨some t,op,ty,ps,af,gd⟩::r)=if t<f.n then(match f.get t with
    | .bool b=>some b
    |_=>none) else none:=rfl
end
theorem bJ (cs:bq an):(Value.agg cs).cells=cs:=rfl
theorem uo (s:au)(v:an):qo s (some v)=some (.val v s):=rfl
theorem eU (v:an)(s:au):oU (some (v,s))=some (.val v s):=rfl
theorem kW (s:au):Fk (some s)=some (.val undef s):=rfl
theorem builtin_len (P:ab)(s:au)(t:av)(x:an):jU P s .len [t] [x]=qo s (aQ P s t x):=rfl
theorem builtin_append (P:ab)(s:au)(t u:av)(x y:an):jU P s .append [t,u] [x,y]=oU (eT P s t u x y):=rfl
theorem builtin_copy (P:ab)(s:au)(t u:av)(x y:an):jU P s .copy [t,u] [x,y]=oU (CC P s t x y):=rfl
theorem builtin_min (P:ab)(s:au)(t u:av)(k:b8)(x y:dK):jU P s .min [t,u] [.int k x,.int k y]=some (.val (.int k (if y<x then y else x)) s):=rfl
theorem builtin_max (P:ab)(s:au)(t u:av)(k:b8)(x y:dK):jU P s .max [t,u] [.int k x,.int k y]=some (.val (.int k (if y>x then y else x)) s):=rfl
section
variable (P:ab) (d:aY Tmp) (ty:av) (ps:String) (af:bq Edge) (gd:aY (aC×ch))
theorem yA:j9 P []=true:=rfl
theorem wo (o:aR)(r:ax aR):j9 P (o::r)=(aS P o&&j9 P r):=rfl
theorem DB (x:ao):aS P ⟨d,.move x,ty,ps,af,gd⟩=true:=rfl
theorem yB (x:ao):aS P ⟨d,.assign x,ty,ps,af,gd⟩=true:=rfl
theorem DD (a b c:ao):aS P ⟨d,.pick a b c,ty,ps,af,gd⟩=true:=rfl
theorem DE (t:av)(x:ao):aS P ⟨d,.load t x,ty,ps,af,gd⟩=true:=rfl
theorem uq (x:ao):aS P ⟨d,.nilCheck x,ty,ps,af,gd⟩=true:=rfl
theorem AV (op:BinOp)(t t2:av)(x y:ao):aS P ⟨d,.binOp op t x y t2,ty,ps,af,gd⟩=true:=rfl
theorem DF (op:UnOp)(t:av)(x:ao):aS P ⟨d,.unOp op t x,ty,ps,af,gd⟩=true:=rfl
theorem sS (t:av)(x y:ao):aS P ⟨d,.indexAddr t x y,ty,ps,af,gd⟩=true:=rfl
theorem AW (t:av)(x y:ao):aS P ⟨d,.index t x y,ty,ps,af,gd⟩=true:=rfl
theorem sU (t:av)(x:ao)(i:aC):aS P ⟨d,.fieldAddr t x i,ty,ps,af,gd⟩=true:=rfl
theorem AY (t:av)(x:ao)(i:aC):aS P ⟨d,.field t x i,ty,ps,af,gd⟩=true:=rfl
theorem AZ (t:av)(x:ao)(l h m:aY ao):aS P ⟨d,.slice t x l h m,ty,ps,af,gd⟩=true:=rfl
theorem wq (x:ao)(i:aC):aS P ⟨d,.extract x i,ty,ps,af,gd⟩=true:=rfl
theorem G4 (args:bq ao)(ts:bq av):aS P ⟨d,.call ⟨.builtin .len,args,ts⟩,ty,ps,af,gd⟩=true:=rfl
theorem DG (x:ao)(args:bq ao)(ts:bq av):aS P ⟨d,.call ⟨.value x,args,ts⟩,ty,ps,af,gd⟩=false:=rfl
theorem qX (t:av)(n:aC)(q:bq (aC×ao)):aS P ⟨d,.buildSlice t n q,ty,ps,af,gd⟩=false:=rfl
theorem A0 (t:av)(q:bq (aC×ao)):aS P ⟨d,.build t q,ty,ps,af,gd⟩=true:=rfl
theorem A1 (t:av)(x y:ao):aS P ⟨d,.store t x y,ty,ps,af,gd⟩=false:=rfl
theorem G5 (t:av)(x:ao):aS P ⟨d,.box t x,ty,ps,af,gd⟩=false:=rfl
theorem A3 (t:av):aS P ⟨d,.alloc t,ty,ps,af,gd⟩=false:=rfl
theorem sV (t:av)(x y:ao):aS P ⟨d,.makeSlice t x y,ty,ps,af,gd⟩=false:=rfl
theorem yC (args:bq ao)(ts:bq av):aS P ⟨d,.call ⟨.builtin .append,args,ts⟩,ty,ps,af,gd⟩=false:=rfl
theorem DH (args:bq ao)(ts:bq av):aS P ⟨d,.call ⟨.builtin .copy,args,ts⟩,ty,ps,af,gd⟩=false:=rfl
theorem G6 (args:bq ao)(ts:bq av):aS P ⟨d,.call ⟨.builtin .min,args,ts⟩,ty,ps,af,gd⟩=true:=rfl
theorem G7 (args:bq ao)(ts:bq av):aS P ⟨d,.call ⟨.builtin .max,args,ts⟩,ty,ps,af,gd⟩=true:=rfl
theorem qY (t:av)(n:aC)(q:bq (aC×ao)):aJ P ⟨d,.buildSlice t n q,ty,ps,af,gd⟩=true:=rfl
theorem A4 (t:av)(x y:ao):aJ P ⟨d,.store t x y,ty,ps,af,gd⟩=false:=rfl
theorem G8 (t:av)(x:ao):aJ P ⟨d,.box t x,ty,ps,af,gd⟩=true:=rfl
theorem A5 (t:av):aJ P ⟨d,.alloc t,ty,ps,af,gd⟩=true:=rfl
theorem sW (t:av)(x y:ao):aJ P ⟨d,.makeSlice t x y,ty,ps,af,gd⟩=true:=rfl
theorem DI (c:Go.Call):aJ P ⟨d,.call c,ty,ps,af,gd⟩=false:=rfl
theorem wu (a b:av)(x:ao):aJ P ⟨d,.convert a b x,ty,ps,af,gd⟩=jV P a b:=rfl
theorem DJ (x:ao):aJ P ⟨d,.move x,ty,ps,af,gd⟩=false:=rfl
theorem yD (x:ao):aJ P ⟨d,.assign x,ty,ps,af,gd⟩=false:=rfl
theorem DK (a b c:ao):aJ P ⟨d,.pick a b c,ty,ps,af,gd⟩=false:=rfl
theorem DL (t:av)(x:ao):aJ P ⟨d,.load t x,ty,ps,af,gd⟩=false:=rfl
theorem ur (x:ao):aJ P ⟨d,.nilCheck x,ty,ps,af,gd⟩=false:=rfl
theorem A6 (op:BinOp)(t t2:av)(x y:ao):aJ P ⟨d,.binOp op t x y t2,ty,ps,af,gd⟩=false:=rfl
theorem DM (op:UnOp)(t:av)(x:ao):aJ P ⟨d,.unOp op t x,ty,ps,af,gd⟩=false:=rfl
theorem sX (t:av)(x y:ao):aJ P ⟨d,.indexAddr t x y,ty,ps,af,gd⟩=false:=rfl
theorem A7 (t:av)(x y:ao):aJ P ⟨d,.index t x y,ty,ps,af,gd⟩=false:=rfl
theorem sY (t:av)(x:ao)(i:aC):aJ P ⟨d,.fieldAddr t x i,ty,ps,af,gd⟩=false:=rfl
theorem A8 (t:av)(x:ao)(i:aC):aJ P ⟨d,.field t x i,ty,ps,af,gd⟩=false:=rfl
theorem A9 (t:av)(x:ao)(l h m:aY ao):aJ P ⟨d,.slice t x l h m,ty,ps,af,gd⟩=false:=rfl
theorem wv (x:ao)(i:aC):aJ P ⟨d,.extract x i,ty,ps,af,gd⟩=false:=rfl
theorem wx (a b:av)(x:ao):aS P ⟨d,.convert a b x,ty,ps,af,gd⟩=match P.underlying b with
  |some (.slice _)=>false
  |_=>true:=rfl
end
theorem yE (P:ab)(f:aZ)(s:au):dj P f s []=some []:=rfl
theorem yF (P:ab)(f:aZ)(s:au)(t:Tmp)(r:ax ResultVar):dj P f s (.tmp t::r)=if t<f.n then(match dj P f s r with
  |some l=>some (f.get t::l)
  |none=>none) else none:=by
 by_cases h:t<f.n
 ·have hb:a3 t f.n=true:=by simpa [a0] using h
  rw[cp h]
  conv=>lhs;rw[dj]
  simp only[hb,bb];rfl
 have hb:a3 t f.n=false:=by rw[<-a2,a0];exact h
 rw[bA h]
 conv=>lhs;rw[dj]
 simp[hb]
section
variable (P:ab) (t:av) (k:b8) (a b:dK)
theorem OS:dB P .add t (.int k a) (.int k b)=some (.int k (k.wrap (a+b))):=by simp[dB,kS]
theorem OT:dB P .sub t (.int k a) (.int k b)=some (.int k (k.wrap (a-b))):=by simp[dB,kS]
theorem OU:dB P .mul t (.int k a) (.int k b)=some (.int k (k.wrap (a*b))):=by simp[dB,kS]
theorem gA (h:b≠0):dB P .quo t (.int k a) (.int k b)=some (.int k (k.wrap (a.tdiv b))):=by simp[dB,kS,h]
theorem dZ (h:b≠0):dB P .rem t (.int k a) (.int k b)=some (.int k (a.tmod b)):=by simp[dB,kS,h]
theorem fY:dB P .and t (.int k a) (.int k b)=some (.int k (k.wrap (cd k.bits a&&&cd k.bits b).toNat)):=by simp[dB,kS]
theorem kd:dB P .or t (.int k a) (.int k b)=some (.int k (k.wrap (cd k.bits a|||cd k.bits b).toNat)):=by simp[dB,kS]
theorem Ck:dB P .xor t (.int k a) (.int k b)=some (.int k (k.wrap (cd k.bits a^^^cd k.bits b).toNat)):=by simp[dB,kS]
theorem yG:dB P .eql t (.int k a) (.int k b)=some (.bool (decide (a=b))):=by simp[dB,kS];rfl
theorem cS:dB P .neq t (.int k a) (.int k b)=some (.bool (decide (a≠b))):=by
 simp only[dB,kS,bb];by_cases h:a=b<;>simp[h]
theorem OW:dB P .lss t (.int k a) (.int k b)=some (.bool (decide (a<b))):=by simp[dB,kS]
theorem OX:dB P .leq t (.int k a) (.int k b)=some (.bool (decide (a<=b))):=by simp[dB,kS]
theorem OY:dB P .gtr t (.int k a) (.int k b)=some (.bool (decide (b<a))):=by simp[dB,kS]
theorem OZ:dB P .geq t (.int k a) (.int k b)=some (.bool (decide (b<=a))):=by simp[dB,kS]
theorem p9 (k' :b8)(h:0<=b):dB P .shl t (.int k a) (.int k' b)=some (.int k (k.wrap (a*2^(min b.toNat k.bits)))):=by simp[dB,vn];omega
theorem mL (k' :b8)(h:0<=b):dB P .shr t (.int k a) (.int k' b)=some (.int k (a.fdiv (2^(min b.toNat k.bits)))):=by simp[dB,vn];omega
theorem Tt (x:ch):ZY .not (.bool x)=some (.bool (!x)):=rfl
theorem Tu:ZY .neg (.int k a)=some (.int k (k.wrap (0-a))):=rfl
end
theorem aB {x:dK}(h: -9223372036854775808<=x/\x<=9223372036854775807):IntKind.i64.wrap x=x:=by
 have e1:IntKind.i64.bits=64:=rfl;have e2:IntKind.i64.signed=true:=rfl;simp only[IntKind.wrap,e1,e2,b5];split<;>simp_all<;>omega
theorem fO {x:dK}:IntKind.u8.wrap x=x%256:=by
 have e1:IntKind.u8.bits=8:=rfl;have e2:IntKind.u8.signed=false:=rfl;simp only[IntKind.wrap,e1,e2,Bool.false_and];simp
theorem a9 {P:ab}{s:au}{src dst:av}{k j:b8}{d:TypeDesc}{n:dK}(h1:P.underlying src=some d)(h2:P.underlying dst=some (.int k)):ir P s src dst (.int j n)=some (.int k (k.wrap n),s):=by
 unfold ir;rw[h1,h2]
theorem DN (b:ch):bI (.bool b) (.bool b)=true:=by simp[bI,cw]
theorem bH (k:b8)(n:dK):bI (.int k n) (.int k n)=true:=by simp[bI,cw]
theorem ef (b:ByteArray):bI (.string b) (.string b)=true:=by simp[bI,cw]
theorem nQ (a:aY Addr):bI (.pointer a) (.pointer a)=true:=by simp[bI,cw]
theorem mi (a:aY Addr)(n c:aC):bI (.slice a n c) (.slice a n c)=true:=by
 simp only[bI,cw,bb,b5,bl];exact⟨dI n,dI c⟩
structure aw (base:aC) (s s' :au):Prop where
 next:s.next<=s'.next
 get:∀i,i<base->s'.heap.get i=s.heap.get i
theorem aw.refl (base:aC)(s:au):aw base s s:=⟨bt _,fun _ _=>rfl⟩
theorem aw.trans {base:aC}{s s' Fq:au}(h:aw base s s')(k:aw base s' Fq):aw base s Fq:=⟨Nat.le_trans h.next k.next,fun i hi=>(k.get i hi).trans (h.get i hi)⟩
theorem aw.weaken {base b2:aC}{s s' :au}(h:aw base s s')(hb:b2<=base):aw b2 s s' :=⟨h.next,fun i hi=>h.get i (by omega)⟩
theorem aw.eE {base:aC}{s s' :au}(h:aw base s s'){i:aC}(hi:i<base):s'.bL i=s.bL i:=by simp only[au.bL,h.get i hi]
theorem aw.new (s:au)(o:AO):aw s.next s (s.new o):=by
 refine⟨by simp[au.new],fun i hi=> ?_⟩;simp only[au.new,Tr.cK _ _ _ _ _ (Nat.ne_of_gt hi)]
theorem oM (s:au)(b:kM):(s.new (.eE b)).bL s.next=some b:=by simp only[au.new,au.bL,Tr.bF _ _ _ _ (deep (by omega))]
theorem yH (s:au)(o:AO):(s.new o).next=s.next+1:=rfl
inductive aU (s:au) (z:aC):an->aC->ax an->Prop
 |nil:aU s z (.slice none 0 0) 0 []
 |bare (i off:aC):aU s z (.slice (some ⟨i,off,none⟩) 0 0) 0 []
 |of (i off n c:aC) (b:kM) (l:ax an) (hi:i<s.next) (hb:s.bL i=some b) (hz:b.mD=z) (hl:b.low<=c) (hc:c<=b.cells.length+1)
  (hlen:l.length=n*z) (eO:off+n*z<c) (ht:(b.cells.drop off).take (n*z)=l):aU s z (.slice (some ⟨i,off,none⟩) n c) n l
theorem aU.length {s:au}{z:aC}{v:an}{n:aC}{l:ax an}(h:aU s z v n l):l.length=n*z:=by
 cases h with
 |nil=>simp
 |bare=>simp
 |of i off n c b l hi hb hz hl hc hlen eO ht=>exact hlen
theorem aU.keeps {s s' :au}{z:aC}{v:an}{n:aC}{l:ax an}(h:aU s z v n l)(k:aw s.next s s'):aU s' z v n l:=by
 cases h with
 |nil=>exact .nil
 |bare=>exact .bare _ _
 |of i off n c b l hi hb hz hl hc hlen eO ht=>exact .of i off n c b l (cb hi k.next) ((k.eE hi).trans hb) hz hl hc hlen eO ht
theorem aU.aQ {P:ab}{t e:av}(hu:P.underlying t=some (.slice e)){s s2:au}{z:aC}{v:an}{n:aC}{l:ax an}(h:aU s z v n l):Cl.aQ P s2 t v=some (.int .i64 n):=by
 unfold Cl.aQ;rw[hu]
 cases h<;>rfl
def aX (z:aC)(v:an)(k:aC):an:=
 match v with
 | .slice (some ⟨i,off,none⟩) _ c=> .pointer (some ⟨i,off+k*z,some c⟩)
 |_=> .pointer none
theorem ij {s:au}{i off c n:aC}{b:kM}(hb:s.bL i=some b)(hl:b.low<=c)(hc:c<=b.cells.length+1)(ho:off+n<c):s.dG i off c n=some ((b.cells.drop off).take n):=by
 unfold au.dG;rw[hb];have h1:(b7 b.low c&&b7 c (b.cells.length+1)&&a3 (off+n) c)=true:=by
  simp only[bl,cU,a0];exact⟨⟨hl,hc⟩,ho⟩
 simp only[h1,bb];rw[tM,xR,cp (by simp;omega)]
theorem aU.indexAddr {P:ab}{t e:av}{z:aC}(hu:P.underlying t=some (.slice e))(cX:br P e=some z){s:au}{v:an}{n:aC}{l:ax an}(h:aU s z v n l){k:b8}{x:dK}(h0:0<=x)(hx:x<n):
  bK P t v (.int k x)=some (aX z v x.toNat):=by
 obtain⟨y,rfl⟩:∃y:aC,x=y:=⟨x.toNat,by omega⟩
 have hy:y<n:=by omega
 unfold bK;rw[hu]
 cases h with
 |nil=>omega
 |bare=>omega
 |of i off n c b l hi hb hz hl hc hlen eO ht=>
  have dr:a3 y n=true:=by simpa [a0] using hy
  show(match br P e with|some z=>if a3 y n then some (Value.pointer (some ⟨i,off+y*z,some c⟩)) else none|none=>none)=_;rw[cX];simp only[dr,bb,aX,Int.toNat_natCast]
theorem aU.cells {s:au}{z:aC}{v:an}{n:aC}{l:ax an}(h:aU s z v n l){k:aC}(hk:k<n):∃i off c,aX z v k= .pointer (some ⟨i,off,some c⟩)/\s.dG i off c z=some ((l.drop (k*z)).take z):=by
 cases h with
 |nil=>omega
 |bare=>omega
 |of i off n c b l hi hb hz hl hc hlen eO ht=>
  have hkz:k*z+z<=n*z:=by
   have:(k+1)*z<=n*z:=cD z hk
   rwa [Nat.succ_mul] at this
  refine⟨i,off+k*z,c,rfl,?_⟩;rw[ij hb hl hc (by omega),<-ht,cJ,cL,dg]
  congr 2
  omega
theorem aU.cu {P:ab}{e:av}(nd:bU P e=some false){s:au}{v:an}{n:aC}{l:ax an}(h:aU s 1 v n l){k:aC}(hk:k<n):aN P s e (aX 1 v k)=some (l.getD k undef):=by
 obtain⟨i,off,c,e1,e2⟩:=h.cells hk;have hl:=h.length;rw[e1];unfold aN;simp only[nd,e2];have:(l.drop (k*1)).take 1=[l.getD k undef]:=by
  rw[c9,List.take_one,List.head?_drop,ca (by omega)];simp[dw,ca (show k<l.length by omega)]
 rw[this]
theorem aU.fZ {P:ab}{e:av}{z:aC}(nd:bU P e=some true)(cX:br P e=some z){s:au}{v:an}{n:aC}{l:ax an}(h:aU s z v n l){k:aC}(hk:k<n):aN P s e (aX z v k)=some (.agg ((l.drop (k*z)).take z).toArray):=by
 obtain⟨i,off,c,e1,e2⟩:=h.cells hk;rw[e1];unfold aN;simp only[nd,cX,e2]
def jC (z:aC)(v:an)(lo hi:aC):an:=
 match v with
 | .slice (some ⟨i,off,none⟩) _ c=> .slice (some ⟨i,off+lo*z,none⟩) (hi-lo) c
 |_=> .slice none 0 0
theorem aU.cut {s:au}{z:aC}{v:an}{n:aC}{l:ax an}(h:aU s z v n l){lo hi:aC}(h1:lo<=hi)(h2:hi<=n):aU s z (jC z v lo hi) (hi-lo) ((l.drop (lo*z)).take ((hi-lo)*z)):=by
 cases h with
 |nil=>obtain rfl:hi=0:=by omega
       obtain rfl:lo=0:=by omega
       simpa [jC] using(aU.nil (s:=s) (z:=z))
 |bare i off=>obtain rfl:hi=0:=by omega
              obtain rfl:lo=0:=by omega
              simpa [jC] using(aU.bare (s:=s) (z:=z) i (off+0*z))
 |of i off n c b l sO hb hz hl hc hlen eO ht=>
  have e:lo*z+(hi-lo)*z<=n*z:=by
   rw[<-dP];exact cD z (by omega)
  refine .of i (off+lo*z) (hi-lo) c b _ sO hb hz hl hc ?_ (by omega) ?_
  ·rw[c6,c7,hlen];omega
  rw[<-ht,cJ,cL,dg]
  congr 1
  omega
theorem aU.slice {P:ab}{t e:av}{z:aC}(hu:P.underlying t=some (.slice e))(cX:br P e=some z){s:au}{v:an}{n:aC}{l:ax an}(h:aU s z v n l){lo hi:aY an}{a b:aC}
  (ha:kT lo 0=some a) (hb:kT hi n=some b) (h1:a<=b) (h2:b<=n):fa P s t v lo hi none=some (jC z v a b):=by
 have Fm:(b7 a b&&b7 b n)=true:=by simp only[bl,cU];exact⟨h1,h2⟩
 cases h with
 |nil=>unfold fa;rw[hu];simp only[ha,hb,cX,Fm,bb,jC]
 |bare i off=>
  unfold fa;rw[hu];simp only[ha,hb,cX,Fm,bb,l5,jC]
 |of i off n c bk l sO hbk hz hl hc hlen eO ht=>
  have he:l5 s i c z=true:=by
   unfold l5;split
   ·rfl
   rw[hbk];simp[hz]
  unfold fa;rw[hu];simp only[ha,hb,cX,Fm,bb,he,jC]
theorem lU (d:aC):kT none d=some d:=rfl
theorem vu {k:b8}{x:dK}{d:aC}(h:0<=x):kT (some (.int k x)) d=some x.toNat:=by
 obtain⟨y,rfl⟩:∃y:aC,x=y:=⟨x.toNat,by omega⟩
 rfl
theorem aU.src {s:au}{z:aC}{v:an}{n:aC}{l:ax an}(h:aU s z v n l):dU s z v=some (n,l):=by
 cases h with
 |nil=>rfl
 |bare=>rfl
 |of i off n c b l sO hb hz hl hc hlen eO ht=>
  cases n with
  |zero=>
   have:l=[]:=bz (by simpa using hlen);subst this;rfl
  |succ n=>
   simp only[dU];rw[ij hb hl hc eO,ht]
inductive Own (s:au) (z:aC):an->aC->ax an->Prop
 |nil:Own s z (.slice none 0 0) 0 []
 |of (i n low:aC) (l:ax an) (hi:i<s.next) (hb:s.bL i=some ⟨l,low,true,z⟩) (hl:low<=l.length+1) (hlen:l.length=n*z):Own s z (.slice (some ⟨i,0,none⟩) n (l.length+1)) n l
def aI:an->aY aC
 | .slice (some a) _ _=>some a.block
 | .pointer (some a)=>some a.block
 |_=>none
def aM (base:aC)(v:an):Prop:=∀i,aI v=some i->base<=i
theorem aM.nil (base:aC):aM base (.slice none 0 0):=fun i h=>by cases h
theorem Own.aL {s:au}{z:aC}{v:an}{n:aC}{l:ax an}(h:Own s z v n l):aU s z v n l:=by
 cases h with
 |nil=>exact .nil
 |of i n low l hi hb hl hlen=>exact .of i 0 n _ _ l hi hb rfl hl (bt _) hlen (by omega) (by simp[<-hlen])
theorem Own.keeps {s s' :au}{z:aC}{v:an}{n:aC}{l:ax an}(h:Own s z v n l)(k:aw s.next s s'):Own s' z v n l:=by
 cases h with
 |nil=>exact .nil
 |of i n low l hi hb hl hlen=>exact .of i n low l (cb hi k.next) ((k.eE hi).trans hb) hl hlen
structure bG (v:an) (s s' :au):Prop where
 next:s.next<=s'.next
 get:∀i,i<s.next->aI v≠some i->s'.heap.get i=s.heap.get i
theorem bG.keeps {base:aC}{v:an}{s s' :au}(h:bG v s s')(hf:aM base v)(hb:base<=s.next):aw base s s' :=
 ⟨h.next,fun i hi=>h.get i (by omega) (fun e=>by have:=hf i e;omega)⟩
theorem Own.turns {s s' :au}{z:aC}{v u:an}{n:aC}{l:ax an}(h:Own s z v n l)(k:bG u s s')(cE:∀i,aI v=some i->aI u≠some i):Own s' z v n l:=by
 cases h with
 |nil=>exact .nil
 |of i n low l hi hb hl hlen=>
  refine .of i n low l (cb hi k.next) ?_ hl hlen;simp only[au.bL,k.get i hi (cE i rfl)];exact hb
theorem Own.new {s:au}{cs:ax an}{n z:aC}(h:cs.length=n*z):a6 s cs n z=some (.slice (some ⟨s.next,0,none⟩) n (cs.length+1),s.new (.eE ⟨cs,1,true,z⟩))/\Own (s.new (.eE ⟨cs,1,true,z⟩)) z (.slice (some ⟨s.next,0,none⟩) n (cs.length+1)) n cs:=by
 refine⟨by simp[a6,au.room],.of s.next n 1 cs (by rw[yH];omega) (oM _ _) (by omega) h⟩
theorem Own.append {P:ab}{st xt e:av}{xd:TypeDesc}{z kH:aC}{zv:an}(hu:P.underlying st=some (.slice e))(Cm:P.underlying xt=some xd)(wS:(∃e2,xd= .slice e2)\/xd= .string)(cX:br P e=some z)(oC:dX P e=some kH)(qu:b6 P e=some zv)(tq:ck zv.cells.toList.length z=true)
  {s:au} {x y:an} {n m:aC} {l new:ax an} (hx:Own s z x n l) (hy:dU s z y=some (m,new)) (gM:new.length=m*z) (tE:0<z) (gF:new.all aT=true) (fp:(n+m)*kH<=140737488355328) (dr:n+m<=140737488355328):
  ∃x' s',eT P s st xt x y=some (x',s')/\Own s' z x' (n+m) (l++new)/\bG x s s' /\(aI x' =aI x\/∃i,aI x' =some i/\s.next<=i):=by
 have hy:CB s z kH zv xd y=some (m,new):=by rcases wS with ⟨e2,rfl⟩|rfl<;>exact hy
 have jZ:(b7 ((n+m)*kH) 140737488355328&&b7 (n+m) 140737488355328&&a3 0 z&&new.all aT&&ck zv.cells.toList.length z)=true:=by
  simp only[bl,cU,a0];exact⟨⟨⟨⟨fp,dr⟩,tE⟩,gF⟩,tq⟩
 cases m with
 |zero=>
  have hn:new=[]:=bz (by simpa using gM);subst hn;refine⟨x,s,?_,by simpa using hx,⟨bt _,fun _ _ _=>rfl⟩,.inl rfl⟩;unfold eT;rcases wS with ⟨e2,rfl⟩|rfl<;>
  simp only[hu,Cm,cX,oC,qu,hy]
  all_goals (cases hx<;>simp only[jZ,bb])
 |succ m=>
  cases hx with
  |nil=>
   obtain⟨h1,h2⟩:=Own.new (s:=s) gM;refine⟨_,_,?_,by simpa using h2,⟨by rw[yH];omega,fun i hi _=>(aw.new s _).get i hi⟩,.inr ⟨s.next,rfl,bt _⟩⟩;unfold eT;rcases wS with ⟨e2,rfl⟩|rfl<;>
   simp only[hu,Cm,cX,oC,qu,hy,jZ,bb,h1]
   all_goals simp
  |of i n low l hi hb hl hlen=>
   have iy:(true&&b7 low (l.length+1)&&ck z z)=true:=by simp[hl]
   have j6:(ck (l.length+1) (l.length+1)&&ck 0 0&&ck (n*z) l.length)=true:=by simp[hlen]
   refine⟨.slice (some ⟨i,0,none⟩) (n+(m+1)) ((l++new).length+1),s.put i (.eE ⟨l++new,low,true,z⟩),?_,?_,⟨by simp[au.put],fun j _ hj=> ?_⟩,.inl rfl⟩
   ·unfold eT;rcases wS with ⟨e2,rfl⟩|rfl<;>
    simp only[hu,Cm,cX,oC,qu,hy,jZ,bb,hb,iy,j6]
   ·refine .of i _ low _ (by simpa [au.put] using hi) (by rw[au.cC _ _ _ (by omega)]) (by rw[cc];omega) (by rw[cc,hlen,gM,dP n (m+1) z])
   rw[au.bo];intro e;subst e;exact hj rfl
theorem eW (l:ax c3):(ofBytes l).length=l.length:=by simp[ofBytes]
theorem aW {l:ax c3}{i:aC}(h:i<l.length):(ofBytes l).getD i undef= .int .u8 ((l.getD i 0).toNat:dK):=by
 simp[ofBytes,dw,ca h]
theorem ct (a b:ax c3):ofBytes (a++b)=ofBytes a++ofBytes b:=by simp[ofBytes]
theorem Iy (a:c3)(b:ax c3):ofBytes (a::b)= .int .u8 (a.toNat:dK)::ofBytes b:=rfl
theorem Iz (n:aC)(l:ax c3):(ofBytes l).take n=ofBytes (l.take n):=by simp[ofBytes,List.map_take]
theorem IA (n:aC)(l:ax c3):(ofBytes l).drop n=ofBytes (l.drop n):=by simp[ofBytes,List.map_drop]
theorem pn (l:ax c3):(ofBytes l).all aT=true:=by simp[ofBytes,aT]
theorem bZ (z:aC)(v:an)(k:aC):bI (aX z v k) (aX z v k)=true:=by
 unfold aX;split<;>exact nQ _
theorem wX (z:aC)(v:an)(a b:aC):bI (jC z v a b) (jC z v a b)=true:=by
 unfold jC;split<;>exact mi _ _ _
theorem aU.self {s:au}{z:aC}{v:an}{n:aC}{l:ax an}(h:aU s z v n l):bI v v=true:=by
 cases h<;>exact mi _ _ _
theorem Own.self {s:au}{z:aC}{v:an}{n:aC}{l:ax an}(h:Own s z v n l):bI v v=true:=h.aL.self
theorem aU.G9 {P:ab}{t e:av}{z:aC}(hu:P.underlying t=some (.slice e))(cX:br P e=some z){s:au}{v:an}{n:aC}{l:ax an}(h:aU s z v n l){k k2:b8}{x y:dK}
  (h0:0<=x) (h1:x<=y) (h2:y<=n):fa P s t v (some (.int k x)) (some (.int k2 y)) none=some (jC z v x.toNat y.toNat):=
 h.slice hu cX (vu h0) (vu (by omega)) (by omega) (by omega)
theorem aU.qZ {P:ab}{t e:av}{z:aC}(hu:P.underlying t=some (.slice e))(cX:br P e=some z){s:au}{v:an}{n:aC}{l:ax an}(h:aU s z v n l){k:b8}{x:dK}
  (h0:0<=x) (h2:x<=n):fa P s t v (some (.int k x)) none none=some (jC z v x.toNat n):=
 h.slice hu cX (vu h0) rfl (by omega) (by omega)
theorem aU.ra {P:ab}{t e:av}{z:aC}(hu:P.underlying t=some (.slice e))(cX:br P e=some z){s:au}{v:an}{n:aC}{l:ax an}(h:aU s z v n l){k:b8}{y:dK}
  (h1:0<=y) (h2:y<=n):fa P s t v none (some (.int k y)) none=some (jC z v 0 y.toNat):=
 h.slice hu cX rfl (vu (by omega)) (by omega) (by omega)
theorem aU.sZ {s:au}{z:aC}{v:an}{n:aC}{l:ax an}(h:aU s z v n l):v.cells.toList=[v]:=by cases h<;>rfl
theorem aU.aT {s:au}{z:aC}{v:an}{n:aC}{l:ax an}(h:aU s z v n l):Cl.aT v=true:=by cases h<;>rfl
theorem aU.turns {s s' :au}{z:aC}{v u:an}{n:aC}{l:ax an}(h:aU s z v n l)(k:bG u s s')(cE:∀i,i<s.next->aI v=some i->aI u≠some i):aU s' z v n l:=by
 cases h with
 |nil=>exact .nil
 |bare=>exact .bare _ _
 |of i off n c b l hi hb hz hl hc hlen eO ht=>
  refine .of i off n c b l (cb hi k.next) ?_ hz hl hc hlen eO ht;simp only[au.bL,k.get i hi (cE i hi rfl)];exact hb
theorem aU.IB {s:au}{v:an}{l:ax c3}(h:aU s 1 v l.length (ofBytes l)){lo hi:aC}(h1:lo<=hi)(h2:hi<=l.length):aU s 1 (jC 1 v lo hi) ((l.drop lo).take (hi-lo)).length (ofBytes ((l.drop lo).take (hi-lo))):=by
 have:=h.cut h1 h2;rw[c9,c9,IA,Iz] at this;rw[c6,c7,Nat.min_eq_left (by omega)];exact this
structure Grown (x:an) (s:au) (v:an) (s' :au):Prop where
 turns:bG x s s'
 id:aI v=aI x\/∃i,aI v=some i/\s.next<=i
theorem Own.ei {s:au}{z:aC}{v:an}{n:aC}{l:ax an}(h:Own s z v n l):∀i,aI v=some i->i<s.next:=by
 cases h with
 |nil=>intro i h;cases h
 |of i n low l hi hb hl hlen=>intro j h;injection h with h;subst h;exact hi
theorem gx {P:ab}{t e:av}(hu:P.underlying t=some (.pointer e))(a:Addr):dB P .eql t (.pointer (some a)) (.pointer none)=some (.bool false):=by
 simp[dB,qJ,hu]
theorem Tv {P:ab}{t e:av}(hu:P.underlying t=some (.pointer e))(a:Addr):dB P .neq t (.pointer (some a)) (.pointer none)=some (.bool true):=by
 simp[dB,qJ,hu]
def wY:an->ch
 | .slice none _ _=>true
 |_=>false
theorem aU.yI {P:ab}{t e:av}(hu:P.underlying t=some (.slice e)){s:au}{z:aC}{v:an}{n:aC}{l:ax an}(h:aU s z v n l):dB P .eql t v (.slice none 0 0)=some (.bool (wY v)):=by
 cases h<;>simp[dB,qJ,hu,wY]
theorem aU.IC {P:ab}{t e:av}(hu:P.underlying t=some (.slice e)){s:au}{z:aC}{v:an}{n:aC}{l:ax an}(h:aU s z v n l):dB P .neq t v (.slice none 0 0)=some (.bool (!wY v)):=by
 cases h<;>simp[dB,qJ,hu,wY]
theorem aU.isNil {s:au}{z:aC}{v:an}{n:aC}{l:ax an}(h:aU s z v n l)(hn:wY v=true):n=0/\l=[]/\v= .slice none 0 0:=by
 cases h with
 |nil=>exact⟨rfl,rfl,rfl⟩
 |bare=>cases hn
 |of=>cases hn
def ML (base:aC)(s:au)(z:aC)(v:an)(n:aC)(l:ax an):Prop:=∀s',aw base s s' ->aU s' z v n l
theorem ML.aL {base:aC}{s:au}{z:aC}{v:an}{n:aC}{l:ax an}(h:ML base s z v n l):aU s z v n l:=h s (aw.refl _ _)
theorem ML.stay {base:aC}{s s' :au}{z:aC}{v:an}{n:aC}{l:ax an}(h:ML base s z v n l)(k:aw base s s'):ML base s' z v n l:=fun Fq k' =>h Fq (k.trans k')
theorem aU.low {s:au}{z:aC}{v:an}{n:aC}{l:ax an}(h:aU s z v n l):ML s.next s z v n l:=fun _ k=>h.keeps k
theorem aU.full {P:ab}{t e:av}{z:aC}(hu:P.underlying t=some (.slice e))(cX:br P e=some z){s:au}{v:an}{n:aC}{l:ax an}(h:aU s z v n l)(k k2:b8):
  ∃v',fa P s t v none (some (.int k n)) (some (.int k2 n))=some v' /\∀s',aU s' z v n l->aU s' z v' n l:=by
 have h1:kT (some (.int k (n:dK))) n=some n:=rfl;have h2:kT (some (.int k2 (n:dK))) 0=some n:=rfl;have h3:(b7 0 n&&b7 n n)=true:=by simp
 have h4:(b7 n n&&b7 n n)=true:=by simp
 cases h with
 |nil=>exact⟨.slice none 0 0,by unfold fa;rw[hu];simp only[lU,h1,cX,h3,bb,h2],fun _ h=>h⟩
 |bare i off=>exact⟨.slice (some ⟨i,off+0*z,none⟩) 0 0,by unfold fa;rw[hu];simp only[lU,h1,cX,h3,bb,h2,l5];rfl,fun s' _=> .bare _ _⟩
 |of i off n c b l hi hb hz hl hc hlen eO ht=>
  have he:l5 s i c z=true:=by
   unfold l5;split
   ·rfl
   rw[hb];simp[hz]
  by_cases h0:n=0
  ·subst h0;refine⟨.slice (some ⟨i,off+0*z,none⟩) 0 0,by unfold fa;rw[hu];simp only[lU,h1,cX,h3,bb,h2,he];rfl,fun s' _=> ?_⟩;have:l=[]:=bz (by simpa using hlen);subst this;exact .bare _ _
  refine⟨.slice (some ⟨i,off,none⟩) n c,?_,fun s' h=>h⟩;have cE:ck 0 n=false:=by rw[<-a2,cz];omega
  unfold fa;rw[hu];simp only[lU,h1,cX,h3,bb,h2,h4,he,cE];simp
theorem MM {P:ab}{s:au}{t e:av}{zv:an}{z:aC}(hu:P.underlying t=some (.slice e))(cX:br P e=some z)(hz:b6 P e=some zv)(hp:cr zv=true)(hl:ck zv.cells.toList.length z=true):bp P s t 0 []=a6 s [] 0 z:=by
 unfold bp;rw[hu];simp only[cX,hz,hp,hl];simp[db,iu]
end Go.Cl
namespace Go.Cl
open Go.RowKit Go.ChangeShapes Go.WideShapes
structure nU (W:dT) (S:St):Prop where
 sr:SR W.heap.size S
 w:S.w=W
 own:∀i b,S.s.bL i=some b->b.own=false
 map:∀i,S.s.fj i=none
theorem nU.start (W:dT):nU W (St.start W):=
 ⟨SR.start W,rfl,fun i b h=>by simp[St.start,au.empty,au.bL,Tr.get] at h,fun i=>by simp[St.start,au.empty,au.fj,Tr.get]⟩
def St.dL (S:St)(b:kM)(a:aC×aC):St:=⟨S.s.new (.eE b),⟨fun j c=>if j=S.s.next then a else S.e.loc j c,S.e.mp⟩,S.w⟩
theorem nU.push {W:dT}{S:St}(h:nU W S)(b:kM)(a:aC×aC)(iU:b.own=false)(iw:1<=b.low)(gv:∀c,Live b c->c=b.cells.length+1)
  (qK:∀c,Live b c->a.1<W.heap.size) (mF:∀c,Live b c->∀p,p<b.cells.length->∃v,W.cell? ⟨a.1,a.2+p,none⟩=some v/\VR S (b.cells.getD p undef) v):
  nU W (S.dL b a)/\Ext S (S.dL b a)/\aw S.s.next S.s (S.dL b a).s/\(S.dL b a).s.next=S.s.next+1:=by
 have hw:=h.w;have gM:(S.dL b a).s.bL S.s.next=some b:=oM S.s b;have aF:aw S.s.next S.s (S.dL b a).s:=aw.new S.s _;have hold:∀j b',(S.dL b a).s.bL j=some b' ->(j=S.s.next/\b' =b)\/(j<S.s.next/\S.s.bL j=some b'):=by
  intro j b' hj;by_cases YS:j=S.s.next
  ·subst YS;rw[gM] at hj;exact .inl ⟨rfl,(Option.some.inj hj).symm⟩
  have e:(S.dL b a).s.bL j=S.s.bL j:=by
   simp only[St.dL,au.new,au.bL,Tr.cK _ _ _ _ _ (Ne.symm YS)]
  rw[e] at hj;exact .inr ⟨h.sr.lt hj,hj⟩
 have tL:Ext S (S.dL b a):=by
  refine⟨fun i b' hb=> ?_,fun r es he=>(by rw[h.map r] at he;cases he),fun k arr E fr hk=>⟨arr,fr,hk,rfl⟩⟩;have a7:=h.sr.lt hb;refine⟨b',(aF.eE a7).trans hb,bt _,bt _,rfl,fun c _ _=> ?_⟩;simp only[St.dL,bA (c4 a7)]
 refine⟨⟨⟨by omega,?_,?_,?_,?_,?_,?_,?_,?_⟩,hw,?_,?_⟩,tL,aF,rfl⟩
 ·intro i o hi;show i<S.s.next+1;by_cases tm:i=S.s.next
  ·omega
  have e:(S.dL b a).s.heap.get i=S.s.heap.get i:=by simp only[St.dL,au.new,Tr.cK _ _ _ _ _ (Ne.symm tm)]
  rw[e] at hi;have:=h.sr.bound i o hi;omega
 ·intro i b' hi;rcases hold i b' hi with ⟨_,rfl⟩|⟨_,hi⟩
  ·exact iw
  exact h.sr.low i b' hi
 ·intro i b' hi c hc p hp;rcases hold i b' hi with ⟨rfl,rfl⟩|⟨a7,hi⟩
  ·have:=gv c hc;obtain⟨v,h1,h2⟩:=mF c hc p (by omega);refine⟨v,?_,h2.mono tL⟩;simp only[St.dL,bb,hw];exact h1
  obtain⟨v,h1,h2⟩:=h.sr.cell i b' hi c hc p hp;refine⟨v,?_,h2.mono tL⟩;simp only[St.dL,bA (c4 a7)];exact h1
 ·intro i b' hi ho;rcases hold i b' hi with ⟨_,rfl⟩|⟨_,hi⟩
  ·rw[iU] at ho;cases ho
  rw[h.own i b' hi] at ho;cases ho
 ·intro r es he;have:(S.dL b a).s.fj r=none:=by
   by_cases hr:r=S.s.next
   ·subst hr;simp only[St.dL,au.new,au.fj,Tr.bF _ _ _ _ (deep (by omega))]
   have:=h.map r;simp only[au.fj] at this;simp only[St.dL,au.new,au.fj,Tr.cK _ _ _ _ _ (Ne.symm hr),this]
  rw[this] at he;cases he
 ·intro r r' es hJ he;have:(S.dL b a).s.fj r=none:=by
   by_cases hr:r=S.s.next
   ·subst hr;simp only[St.dL,au.new,au.fj,Tr.bF _ _ _ _ (deep (by omega))]
   have:=h.map r;simp only[au.fj] at this;simp only[St.dL,au.new,au.fj,Tr.cK _ _ _ _ _ (Ne.symm hr),this]
  rw[this] at he;cases he
 ·show W.heap.size<=S.w.heap.size;rw[hw];exact bt _
 ·intro i b' hi c hc;show((S.dL b a).e.loc i c).1<S.w.heap.size;rw[hw];rcases hold i b' hi with ⟨rfl,rfl⟩|⟨a7,hi⟩
  ·simp only[St.dL,bb];exact qK c hc
  simp only[St.dL,bA (c4 a7)];have:=h.sr.Ib i b' hi c hc;rw[hw] at this;exact this
 ·intro i b' hi;rcases hold i b' hi with ⟨_,rfl⟩|⟨_,hi⟩
  ·exact iU
  exact h.own i b' hi
 intro r;by_cases hr:r=S.s.next
 ·subst hr;simp only[St.dL,au.new,au.fj,Tr.bF _ _ _ _ (deep (by omega))]
 have:=h.map r;simp only[au.fj] at this;simp only[St.dL,au.new,au.fj,Tr.cK _ _ _ _ _ (Ne.symm hr),this]
structure alH (W:dT) (S S' :St) (v' v:an):Prop where
 begun:nU W S'
 ext:Ext S S'
 stay:aw S.s.next S.s S'.s
 next:S'.s.next=S.s.next+1
 vr:VR S' v' v
variable {H:Type} {enc:av×an->H} {P:ab}
theorem Tw {zs:ax dK}(h:∀n∈zs,(Lit.int .u8 n).wf=true):∃bs:ax c3,bs.length=zs.length/\zs.map (.int .u8)=ofBytes bs:=by
 refine⟨zs.map fun n=>UInt8.ofNat n.toNat,by simp,?_⟩;simp only[ofBytes,List.map_map];refine List.map_congr_left fun n hn=> ?_
 have hw:=h n hn;simp only[Function.comp,Value.int.injEq,true_and];have:0<=n/\n<256:=by
  simp[Lit.wf,IntKind.min,IntKind.max,IntKind.bits,IntKind.signed] at hw;omega
 rw[UInt8.toNat_ofNat'];omega
theorem FX (hl:laidOutB P=true){W W' :dT}(hb:Below W.heap.size W W'):∀{ts:ax av} {vs:ax an} {ds:ax (DataW H)} {ps:ax MemPlace},(∀t∈ts,P.readableRec t=true/\t<P.types.size)->
  DataW.TrodAll enc P W 0 (fun _=>true) true ts vs ds ps->(∀x∈ps,x.block<W.heap.size)->DataW.TrodAll enc P W' 0 (fun b=>decide (b<W.heap.size)) true ts vs ds ps:=by
 intro ts
 induction ts with
 |nil=>
  intro vs ds ps _ h _;cases vs<;>cases ds<;>simp only[DataW.TrodAll] at h|-
  exact h
 |cons t ts ih=>
  intro vs ds ps hr h a7;obtain⟨v,Ju,d,ds',p,q,rfl,rfl,rfl,h1,h2⟩:=trodAll_cons h;exact⟨p,q,Below.trod hl (hr t (a1 ..)).1 (hr t (a1 ..)).2 h1 hb (fun x hx=>a7 x (cM _ hx)),ih (fun t ht=>hr t (a8 _ ht)) h2 (fun x hx=>a7 x (cB _ hx)),rfl⟩
theorem Tx {fn:Func}{s:ChangeSpec}{W W' :dT}{args:bq an}{ds gs:ax (DataW H)}{before:ax MemPlace}{tb:av}(hl:laidOutB P=true)(adR:∀t∈fn.params.toList,P.readableRec t=true/\t<P.types.size)
  (aam:fn.resultTypes= #[tb]) (hb:P.underlying tb=some .bool) (YU:s.vars=[]) (To:∀l:ax (DataW H),l.length=ds.length->s.fn H l={results:=[.lit (.bool true)],args:=l}) (hW:DataW.Whole enc P fn.params.toList s.vars false W args.toList ds gs before) (pf:Below W.heap.size W W'):
  ∃v,Ending.returned (.bool true)= .returned v/\s.post enc P fn false true false false W args v W' :=by
 have hW' :=hW;obtain⟨p,q,hA,hV,rfl,hfz,hnd⟩:=hW;rw[YU] at hV;obtain⟨rfl,rfl⟩:=trodVars_none hV;have Ty:s.fn H (ds++[])={results:=[.lit (.bool true)],args:=ds}:=by rw[dc];exact To ds rfl
 refine⟨_,rfl,ds,[],p++[],[],p,[],hW',?_,?_,?_,pf.frame _,fun h=>by cases h⟩
 ·rw[Ty,aam];exact trodAll_cons_mk (shut_bool hb _) trodAll_mk0
 ·rw[Ty];exact FX hl pf adR hA hA.lt
 rw[Ty,YU];rfl
end Go.Cl
namespace Go.Cl
def fA (o:aR):ch:=
 match o.op with
 | .move _| .assign _| .pick _ _ _| .build _ _| .nilCheck _| .binOp _ _ _ _ _| .unOp _ _ _| .fieldAddr _ _ _| .field _ _ _| .indexAddr _ _ _| .index _ _ _| .extract _ _=>true
 |_=>false
theorem wZ {P:ab}{o:aR}(h:fA o=true):aS P o=true:=by
 obtain⟨dst,op,type,pos,after,guard⟩:=o;cases op<;>simp_all[fA,aS]
theorem QF {P:ab}{o:aR}(h:fA o=true)(f:aZ):∃r:aY an,∀s,cV P o f s=qo s r:=by
 obtain⟨dst,op,type,pos,after,guard⟩:=o;cases op<;>simp only[fA] at h<;>try (cases h;done)
 case move x=>exact⟨a5 f x,fun _=>rfl⟩
 case assign x=>exact⟨a5 f x,fun _=>rfl⟩
 case pick c a b=>
  refine⟨match a5 f c,a5 f a,a5 f b with
   |some (.bool t),some u,some v=>some (if t then u else v)
   |_,_,_=>none,fun s=> ?_⟩
  rw[Dy];generalize a5 f c=X;generalize a5 f a=Y;generalize a5 f b=Z;split<;>first|rfl|(split<;>first|rfl|(exfalso;simp_all))
 case build t ps=>
  refine⟨match ae f ps.toList with
   |some l=>da P t l
   |none=>none,fun s=> ?_⟩
  rw[z2];generalize ae f ps.toList=X;cases X<;>rfl
 case nilCheck x=>
  refine⟨match a5 f x with
   |some (.pointer (some a))=>some (.pointer (some a))
   |some (.func (.func g) ars bs)=>some (.func (.func g) ars bs)
   |_=>none,fun s=> ?_⟩
  rw[si];generalize a5 f x=X;split<;>first|rfl|(split<;>first|rfl|(exfalso;simp_all))
 case binOp op t x y t2=>
  refine⟨match a5 f x,a5 f y with
   |some u,some v=>dB P op t u v
   |_,_=>none,fun s=> ?_⟩
  rw[z3];generalize a5 f x=X;generalize a5 f y=Y;cases X<;>cases Y<;>rfl
 case unOp op t x=>
  refine⟨match a5 f x with
   |some u=>ZY op u
   |none=>none,fun s=> ?_⟩
  rw[Dz];generalize a5 f x=X;cases X<;>rfl
 case fieldAddr t x i=>
  refine⟨match a5 f x with
   |some u=>ay P t u i
   |none=>none,fun s=> ?_⟩
  rw[qy];generalize a5 f x=X;cases X<;>rfl
 case field t x i=>
  refine⟨match a5 f x with
   |some u=>CA P t u i
   |none=>none,fun s=> ?_⟩
  rw[z4];generalize a5 f x=X;cases X<;>rfl
 case indexAddr t x y=>
  refine⟨match a5 f x,a5 f y with
   |some u,some v=>bK P t u v
   |_,_=>none,fun s=> ?_⟩
  rw[qz];generalize a5 f x=X;generalize a5 f y=Y;cases X<;>cases Y<;>rfl
 case index t x y=>
  refine⟨match a5 f x,a5 f y with
   |some u,some v=>Cz P t u v
   |_,_=>none,fun s=> ?_⟩
  rw[z5];generalize a5 f x=X;generalize a5 f y=Y;cases X<;>cases Y<;>rfl
 case extract x i=>
  refine⟨match a5 f x with
   |some u=>aH u i
   |none=>none,fun s=> ?_⟩
  rw[uj];generalize a5 f x=X;cases X<;>rfl
theorem uu {P:ab}{o:aR}(h:fA o=true){f:aZ}{s t:au}{v:an}{s' :au}(ha:cV P o f s=some (.val v s')):cV P o f t=some (.val v t):=by
 obtain⟨r,hr⟩:=QF (P:=P) h f;rw[hr] at ha;cases r with
 |none=>cases ha
 |some u=>
  rw[uo] at ha;injection ha with ha;injection ha with e _;subst e
  rw[hr];rfl
def dh (id:aC):aY AR->aY (an×kM)
 |some (.val v s1)=>
  match s1.bL id with
  |some b=>some (v,b)
  |none=>none
 |_=>none
def gP (P:ab)(lib:aD)(all:ax aR):ax aR->aC->aZ->au->(aZ->au->Prop)->Prop
 |[],_,f,T,Q=>Q f T
 |o::r,id,f,T,Q=>
  match cH all o f with
  |true=>
   match aS P o,aJ P o with
   |true,_=>
    match cV P o f T with
    |some (.val v _)=>bI v v=true/\dm f o.dst v fun f' =>gP P lib all r id f' T Q
    |_=>False
   |false,true=>
    match dh id (cV P o f ⟨.nil,id⟩) with
    |some (v,b)=>dm f o.dst v fun f' =>gP P lib all r (id+1) f' (T.put id (.eE b)) Q
    |none=>False
   |false,false=>
    match cV P o f T with
    |some (.val v T')=>dm f o.dst v fun f' =>gP P lib all r id f' T' Q
    |some (.call g args)=>Runs P lib g args T fun v T' =>dm f o.dst v fun f' =>gP P lib all r id f' T' Q
    |none=>False
  |false=>dm f o.dst undef fun f' =>gP P lib all r (if aJ P o then id+1 else id) f' T Q
def DO (P:ab)(lib:aD)(all r:ax aR)(id:aC)(f:aZ)(T:au)(d:aY Tmp)(Q:aZ->au->Prop):aY AR->Prop
 |some (.val v _)=>bI v v=true/\dm f d v fun f' =>gP P lib all r id f' T Q
 |_=>False
def DP (P:ab)(lib:aD)(all r:ax aR)(id:aC)(f:aZ)(T:au)(d:aY Tmp)(Q:aZ->au->Prop):aY (an×kM)->Prop
 |some (v,b)=>dm f d v fun f' =>gP P lib all r (id+1) f' (T.put id (.eE b)) Q
 |none=>False
def rh (P:ab)(lib:aD)(all r:ax aR)(id:aC)(f:aZ)(d:aY Tmp)(T:au)(Q:aZ->au->Prop):aY AR->Prop
 |some (.val v T')=>dm f d v fun f' =>gP P lib all r id f' T' Q
 |some (.call g args)=>Runs P lib g args T fun v T' =>dm f d v fun f' =>gP P lib all r id f' T' Q
 |none=>False
def uv (P:ab)(lib:aD)(all r:ax aR)(id:aC)(f:aZ)(d:aY Tmp)(Q:aZ->au->Prop)(v:an)(T' :au):Prop:=dm f d v fun f' =>gP P lib all r id f' T' Q
def qa (P:ab)(lib:aD)(all:ax aR)(o:aR)(r:ax aR)(id:aC)(f:aZ)(T:au)(Q:aZ->au->Prop):ch->Prop
 |true=>
  match aS P o,aJ P o with
  |true,_=>DO P lib all r id f T o.dst Q (cV P o f T)
  |false,true=>DP P lib all r id f T o.dst Q (dh id (cV P o f ⟨.nil,id⟩))
  |false,false=>rh P lib all r id f o.dst T Q (cV P o f T)
 |false=>dm f o.dst undef fun f' =>gP P lib all r (if aJ P o then id+1 else id) f' T Q
section
variable (P:ab) (lib:aD) (all:ax aR) (r:ax aR) (id:aC) (f:aZ) (T:au) (Q:aZ->au->Prop)
theorem z6:gP P lib all [] id f T Q=Q f T:=by simp only[gP]
theorem w6 (o:aR):gP P lib all (o::r) id f T Q=qa P lib all o r id f T Q (cH all o f):=by
 simp only[gP];cases cH all o f with
 |false=>rfl
 |true=>
  simp only[qa];cases aS P o with
  |true=>
   simp only;cases cV P o f T with
   |none=>rfl
   |some a=>cases a<;>rfl
  |false=>
   cases aJ P o with
   |true=>
    simp only;cases dh id (cV P o f ⟨.nil,id⟩) with
    |none=>rfl
    |some a=>rfl
   |false=>
    simp only;cases cV P o f T with
    |none=>rfl
    |some a=>cases a<;>rfl
theorem Ba (o:aR)(h:aS P o=true):qa P lib all o r id f T Q true=DO P lib all r id f T o.dst Q (cV P o f T):=by simp only[qa,h]
theorem Bb (o:aR)(h:aS P o=false)(h2:aJ P o=true):qa P lib all o r id f T Q true=DP P lib all r id f T o.dst Q (dh id (cV P o f ⟨.nil,id⟩)):=by simp only[qa,h,h2]
theorem yJ (o:aR)(h:aS P o=false)(h2:aJ P o=false):qa P lib all o r id f T Q true=rh P lib all r id f o.dst T Q (cV P o f T):=by simp only[qa,h,h2]
variable (d:aY Tmp) (ty:av) (ps:String) (af:bq Edge) (gd:aY (aC×ch))
theorem MO (o:aR):qa P lib all o r id f T Q true=bif aS P o then DO P lib all r id f T o.dst Q (cV P o f T) else bif aJ P o then DP P lib all r id f T o.dst Q (dh id (cV P o f ⟨.nil,id⟩)) else rh P lib all r id f o.dst T Q (cV P o f T):=by
 cases hq:aS P o with
 |true=>rw[Ba _ _ _ _ _ _ _ _ _ hq];rfl
 |false=>
  cases ha:aJ P o with
  |true=>rw[Bb _ _ _ _ _ _ _ _ _ hq ha];rfl
  |false=>rw[yJ _ _ _ _ _ _ _ _ _ hq ha];rfl
theorem Ha (o:aR):qa P lib all o r id f T Q true=if aS P o=true then DO P lib all r id f T o.dst Q (cV P o f T) else if aJ P o=true then DP P lib all r id f T o.dst Q (dh id (cV P o f ⟨.nil,id⟩)) else rh P lib all r id f o.dst T Q (cV P o f T):=by
 rw[MO];cases aS P o<;>cases aJ P o<;>rfl
theorem ri (op:Op)(t:Tmp):qa P lib all ⟨some t,op,ty,ps,af,gd⟩ r id f T Q false=if t<f.n then gP P lib all r (bif aJ P ⟨some t,op,ty,ps,af,gd⟩ then id+1 else id) (f.put t undef) T Q else False:=by
 unfold qa;simp only;rw[dJ]
 cases aJ P ⟨some t,op,ty,ps,af,gd⟩<;>rfl
theorem rk (op:Op):qa P lib all ⟨none,op,ty,ps,af,gd⟩ r id f T Q false=gP P lib all r (bif aJ P ⟨none,op,ty,ps,af,gd⟩ then id+1 else id) f T Q:=by
 unfold qa;simp only;rw[GP]
 cases aJ P ⟨none,op,ty,ps,af,gd⟩<;>rfl
theorem Hb (t:Tmp)(v:an)(s' :au):DO P lib all r id f T (some t) Q (some (.val v s'))=if bI v v=true/\t<f.n then gP P lib all r id (f.put t v) T Q else False:=by
 simp only[DO,dJ];by_cases h1:bI v v=true<;>by_cases h2:t<f.n<;>simp[h1,h2]
theorem Hc (t:Tmp)(v:an)(s' :au):rh P lib all r id f (some t) T Q (some (.val v s'))=if t<f.n then gP P lib all r id (f.put t v) s' Q else False:=by
 simp only[rh,dJ]
theorem uw (v:an)(s' :au):rh P lib all r id f none T Q (some (.val v s'))=gP P lib all r id f s' Q:=by
 simp only[rh,GP]
theorem DQ (g:c5)(args:ax an):rh P lib all r id f d T Q (some (.call g args))=Runs P lib g args T (uv P lib all r id f d Q):=rfl
theorem DR (t:Tmp)(v:an)(s' :au):uv P lib all r id f (some t) Q v s' =if t<f.n then gP P lib all r id (f.put t v) s' Q else False:=by
 simp only[uv,dJ]
theorem DS (v:an)(s' :au):uv P lib all r id f none Q v s' =gP P lib all r id f s' Q:=rfl
end
theorem FY {P:ab}{lib:aD}{all r:ax aR}{id:aC}{f:aZ}{d:aY Tmp}{Q:aZ->au->Prop}{v:an}{s' :au}(F:aZ->Prop)(h:F f)(k:∀f,F f->uv P lib all r id f d Q v s'):uv P lib all r id f d Q v s' :=k f h
def Ki (P:ab)(o:aR):ch:= !fA o&& !aJ P o
def ID (P:ab)(ops:ax aR):ch:=
 let ms:=b9 ops []
 ops.zipIdx.all fun x=>
  (ops.zipIdx.all fun y=> !aJ P y.1||(bif a3 y.2 x.2 then !Ki P x.1||bw (cW ms x.2) y.2 else !Nat.testBit (cW ms x.2) y.2))&&
  (!(aS P x.1&& !fA x.1)||(b7 (countP (fun j=> !Nat.testBit (cW ms j) x.2) P ops 0) (countP (fun j=>a3 j x.2) P ops 0)&&ck (countP (bw (cW ms x.2)) P ops 0) (countP (fun j=>a3 j x.2) P ops 0)))
theorem dC (P:ab):∀(l:ax aR) (es:ax Ev) (T:au),∃r,aE P l es T=T::r:=by
 intro l
 induction l with
 |nil=>intro es T;exact⟨[],by cases es<;>rfl⟩
 |cons o l ih=>
  intro es T;cases es with
  |nil=>exact⟨[],rfl⟩
  |cons e es=>
   simp only[aE];split
   ·exact⟨_,rfl⟩
   split
   ·exact⟨_,rfl⟩
   exact ih es T
def fG (P:ab):ax aR->aC->aC
 |[],_=>0
 |_,0=>0
 |o::r,n+1=>if bh P o then fG P r n+1 else fG P r n
theorem kX (P:ab):∀(l:ax aR) (i n:aC),countP (fun j=>a3 j (i+n)) P l i=fG P l n:=by
 intro l
 induction l with
 |nil=>intro i n;cases n<;>rfl
 |cons o l ih=>
  intro i n;simp only[countP];cases n with
  |zero=>
   have h0:∀(l:ax aR) (k:aC),i<=k->countP (fun j=>a3 j (i+0)) P l k=0:=by
    intro l
    induction l with
    |nil=>intro k _;rfl
    |cons p l ihl=>
     intro k hk;have hb:a3 k (i+0)=false:=by rw[<-a2,a0];omega
     simp only[countP,hb,dt,c0,if_false];exact ihl (k+1) (by omega)
   have hb:a3 i (i+0)=false:=by rw[<-a2,a0];omega
   simp only[hb,dt,c0,if_false,fG];exact h0 l (i+1) (by omega)
  |succ n=>
   have hb:a3 i (i+(n+1))=true:=by rw[a0];omega
   have e:i+(n+1)=(i+1)+n:=by omega
   simp only[hb,cT,fG];rw[e,ih (i+1) n]
theorem qb (P:ab):∀(a b:ax aR),fG P (a++b) a.length=fG P a a.length:=by
 intro a
 induction a with
 |nil=>intro b;cases b<;>rfl
 |cons o a ih=>intro b;simp only[cx,c8,fG];rw[ih b]
theorem vv (P:ab)(o:aR):∀(a:ax aR),fG P (a++[o]) (a++[o]).length=if bh P o then fG P a a.length+1 else fG P a a.length:=by
 intro a
 induction a with
 |nil=>rfl
 |cons p a ih=>simp only[cx,c8,fG];rw[ih];split<;>split<;>rfl
theorem jh (p:aC->ch):∀(a b:ax (aC×aC×kM)) (T:au),Cl.fill p T (a++b)=Cl.fill p (Cl.fill p T a) b:=by
 intro a
 induction a with
 |nil=>intro b T;rfl
 |cons x a ih=>
  intro b T;obtain⟨j,id,bk⟩:=x;simp only[cx,Cl.fill];split
  ·exact ih _ _
  exact ih _ _
theorem vw (p:aC->ch):∀(a:ax (aC×aC×kM)) (T:au),(∀x∈a,p x.1=false)->Cl.fill p T a=T:=by
 intro a
 induction a with
 |nil=>intro T _;rfl
 |cons x a ih=>
  intro T h;obtain⟨j,id,bk⟩:=x;have hj:p j=false:=h (j,id,bk) (a1 ..);simp only[Cl.fill,hj];exact ih T (fun y hy=>h y (a8 _ hy))
theorem vx (p:aC->ch):∀(a:ax (aC×aC×kM)) (T:au),(∀x∈a,T.heap.get x.2.1≠none)->Cl.fill p T a=T:=by
 intro a
 induction a with
 |nil=>intro T _;rfl
 |cons x a ih=>
  intro T h;obtain⟨j,id,bk⟩:=x;have hj:T.heap.get id≠none:=h (j,id,bk) (a1 ..);simp only[Cl.fill];split
  ·rename_i _ hn;exact absurd hn hj
  exact ih T (fun y hy=>h y (a8 _ hy))
structure Stands (s0:au) (K:aC) (i id:aC) (ars:ax (aC×aC×kM)) (T U:au):Prop where
 fill:∀p:aC->ch,(∀x∈ars,p x.1=true)->Cl.fill p T ars=U
 here:∀x∈ars,U.heap.get x.2.1≠none
 before:∀x∈ars,x.1<i
 lo:s0.next<=id
 free:∀k,id<=k->k<s0.next+K->U.heap.get k=none
 next:s0.next+K<=U.next
 keeps:bQ s0 U
theorem FZ {P:ab}{lib:aD}{all:ax aR}(s0:au)(nv:ax aC){Q:aZ->au->Prop}
  (MP:∀(o:aR) (i:aC),all[i]?=some o->aS P o=true->fA o=false->countP (fun j=> !Nat.testBit (cW nv j) i) P all 0<=fG P all i/\countP (bw (cW nv i)) P all 0=fG P all i)
  (DT:∀(o p:aR) (i j:aC),all[i]?=some o->all[j]?=some p->aJ P p=true->j<i->Ki P o=true->bw (cW nv i) j=true)
  (MQ:∀(o p:aR) (i j:aC),all[i]?=some o->all[j]?=some p->aJ P p=true->i<=j->bw (cW nv i) j=false):
  ∀(l pre:ax aR) (ms:ax aC) (id:aC) (f:aZ) (T U:au) (ars:ax (aC×aC×kM)),all=pre++l->ms=nv.drop pre.length->ms.length=l.length->id+aO P l<=s0.next+aO P all->Stands s0 (aO P all) pre.length id ars T U->(∀x∈ars,∃p,all[x.1]?=some p/\aJ P p=true)->gP P lib all l id f U Q->
  ∃es f' T' U',(∃n,∀m,n<=m->cf P (iZ P lib m) all ms l pre.length id f T ars=some es)/\(aE P l es T).getLastD T=T' /\bV l es f=f' /\Cl.fill (fun _=>true) T' (ars++madeOf es pre.length)=U' /\
   (∀x∈madeOf es pre.length,pre.length<=x.1/\∃p,all[x.1]?=some p/\aJ P p=true)/\
   (∀jn before,jn=before++aE P l es T->before.length=fG P pre pre.length->bO P all nv (ars++madeOf es pre.length) jn ms l es pre.length f=true)/\bQ s0 U' /\Q f' U' :=by
 intro l
 induction l with
 |nil=>
  intro pre ms id f T U ars _ _ hl _ aF _ hw;rw[z6] at hw;cases ms with
  |cons m r=>simp at hl
  |nil=>exact⟨[],f,T,U,⟨0,fun _ _=>rfl⟩,rfl,rfl,by simp only[madeOf,dc];exact aF.fill _ (fun _ _=>rfl),(fun x hx=>by simp[madeOf] at hx),fun _ _ _ _=>rfl,aF.keeps,hw⟩
 |cons o r ih=>
  intro pre ms id f T U ars kE Ci hl fM aF has hw;cases ms with
  |nil=>simp at hl
  |cons m ms=>
  have xN:ms.length=r.length:=by simpa using hl
  have mM:all=(pre++[o])++r:=by rw[kE,cg];rfl
  have dk:(pre++[o]).length=pre.length+1:=by simp
  have sk:ms=nv.drop (pre++[o]).length:=by
   rw[dk,<-cL,<-Ci];rfl
  have MR:cW nv pre.length=m:=by
   have ny:∀(L:ax aC) (k:aC) (x:aC) (t:ax aC),L.drop k=x::t->cW L k=x:=by
    intro L
    induction L with
    |nil=>intro k x t h;simp at h
    |cons y L FU=>
     intro k x t h;cases k with
     |zero=>simp at h;exact h.1
     |succ k=>simp only[List.drop_succ_cons] at h;simp only[cW];exact FU k x t h
   exact ny nv pre.length m ms Ci.symm
  have jq:all[pre.length]?=some o:=by rw[kE];simp
  have Bc:fG P all pre.length=fG P pre pre.length:=by rw[kE,qb]
  have vM:=vv P o pre;have jA:∀(v:an) (MS:aC) (U' :au),(dm f o.dst v fun f' =>gP P lib all r MS f' U' Q)->∃f1,my f o.dst v=some f1/\gP P lib all r MS f1 U' Q:=by
   intro v MS U' h;unfold dm at h;split at h
   ·exact⟨_,‹_›,h⟩
   exact h.elim
  have ga:aO P (o::r)=if aJ P o then aO P r+1 else aO P r:=rfl
  have pq:Ki P o=true->Cl.fill (bw m) T ars=U:=fun hn=>aF.fill _ (fun x hx=>by
   obtain⟨p,hp,Ig⟩:=has x hx;rw[<-MR];exact DT o p pre.length x.1 jq hp Ig (aF.before x hx) hn)
  rw[w6] at hw;cases pV:cH all o f with
  |false=>
   rw[pV] at hw;obtain⟨f1,hp,hw⟩:=jA _ _ _ hw;have fN:Stands s0 (aO P all) (pre++[o]).length (if aJ P o then id+1 else id) ars T U:=by
    refine⟨aF.fill,aF.here,fun x hx=>by have:=aF.before x hx;omega,by have:=aF.lo;split<;>omega,fun k hk qP=>aF.free k (by split at hk<;>omega) qP,aF.next,aF.keeps⟩
   obtain⟨es,f',T',U',⟨n,h1⟩,h3,h4,hf,mN,h5,hk,h6⟩:=ih (pre++[o]) ms _ f1 T U ars mM sk xN (by rw[ga] at fM;split<;>split at fM<;>first|omega|contradiction) fN has hw;rw[dk] at h1 h5 hf mN;refine⟨.skip::es,f',T',U',⟨n,fun q hq=> ?_⟩,?_,by simp only[bV,Ev.val,hp,h4],by simp only[madeOf];exact hf,(fun x hx=>by simp only[madeOf] at hx;obtain⟨a,b⟩:=mN x hx;exact⟨by omega,b⟩),fun jn before hs hb=> ?_,hk,h6⟩
   ·simp only[cf,dH,pV,Ev.val,hp];rw[h1 q hq]
   ·simp only[aE];split
    ·obtain⟨rr,hr⟩:=dC P r es T;rw[hr] at h3|-
     rw[b4] at h3|-
     rw[b4];exact h3
    exact h3
   simp only[bO,Ev.val,hp,b5,madeOf];simp only[aE] at hs;split at hs
   ·rename_i he;refine h5 jn (before++[T]) (by rw[hs,cg];rfl) ?_;rw[<-dk,vM,cp he,cc,hb];rfl
   rename_i he;refine h5 jn before hs ?_;rw[<-dk,vM,bA he,hb]
  |true=>
   rw[pV] at hw;cases hq:aS P o with
   |true=>
    rw[Ba _ _ _ _ _ _ _ _ _ hq] at hw;have cE:=iI hq;have Fp:=jB hq;rw[ga,bA (by simp[Fp])] at fM;unfold DO at hw;split at hw
    case h_2=>exact hw.elim
    rename_i v s1 er;obtain⟨hv,hw⟩:=hw;obtain⟨f1,hp,hw⟩:=jA _ _ _ hw;have fN:Stands s0 (aO P all) (pre++[o]).length id ars T U:=⟨aF.fill,aF.here,fun x hx=>by have:=aF.before x hx;omega,aF.lo,aF.free,aF.next,aF.keeps⟩;obtain⟨es,f',T',U',⟨n,h1⟩,h3,h4,hf,mN,h5,hk,h6⟩:=ih (pre++[o]) ms id f1 T U ars mM sk xN fM fN has hw;rw[dk] at h1 h5 hf mN;have m8:∃s2,cV P o f (Cl.fill (bw m) T ars)=some (.val v s2):=by
     cases kJ:fA o with
     |true=>exact⟨_,uu kJ er⟩
     |false=>exact⟨s1,by rw[pq (by simp[Ki,kJ,Fp])];exact er⟩
    obtain⟨s2,m8⟩:=m8;refine⟨.quiet v::es,f',T',U',⟨n,fun q z7=> ?_⟩,?_,by simp only[bV,Ev.val,hp,h4],by simp only[madeOf];exact hf,(fun x hx=>by simp only[madeOf] at hx;obtain⟨a,b⟩:=mN x hx;exact⟨by omega,b⟩),fun jn before hs hb=> ?_,hk,h6⟩
    ·simp only[cf,dH,pV,hq,m8,Ev.val,hp,Fp];rw[bA (by simp),h1 q z7]
    ·simp only[aE,cE];simpa using h3
    have tQ:jn=before++aE P r es T:=by simpa [aE,cE] using hs
    simp only[bO,Ev.val,hp,madeOf];rw[h5 jn before tQ (by rw[<-dk,vM,bA (by simp[cE]),hb]),cT];have hfw:∀X:au,Cl.fill (bw m) X (ars++madeOf es (pre.length+1))=Cl.fill (bw m) X ars:=by
     intro X;rw[jh,vw _ (madeOf es (pre.length+1))];intro x hx;obtain⟨a,p,Tf,Ig⟩:=mN x hx;rw[<-MR];exact MQ o p pre.length x.1 jq Tf Ig (by omega)
    have tP:∀(L:ax au),(fA o=false->∀x∈L,x=T)->sameAt P m (ars++madeOf es (pre.length+1)) o f v L=true:=by
     intro L
     induction L with
     |nil=>intro _;rfl
     |cons x L FU=>
      intro hx;simp only[sameAt,hfw];have:∃s3,cV P o f (Cl.fill (bw m) x ars)=some (.val v s3):=by
       cases kJ:fA o with
       |true=>exact⟨_,uu kJ er⟩
       |false=>rw[hx kJ x (a1 ..)];exact⟨s2,m8⟩
      obtain⟨s3,iT⟩:=this;rw[iT];simp only[hv,b5];exact FU (fun kJ y hy=>hx kJ y (a8 _ hy))
    refine tP _ (fun kJ x hx=> ?_);obtain⟨t1,t2⟩:=MP o pre.length jq hq kJ;rw[MR] at t2;rw[t2] at hx;obtain⟨rr,hr⟩:=dC P r es T;rw[Bc,<-hb,cJ,tQ,hr,List.drop_left] at hx;have oK:countP (fun j=> !Nat.testBit (cW nv j) pre.length) P all 0+1-before.length<=1:=by omega
    generalize countP (fun j=> !Nat.testBit (cW nv j) pre.length) P all 0+1-before.length=k at hx oK;cases k with
    |zero=>simp at hx
    |succ k=>
     obtain rfl:k=0:=by omega
     simpa using hx
   |false=>
    cases ha:aJ P o with
    |true=>
     rw[Bb _ _ _ _ _ _ _ _ _ hq ha] at hw;rw[ga,cp ha] at fM;have cE:bh P o=false:=by simp[bh,ha]
     unfold DP at hw;split at hw
     case h_2=>exact hw.elim
     rename_i v b er;obtain⟨f1,hp,hw⟩:=jA _ _ _ hw;have MT:∃s1,cV P o f ⟨.nil,id⟩=some (.val v s1)/\s1.bL id=some b:=by
      unfold dh at er;split at er
      ·rename_i v1 s1 h1;split at er
       ·rename_i b1 fp;injection er with er;injection er with e1 e2;subst e1;subst e2
        exact⟨s1,h1,fp⟩
       cases er
      cases er
     obtain⟨s1,zt,iV⟩:=MT;have jg:=aF.free id (bt _) (by omega);have a7:id<U.next:=by have:=aF.next;omega
     have fN:Stands s0 (aO P all) (pre++[o]).length (id+1) (ars++[(pre.length,id,b)]) T (U.put id (.eE b)):=by
      refine⟨fun p hp=> ?_,fun x hx=> ?_,fun x hx=> ?_,by have:=aF.lo;omega,fun k hk qP=> ?_,by have:=aF.next;simpa [au.put] using this,?_⟩
      ·rw[jh,aF.fill p (fun x hx=>hp x (cM _ hx))];have SU:p pre.length=true:=hp (pre.length,id,b) (cB _ (a1 ..));simp only[Cl.fill,SU,jg]
      ·rcases cA.mp hx with hx|hx
       ·have hh:=aF.here x hx;have:x.2.1≠id:=fun e=>hh (by rw[e];exact jg)
        rw[au.bo _ _ _ _ (Ne.symm this)];exact hh
       rw[cv] at hx;subst hx
       simp only[au.put,Tr.bF _ _ _ _ (deep (by omega))];simp
      ·rcases cA.mp hx with hx|hx
       ·have:=aF.before x hx;omega
       rw[cv] at hx;subst hx;simp
      ·rw[au.bo _ _ _ _ (by omega)];exact aF.free k (by omega) qP
      have hk:=aF.keeps;refine⟨hk.next,fun j hj hn=> ?_,fun j hj=> ?_,⟨by omega,fun j ob hj=> ?_⟩⟩
      ·have:=aF.lo;rw[au.bo _ _ _ _ (by omega)];exact hk.gone j hj hn
      ·by_cases gD:id=j
       ·subst gD;simp only[au.put,Tr.bF _ _ _ _ (deep (by omega))];simp
       rw[au.bo _ _ _ _ gD];exact hk.here j hj
      by_cases gD:id=j
      ·subst gD;simpa [au.put] using a7
      rw[au.bo _ _ _ _ gD] at hj;have:=hk.wf.bound j ob hj;simpa [au.put] using this
     have MU:∀x∈ars++[(pre.length,id,b)],∃p,all[x.1]?=some p/\aJ P p=true:=by
      intro x hx;rcases cA.mp hx with hx|hx
      ·exact has x hx
      rw[cv] at hx;subst hx;exact⟨o,jq,ha⟩
     obtain⟨es,f',T',U',⟨n,h1⟩,h3,h4,hf,mN,h5,hk,h6⟩:=ih (pre++[o]) ms (id+1) f1 T _ _ mM sk xN (by omega) fN MU hw;rw[dk] at h1 h5 hf mN;have Tz:∀L,ars++(pre.length,id,b)::L=(ars++[(pre.length,id,b)])++L:=fun L=>by rw[cg];rfl
     refine⟨.made v id b::es,f',T',U',⟨n,fun q z7=> ?_⟩,?_,by simp only[bV,Ev.val,hp,h4],by simp only[madeOf];rw[Tz];exact hf,(fun x hx=> ?_),fun jn before hs hb=> ?_,hk,h6⟩
     ·simp only[cf,dH,pV,hq,ha,zt,iV,Ev.val,hp,bb];rw[h1 q z7]
     ·simp only[aE,cE];simpa using h3
     ·simp only[madeOf] at hx;rcases dv.mp hx with rfl|hx
      ·exact⟨bt _,o,jq,ha⟩
      obtain⟨a,c⟩:=mN x hx;exact⟨by omega,c⟩
     simp only[bO,Ev.val,hp,b5,madeOf];rw[Tz];have tQ:jn=before++aE P r es T:=by simpa [aE,cE] using hs
     exact h5 jn before tQ (by rw[<-dk,vM,bA (by simp[cE]),hb])
    |false=>
     rw[yJ _ _ _ _ _ _ _ _ _ hq ha] at hw;rw[ga,bA (by simp[ha])] at fM;have he:bh P o=true:=by simp[bh,hq,ha]
     have kJ:fA o=false:=by
      cases kJ:fA o with
      |false=>rfl
      |true=>rw[wZ kJ] at hq;cases hq
     have hU:=pq (by simp[Ki,kJ,ha]);have fin:∀(v:an) (U1:au) (n0:aC),(∀q,n0<=q->dH P (iZ P lib q) all m id ars o f T=some (.BH v U1))->bQ U U1->(dm f o.dst v fun f' =>gP P lib all r id f' U1 Q)->
       ∃es f' T' U',(∃n,∀m',n<=m' ->cf P (iZ P lib m') all (m::ms) (o::r) pre.length id f T ars=some es)/\(aE P (o::r) es T).getLastD T=T' /\bV (o::r) es f=f' /\Cl.fill (fun _=>true) T' (ars++madeOf es pre.length)=U' /\
        (∀x∈madeOf es pre.length,pre.length<=x.1/\∃p,all[x.1]?=some p/\aJ P p=true)/\
        (∀jn before,jn=before++aE P (o::r) es T->before.length=fG P pre pre.length->bO P all nv (ars++madeOf es pre.length) jn (m::ms) (o::r) es pre.length f=true)/\bQ s0 U' /\Q f' U' :=by
      intro v U1 n0 hd z8 hw;obtain⟨f1,hp,hw⟩:=jA _ _ _ hw;have ux:∀x∈ars,U1.heap.get x.2.1≠none:=fun x hx=>z8.here _ (aF.here x hx)
      have fN:Stands s0 (aO P all) (pre++[o]).length id ars U1 U1:=by
       refine⟨fun p hp=>vx p ars U1 ux,ux,fun x hx=>by have:=aF.before x hx;omega,aF.lo,fun k hk qP=>z8.gone k (by have:=aF.next;omega) (aF.free k hk qP),by have:=aF.next;have:=z8.next;omega,aF.keeps.trans z8⟩
      obtain⟨es,f',T',U',⟨n,h1⟩,h3,h4,hf,mN,h5,hk,h6⟩:=ih (pre++[o]) ms id f1 U1 U1 ars mM sk xN fM fN has hw;rw[dk] at h1 h5 hf mN;refine⟨.BH v U1::es,f',T',U',⟨n+n0,fun q z7=> ?_⟩,?_,by simp only[bV,Ev.val,hp,h4],by simp only[madeOf];exact hf,(fun x hx=>by simp only[madeOf] at hx;obtain⟨a,b⟩:=mN x hx;exact⟨by omega,b⟩),fun jn before hs hb=> ?_,hk,h6⟩
      ·simp only[cf,hd q (by omega),Ev.val,hp,ha];rw[bA (by simp),h1 q (by omega)]
      ·simp only[aE];obtain⟨rr,hr⟩:=dC P r es U1;rw[hr] at h3|-
       rw[b4] at h3|-
       rw[b4];exact h3
      simp only[bO,Ev.val,hp,b5,madeOf];simp only[aE] at hs;refine h5 jn (before++[T]) (by rw[hs,cg];rfl) ?_;rw[<-dk,vM,cp he,cc,hb];rfl
     unfold rh at hw;split at hw
     case h_3=>exact hw.elim
     ·rename_i v U1 er;exact fin v U1 0 (fun q _=>by simp only[dH,pV,hq,ha,hU,er]) (qS aF.keeps.wf er) hw
     rename_i g args er;obtain⟨v,U1,⟨nc,hc⟩,z8,hw⟩:=hw aF.keeps.wf;exact fin v U1 nc (fun q z7=>by simp only[dH,pV,hq,ha,hU,er,hc q z7]) z8 hw
def spare (s:au)(k:aC):au:=⟨s.heap,s.next+k⟩
theorem sl (s:au):spare s 0=s:=rfl
theorem bu (s:au)(k:aC):(spare s k).next=s.next+k:=rfl
theorem aw.spare (s:au)(k:aC):aw s.next s (spare s k):=⟨by simp[Cl.spare],fun _ _=>rfl⟩
theorem cN.tight {P:ab}{lib:aD}{ops:ax aR}(ht:ID P ops=true){f:aZ}{s:au}{Q:aZ->au->Prop}(h:gP P lib ops ops s.next f (spare s (aO P ops)) Q):cN P lib ops f s Q:=by
 intro pZ;simp only[ID,List.all_eq_true,bl,Bool.or_eq_true,Bool.not_eq_true'] at ht;have mB:∀(o:aR) (i:aC),ops[i]?=some o->(o,i)∈ops.zipIdx:=fun o i hi=>by rw[List.mem_zipIdx_iff_getElem?];simpa using hi
 have Ci:(b9 ops []).length=ops.length:=by
  obtain⟨r,h1,h2⟩:=mg ops [];rw[h1];simpa using h2
 have jg:∀k,s.next<=k->s.heap.get k=none:=fun k oK=>by
  cases hg:s.heap.get k with
  |none=>rfl
  |some o=>have:=pZ.bound k o hg;omega
 have Jv:bQ s (spare s (aO P ops)):=⟨by simp[spare],fun _ _ h=>h,fun _ h=>h,⟨by omega,fun j o hj=>by have:=pZ.bound j o hj;simp only[spare];omega⟩⟩;obtain⟨es,f',T',U',⟨n,h1⟩,h3,h4,hf,mN,h5,hk,h6⟩:=FZ (P:=P) (lib:=lib) (all:=ops) s (b9 ops []) (Q:=Q) (fun o i hi hq hp=>by
   have:=(ht (o,i) (mB o i hi)).2;have Ce:=kX P ops 0 i;rw[dA] at Ce;rcases this with h|h
   ·simp[hq,hp] at h
   obtain⟨t1,t2⟩:=h;rw[Ce] at t1 t2;exact⟨by simpa [cU] using t1,by simpa [cz] using t2⟩)
  (fun o p i j hi hj ha gD hn=>by
   have:=(ht (o,i) (mB o i hi)).1 (p,j) (mB p j hj);have hb:a3 j i=true:=by simpa [a0] using gD
   simp only[ha,hb,cond_true,hn] at this
   simpa using this)
  (fun o p i j hi hj ha Dd=>by
   have:=(ht (o,i) (mB o i hi)).1 (p,j) (mB p j hj);have hb:a3 j i=false:=by rw[<-a2,a0];omega
   simp only[ha,hb,cond_false] at this
   simpa using this)
  ops [] (b9 ops []) s.next f (spare s (aO P ops)) (spare s (aO P ops)) [] rfl rfl Ci (by omega)
  ⟨fun _ _=>rfl,fun _ hx=>(by cases hx),fun _ hx=>(by cases hx),bt _,fun k oK _=>jg k oK,by simp[spare],Jv⟩ (fun _ hx=>(by cases hx)) h
 simp only[List.nil_append,List.length_nil] at h1 h5 hf mN;refine⟨f',U',⟨n,fun m hm=> ?_⟩,hk,h6⟩;unfold iC;have MD:=h1 m hm;have hb:b7 0 16000000=true:=rfl;simp only[];show(match cf P (iZ P lib m) ops (b9 ops []) ops 0 s.next f (spare s (aO P ops)) [] with
  |some es=>match bO P ops (b9 ops []) (madeOf es 0) (aE P ops es (spare s (aO P ops))) (b9 ops []) ops es 0 f with
   |true=>some (bV ops es f,Cl.fill (fun _=>true) ((aE P ops es (spare s (aO P ops))).getLastD s) (madeOf es 0))
   |false=>none
  |none=>none)=_
 rw[MD];have h5' :=h5 (aE P ops es (spare s (aO P ops))) [] rfl rfl;simp only[h5',h4];obtain⟨rr,hr⟩:=dC P ops es (spare s (aO P ops));rw[hr] at h3|-
 rw[b4] at h3|-
 rw[h3,hf]
theorem cN.DU {P:ab}{lib:aD}{ops:ax aR}{f:aZ}{s:au}{Q:aZ->au->Prop}(k:aC)(ht:ID P ops=true)(hk:ck (aO P ops) k=true)(h:gP P lib ops ops s.next f (spare s k) Q):AL P lib ops f s Q false:=by
 have:aO P ops=k:=by simpa [cz] using hk
 exact cN.tight ht (by rw[this];exact h)
theorem cN.MV {P:ab}{lib:aD}{ops:ax aR}{f:aZ}{s:au}{Q:aZ->au->Prop}(ht:(ID P ops&&ck (aO P ops) 0)=true)(h:gP P lib ops ops s.next f s Q):AL P lib ops f s Q false:=by
 rw[bl] at ht;exact cN.DU 0 ht.1 ht.2 h
end Go.Cl