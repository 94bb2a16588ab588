/-
 The clean machine, part 20: what a call and a piece of code come to, whatever the fuel beyond some. A reading of code as a sentence.
-/
import Derived.Test.YtdfjfncifneocaaGreatMcB
namespace Go.Cl
theorem ct.refl (s:aq):ct s s (fun _=>none):=⟨rfl,fun _ _ h=>(by cases h),fun _=>rfl⟩
theorem xT {P:Program}{o:Oper}{f:aT}{s:aq}(hw:WF s){v:Value}{t:aq}(h:cM P o f s=some (.val v t)):bN s t:=by
 obtain⟨_,_,_,k⟩:=j6 (ct.refl s) hw h
 exact k
def Runs (P:Program)(lib:az)(g:FuncId)(args:List Value)(s:aq)(Q:Value->aq->Prop):Prop:=
 WF s->∃v s',(∃n,∀m,n<=m->gV P lib m g args s=some (v,s'))/\bN s s' /\Q v s'
def Comes (P:Program)(lib:az)(c:Code)(f:aT)(s:aq)(Q:AX->aT->aq->Prop):Prop:=
 WF s->∃x f' s',(∃n,∀m,n<=m->exec P lib m c f s=some (x,f',s'))/\bN s s' /\Q x f' s'
def Jl (P:Program)(lib:az)(all l:List Oper)(f:aT)(s:aq)(Q:aT->aq->Prop):Prop:=
 WF s->∃f' s',(∃n,∀m,n<=m->fJ P (gV P lib m) all l f s=some (f',s'))/\bN s s' /\Q f' s'
theorem Runs.mono {P:Program}{lib:az}{g:FuncId}{args:List Value}{s:aq}{Q Q' :Value->aq->Prop}(h:Runs P lib g args s Q)(k:∀v s',Q v s' ->Q' v s'):Runs P lib g args s Q' :=by
 intro hw
 obtain⟨v,s',hn,hk,hq⟩:=h hw
 exact⟨v,s',hn,hk,k _ _ hq⟩
theorem Runs.wf {P:Program}{lib:az}{g:FuncId}{args:List Value}{s:aq}{Q:Value->aq->Prop}(h:WF s->Runs P lib g args s Q):Runs P lib g args s Q:=fun hw=>h hw hw
theorem Comes.mono {P:Program}{lib:az}{c:Code}{f:aT}{s:aq}{Q Q' :AX->aT->aq->Prop}(h:Comes P lib c f s Q)(k:∀x f' s',Q x f' s' ->Q' x f' s'):Comes P lib c f s Q' :=by
 intro hw
 obtain⟨x,f',s',hn,hk,hq⟩:=h hw
 exact⟨x,f',s',hn,hk,k _ _ _ hq⟩
def fa (f:aT)(d:Option Tmp)(v:Value)(K:aT->Prop):Prop:=
 match kr f d v with
 |some f' =>K f'
 |none=>False
mutual
def oG (P:Program)(lib:az)(all:List Oper):List Oper->aT->aq->(aT->aq->Prop)->Prop
 |[],f,s,Q=>Q f s
 |o::r,f,s,Q=>
  match cK all o f with
  |true=>
   match cM P o f s with
   |some (.val v s')=>fa f o.dst v fun f' =>oG P lib all r f' s' Q
   |some (.call g args)=>Runs P lib g args s fun v s' =>fa f o.dst v fun f' =>oG P lib all r f' s' Q
   |none=>False
  |false=>fa f o.dst undef fun f' =>oG P lib all r f' s Q
end
def dI (P:Program)(lib:az)(all r:List Oper)(f:aT)(s:aq)(d:Option Tmp)(Q:aT->aq->Prop):Option AR->Prop
 |some (.val v s')=>fa f d v fun f' =>oG P lib all r f' s' Q
 |some (.call g args)=>Runs P lib g args s fun v s' =>fa f d v fun f' =>oG P lib all r f' s' Q
 |none=>False
def Fe (P:Program)(lib:az)(all r:List Oper)(f:aT)(d:Option Tmp)(Q:aT->aq->Prop)(v:Value)(s' :aq):Prop:=fa f d v fun f' =>oG P lib all r f' s' Q
def vO (P:Program)(lib:az)(all:List Oper)(o:Oper)(r:List Oper)(f:aT)(s:aq)(Q:aT->aq->Prop):Bool->Prop
 |true=>dI P lib all r f s o.dst Q (cM P o f s)
 |false=>fa f o.dst undef fun f' =>oG P lib all r f' s Q
theorem BG (P:Program)(lib:az)(all:List Oper)(f:aT)(s:aq)(Q:aT->aq->Prop):oG P lib all [] f s Q=Q f s:=by simp only[oG]
theorem ti (P:Program)(lib:az)(all:List Oper)(o:Oper)(r:List Oper)(f:aT)(s:aq)(Q:aT->aq->Prop):oG P lib all (o::r) f s Q=vO P lib all o r f s Q (cK all o f):=by
 simp only[oG]
 cases cK all o f with
 |false=>rfl
 |true=>
  simp only[vO]
  cases cM P o f s with
  |none=>rfl
  |some a=>cases a<;>rfl
theorem uE (P:Program)(lib:az)(all:List Oper)(o:Oper)(r:List Oper)(f:aT)(s:aq)(Q:aT->aq->Prop):vO P lib all o r f s Q true=dI P lib all r f s o.dst Q (cM P o f s):=rfl
theorem eg (f:aT)(t:Tmp)(v:Value)(K:aT->Prop):fa f (some t) v K=if t<f.n then K (f.put t v) else False:=by
 unfold fa kr
 by_cases h:t<f.n
 ·have hb:Nat.blt t f.n=true:=by simpa [Nat.blt_eq] using h
  simp only[hb,if_true,if_pos h]
 ·have hb:Nat.blt t f.n=false:=by rw[<-Bool.not_eq_true,Nat.blt_eq];exact h
  simp[hb,if_neg h]
theorem Ff (f:aT)(v:Value)(K:aT->Prop):fa f none v K=K f:=rfl
theorem pd (P:Program)(lib:az)(all:List Oper)(op:Op)(ty:TypeId)(ps:String)(af:Array Edge)(gd:Option (Nat×Bool))(r:List Oper)(f:aT)(s:aq)(Q:aT->aq->Prop)(t:Tmp):vO P lib all ⟨some t,op,ty,ps,af,gd⟩ r f s Q false=if t<f.n then oG P lib all r (f.put t undef) s Q else False:=by
 unfold vO;simp only;rw[eg]
theorem pf (P:Program)(lib:az)(all:List Oper)(op:Op)(ty:TypeId)(ps:String)(af:Array Edge)(gd:Option (Nat×Bool))(r:List Oper)(f:aT)(s:aq)(Q:aT->aq->Prop):vO P lib all ⟨none,op,ty,ps,af,gd⟩ r f s Q false=oG P lib all r f s Q:=rfl
theorem xU (P:Program)(lib:az)(all r:List Oper)(f:aT)(s:aq)(t:Tmp)(Q:aT->aq->Prop)(v:Value)(s' :aq):dI P lib all r f s (some t) Q (some (.val v s'))=if t<f.n then oG P lib all r (f.put t v) s' Q else False:=by
 simp only[dI,eg]
theorem se (P:Program)(lib:az)(all r:List Oper)(f:aT)(s:aq)(Q:aT->aq->Prop)(v:Value)(s' :aq):dI P lib all r f s none Q (some (.val v s'))=oG P lib all r f s' Q:=rfl
theorem BH (P:Program)(lib:az)(all r:List Oper)(f:aT)(s:aq)(d:Option Tmp)(Q:aT->aq->Prop)(g:FuncId)(args:List Value):dI P lib all r f s d Q (some (.call g args))=Runs P lib g args s (Fe P lib all r f d Q):=rfl
theorem BI (P:Program)(lib:az)(all r:List Oper)(f:aT)(t:Tmp)(Q:aT->aq->Prop)(v:Value)(s' :aq):Fe P lib all r f (some t) Q v s' =if t<f.n then oG P lib all r (f.put t v) s' Q else False:=by
 simp only[Fe,eg]
theorem BJ (P:Program)(lib:az)(all r:List Oper)(f:aT)(Q:aT->aq->Prop)(v:Value)(s' :aq):Fe P lib all r f none Q v s' =oG P lib all r f s' Q:=rfl
theorem oH {P:Program}{lib:az}{all r:List Oper}{f:aT}{d:Option Tmp}{Q:aT->aq->Prop}{v:Value}{s' :aq}(F:aT->Prop)(h:F f)(k:∀f,F f->Fe P lib all r f d Q v s'):Fe P lib all r f d Q v s' :=k f h
theorem Xo {P:Program}{lib:az}(all:List Oper):∀(l:List Oper) (f:aT) (s:aq) (Q:aT->aq->Prop),oG P lib all l f s Q->Jl P lib all l f s Q:=by
 intro l
 induction l with
 |nil=>intro f s Q h pW;rw[BG] at h;exact⟨f,s,⟨0,fun m _=>rfl⟩,bN.refl pW,h⟩
 |cons o r ih=>
  intro f s Q h pW
  rw[ti] at h
  have nd:∀(v:Value) (s' :aq),(fa f o.dst v fun f' =>oG P lib all r f' s' Q)->∃f1,kr f o.dst v=some f1/\Jl P lib all r f1 s' Q:=by
   intro v s' h
   unfold fa at h
   split at h
   ·exact⟨_,‹_›,ih _ _ _ h⟩
   ·exact h.elim
  cases hw:cK all o f with
  |false=>
   rw[hw] at h
   obtain⟨f1,hp,hc⟩:=nd _ _ h
   obtain⟨f',s',⟨n,hn⟩,hk,hq⟩:=hc pW
   refine⟨f',s',⟨n,fun m hm=> ?_⟩,hk,hq⟩
   simp only[fJ,hw,hp]
   simpa using hn m hm
  |true=>
   rw[hw] at h
   simp only[vO] at h
   unfold dI at h
   split at h
   ·rename_i v s1 fE
    have kD:=xT pW fE
    obtain⟨f1,hp,hc⟩:=nd _ _ h
    obtain⟨f',s',⟨n,hn⟩,hk,hq⟩:=hc kD.wf
    refine⟨f',s',⟨n,fun m hm=> ?_⟩,kD.trans hk,hq⟩
    simp only[fJ,hw,fE,hp]
    simpa using hn m hm
   ·rename_i g args fE
    obtain⟨v,s1,⟨n1,h1⟩,kD,h⟩:=h pW
    obtain⟨f1,hp,hc⟩:=nd _ _ h
    obtain⟨f',s',⟨n,hn⟩,hk,hq⟩:=hc kD.wf
    refine⟨f',s',⟨n+n1,fun m hm=> ?_⟩,kD.trans hk,hq⟩
    simp only[fJ,hw,fE,h1 m (by omega),hp]
    simpa using hn m (by omega)
   ·exact h.elim
def gZ (P:Program)(l:List Oper):Bool:=l.all (aM P)
def jA (P:Program)(all:List Oper):List Oper->aT->aq->(aT->Prop)->Prop
 |[],f,_,Q=>Q f
 |o::r,f,s,Q=>
  match cK all o f with
  |true=>
   match cM P o f s with
   |some (.val v _)=>cf v v=true/\fa f o.dst v fun f' =>jA P all r f' s Q
   |_=>False
  |false=>fa f o.dst undef fun f' =>jA P all r f' s Q
def Jm (P:Program)(all r:List Oper)(f:aT)(s:aq)(d:Option Tmp)(Q:aT->Prop):Option AR->Prop
 |some (.val v _)=>cf v v=true/\fa f d v fun f' =>jA P all r f' s Q
 |_=>False
def Fg (P:Program)(all:List Oper)(o:Oper)(r:List Oper)(f:aT)(s:aq)(Q:aT->Prop):Bool->Prop
 |true=>Jm P all r f s o.dst Q (cM P o f s)
 |false=>fa f o.dst undef fun f' =>jA P all r f' s Q
theorem uF (P:Program)(all:List Oper)(f:aT)(s:aq)(Q:aT->Prop):jA P all [] f s Q=Q f:=rfl
theorem sf (P:Program)(all:List Oper)(o:Oper)(r:List Oper)(f:aT)(s:aq)(Q:aT->Prop):jA P all (o::r) f s Q=Fg P all o r f s Q (cK all o f):=by
 simp only[jA]
 cases cK all o f with
 |false=>rfl
 |true=>
  simp only[Fg]
  cases cM P o f s with
  |none=>rfl
  |some a=>cases a<;>rfl
theorem BK (P:Program)(all:List Oper)(o:Oper)(r:List Oper)(f:aT)(s:aq)(Q:aT->Prop):Fg P all o r f s Q true=Jm P all r f s o.dst Q (cM P o f s):=rfl
theorem pg (P:Program)(all:List Oper)(op:Op)(ty:TypeId)(ps:String)(af:Array Edge)(gd:Option (Nat×Bool))(r:List Oper)(f:aT)(s:aq)(Q:aT->Prop)(t:Tmp):Fg P all ⟨some t,op,ty,ps,af,gd⟩ r f s Q false=if t<f.n then jA P all r (f.put t undef) s Q else False:=by
 unfold Fg;simp only;rw[eg]
theorem Fh (P:Program)(all r:List Oper)(f:aT)(s:aq)(t:Tmp)(Q:aT->Prop)(v:Value)(s' :aq):Jm P all r f s (some t) Q (some (.val v s'))=if cf v v=true/\t<f.n then jA P all r (f.put t v) s Q else False:=by
 simp only[Jm,eg]
 by_cases h1:cf v v=true<;>by_cases h2:t<f.n<;>simp[h1,h2]
theorem tV {P:Program}:∀{l:List Oper},gZ P l=true->(∀o∈l,aM P o=true)/\aP P l=0:=by
 intro l
 induction l with
 |nil=>intro _;exact⟨fun o h=>(by cases h),rfl⟩
 |cons o r ih=>
  intro h
  simp only[gZ,List.all_cons,Bool.and_eq_true] at h
  obtain⟨h1,h2⟩:=ih (by simpa [gZ] using h.2)
  have Mn:aK P o=false:=by
   obtain⟨dst,op,type,pos,after,guard⟩:=o
   cases op<;>simp_all[aM,aK]
   case convert a b x=>
    simp only[iQ]
    split
    ·rename_i _ e hb;simp_all
    ·rfl
  exact⟨fun p hp=>(List.mem_cons.mp hp).elim (fun e=>e▸h.1) (fun hp=>h1 p hp),by simp[aP,Mn,h2]⟩
theorem lR {P:Program}{o:Oper}(hq:aM P o=true):aK P o=false:=by
 have:=(tV (P:=P) (l:=[o]) (by simp[gZ,hq])).2
 simp only[aP] at this
 cases h:aK P o with
 |false=>rfl
 |true=>rw[h] at this;simp at this
theorem kE {P:Program}{o:Oper}(hq:aM P o=true):bd P o=false:=by simp[bd,hq]
theorem Ef {P:Program}{all:List Oper}{s:aq}(vP:List Nat){Q:aT->Prop}:∀(l:List Oper) (ms:List Nat) (i id:Nat) (f:aT),(∀o∈l,aM P o=true)->ms.length=l.length->jA P all l f s Q->
  ∃es f',(∀call,cG P call all ms l i id f s []=some es)/\(∀k,madeOf es k=[])/\aF P l es s=[s]/\cL l es f=f' /\cr P all vP [] [s] ms l es i f=true/\Q f' :=by
 intro l
 induction l with
 |nil=>
  intro ms i id f _ hl hw
  rw[uF] at hw
  cases ms with
  |cons m r=>simp at hl
  |nil=>exact⟨[],f,fun _=>rfl,fun _=>rfl,rfl,rfl,rfl,hw⟩
 |cons o r ih=>
  intro ms i id f hq hl hw
  cases ms with
  |nil=>simp at hl
  |cons m ms=>
  have hqo:=hq o (List.mem_cons_self ..)
  have Mn:=lR hqo
  have ck:=kE hqo
  have hqr:∀p∈r,aM P p=true:=fun p hp=>hq p (List.mem_cons_of_mem _ hp)
  have Jo:ms.length=r.length:=by simpa using hl
  rw[sf] at hw
  have nd:∀(v:Value),(fa f o.dst v fun f' =>jA P all r f' s Q)->∃f1,kr f o.dst v=some f1/\jA P all r f1 s Q:=by
   intro v h
   unfold fa at h
   split at h
   ·exact⟨_,‹_›,h⟩
   ·exact h.elim
  cases xy:cK all o f with
  |false=>
   rw[xy] at hw
   obtain⟨f1,hp,hw⟩:=nd _ hw
   obtain⟨es,f',h1,h2,h3,h4,h5,h6⟩:=ih ms (i+1) id f1 hqr Jo hw
   refine⟨.skip::es,f',fun call=> ?_,fun k=> ?_,?_,?_,?_,h6⟩
   ·simp only[cG,dL,xy,Ev.val,hp,Mn]
    rw[if_neg (by simp),h1 call]
   ·simp only[madeOf,h2]
   ·simp only[aF,ck,h3];simp
   ·simp only[cL,Ev.val,hp,h4]
   ·simp only[cr,Ev.val,hp,h5];rfl
  |true=>
   rw[xy] at hw
   simp only[Fg] at hw
   unfold Jm at hw
   split at hw
   case h_2=>exact hw.elim
   rename_i v s1 fE
   obtain⟨hv,hw⟩:=hw
   obtain⟨f1,hp,hw⟩:=nd _ hw
   obtain⟨es,f',h1,h2,h3,h4,h5,h6⟩:=ih ms (i+1) id f1 hqr Jo hw
   refine⟨.quiet v::es,f',fun call=> ?_,fun k=> ?_,?_,?_,?_,h6⟩
   ·simp only[cG,dL,xy,hqo,Cl.fill,fE,Ev.val,hp,Mn]
    rw[if_neg (by simp),h1 call]
   ·simp only[madeOf,h2]
   ·simp only[aF,ck,h3];simp
   ·simp only[cL,Ev.val,hp,h4]
   ·simp only[cr,Ev.val,hp,h5,Bool.and_true]
    have vA:∀(L:List aq),(∀x∈L,x=s)->sameAt P m [] o f v L=true:=by
     intro L
     induction L with
     |nil=>intro _;rfl
     |cons x L QM=>
      intro hx
      obtain rfl:=hx x (List.mem_cons_self ..)
      simp only[sameAt,Cl.fill,fE,hv,Bool.true_and]
      exact QM (fun y hy=>hx y (List.mem_cons_of_mem _ hy))
    exact vA _ (fun x hx=>by simpa using List.mem_of_mem_take (List.mem_of_mem_drop hx))
theorem Eg {P:Program}{ops:List Oper}(hq:gZ P ops=true){f:aT}{s:aq}{Q:aT->Prop}(h:jA P ops ops f s Q):∃f',(∀call,fj P call ops f s=some (f',s))/\Q f' :=by
 obtain⟨hqs,Tl⟩:=tV hq
 have OG:(cq ops []).length=ops.length:=by
  obtain⟨r,h1,h2⟩:=mM ops []
  rw[h1];simpa using h2
 obtain⟨es,f',h1,h2,h3,h4,h5,h6⟩:=Ef (cq ops []) ops (cq ops []) 0 s.next f hqs OG h
 refine⟨f',fun call=> ?_,h6⟩
 have hs:(⟨s.heap,s.next+aP P ops⟩:aq)=s:=by rw[Tl];rfl
 unfold fj
 rw[hs,h1 call]
 simp only[h2,h3,h5,h4,Cl.fill,List.getLastD]
 rfl
def da (P:Program)(lib:az)(ops:List Oper)(f:aT)(s:aq)(Q:aT->aq->Prop):Prop:=
 WF s->∃f' s',(∃n,∀m,n<=m->fj P (gV P lib m) ops f s=some (f',s'))/\bN s s' /\Q f' s'
def Fi (P:Program)(lib:az)(ops:List Oper)(f:aT)(s:aq)(Q:aT->aq->Prop):Bool->Prop
 |true=>jA P ops ops f s (fun f' =>Q f' s)
 |false=>da P lib ops f s Q
def OJ (id:Nat):AX->AX
 | .exit j=>if j=id then .normal else .exit j
 |x=>x
def eh (P:Program)(lib:az):Code->aT->aq->(AX->aT->aq->Prop)->Prop
 | .skip,f,s,Q=>Q .normal f s
 | .label _,f,s,Q=>Q .normal f s
 | .region _ ops d,f,s,Q=>
  match d with
  |false=>oG P lib ops.toList ops.toList f s (Q .normal)
  |true=>Fi P lib ops.toList f s (Q .normal) (gZ P ops.toList)
 | .seq a b,f,s,Q=>eh P lib a f s fun x f' s' =>
  match x with
  | .normal=>eh P lib b f' s' Q
  |x=>Q x f' s'
 | .cond x a b,f,s,Q=>
  match aO f x with
  |some (.bool t)=>
   match t with
   |true=>eh P lib a f s Q
   |false=>eh P lib b f s Q
  |_=>False
 | .block id a,f,s,Q=>eh P lib a f s fun x f' s' =>Q (OJ id x) f' s'
 | .loop a,f,s,Q=>Comes P lib (.loop a) f s Q
 | .exit id,f,s,Q=>Q (.exit id) f s
 | .scope a,f,s,Q=>eh P lib a f s Q
 | .ret,f,s,Q=>Q .ret f s
 |_,_,_,_=>False
def Fj (P:Program)(lib:az)(b:Code)(Q:AX->aT->aq->Prop)(x:AX)(f' :aT)(s' :aq):Prop:=
 match x with
 | .normal=>eh P lib b f' s' Q
 |x=>Q x f' s'
def TD (id:Nat)(Q:AX->aT->aq->Prop)(x:AX)(f' :aT)(s' :aq):Prop:=Q (OJ id x) f' s'
def TE (P:Program)(lib:az)(a b:Code)(f:aT)(s:aq)(Q:AX->aT->aq->Prop):Bool->Prop
 |true=>eh P lib a f s Q
 |false=>eh P lib b f s Q
def TF (P:Program)(lib:az)(a b:Code)(f:aT)(s:aq)(Q:AX->aT->aq->Prop):Option Value->Prop
 |some (.bool t)=>TE P lib a b f s Q t
 |_=>False
section
variable (P:Program) (lib:az) (f:aT) (s:aq) (Q:AX->aT->aq->Prop)
theorem BL:eh P lib .skip f s Q=Q .normal f s:=rfl
theorem vQ (id:Nat)(ops:Array Oper):eh P lib (.region id ops false) f s Q=oG P lib ops.toList ops.toList f s (Q .normal):=rfl
theorem BM (id:Nat)(ops:Array Oper):eh P lib (.region id ops true) f s Q=Fi P lib ops.toList f s (Q .normal) (gZ P ops.toList):=rfl
theorem BN (ops:List Oper)(R:aT->aq->Prop):Fi P lib ops f s R true=jA P ops ops f s (fun f' =>R f' s):=rfl
theorem Fk (a b:Code):eh P lib (.seq a b) f s Q=eh P lib a f s (Fj P lib b Q):=rfl
theorem vR (b:Code):Fj P lib b Q .normal f s=eh P lib b f s Q:=rfl
theorem Fm (b:Code):Fj P lib b Q .ret f s=Q .ret f s:=rfl
theorem BO (b:Code)(id:Nat):Fj P lib b Q (.exit id) f s=Q (.exit id) f s:=rfl
theorem uG (x:Operand)(a b:Code):eh P lib (.cond x a b) f s Q=TF P lib a b f s Q (aO f x):=by
 simp only[eh]
 cases aO f x with
 |none=>rfl
 |some v=>cases v<;>first|rfl|(rename_i t;cases t<;>rfl)
theorem BP (a b:Code)(t:Bool):TF P lib a b f s Q (some (.bool t))=TE P lib a b f s Q t:=rfl
theorem Jp (a b:Code):TE P lib a b f s Q true=eh P lib a f s Q:=rfl
theorem Fo (a b:Code):TE P lib a b f s Q false=eh P lib b f s Q:=rfl
theorem y6 (id:Nat)(a:Code):eh P lib (.block id a) f s Q=eh P lib a f s (TD id Q):=rfl
theorem y7 (id:Nat):TD id Q .normal f s=Q .normal f s:=rfl
theorem Jq (id:Nat):TD id Q .ret f s=Q .ret f s:=rfl
theorem Fp (id j:Nat):TD id Q (.exit j) f s=if j=id then Q .normal f s else Q (.exit j) f s:=by
 simp only[TD,OJ];split<;>rfl
theorem BQ (a:Code):eh P lib (.loop a) f s Q=Comes P lib (.loop a) f s Q:=rfl
theorem BR (id:Nat):eh P lib (.exit id) f s Q=Q (.exit id) f s:=rfl
theorem y8 (a:Code):eh P lib (.scope a) f s Q=eh P lib a f s Q:=rfl
theorem Fq:eh P lib .ret f s Q=Q .ret f s:=rfl
end
theorem iq {P:Program}{lib:az}{a b:Code}{f:aT}{s:aq}{Q:AX->aT->aq->Prop}{t:Bool}(h1:t=true->eh P lib a f s Q)(h2:t=false->eh P lib b f s Q):TE P lib a b f s Q t:=by
 cases t
 ·exact h2 rfl
 ·exact h1 rfl
theorem Jr {P:Program}{lib:az}:∀(c:Code) (f:aT) (s:aq) (Q:AX->aT->aq->Prop),eh P lib c f s Q->Comes P lib c f s Q:=by
 intro c
 induction c with
 |skip=>intro f s Q h pW;exact⟨.normal,f,s,⟨1,fun m hm=>by obtain⟨k,rfl⟩:∃k,m=k+1:=⟨m-1,by omega⟩;rfl⟩,bN.refl pW,h⟩
 |label l=>intro f s Q h pW;exact⟨.normal,f,s,⟨1,fun m hm=>by obtain⟨k,rfl⟩:∃k,m=k+1:=⟨m-1,by omega⟩;rfl⟩,bN.refl pW,h⟩
 |exit id=>intro f s Q h pW;exact⟨.exit id,f,s,⟨1,fun m hm=>by obtain⟨k,rfl⟩:∃k,m=k+1:=⟨m-1,by omega⟩;rfl⟩,bN.refl pW,h⟩
 |ret=>intro f s Q h pW;exact⟨.ret,f,s,⟨1,fun m hm=>by obtain⟨k,rfl⟩:∃k,m=k+1:=⟨m-1,by omega⟩;rfl⟩,bN.refl pW,h⟩
 |loop a _=>intro f s Q h;exact h
 |rangeFunc=>intro f s Q h;exact h.elim
 |goto=>intro f s Q h;exact h.elim
 |refuse=>intro f s Q h;exact h.elim
 |region id ops d=>
  intro f s Q h pW
  have fin:∀f' s',(∃n,∀m,n<=m->(match d with
    |false=>fJ P (gV P lib m) ops.toList ops.toList f s
    |true=>fj P (gV P lib m) ops.toList f s)=some (f',s'))->bN s s' ->Q .normal f' s' ->∃x f' s',(∃n,∀m,n<=m->exec P lib m (.region id ops d) f s=some (x,f',s'))/\bN s s' /\Q x f' s' :=by
   rintro f' s' ⟨n,hn⟩ hk hq
   refine⟨.normal,f',s',⟨n+1,fun m hm=> ?_⟩,hk,hq⟩
   obtain⟨k,rfl⟩:∃k,m=k+1:=⟨m-1,by omega⟩
   have:=hn k (by omega)
   simp only[exec,step]
   have e:gV P lib k=dP P lib (exec P lib k):=rfl
   rw[e] at this
   cases d<;>(simp only at this;simp only[this])
  cases d with
  |false=>
   obtain⟨f',s',hn,hk,hq⟩:=Xo _ _ _ _ _ h pW
   exact fin f' s' hn hk hq
  |true=>
   simp only[eh] at h
   cases hq:gZ P ops.toList with
   |true=>
    rw[hq] at h
    obtain⟨f',h1,h2⟩:=Eg hq h
    exact fin f' s ⟨0,fun m _=>h1 _⟩ (bN.refl pW) h2
   |false=>
    rw[hq] at h
    obtain⟨f',s',h1,hk,h2⟩:=h pW
    exact fin f' s' h1 hk h2
 |seq a b iha ihb=>
  intro f s Q h pW
  obtain⟨x,f1,s1,⟨n1,h1⟩,kD,h⟩:=iha f s _ h pW
  cases x with
  |normal=>
   obtain⟨x,f2,s2,⟨n2,h2⟩,mv,h⟩:=ihb f1 s1 _ h kD.wf
   refine⟨x,f2,s2,⟨n1+n2+1,fun m hm=> ?_⟩,kD.trans mv,h⟩
   obtain⟨k,rfl⟩:∃k,m=k+1:=⟨m-1,by omega⟩
   simp only[exec,step,h1 k (by omega),h2 k (by omega)]
  |exit id=>
   refine⟨_,f1,s1,⟨n1+1,fun m hm=> ?_⟩,kD,h⟩
   obtain⟨k,rfl⟩:∃k,m=k+1:=⟨m-1,by omega⟩
   simp only[exec,step,h1 k (by omega)]
  |ret=>
   refine⟨_,f1,s1,⟨n1+1,fun m hm=> ?_⟩,kD,h⟩
   obtain⟨k,rfl⟩:∃k,m=k+1:=⟨m-1,by omega⟩
   simp only[exec,step,h1 k (by omega)]
 |cond y a b iha ihb=>
  intro f s Q h pW
  rw[uG] at h
  unfold TF at h
  split at h
  ·rename_i t ht
   cases t with
   |true=>
    obtain⟨x,f1,s1,⟨n1,h1⟩,kD,h⟩:=iha f s _ h pW
    refine⟨_,f1,s1,⟨n1+1,fun m hm=> ?_⟩,kD,h⟩
    obtain⟨k,rfl⟩:∃k,m=k+1:=⟨m-1,by omega⟩
    simp only[exec,step,ht,h1 k (by omega)]
   |false=>
    obtain⟨x,f1,s1,⟨n1,h1⟩,kD,h⟩:=ihb f s _ h pW
    refine⟨_,f1,s1,⟨n1+1,fun m hm=> ?_⟩,kD,h⟩
    obtain⟨k,rfl⟩:∃k,m=k+1:=⟨m-1,by omega⟩
    simp only[exec,step,ht,h1 k (by omega)]
  ·exact h.elim
 |block id a iha=>
  intro f s Q h pW
  obtain⟨x,f1,s1,⟨n1,h1⟩,kD,h⟩:=iha f s _ h pW
  refine⟨_,f1,s1,⟨n1+1,fun m hm=> ?_⟩,kD,h⟩
  obtain⟨k,rfl⟩:∃k,m=k+1:=⟨m-1,by omega⟩
  simp only[exec,step,h1 k (by omega)]
  cases x with
  |normal=>rfl
  |ret=>rfl
  |exit j=>
   simp only[OJ]
   by_cases hj:j=id
   ·rw[if_pos hj,if_pos (by simpa [Nat.beq_eq] using hj)]
   ·rw[if_neg hj,if_neg (by simpa [Nat.beq_eq] using hj)]
 |scope a iha=>
  intro f s Q h pW
  obtain⟨x,f1,s1,⟨n1,h1⟩,kD,h⟩:=iha f s _ h pW
  refine⟨_,f1,s1,⟨n1+1,fun m hm=> ?_⟩,kD,h⟩
  obtain⟨k,rfl⟩:∃k,m=k+1:=⟨m-1,by omega⟩
  simp only[exec,step,h1 k (by omega)]
def xV (Inv:Nat->aT->aq->Prop)(k:Nat)(Q:AX->aT->aq->Prop):AX->aT->aq->Prop
 | .normal,f,s=>∃j,j<k/\Inv j f s
 |x,f,s=>Q x f s
theorem au {Inv:Nat->aT->aq->Prop}{k:Nat}{Q:AX->aT->aq->Prop}{f:aT}{s:aq}(j:Nat)(hj:j<k)(h:Inv j f s):xV Inv k Q .normal f s:=⟨j,hj,h⟩
theorem BS (Inv:Nat->aT->aq->Prop)(k:Nat)(Q:AX->aT->aq->Prop)(f:aT)(s:aq):xV Inv k Q .ret f s=Q .ret f s:=rfl
theorem y9 (Inv:Nat->aT->aq->Prop)(k:Nat)(Q:AX->aT->aq->Prop)(f:aT)(s:aq)(id:Nat):xV Inv k Q (.exit id) f s=Q (.exit id) f s:=rfl
theorem Comes.loop {P:Program}{lib:az}{a:Code}{Q:AX->aT->aq->Prop}(Inv:Nat->aT->aq->Prop)(hr:∀k f s,Inv k f s->eh P lib a f s (xV Inv k Q)):∀k f s,Inv k f s->Comes P lib (.loop a) f s Q:=by
 intro k
 induction k using Nat.strongRecOn with
 |_ k ih=>
  intro f s hi pW
  obtain⟨x,f1,s1,⟨n1,h1⟩,kD,h⟩:=Jr _ _ _ _ (hr k f s hi) pW
  cases x with
  |normal=>
   obtain⟨j,hj,vF⟩:=h
   obtain⟨x,f2,s2,⟨n2,h2⟩,mv,h⟩:=ih j hj f1 s1 vF kD.wf
   refine⟨x,f2,s2,⟨n1+n2+1,fun m hm=> ?_⟩,kD.trans mv,h⟩
   obtain⟨m,rfl⟩:∃k,m=k+1:=⟨m-1,by omega⟩
   simp only[exec,step,h1 m (by omega),h2 m (by omega)]
  |exit id=>
   refine⟨_,f1,s1,⟨n1+1,fun m hm=> ?_⟩,kD,h⟩
   obtain⟨m,rfl⟩:∃k,m=k+1:=⟨m-1,by omega⟩
   simp only[exec,step,h1 m (by omega)]
  |ret=>
   refine⟨_,f1,s1,⟨n1+1,fun m hm=> ?_⟩,kD,h⟩
   obtain⟨m,rfl⟩:∃k,m=k+1:=⟨m-1,by omega⟩
   simp only[exec,step,h1 m (by omega)]
theorem Comes.eU {P:Program}{lib:az}{a:Code}{Q:AX->aT->aq->Prop}{f:aT}{s:aq}(Inv:Nat->aT->aq->Prop){k:Nat}(h0:Inv k f s)(hr:∀k f s,Inv k f s->eh P lib a f s (xV Inv k Q)):Comes P lib (.loop a) f s Q:=
 Comes.loop Inv hr k f s h0
theorem Comes.bK {P:Program}{lib:az}{a:Code}{Q' :AX->aT->aq->Prop}{f:aT}{s:aq}(Inv:Nat->aT->aq->Prop)(Out:AX->aT->aq->Prop){k:Nat}(h0:Inv k f s)
  (hr:∀Q:AX->aT->aq->Prop,(∀x f s,Out x f s->Q x f s)->∀k f s,Inv k f s->eh P lib a f s (xV Inv k Q)) (ho:∀x f s,Out x f s->Q' x f s):Comes P lib (.loop a) f s Q' :=
 (Comes.eU (Q:=Out) Inv h0 (hr Out (fun _ _ _ h=>h))).mono ho
def QN (s:aq)(Q:Value->aq->Prop):Option (List Value)->Prop
 |some l=>Q (oneOf l) s
 |none=>False
def WE (P:Program)(rs:List ResultVar)(Q:Value->aq->Prop)(x:AX)(f:aT)(s:aq):Prop:=
 match x with
 | .exit _=>False
 |_=>QN s Q (cy P f s rs)
theorem al (P:Program)(rs:List ResultVar)(Q:Value->aq->Prop)(f:aT)(s:aq):WE P rs Q .ret f s=QN s Q (cy P f s rs):=rfl
theorem ah (P:Program)(rs:List ResultVar)(Q:Value->aq->Prop)(f:aT)(s:aq):WE P rs Q .normal f s=QN s Q (cy P f s rs):=rfl
theorem Fs (s:aq)(Q:Value->aq->Prop)(l:List Value):QN s Q (some l)=Q (oneOf l) s:=rfl
theorem Runs.Xp {P:Program}{lib:az}{g:FuncId}{args:List Value}{s:aq}{Q:Value->aq->Prop}{fn:Func}{c:Code}(hg:P.funcs[g]?=some fn)(hb:fn.body=some c)(hl:lib.at g=none)(hn:Nat.ble (args.length+(fn.ntmps-args.length)) 16000000=true)
  (h:Comes P lib c (mW fn args) s (WE P fn.results.toList Q)):Runs P lib g args s Q:=by
 intro pW
 obtain⟨x,f1,s1,⟨n1,h1⟩,kD,h⟩:=h pW
 have go:∀l,cy P f1 s1 fn.results.toList=some l->Q (oneOf l) s1->(x= .normal\/x= .ret)->∃v s',(∃n,∀m,n<=m->gV P lib m g args s=some (v,s'))/\bN s s' /\Q v s' :=by
  intro l hr hq hx
  refine⟨oneOf l,s1,⟨n1,fun m hm=> ?_⟩,kD,hq⟩
  have h1:=h1 m hm
  rcases hx with rfl|rfl
  ·simp only[gV,dP,hl,hg,hb,hn,h1,hr]
  ·simp only[gV,dP,hl,hg,hb,hn,h1,hr]
 cases x with
 |exit id=>exact h.elim
 |normal=>
  simp only[WE,QN] at h
  split at h
  ·exact go _ ‹_› h (.inl rfl)
  ·exact h.elim
 |ret=>
  simp only[WE,QN] at h
  split at h
  ·exact go _ ‹_› h (.inr rfl)
  ·exact h.elim
end Go.Cl
namespace Go.Cl
theorem aa (f:aT)(t u:Nat)(v:Value):(f.put t v).get u=if t=u then v else f.get u:=by
 by_cases h:t=u
 ·subst h;simp only[aT.get,aT.put,Tr.bp _ _ _ _ (deep (by omega)),if_pos]
 ·simp only[aT.get,aT.put,Tr.bZ _ _ _ _ _ h,if_neg h]
theorem ag (f:aT)(t:Nat)(v:Value):(f.put t v).n=f.n:=rfl
theorem Xq (fn:Func)(args:List Value):(mW fn args).n=args.length+(fn.ntmps-args.length):=rfl
theorem QO (fn:Func)(args:List Value)(t:Nat):(mW fn args).get t=args.getD t undef:=by
 simp only[mW,aT.get,BF args .nil 0 t (by omega),Nat.zero_le,true_and,Nat.zero_add,Nat.sub_zero]
 by_cases h:t<args.length
 ·simp only[if_pos h]
 ·simp only[if_neg h,Tr.get]
  simp[List.getD,List.getElem?_eq_none (Nat.le_of_not_lt h)]
theorem xW (f:aT)(t:Tmp):aO f (.tmp t)=if t<f.n then some (f.get t) else none:=by
 unfold aO
 by_cases h:t<f.n
 ·have hb:Nat.blt t f.n=true:=by simpa [Nat.blt_eq] using h
  simp only[hb,if_true,if_pos h]
 ·have hb:Nat.blt t f.n=false:=by rw[<-Bool.not_eq_true,Nat.blt_eq];exact h
  simp[hb,if_neg h]
theorem BT (f:aT)(b:Bool):aO f (.const (.bool b))=some (.bool b):=rfl
theorem Ft (f:aT)(k:IntKind)(n:Int):aO f (.const (.int k n))=some (.int k n):=rfl
theorem vS (f:aT)(b:ByteArray):aO f (.const (.string b))=some (.string b):=rfl
theorem BU (f:aT):aO f (.const (.slice none 0 0))=some (.slice none 0 0):=rfl
theorem BV (f:aT):aO f (.const (.pointer none))=some (.pointer none):=rfl
theorem BW (f:aT):aO f (.const (.map none))=some (.map none):=rfl
theorem BX (f:aT)(g:FuncId):aO f (.func g)=some (.func (.func g) #[] #[]):=rfl
theorem Runs.enter {P:Program}{lib:az}{g:FuncId}{args:List Value}{s:aq}{Q:Value->aq->Prop}{fn:Func}{c:Code}(N:Nat)(hg:P.funcs[g]?=some fn)(hb:fn.body=some c)(hl:lib.at g=none)(hN:args.length+(fn.ntmps-args.length)=N)(hn:Nat.ble N 16000000=true)
  (h:∀f:aT,f.n=N->(∀t,f.get t=args.getD t undef)->eh P lib c f s (WE P fn.results.toList Q)):Runs P lib g args s Q:=
 Runs.Xp hg hb hl (by rw[hN];exact hn) (Jr _ _ _ _ (h _ (by rw[Xq,hN]) (QO fn args)))
section
variable (P:Program) (f:aT) (s:aq) (d:Option Tmp) (ty:TypeId) (ps:String) (af:Array Edge) (gd:Option (Nat×Bool))
theorem Js (x:Operand):cM P ⟨d,.move x,ty,ps,af,gd⟩ f s=oW s (aO f x):=rfl
theorem BZ (x:Operand):cM P ⟨d,.assign x,ty,ps,af,gd⟩ f s=oW s (aO f x):=rfl
theorem B0 (c a b:Operand):cM P ⟨d,.pick c a b,ty,ps,af,gd⟩ f s=match aO f c,aO f a,aO f b with
  |some (.bool t),some u,some v=>some (.val (if t then u else v) s)
  |_,_,_=>none:=rfl
theorem Fu (e:TypeId):cM P ⟨d,.alloc e,ty,ps,af,gd⟩ f s=match bW P e with
  |some z=>if bP z then nO (eR s z.cells.toList (AW P e)) else none
  |none=>none:=rfl
theorem OK (e:TypeId)(x:Operand):cM P ⟨d,.box e x,ty,ps,af,gd⟩ f s=match aO f x with
  |some v=>nO (eR s v.cells.toList (AW P e))
  |none=>none:=rfl
theorem xX (t:TypeId)(q:Array (Nat×Operand)):cM P ⟨d,.build t q,ty,ps,af,gd⟩ f s=match ae f q.toList with
  |some l=>oW s (cE P t l)
  |none=>none:=rfl
theorem si (t:TypeId)(n:Nat)(q:Array (Nat×Operand)):cM P ⟨d,.buildSlice t n q,ty,ps,af,gd⟩ f s=match ae f q.toList with
  |some l=>nO (aL P s t n l)
  |none=>none:=rfl
theorem B1 (t:TypeId)(x:Operand):cM P ⟨d,.load t x,ty,ps,af,gd⟩ f s=match aO f x with
  |some a=>oW s (aR P s t a)
  |none=>none:=rfl
theorem Fv (t:TypeId)(x y:Operand):cM P ⟨d,.store t x y,ty,ps,af,gd⟩ f s=match aO f x,aO f y with
  |some a,some v=>AY (dE P s t a v)
  |_,_=>none:=rfl
theorem qg (x:Operand):cM P ⟨d,.nilCheck x,ty,ps,af,gd⟩ f s=match aO f x with
  |some (.pointer (some a))=>some (.val (.pointer (some a)) s)
  |some (.func (.func g) arv bs)=>some (.val (.func (.func g) arv bs) s)
  |_=>none:=rfl
theorem xY (op:BinOp)(t t2:TypeId)(x y:Operand):cM P ⟨d,.binOp op t x y t2,ty,ps,af,gd⟩ f s=match aO f x,aO f y with
  |some u,some v=>oW s (cI P op t u v)
  |_,_=>none:=rfl
theorem B2 (op:UnOp)(t:TypeId)(x:Operand):cM P ⟨d,.unOp op t x,ty,ps,af,gd⟩ f s=match aO f x with
  |some u=>oW s (Ze op u)
  |none=>none:=rfl
theorem sj (a b:TypeId)(x:Operand):cM P ⟨d,.convert a b x,ty,ps,af,gd⟩ f s=match aO f x with
  |some u=>nO (fW P s a b u)
  |none=>none:=rfl
theorem za (t:TypeId):cM P ⟨d,.makeMap t none,ty,ps,af,gd⟩ f s=some (.val (.map (some s.next)) (s.new (.map []))):=rfl
theorem tW (t:TypeId)(x y:Operand):cM P ⟨d,.makeSlice t x y,ty,ps,af,gd⟩ f s=match aO f x,aO f y with
  |some u,some v=>nO (eS P s t u v)
  |_,_=>none:=rfl
theorem xZ (t:TypeId)(x:Operand)(lo hi mx:Option Operand):cM P ⟨d,.slice t x lo hi mx,ty,ps,af,gd⟩ f s=match aO f x,ai f lo,ai f hi,ai f mx with
  |some u,some l,some h,some m=>oW s (du P s t u l h m)
  |_,_,_,_=>none:=rfl
theorem oI (t:TypeId)(x:Operand)(i:Nat):cM P ⟨d,.fieldAddr t x i,ty,ps,af,gd⟩ f s=match aO f x with
  |some u=>oW s (ay P t u i)
  |none=>none:=rfl
theorem x4 (t:TypeId)(x:Operand)(i:Nat):cM P ⟨d,.field t x i,ty,ps,af,gd⟩ f s=match aO f x with
  |some u=>oW s (AU P t u i)
  |none=>none:=rfl
theorem oJ (t:TypeId)(x y:Operand):cM P ⟨d,.indexAddr t x y,ty,ps,af,gd⟩ f s=match aO f x,aO f y with
  |some u,some v=>oW s (bQ P t u v)
  |_,_=>none:=rfl
theorem x5 (t:TypeId)(x y:Operand):cM P ⟨d,.index t x y,ty,ps,af,gd⟩ f s=match aO f x,aO f y with
  |some u,some v=>oW s (rC P t u v)
  |_,_=>none:=rfl
theorem B3 (t:TypeId)(x y:Operand)(ok:Bool):cM P ⟨d,.lookup t x y ok,ty,ps,af,gd⟩ f s=match aO f x,aO f y with
  |some u,some v=>oW s (mo P s t u v ok)
  |_,_=>none:=rfl
theorem tX (t:TypeId)(x y z:Operand):cM P ⟨d,.mapUpdate t x y z,ty,ps,af,gd⟩ f s=match aO f x,aO f y,aO f z with
  |some m,some k,some v=>AY (fy P s t m k v)
  |_,_,_=>none:=rfl
theorem sk (x:Operand)(i:Nat):cM P ⟨d,.extract x i,ty,ps,af,gd⟩ f s=match aO f x with
  |some u=>oW s (ba u i)
  |none=>none:=rfl
theorem sl (x:Operand)(args:Array Operand)(ts:Array TypeId):cM P ⟨d,.call ⟨.value x,args,ts⟩,ty,ps,af,gd⟩ f s=match ad f args.toList with
  |some l=>match aO f x with
   |some (.func (.func g) arv bs)=>some (.call g (arv.toList++l++bs.toList))
   |_=>none
  |none=>none:=rfl
theorem ir (b:Builtin)(args:Array Operand)(ts:Array TypeId):cM P ⟨d,.call ⟨.builtin b,args,ts⟩,ty,ps,af,gd⟩ f s=match ad f args.toList with
  |some l=>iP P s b ts.toList l
  |none=>none:=rfl
theorem sm (all:List Oper)(op:Op):cK all ⟨d,op,ty,ps,af,none⟩ f=true:=rfl
theorem zb (all:List Oper)(op:Op)(j:Nat)(w:Bool):cK all ⟨d,op,ty,ps,af,some (j,w)⟩ f=match pZ all f j with
  |some b=>b==w
  |none=>false:=rfl
def yieldOf (f:aT):List Oper->Option Bool
 |o::_=>
  match o.dst with
  |some d=>if d<f.n then(match f.get d with
   | .bool b=>some b
   |_=>none) else none
  |none=>none
 |[]=>none
theorem Fw (all:List Oper)(j:Nat):pZ all f j=yieldOf f (all.drop j):=by
 unfold pZ yieldOf
 cases all.drop j with
 |nil=>rfl
 |cons o r=>
  simp only
  cases o.dst with
  |none=>rfl
  |some d=>
   simp only
   by_cases hd:d<f.n
   ·have hb:Nat.blt d f.n=true:=by simpa [Nat.blt_eq] using hd
    simp only[hb,if_true,if_pos hd]
    cases f.get d<;>rfl
   ·have hb:Nat.blt d f.n=false:=by rw[<-Bool.not_eq_true,Nat.blt_eq];exact hd
    simp[hb,if_neg hd]
theorem vT (t:Tmp)(op:Op)(r:List Oper):yieldOf f (⟨some t,op,ty,ps,af,gd⟩::r)=if t<f.n then(match f.get t with
    | .bool b=>some b
    |_=>none) else none:=rfl
end
theorem bO (cs:Array Value):(Value.agg cs).cells=cs:=rfl
theorem vU (s:aq)(v:Value):oW s (some v)=some (.val v s):=rfl
theorem eV (v:Value)(s:aq):nO (some (v,s))=some (.val v s):=rfl
theorem g7 (s:aq):AY (some s)=some (.val undef s):=rfl
theorem builtin_len (P:Program)(s:aq)(t:TypeId)(x:Value):iP P s .len [t] [x]=oW s (bh P s t x):=rfl
theorem builtin_append (P:Program)(s:aq)(t u:TypeId)(x y:Value):iP P s .append [t,u] [x,y]=nO (gD P s t u x y):=rfl
theorem builtin_copy (P:Program)(s:aq)(t u:TypeId)(x y:Value):iP P s .copy [t,u] [x,y]=nO (mh P s t x y):=rfl
theorem builtin_min (P:Program)(s:aq)(t u:TypeId)(k:IntKind)(x y:Int):iP P s .min [t,u] [.int k x,.int k y]=some (.val (.int k (if y<x then y else x)) s):=rfl
theorem builtin_max (P:Program)(s:aq)(t u:TypeId)(k:IntKind)(x y:Int):iP P s .max [t,u] [.int k x,.int k y]=some (.val (.int k (if y>x then y else x)) s):=rfl
section
variable (P:Program) (d:Option Tmp) (ty:TypeId) (ps:String) (af:Array Edge) (gd:Option (Nat×Bool))
theorem vV:gZ P []=true:=rfl
theorem tY (o:Oper)(r:List Oper):gZ P (o::r)=(aM P o&&gZ P r):=rfl
theorem B4 (x:Operand):aM P ⟨d,.move x,ty,ps,af,gd⟩=true:=rfl
theorem vW (x:Operand):aM P ⟨d,.assign x,ty,ps,af,gd⟩=true:=rfl
theorem B5 (a b c:Operand):aM P ⟨d,.pick a b c,ty,ps,af,gd⟩=true:=rfl
theorem B6 (t:TypeId)(x:Operand):aM P ⟨d,.load t x,ty,ps,af,gd⟩=true:=rfl
theorem sn (x:Operand):aM P ⟨d,.nilCheck x,ty,ps,af,gd⟩=true:=rfl
theorem zc (op:BinOp)(t t2:TypeId)(x y:Operand):aM P ⟨d,.binOp op t x y t2,ty,ps,af,gd⟩=true:=rfl
theorem B7 (op:UnOp)(t:TypeId)(x:Operand):aM P ⟨d,.unOp op t x,ty,ps,af,gd⟩=true:=rfl
theorem qL (t:TypeId)(x y:Operand):aM P ⟨d,.indexAddr t x y,ty,ps,af,gd⟩=true:=rfl
theorem zd (t:TypeId)(x y:Operand):aM P ⟨d,.index t x y,ty,ps,af,gd⟩=true:=rfl
theorem qM (t:TypeId)(x:Operand)(i:Nat):aM P ⟨d,.fieldAddr t x i,ty,ps,af,gd⟩=true:=rfl
theorem ze (t:TypeId)(x:Operand)(i:Nat):aM P ⟨d,.field t x i,ty,ps,af,gd⟩=true:=rfl
theorem zf (t:TypeId)(x:Operand)(l h m:Option Operand):aM P ⟨d,.slice t x l h m,ty,ps,af,gd⟩=true:=rfl
theorem tZ (x:Operand)(i:Nat):aM P ⟨d,.extract x i,ty,ps,af,gd⟩=true:=rfl
theorem Fy (args:Array Operand)(ts:Array TypeId):aM P ⟨d,.call ⟨.builtin .len,args,ts⟩,ty,ps,af,gd⟩=true:=rfl
theorem B8 (x:Operand)(args:Array Operand)(ts:Array TypeId):aM P ⟨d,.call ⟨.value x,args,ts⟩,ty,ps,af,gd⟩=false:=rfl
theorem ph (t:TypeId)(n:Nat)(q:Array (Nat×Operand)):aM P ⟨d,.buildSlice t n q,ty,ps,af,gd⟩=false:=rfl
theorem zg (t:TypeId)(q:Array (Nat×Operand)):aM P ⟨d,.build t q,ty,ps,af,gd⟩=true:=rfl
theorem zh (t:TypeId)(x y:Operand):aM P ⟨d,.store t x y,ty,ps,af,gd⟩=false:=rfl
theorem Fz (t:TypeId)(x:Operand):aM P ⟨d,.box t x,ty,ps,af,gd⟩=false:=rfl
theorem zi (t:TypeId):aM P ⟨d,.alloc t,ty,ps,af,gd⟩=false:=rfl
theorem qN (t:TypeId)(x y:Operand):aM P ⟨d,.makeSlice t x y,ty,ps,af,gd⟩=false:=rfl
theorem vX (args:Array Operand)(ts:Array TypeId):aM P ⟨d,.call ⟨.builtin .append,args,ts⟩,ty,ps,af,gd⟩=false:=rfl
theorem B9 (args:Array Operand)(ts:Array TypeId):aM P ⟨d,.call ⟨.builtin .copy,args,ts⟩,ty,ps,af,gd⟩=false:=rfl
theorem FA (args:Array Operand)(ts:Array TypeId):aM P ⟨d,.call ⟨.builtin .min,args,ts⟩,ty,ps,af,gd⟩=true:=rfl
theorem FC (args:Array Operand)(ts:Array TypeId):aM P ⟨d,.call ⟨.builtin .max,args,ts⟩,ty,ps,af,gd⟩=true:=rfl
theorem pj (t:TypeId)(n:Nat)(q:Array (Nat×Operand)):aK P ⟨d,.buildSlice t n q,ty,ps,af,gd⟩=true:=rfl
theorem zj (t:TypeId)(x y:Operand):aK P ⟨d,.store t x y,ty,ps,af,gd⟩=false:=rfl
theorem FD (t:TypeId)(x:Operand):aK P ⟨d,.box t x,ty,ps,af,gd⟩=true:=rfl
theorem zk (t:TypeId):aK P ⟨d,.alloc t,ty,ps,af,gd⟩=true:=rfl
theorem qO (t:TypeId)(x y:Operand):aK P ⟨d,.makeSlice t x y,ty,ps,af,gd⟩=true:=rfl
theorem Ca (c:Go.Call):aK P ⟨d,.call c,ty,ps,af,gd⟩=false:=rfl
theorem ua (a b:TypeId)(x:Operand):aK P ⟨d,.convert a b x,ty,ps,af,gd⟩=iQ P a b:=rfl
theorem Cb (x:Operand):aK P ⟨d,.move x,ty,ps,af,gd⟩=false:=rfl
theorem vY (x:Operand):aK P ⟨d,.assign x,ty,ps,af,gd⟩=false:=rfl
theorem Cc (a b c:Operand):aK P ⟨d,.pick a b c,ty,ps,af,gd⟩=false:=rfl
theorem Cd (t:TypeId)(x:Operand):aK P ⟨d,.load t x,ty,ps,af,gd⟩=false:=rfl
theorem sq (x:Operand):aK P ⟨d,.nilCheck x,ty,ps,af,gd⟩=false:=rfl
theorem zl (op:BinOp)(t t2:TypeId)(x y:Operand):aK P ⟨d,.binOp op t x y t2,ty,ps,af,gd⟩=false:=rfl
theorem Ce (op:UnOp)(t:TypeId)(x:Operand):aK P ⟨d,.unOp op t x,ty,ps,af,gd⟩=false:=rfl
theorem qP (t:TypeId)(x y:Operand):aK P ⟨d,.indexAddr t x y,ty,ps,af,gd⟩=false:=rfl
theorem zm (t:TypeId)(x y:Operand):aK P ⟨d,.index t x y,ty,ps,af,gd⟩=false:=rfl
theorem qQ (t:TypeId)(x:Operand)(i:Nat):aK P ⟨d,.fieldAddr t x i,ty,ps,af,gd⟩=false:=rfl
theorem zn (t:TypeId)(x:Operand)(i:Nat):aK P ⟨d,.field t x i,ty,ps,af,gd⟩=false:=rfl
theorem zo (t:TypeId)(x:Operand)(l h m:Option Operand):aK P ⟨d,.slice t x l h m,ty,ps,af,gd⟩=false:=rfl
theorem ub (x:Operand)(i:Nat):aK P ⟨d,.extract x i,ty,ps,af,gd⟩=false:=rfl
theorem uc (a b:TypeId)(x:Operand):aM P ⟨d,.convert a b x,ty,ps,af,gd⟩=match P.underlying b with
  |some (.slice _)=>false
  |_=>true:=rfl
end
theorem vZ (P:Program)(f:aT)(s:aq):cy P f s []=some []:=rfl
theorem v8 (P:Program)(f:aT)(s:aq)(t:Tmp)(r:List ResultVar):cy P f s (.tmp t::r)=if t<f.n then(match cy P f s r with
  |some l=>some (f.get t::l)
  |none=>none) else none:=by
 by_cases h:t<f.n
 ·have hb:Nat.blt t f.n=true:=by simpa [Nat.blt_eq] using h
  rw[if_pos h]
  conv=>lhs;rw[cy]
  simp only[hb,if_true]
  rfl
 ·have hb:Nat.blt t f.n=false:=by rw[<-Bool.not_eq_true,Nat.blt_eq];exact h
  rw[if_neg h]
  conv=>lhs;rw[cy]
  simp[hb]
section
variable (P:Program) (t:TypeId) (k:IntKind) (a b:Int)
theorem OL:cI P .add t (.int k a) (.int k b)=some (.int k (k.wrap (a+b))):=by simp[cI,iM]
theorem OM:cI P .sub t (.int k a) (.int k b)=some (.int k (k.wrap (a-b))):=by simp[cI,iM]
theorem ON:cI P .mul t (.int k a) (.int k b)=some (.int k (k.wrap (a*b))):=by simp[cI,iM]
theorem mw (h:b≠0):cI P .quo t (.int k a) (.int k b)=some (.int k (k.wrap (a.tdiv b))):=by simp[cI,iM,h]
theorem eK (h:b≠0):cI P .rem t (.int k a) (.int k b)=some (.int k (a.tmod b)):=by simp[cI,iM,h]
theorem eL:cI P .and t (.int k a) (.int k b)=some (.int k (k.wrap (BitVec.ofInt k.bits a&&&BitVec.ofInt k.bits b).toNat)):=by simp[cI,iM]
theorem jB:cI P .or t (.int k a) (.int k b)=some (.int k (k.wrap (BitVec.ofInt k.bits a|||BitVec.ofInt k.bits b).toNat)):=by simp[cI,iM]
theorem OO:cI P .xor t (.int k a) (.int k b)=some (.int k (k.wrap (BitVec.ofInt k.bits a^^^BitVec.ofInt k.bits b).toNat)):=by simp[cI,iM]
theorem HF:cI P .eql t (.int k a) (.int k b)=some (.bool (decide (a=b))):=by simp[cI,iM];rfl
theorem ei:cI P .neq t (.int k a) (.int k b)=some (.bool (decide (a≠b))):=by
 simp only[cI,iM,if_true]
 by_cases h:a=b<;>simp[h]
theorem OP:cI P .lss t (.int k a) (.int k b)=some (.bool (decide (a<b))):=by simp[cI,iM]
theorem OQ:cI P .leq t (.int k a) (.int k b)=some (.bool (decide (a<=b))):=by simp[cI,iM]
theorem OR:cI P .gtr t (.int k a) (.int k b)=some (.bool (decide (b<a))):=by simp[cI,iM]
theorem OS:cI P .geq t (.int k a) (.int k b)=some (.bool (decide (b<=a))):=by simp[cI,iM]
theorem my (k' :IntKind)(h:0<=b):cI P .shl t (.int k a) (.int k' b)=some (.int k (k.wrap (a*2^(min b.toNat k.bits)))):=by simp[cI,te];omega
theorem kZ (k' :IntKind)(h:0<=b):cI P .shr t (.int k a) (.int k' b)=some (.int k (a.fdiv (2^(min b.toNat k.bits)))):=by simp[cI,te];omega
theorem TG (x:Bool):Ze .not (.bool x)=some (.bool (!x)):=rfl
theorem TH:Ze .neg (.int k a)=some (.int k (k.wrap (0-a))):=rfl
end
theorem aB {x:Int}(h: -9223372036854775808<=x/\x<=9223372036854775807):IntKind.i64.wrap x=x:=by
 have e1:IntKind.i64.bits=64:=rfl
 have e2:IntKind.i64.signed=true:=rfl
 simp only[IntKind.wrap,e1,e2,Bool.true_and]
 split<;>simp_all<;>omega
theorem gA {x:Int}:IntKind.u8.wrap x=x%256:=by
 have e1:IntKind.u8.bits=8:=rfl
 have e2:IntKind.u8.signed=false:=rfl
 simp only[IntKind.wrap,e1,e2,Bool.false_and]
 simp
theorem bR {P:Program}{s:aq}{src dst:TypeId}{k j:IntKind}{d:TypeDesc}{n:Int}(h1:P.underlying src=some d)(h2:P.underlying dst=some (.int k)):fW P s src dst (.int j n)=some (.int k (k.wrap n),s):=by
 unfold fW;rw[h1,h2]
theorem Cf (b:Bool):cf (.bool b) (.bool b)=true:=by simp[cf,cN]
theorem cR (k:IntKind)(n:Int):cf (.int k n) (.int k n)=true:=by simp[cf,cN]
theorem mz (b:ByteArray):cf (.string b) (.string b)=true:=by simp[cf,cN]
theorem lg (a:Option Addr):cf (.pointer a) (.pointer a)=true:=by simp[cf,cN]
theorem nT (a:Option Addr)(n c:Nat):cf (.slice a n c) (.slice a n c)=true:=by
 simp only[cf,cN,if_true,Bool.true_and,Bool.and_eq_true];exact⟨Nat.beq_refl n,Nat.beq_refl c⟩
structure ar (base:Nat) (s s' :aq):Prop where
 next:s.next<=s'.next
 get:∀i,i<base->s'.heap.get i=s.heap.get i
theorem ar.refl (base:Nat)(s:aq):ar base s s:=⟨Nat.le_refl _,fun _ _=>rfl⟩
theorem ar.trans {base:Nat}{s s' ss:aq}(h:ar base s s')(k:ar base s' ss):ar base s ss:=⟨Nat.le_trans h.next k.next,fun i hi=>(k.get i hi).trans (h.get i hi)⟩
theorem ar.weaken {base b2:Nat}{s s' :aq}(h:ar base s s')(hb:b2<=base):ar b2 s s' :=⟨h.next,fun i hi=>h.get i (by omega)⟩
theorem ar.dK {base:Nat}{s s' :aq}(h:ar base s s'){i:Nat}(hi:i<base):s'.bA i=s.bA i:=by simp only[aq.bA,h.get i hi]
theorem ar.new (s:aq)(o:AO):ar s.next s (s.new o):=by
 refine⟨by simp[aq.new],fun i hi=> ?_⟩
 simp only[aq.new,Tr.bZ _ _ _ _ _ (Nat.ne_of_gt hi)]
theorem nU (s:aq)(b:jE):(s.new (.dK b)).bA s.next=some b:=by simp only[aq.new,aq.bA,Tr.bp _ _ _ _ (deep (by omega))]
theorem we (s:aq)(o:AO):(s.new o).next=s.next+1:=rfl
inductive aN (s:aq) (z:Nat):Value->Nat->List Value->Prop
 |nil:aN s z (.slice none 0 0) 0 []
 |bare (i off:Nat):aN s z (.slice (some ⟨i,off,none⟩) 0 0) 0 []
 |of (i off n c:Nat) (b:jE) (l:List Value) (hi:i<s.next) (hb:s.bA i=some b) (hz:b.mf=z) (hl:b.low<=c) (hc:c<=b.cells.length+1)
  (hlen:l.length=n*z) (eZ:off+n*z<c) (ht:(b.cells.drop off).take (n*z)=l):aN s z (.slice (some ⟨i,off,none⟩) n c) n l
theorem aN.length {s:aq}{z:Nat}{v:Value}{n:Nat}{l:List Value}(h:aN s z v n l):l.length=n*z:=by
 cases h with
 |nil=>simp
 |bare=>simp
 |of i off n c b l hi hb hz hl hc hlen eZ ht=>exact hlen
theorem aN.keeps {s s' :aq}{z:Nat}{v:Value}{n:Nat}{l:List Value}(h:aN s z v n l)(k:ar s.next s s'):aN s' z v n l:=by
 cases h with
 |nil=>exact .nil
 |bare=>exact .bare _ _
 |of i off n c b l hi hb hz hl hc hlen eZ ht=>exact .of i off n c b l (Nat.lt_of_lt_of_le hi k.next) ((k.dK hi).trans hb) hz hl hc hlen eZ ht
theorem aN.bh {P:Program}{t e:TypeId}(hu:P.underlying t=some (.slice e)){s s2:aq}{z:Nat}{v:Value}{n:Nat}{l:List Value}(h:aN s z v n l):Cl.bh P s2 t v=some (.int .i64 n):=by
 unfold Cl.bh;rw[hu]
 cases h<;>rfl
def bJ (z:Nat)(v:Value)(k:Nat):Value:=
 match v with
 | .slice (some ⟨i,off,none⟩) _ c=> .pointer (some ⟨i,off+k*z,some c⟩)
 |_=> .pointer none
theorem gi {s:aq}{i off c n:Nat}{b:jE}(hb:s.bA i=some b)(hl:b.low<=c)(hc:c<=b.cells.length+1)(ho:off+n<c):s.de i off c n=some ((b.cells.drop off).take n):=by
 unfold aq.de
 rw[hb]
 have h1:(Nat.ble b.low c&&Nat.ble c (b.cells.length+1)&&Nat.blt (off+n) c)=true:=by
  simp only[Bool.and_eq_true,Nat.ble_eq,Nat.blt_eq];exact⟨⟨hl,hc⟩,ho⟩
 simp only[h1,if_true]
 rw[rH,vy,if_pos (by simp;omega)]
theorem aN.indexAddr {P:Program}{t e:TypeId}{z:Nat}(hu:P.underlying t=some (.slice e))(b6:aW P e=some z){s:aq}{v:Value}{n:Nat}{l:List Value}(h:aN s z v n l){k:IntKind}{x:Int}(h0:0<=x)(hx:x<n):
  bQ P t v (.int k x)=some (bJ z v x.toNat):=by
 obtain⟨y,rfl⟩:∃y:Nat,x=y:=⟨x.toNat,by omega⟩
 have hy:y<n:=by omega
 unfold bQ;rw[hu]
 cases h with
 |nil=>omega
 |bare=>omega
 |of i off n c b l hi hb hz hl hc hlen eZ ht=>
  have dB:Nat.blt y n=true:=by simpa [Nat.blt_eq] using hy
  show(match aW P e with|some z=>if Nat.blt y n then some (Value.pointer (some ⟨i,off+y*z,some c⟩)) else none|none=>none)=_
  rw[b6]
  simp only[dB,if_true,bJ,Int.toNat_natCast]
theorem aN.cells {s:aq}{z:Nat}{v:Value}{n:Nat}{l:List Value}(h:aN s z v n l){k:Nat}(hk:k<n):∃i off c,bJ z v k= .pointer (some ⟨i,off,some c⟩)/\s.de i off c z=some ((l.drop (k*z)).take z):=by
 cases h with
 |nil=>omega
 |bare=>omega
 |of i off n c b l hi hb hz hl hc hlen eZ ht=>
  have hkz:k*z+z<=n*z:=by
   have:(k+1)*z<=n*z:=Nat.mul_le_mul_right z hk
   rwa [Nat.succ_mul] at this
  refine⟨i,off+k*z,c,rfl,?_⟩
  rw[gi hb hl hc (by omega),<-ht,List.drop_take,List.drop_drop,List.take_take]
  congr 2
  omega
theorem aN.dJ {P:Program}{e:TypeId}(nK:bY P e=some false){s:aq}{v:Value}{n:Nat}{l:List Value}(h:aN s 1 v n l){k:Nat}(hk:k<n):aR P s e (bJ 1 v k)=some (l.getD k undef):=by
 obtain⟨i,off,c,e1,e2⟩:=h.cells hk
 have hl:=h.length
 rw[e1]
 unfold aR
 simp only[nK,e2]
 have:(l.drop (k*1)).take 1=[l.getD k undef]:=by
  rw[Nat.mul_one,List.take_one,List.head?_drop,List.getElem?_eq_getElem (by omega)]
  simp[List.getD,List.getElem?_eq_getElem (show k<l.length by omega)]
 rw[this]
theorem aN.fm {P:Program}{e:TypeId}{z:Nat}(nK:bY P e=some true)(b6:aW P e=some z){s:aq}{v:Value}{n:Nat}{l:List Value}(h:aN s z v n l){k:Nat}(hk:k<n):aR P s e (bJ z v k)=some (.agg ((l.drop (k*z)).take z).toArray):=by
 obtain⟨i,off,c,e1,e2⟩:=h.cells hk
 rw[e1]
 unfold aR
 simp only[nK,b6,e2]
def eB (z:Nat)(v:Value)(lo hi:Nat):Value:=
 match v with
 | .slice (some ⟨i,off,none⟩) _ c=> .slice (some ⟨i,off+lo*z,none⟩) (hi-lo) c
 |_=> .slice none 0 0
theorem aN.cut {s:aq}{z:Nat}{v:Value}{n:Nat}{l:List Value}(h:aN s z v n l){lo hi:Nat}(h1:lo<=hi)(h2:hi<=n):aN s z (eB z v lo hi) (hi-lo) ((l.drop (lo*z)).take ((hi-lo)*z)):=by
 cases h with
 |nil=>obtain rfl:hi=0:=by omega
       obtain rfl:lo=0:=by omega
       simpa [eB] using(aN.nil (s:=s) (z:=z))
 |bare i off=>obtain rfl:hi=0:=by omega
              obtain rfl:lo=0:=by omega
              simpa [eB] using(aN.bare (s:=s) (z:=z) i (off+0*z))
 |of i off n c b l vF hb hz hl hc hlen eZ ht=>
  have e:lo*z+(hi-lo)*z<=n*z:=by
   rw[<-Nat.add_mul];exact Nat.mul_le_mul_right z (by omega)
  refine .of i (off+lo*z) (hi-lo) c b _ vF hb hz hl hc ?_ (by omega) ?_
  ·rw[List.length_take,List.length_drop,hlen];omega
  ·rw[<-ht,List.drop_take,List.drop_drop,List.take_take]
   congr 1
   omega
theorem aN.slice {P:Program}{t e:TypeId}{z:Nat}(hu:P.underlying t=some (.slice e))(b6:aW P e=some z){s:aq}{v:Value}{n:Nat}{l:List Value}(h:aN s z v n l){lo hi:Option Value}{a b:Nat}
  (ha:gU lo 0=some a) (hb:gU hi n=some b) (h1:a<=b) (h2:b<=n):du P s t v lo hi none=some (eB z v a b):=by
 have Hl:(Nat.ble a b&&Nat.ble b n)=true:=by simp only[Bool.and_eq_true,Nat.ble_eq];exact⟨h1,h2⟩
 cases h with
 |nil=>unfold du;rw[hu];simp only[ha,hb,b6,Hl,if_true,eB]
 |bare i off=>
  unfold du;rw[hu];simp only[ha,hb,b6,Hl,if_true,jT,eB]
 |of i off n c bk l vF hbk hz hl hc hlen eZ ht=>
  have he:jT s i c z=true:=by
   unfold jT
   split
   ·rfl
   ·rw[hbk];simp[hz]
  unfold du;rw[hu];simp only[ha,hb,b6,Hl,if_true,he,eB]
theorem gj (d:Nat):gU none d=some d:=rfl
theorem pk {k:IntKind}{x:Int}{d:Nat}(h:0<=x):gU (some (.int k x)) d=some x.toNat:=by
 obtain⟨y,rfl⟩:∃y:Nat,x=y:=⟨x.toNat,by omega⟩
 rfl
theorem aN.src {s:aq}{z:Nat}{v:Value}{n:Nat}{l:List Value}(h:aN s z v n l):dH s z v=some (n,l):=by
 cases h with
 |nil=>rfl
 |bare=>rfl
 |of i off n c b l vF hb hz hl hc hlen eZ ht=>
  cases n with
  |zero=>
   have:l=[]:=List.eq_nil_of_length_eq_zero (by simpa using hlen)
   subst this;rfl
  |succ n=>
   simp only[dH]
   rw[gi hb hl hc eZ,ht]
inductive Own (s:aq) (z:Nat):Value->Nat->List Value->Prop
 |nil:Own s z (.slice none 0 0) 0 []
 |of (i n low:Nat) (l:List Value) (hi:i<s.next) (hb:s.bA i=some ⟨l,low,true,z⟩) (hl:low<=l.length+1) (hlen:l.length=n*z):Own s z (.slice (some ⟨i,0,none⟩) n (l.length+1)) n l
def aE:Value->Option Nat
 | .slice (some a) _ _=>some a.block
 | .pointer (some a)=>some a.block
 |_=>none
def aH (base:Nat)(v:Value):Prop:=∀i,aE v=some i->base<=i
theorem aH.nil (base:Nat):aH base (.slice none 0 0):=fun i h=>by cases h
theorem Own.aG {s:aq}{z:Nat}{v:Value}{n:Nat}{l:List Value}(h:Own s z v n l):aN s z v n l:=by
 cases h with
 |nil=>exact .nil
 |of i n low l hi hb hl hlen=>exact .of i 0 n _ _ l hi hb rfl hl (Nat.le_refl _) hlen (by omega) (by simp[<-hlen])
theorem Own.length {s:aq}{z:Nat}{v:Value}{n:Nat}{l:List Value}(h:Own s z v n l):l.length=n*z:=h.aG.length
theorem Own.keeps {s s' :aq}{z:Nat}{v:Value}{n:Nat}{l:List Value}(h:Own s z v n l)(k:ar s.next s s'):Own s' z v n l:=by
 cases h with
 |nil=>exact .nil
 |of i n low l hi hb hl hlen=>exact .of i n low l (Nat.lt_of_lt_of_le hi k.next) ((k.dK hi).trans hb) hl hlen
structure aY (v:Value) (s s' :aq):Prop where
 next:s.next<=s'.next
 get:∀i,i<s.next->aE v≠some i->s'.heap.get i=s.heap.get i
theorem aY.keeps {base:Nat}{v:Value}{s s' :aq}(h:aY v s s')(hf:aH base v)(hb:base<=s.next):ar base s s' :=
 ⟨h.next,fun i hi=>h.get i (by omega) (fun e=>by have:=hf i e;omega)⟩
theorem Own.turns {s s' :aq}{z:Nat}{v u:Value}{n:Nat}{l:List Value}(h:Own s z v n l)(k:aY u s s')(ck:∀i,aE v=some i->aE u≠some i):Own s' z v n l:=by
 cases h with
 |nil=>exact .nil
 |of i n low l hi hb hl hlen=>
  refine .of i n low l (Nat.lt_of_lt_of_le hi k.next) ?_ hl hlen
  simp only[aq.bA,k.get i hi (ck i rfl)];exact hb
theorem Own.new {s:aq}{cs:List Value}{n z:Nat}(h:cs.length=n*z):aZ s cs n z=some (.slice (some ⟨s.next,0,none⟩) n (cs.length+1),s.new (.dK ⟨cs,1,true,z⟩))/\Own (s.new (.dK ⟨cs,1,true,z⟩)) z (.slice (some ⟨s.next,0,none⟩) n (cs.length+1)) n cs:=by
 refine⟨by simp[aZ,aq.room],.of s.next n 1 cs (by rw[we];omega) (nU _ _) (by omega) h⟩
theorem Own.append {P:Program}{st xt e:TypeId}{xd:TypeDesc}{z nN:Nat}{zv:Value}(hu:P.underlying st=some (.slice e))(Xr:P.underlying xt=some xd)(Ox:(∃e2,xd= .slice e2)\/xd= .string)(b6:aW P e=some z)(rS:fe P e=some nN)(tR:bW P e=some zv)(o8:Nat.beq zv.cells.toList.length z=true)
  {s:aq} {x y:Value} {n m:Nat} {l new:List Value} (hx:Own s z x n l) (hy:dH s z y=some (m,new)) (lN:new.length=m*z) (vu:0<z) (dF:new.all aJ=true) (gu:(n+m)*nN<=140737488355328) (dB:n+m<=140737488355328):
  ∃x' s',gD P s st xt x y=some (x',s')/\Own s' z x' (n+m) (l++new)/\aY x s s' /\(aE x' =aE x\/∃i,aE x' =some i/\s.next<=i):=by
 have hy:Hc s z nN zv xd y=some (m,new):=by rcases Ox with ⟨e2,rfl⟩|rfl<;>exact hy
 have gX:(Nat.ble ((n+m)*nN) 140737488355328&&Nat.ble (n+m) 140737488355328&&Nat.blt 0 z&&new.all aJ&&Nat.beq zv.cells.toList.length z)=true:=by
  simp only[Bool.and_eq_true,Nat.ble_eq,Nat.blt_eq];exact⟨⟨⟨⟨gu,dB⟩,vu⟩,dF⟩,o8⟩
 cases m with
 |zero=>
  have hn:new=[]:=List.eq_nil_of_length_eq_zero (by simpa using lN)
  subst hn
  refine⟨x,s,?_,by simpa using hx,⟨Nat.le_refl _,fun _ _ _=>rfl⟩,.inl rfl⟩
  unfold gD
  rcases Ox with ⟨e2,rfl⟩|rfl<;>
  simp only[hu,Xr,b6,rS,tR,hy]
  all_goals (cases hx<;>simp only[gX,if_true])
 |succ m=>
  cases hx with
  |nil=>
   obtain⟨h1,h2⟩:=Own.new (s:=s) lN
   refine⟨_,_,?_,by simpa using h2,⟨by rw[we];omega,fun i hi _=>(ar.new s _).get i hi⟩,.inr ⟨s.next,rfl,Nat.le_refl _⟩⟩
   unfold gD
   rcases Ox with ⟨e2,rfl⟩|rfl<;>
   simp only[hu,Xr,b6,rS,tR,hy,gX,if_true,h1]
   all_goals simp
  |of i n low l hi hb hl hlen=>
   have iT:(true&&Nat.ble low (l.length+1)&&Nat.beq z z)=true:=by simp[hl]
   have lI:(Nat.beq (l.length+1) (l.length+1)&&Nat.beq 0 0&&Nat.beq (n*z) l.length)=true:=by simp[hlen]
   refine⟨.slice (some ⟨i,0,none⟩) (n+(m+1)) ((l++new).length+1),s.put i (.dK ⟨l++new,low,true,z⟩),?_,?_,⟨by simp[aq.put],fun j _ hj=> ?_⟩,.inl rfl⟩
   ·unfold gD
    rcases Ox with ⟨e2,rfl⟩|rfl<;>
    simp only[hu,Xr,b6,rS,tR,hy,gX,if_true,hb,iT,lI]
   ·refine .of i _ low _ (by simpa [aq.put] using hi) (by rw[aq.b9 _ _ _ (by omega)]) (by rw[List.length_append];omega) (by rw[List.length_append,hlen,lN,Nat.add_mul n (m+1) z])
   ·rw[aq.bD]
    intro e;subst e;exact hj rfl
theorem bF (l:List UInt8):(ofBytes l).length=l.length:=by simp[ofBytes]
theorem bG {l:List UInt8}{i:Nat}(h:i<l.length):(ofBytes l).getD i undef= .int .u8 ((l.getD i 0).toNat:Int):=by
 simp[ofBytes,List.getD,List.getElem?_eq_getElem h]
theorem bn (a b:List UInt8):ofBytes (a++b)=ofBytes a++ofBytes b:=by simp[ofBytes]
theorem HG (a:UInt8)(b:List UInt8):ofBytes (a::b)= .int .u8 (a.toNat:Int)::ofBytes b:=rfl
theorem qh (n:Nat)(l:List UInt8):(ofBytes l).take n=ofBytes (l.take n):=by simp[ofBytes,List.map_take]
theorem HH (n:Nat)(l:List UInt8):(ofBytes l).drop n=ofBytes (l.drop n):=by simp[ofBytes,List.map_drop]
theorem dj (l:List UInt8):(ofBytes l).all aJ=true:=by simp[ofBytes,aJ]
theorem dr (z:Nat)(v:Value)(k:Nat):cf (bJ z v k) (bJ z v k)=true:=by
 unfold bJ;split<;>exact lg _
theorem Cg (z:Nat)(v:Value)(a b:Nat):cf (eB z v a b) (eB z v a b)=true:=by
 unfold eB;split<;>exact nT _ _ _
theorem aN.self {s:aq}{z:Nat}{v:Value}{n:Nat}{l:List Value}(h:aN s z v n l):cf v v=true:=by
 cases h<;>exact nT _ _ _
theorem Own.self {s:aq}{z:Nat}{v:Value}{n:Nat}{l:List Value}(h:Own s z v n l):cf v v=true:=h.aG.self
theorem aN.FG {P:Program}{t e:TypeId}{z:Nat}(hu:P.underlying t=some (.slice e))(b6:aW P e=some z){s:aq}{v:Value}{n:Nat}{l:List Value}(h:aN s z v n l){k k2:IntKind}{x y:Int}
  (h0:0<=x) (h1:x<=y) (h2:y<=n):du P s t v (some (.int k x)) (some (.int k2 y)) none=some (eB z v x.toNat y.toNat):=
 h.slice hu b6 (pk h0) (pk (by omega)) (by omega) (by omega)
theorem aN.fp {P:Program}{t e:TypeId}{z:Nat}(hu:P.underlying t=some (.slice e))(b6:aW P e=some z){s:aq}{v:Value}{n:Nat}{l:List Value}(h:aN s z v n l){k:IntKind}{x:Int}
  (h0:0<=x) (h2:x<=n):du P s t v (some (.int k x)) none none=some (eB z v x.toNat n):=
 h.slice hu b6 (pk h0) rfl (by omega) (by omega)
theorem aN.kF {P:Program}{t e:TypeId}{z:Nat}(hu:P.underlying t=some (.slice e))(b6:aW P e=some z){s:aq}{v:Value}{n:Nat}{l:List Value}(h:aN s z v n l){k:IntKind}{y:Int}
  (h1:0<=y) (h2:y<=n):du P s t v none (some (.int k y)) none=some (eB z v 0 y.toNat):=
 h.slice hu b6 rfl (pk (by omega)) (by omega) (by omega)
theorem aN.su {s:aq}{z:Nat}{v:Value}{n:Nat}{l:List Value}(h:aN s z v n l):v.cells.toList=[v]:=by cases h<;>rfl
theorem aN.aJ {s:aq}{z:Nat}{v:Value}{n:Nat}{l:List Value}(h:aN s z v n l):Cl.aJ v=true:=by cases h<;>rfl
theorem aN.turns {s s' :aq}{z:Nat}{v u:Value}{n:Nat}{l:List Value}(h:aN s z v n l)(k:aY u s s')(ck:∀i,i<s.next->aE v=some i->aE u≠some i):aN s' z v n l:=by
 cases h with
 |nil=>exact .nil
 |bare=>exact .bare _ _
 |of i off n c b l hi hb hz hl hc hlen eZ ht=>
  refine .of i off n c b l (Nat.lt_of_lt_of_le hi k.next) ?_ hz hl hc hlen eZ ht
  simp only[aq.bA,k.get i hi (ck i hi rfl)];exact hb
theorem aN.sx {s:aq}{v:Value}{l:List UInt8}(h:aN s 1 v l.length (ofBytes l)){lo hi:Nat}(h1:lo<=hi)(h2:hi<=l.length):aN s 1 (eB 1 v lo hi) ((l.drop lo).take (hi-lo)).length (ofBytes ((l.drop lo).take (hi-lo))):=by
 have:=h.cut h1 h2
 rw[Nat.mul_one,Nat.mul_one,HH,qh] at this
 rw[List.length_take,List.length_drop,Nat.min_eq_left (by omega)]
 exact this
structure Grown (x:Value) (s:aq) (v:Value) (s' :aq):Prop where
 turns:aY x s s'
 id:aE v=aE x\/∃i,aE v=some i/\s.next<=i
theorem Grown.refl (x:Value)(s:aq):Grown x s x s:=⟨⟨Nat.le_refl _,fun _ _ _=>rfl⟩,.inl rfl⟩
theorem Grown.trans {x y v:Value}{s s' ss:aq}(h:Grown x s y s')(k:Grown y s' v ss):Grown x s v ss:=by
 refine⟨⟨Nat.le_trans h.turns.next k.turns.next,fun i hi ck=> ?_⟩,?_⟩
 ·rw[k.turns.get i (Nat.lt_of_lt_of_le hi h.turns.next) ?_,h.turns.get i hi ck]
  rcases h.id with e|⟨j,e,hj⟩
  ·rw[e];exact ck
  ·rw[e];intro q;injection q with q;omega
 ·rcases k.id with e|⟨j,e,hj⟩
  ·rcases h.id with e2|⟨j,e2,hj⟩
   ·left;rw[e,e2]
   ·right;exact⟨j,by rw[e,e2],hj⟩
  ·right;exact⟨j,e,Nat.le_trans h.turns.next hj⟩
theorem Grown.stay {base:Nat}{x v:Value}{s s' :aq}(h:Grown x s v s')(hf:aH base x)(hb:base<=s.next):ar base s s' :=h.turns.keeps hf hb
theorem Grown.fresh {base:Nat}{x v:Value}{s s' :aq}(h:Grown x s v s')(hf:aH base x)(hb:base<=s.next):aH base v:=fun i hi=>by
 rcases h.id with e|⟨j,e,hj⟩
 ·exact hf i (by rw[<-e];exact hi)
 ·rw[e] at hi;injection hi with hi;omega
theorem Grown.after {x v:Value}{s s1 s' :aq}(k:ar s.next s s1)(h:Grown x s1 v s'):Grown x s v s' :=by
 refine⟨⟨Nat.le_trans k.next h.turns.next,fun i hi ck=> ?_⟩,h.id.imp (fun e=>e) (fun⟨i,a,b⟩=>⟨i,a,Nat.le_trans k.next b⟩)⟩
 rw[h.turns.get i (Nat.lt_of_lt_of_le hi k.next) ck,k.get i hi]
theorem Own.g8 {s:aq}{z:Nat}{v:Value}{n:Nat}{l:List Value}(h:Own s z v n l):∀i,aE v=some i->i<s.next:=by
 cases h with
 |nil=>intro i h;cases h
 |of i n low l hi hb hl hlen=>intro j h;injection h with h;subst h;exact hi
theorem cP {P:Program}{t e:TypeId}(hu:P.underlying t=some (.pointer e))(a:Addr):cI P .eql t (.pointer (some a)) (.pointer none)=some (.bool false):=by
 simp[cI,qI,hu]
theorem TI {P:Program}{t e:TypeId}(hu:P.underlying t=some (.pointer e))(a:Addr):cI P .neq t (.pointer (some a)) (.pointer none)=some (.bool true):=by
 simp[cI,qI,hu]
def Ci:Value->Bool
 | .slice none _ _=>true
 |_=>false
theorem aN.nV {P:Program}{t e:TypeId}(hu:P.underlying t=some (.slice e)){s:aq}{z:Nat}{v:Value}{n:Nat}{l:List Value}(h:aN s z v n l):cI P .eql t v (.slice none 0 0)=some (.bool (Ci v)):=by
 cases h<;>simp[cI,qI,hu,Ci]
theorem aN.isNil {s:aq}{z:Nat}{v:Value}{n:Nat}{l:List Value}(h:aN s z v n l)(hn:Ci v=true):n=0/\l=[]/\v= .slice none 0 0:=by
 cases h with
 |nil=>exact⟨rfl,rfl,rfl⟩
 |bare=>cases hn
 |of=>cases hn
def x6 (base:Nat)(s:aq)(z:Nat)(v:Value)(n:Nat)(l:List Value):Prop:=∀s',ar base s s' ->aN s' z v n l
theorem x6.aG {base:Nat}{s:aq}{z:Nat}{v:Value}{n:Nat}{l:List Value}(h:x6 base s z v n l):aN s z v n l:=h s (ar.refl _ _)
theorem x6.stay {base:Nat}{s s' :aq}{z:Nat}{v:Value}{n:Nat}{l:List Value}(h:x6 base s z v n l)(k:ar base s s'):x6 base s' z v n l:=fun ss k' =>h ss (k.trans k')
theorem aN.low {s:aq}{z:Nat}{v:Value}{n:Nat}{l:List Value}(h:aN s z v n l):x6 s.next s z v n l:=fun _ k=>h.keeps k
theorem x6.up {base b2:Nat}{s:aq}{z:Nat}{v:Value}{n:Nat}{l:List Value}(h:x6 base s z v n l)(hb:base<=b2):x6 b2 s z v n l:=fun _ k=>h _ (k.weaken hb)
theorem aN.full {P:Program}{t e:TypeId}{z:Nat}(hu:P.underlying t=some (.slice e))(b6:aW P e=some z){s:aq}{v:Value}{n:Nat}{l:List Value}(h:aN s z v n l)(k k2:IntKind):
  ∃v',du P s t v none (some (.int k n)) (some (.int k2 n))=some v' /\∀s',aN s' z v n l->aN s' z v' n l:=by
 have h1:gU (some (.int k (n:Int))) n=some n:=rfl
 have h2:gU (some (.int k2 (n:Int))) 0=some n:=rfl
 have h3:(Nat.ble 0 n&&Nat.ble n n)=true:=by simp
 have h4:(Nat.ble n n&&Nat.ble n n)=true:=by simp
 cases h with
 |nil=>exact⟨.slice none 0 0,by unfold du;rw[hu];simp only[gj,h1,b6,h3,if_true,h2],fun _ h=>h⟩
 |bare i off=>exact⟨.slice (some ⟨i,off+0*z,none⟩) 0 0,by unfold du;rw[hu];simp only[gj,h1,b6,h3,if_true,h2,jT];rfl,fun s' _=> .bare _ _⟩
 |of i off n c b l hi hb hz hl hc hlen eZ ht=>
  have he:jT s i c z=true:=by
   unfold jT
   split
   ·rfl
   ·rw[hb];simp[hz]
  by_cases h0:n=0
  ·subst h0
   refine⟨.slice (some ⟨i,off+0*z,none⟩) 0 0,by unfold du;rw[hu];simp only[gj,h1,b6,h3,if_true,h2,he];rfl,fun s' _=> ?_⟩
   have:l=[]:=List.eq_nil_of_length_eq_zero (by simpa using hlen)
   subst this;exact .bare _ _
  ·refine⟨.slice (some ⟨i,off,none⟩) n c,?_,fun s' h=>h⟩
   have ck:Nat.beq 0 n=false:=by rw[<-Bool.not_eq_true,Nat.beq_eq];omega
   unfold du;rw[hu];simp only[gj,h1,b6,h3,if_true,h2,h4,he,ck];simp
theorem uH {P:Program}{s:aq}{t e:TypeId}{zv:Value}{z:Nat}(hu:P.underlying t=some (.slice e))(b6:aW P e=some z)(hz:bW P e=some zv)(hp:bP zv=true)(hl:Nat.beq zv.cells.toList.length z=true):aL P s t 0 []=aZ s [] 0 z:=by
 unfold aL;rw[hu];simp only[b6,hz,hp,hl];simp[bw,fI]
end Go.Cl
