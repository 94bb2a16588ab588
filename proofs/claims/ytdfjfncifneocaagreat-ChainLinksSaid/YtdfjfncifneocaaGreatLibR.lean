/-
 The clean machine: a statement whose order is open, in which what was there ahead of it is read out of a set of blocks that the first effects leave, ahead of the later ones: it comes to what it comes to in the text's order.
-/
import Derived.Test.YtdfjfncifneocaaGreatLooseA
import Derived.Laws.Externs
import GoSem.Extern.BytealgCompare
import Derived.Laws.AppendOwn
open List renaming getElem?_eq_getElem->an,getD_eq_getElem?_getD->aR,take_of_length_le->a3,mem_append->bt,take_succ_eq_append_getElem->b5,eq_nil_of_length_eq_zero->ca,getLastD_cons->cb,length_append->cc,mem_singleton->cd,getElem?_map->cg,getElem?_take_of_lt->ck,append_assoc->cv,drop_drop->cx,drop_take->cz,drop_append_of_le_length->cL,take_append_of_le_length->cM,mem_cons_self->c0,getElem?_append_right->c3,getElem?_drop->c4,getElem?_append_left->c5,drop_eq_getElem_cons->c6,getElem_append_right->c7,getElem_append_left->dt,getElem_cons_zero->ee,append_nil->eg,nil_append->eh,sizeOf_lt_of_mem->en,getElem?_eq_none->eo,length_replicate->ep,mem_cons_of_mem->eu,drop_left->ev,take_zero->ew,take_succ_cons->eF,mem_cons->eG,length_drop->eX,length_map->e7,take_take->e9,replicate->ff,getD->fF
open Go renaming Value->av,Program->a1,TypeId->bq,Oper->cm,World->ey,FuncId->fL
open Go.Proofs.Tryz renaming prog->ax,underlying22->aY,underlying26->cA,underlying63->c9,results18->eC
open _root_ renaming List->aC,reduceIte->a0,Nat->a2,UInt8->bk,Option->cT,Array->c8,absurd->dg,Bool->dP,if_true->eb,if_neg->et,if_pos->eJ,Int->gf
open And renaming intro->a8
open Go.DataW renaming trod->bb,weights->dK,trod_int->eB,trod_struct->eQ,weightsAll->e6
open Nat renaming not_lt_zero->bz,succ_mul->bA,testBit->b4,le_refl->b7,mul_le_mul_right->ch,lt_of_lt_of_le->cp,ble_eq->cB,zero_add->cU,blt->dT,ble->ea,beq_eq->ed,mul_one->eA,beq->eD,blt_eq->eK,zero_mul->eL,add_zero->eM,le_trans->eP,sub_add_eq->e8,add_assoc->fo,lt_or_ge->fS,sub_self->fV
open Int renaming ofNat->cD
open Bool renaming true_and->cJ,false_eq_true->eI,and_eq_true->eS,not_eq_true->eV,and_true->fk
open Option.some renaming inj->ek
open Nat renaming reduceLT->QM,reduceEqDiff->WP
set_option linter.unusedSimpArgs false
set_option linter.unusedVariables false
set_option maxRecDepth 100000
namespace Go.Cl
namespace LB
def bW (P:a1)(lib:aD)(A:a2->dP)(all:aC cm):aC cm->a2->a2->aZ->au->(aZ->au->Prop)->Prop
 |[],_,_,f,T,Q=>Q f T
 |o::r,g,id,f,T,Q=>
  match cH all o f with
  |true=>
   match aS P o,aJ P o with
   |true,_=>
    match cV P o f T with
    |some (.val v _)=>LA.fB o f A=true/\bI v v=true/\dm f o.dst v fun f' =>bW P lib A all r g id f' T Q
    |_=>False
   |false,true=>
    match dh id (cV P o f ⟨.nil,id⟩) with
    |some (v,bl)=>dm f o.dst v fun f' =>bW P lib A all r g (id+1) f' (T.put id (.eE bl)) Q
    |none=>False
   |false,false=>
    match cV P o f T with
    |some (.val v T')=>(g≠0->LA.dz A T T')/\dm f o.dst v fun f' =>bW P lib A all r (g-1) id f' T' Q
    |some (.call gg args)=>Runs P lib gg args T fun v T' =>(g≠0->LA.dz A T T')/\dm f o.dst v fun f' =>bW P lib A all r (g-1) id f' T' Q
    |none=>False
  |false=>dm f o.dst undef fun f' =>bW P lib A all r (if bh P o then g-1 else g) (if aJ P o then id+1 else id) f' T Q
def mj (P:a1)(lib:aD)(A:a2->dP)(g:a2)(all:aC cm)(o:cm)(r:aC cm)(id:a2)(f:aZ)(T:au)(Q:aZ->au->Prop):cT AR->Prop
 |some (.val v _)=>LA.fB o f A=true/\bI v v=true/\dm f o.dst v fun f' =>bW P lib A all r g id f' T Q
 |_=>False
def kY (P:a1)(lib:aD)(A:a2->dP)(g:a2)(all r:aC cm)(id:a2)(f:aZ)(T:au)(d:cT Tmp)(Q:aZ->au->Prop):cT (av×kM)->Prop
 |some (v,bl)=>dm f d v fun f' =>bW P lib A all r g (id+1) f' (T.put id (.eE bl)) Q
 |none=>False
def gk (P:a1)(lib:aD)(A:a2->dP)(g:a2)(all r:aC cm)(id:a2)(f:aZ)(d:cT Tmp)(T:au)(Q:aZ->au->Prop):cT AR->Prop
 |some (.val v T')=>(g≠0->LA.dz A T T')/\dm f d v fun f' =>bW P lib A all r (g-1) id f' T' Q
 |some (.call gg args)=>Runs P lib gg args T fun v T' =>(g≠0->LA.dz A T T')/\dm f d v fun f' =>bW P lib A all r (g-1) id f' T' Q
 |none=>False
def fq (P:a1)(lib:aD)(A:a2->dP)(g:a2)(all r:aC cm)(id:a2)(f:aZ)(d:cT Tmp)(Q:aZ->au->Prop)(v:av)(T' :au):Prop:=dm f d v fun f' =>bW P lib A all r g id f' T' Q
def gR (P:a1)(lib:aD)(A:a2->dP)(g:a2)(all:aC cm)(o:cm)(r:aC cm)(id:a2)(f:aZ)(T:au)(Q:aZ->au->Prop):dP->Prop
 |true=>bif aS P o then mj P lib A g all o r id f T Q (cV P o f T) else bif aJ P o then kY P lib A g all r id f T o.dst Q (dh id (cV P o f ⟨.nil,id⟩)) else gk P lib A g all r id f o.dst T Q (cV P o f T)
 |false=>dm f o.dst undef fun f' =>bW P lib A all r (if bh P o then g-1 else g) (if aJ P o then id+1 else id) f' T Q
section
variable (P:a1) (lib:aD) (A:a2->dP) (all:aC cm) (r:aC cm) (g id:a2) (f:aZ) (T:au) (Q:aZ->au->Prop)
theorem iK:bW P lib A all [] g id f T Q=Q f T:=by simp only[bW]
theorem gy (o:cm):bW P lib A all (o::r) g id f T Q=gR P lib A g all o r id f T Q (cH all o f):=by
 simp only[bW];cases cH all o f with
 |false=>rfl
 |true=>
  simp only[gR];cases aS P o with
  |true=>
   simp only[cond_true];cases cV P o f T with
   |none=>rfl
   |some a=>cases a<;>rfl
  |false=>
   cases aJ P o with
   |true=>
    simp only[cond_true,cond_false];cases dh id (cV P o f ⟨.nil,id⟩) with
    |none=>rfl
    |some a=>rfl
   |false=>
    simp only[cond_false];cases cV P o f T with
    |none=>rfl
    |some a=>cases a<;>rfl
variable (d:cT Tmp) (ty:bq) (ps:String) (af:c8 Edge) (gd:cT (a2×dP))
theorem pt (o:cm):gR P lib A g all o r id f T Q true=bif aS P o then mj P lib A g all o r id f T Q (cV P o f T) else bif aJ P o then kY P lib A g all r id f T o.dst Q (dh id (cV P o f ⟨.nil,id⟩)) else gk P lib A g all r id f o.dst T Q (cV P o f T):=rfl
theorem mm (o:cm):gR P lib A g all o r id f T Q true=if aS P o=true then mj P lib A g all o r id f T Q (cV P o f T) else if aJ P o=true then kY P lib A g all r id f T o.dst Q (dh id (cV P o f ⟨.nil,id⟩)) else gk P lib A g all r id f o.dst T Q (cV P o f T):=by
 rw[pt];cases aS P o<;>cases aJ P o<;>rfl
theorem ez (op:Op)(t:Tmp):gR P lib A g all ⟨some t,op,ty,ps,af,gd⟩ r id f T Q false=if t<f.n then bW P lib A all r (if aS P ⟨some t,op,ty,ps,af,gd⟩=true then g else if aJ P ⟨some t,op,ty,ps,af,gd⟩=true then g else g-1) (if aJ P ⟨some t,op,ty,ps,af,gd⟩=true then id+1 else id) (f.put t undef) T Q else False:=by
 have e:(if bh P ⟨some t,op,ty,ps,af,gd⟩=true then g-1 else g)=(if aS P ⟨some t,op,ty,ps,af,gd⟩=true then g else if aJ P ⟨some t,op,ty,ps,af,gd⟩=true then g else g-1):=by
  unfold bh;cases aS P ⟨some t,op,ty,ps,af,gd⟩<;>cases aJ P ⟨some t,op,ty,ps,af,gd⟩<;>rfl
 rw[<-e];simp only[gR,dJ]
theorem mn (o:Op)(t:Tmp)(v:av)(s' :au):mj P lib A g all ⟨some t,o,ty,ps,af,gd⟩ r id f T Q (some (.val v s'))=if LA.fB ⟨some t,o,ty,ps,af,gd⟩ f A=true/\bI v v=true/\t<f.n then bW P lib A all r g id (f.put t v) T Q else False:=by
 simp only[mj,dJ];by_cases h0:LA.fB ⟨some t,o,ty,ps,af,gd⟩ f A=true<;>by_cases h1:bI v v=true<;>by_cases h2:t<f.n<;>simp[h0,h1,h2]
theorem ke (gg:fL)(args:aC av):gk P lib A g all r id f d T Q (some (.call gg args))=Runs P lib gg args T (fun v T' =>(g≠0->LA.dz A T T')/\fq P lib A (g-1) all r id f d Q v T'):=rfl
theorem kh (t:Tmp)(v:av)(s' :au):fq P lib A g all r id f (some t) Q v s' =if t<f.n then bW P lib A all r g id (f.put t v) s' Q else False:=by
 simp only[fq,dJ]
theorem ki (v:av):gk P lib A g all r id f d T Q (some (.val v T))=fq P lib A (g-1) all r id f d Q v T:=by
 simp only[gk,fq,LA.dz.refl,implies_true,true_and]
theorem vz (v:av)(T' :au):gk P lib A g all r id f d T Q (some (.val v T'))=((g≠0->LA.dz A T T')/\fq P lib A (g-1) all r id f d Q v T'):=rfl
theorem kj (v:av)(s' :au):fq P lib A g all r id f none Q v s' =bW P lib A all r g id f s' Q:=rfl
theorem rq (v:av)(bl:kM):kY P lib A g all r id f T d Q (some (v,bl))=fq P lib A g all r (id+1) f d Q v (T.put id (.eE bl)):=rfl
end
def px (P:a1)(ops:aC cm)(K0:a2):dP:=
 let ms:=b9 ops []
 ops.zipIdx.all fun x=>
  (ops.zipIdx.all fun y=> !aJ P y.1||(bif dT y.2 x.2 then !LA.kO P x.1||b4 (cW ms x.2) y.2 else !Nat.testBit (cW ms x.2) y.2))&&
  (!(LA.dD P x.1&& !fA x.1)||(ea (countP (fun j=> !Nat.testBit (cW ms j) x.2) P ops 0) K0&&ea (countP (fun j=>dT j x.2) P ops 0) K0))&&
  (!(aS P x.1&& !LA.dD P x.1)||(ea (countP (fun j=> !Nat.testBit (cW ms j) x.2) P ops 0) (countP (fun j=>dT j x.2) P ops 0)&&eD (countP (b4 (cW ms x.2)) P ops 0) (countP (fun j=>dT j x.2) P ops 0)))
structure gS (A:a2->dP) (b:Prop) (s0:au) (K:a2) (i id:a2) (ars:aC (a2×a2×kM)) (T U:au):Prop extends Stands s0 K i id ars T U where
 DW:b->LA.dz A s0 T
 DX:b->LA.dz A s0 U
 ids:∀x∈ars,A x.2.1=false
theorem Hf {P:a1}{o:cm}{A:a2->dP}{s0:au}(h:LA.dD P o=true){f:aZ}{s t:au}(hl:LA.fB o f A=true)(hs:fA o=false->LA.dz A s0 s)(ht:fA o=false->LA.dz A s0 t){v:av}{s' :au}(ha:cV P o f s=some (.val v s')):cV P o f t=some (.val v t):=by
 cases hp:fA o with
 |true=>exact uu hp ha
 |false=>exact LA.rp h hl (hs hp) (ht hp) ha
theorem lj {P:a1}{lib:aD}{all:aC cm}{A:a2->dP}(s0:au)(hA:∀i,A i=true->i<s0.next)(K0:a2)(nv:aC a2){Q:aZ->au->Prop}
  (kD:∀(o:cm) (i:a2),all[i]?=some o->LA.dD P o=true->fA o=false->countP (fun j=> !Nat.testBit (cW nv j) i) P all 0<=K0/\fG P all i<=K0)
  (MP:∀(o:cm) (i:a2),all[i]?=some o->aS P o=true->LA.dD P o=false->countP (fun j=> !Nat.testBit (cW nv j) i) P all 0<=fG P all i/\countP (b4 (cW nv i)) P all 0=fG P all i)
  (DT:∀(o p:cm) (i j:a2),all[i]?=some o->all[j]?=some p->aJ P p=true->j<i->LA.kO P o=true->b4 (cW nv i) j=true)
  (MQ:∀(o p:cm) (i j:a2),all[i]?=some o->all[j]?=some p->aJ P p=true->i<=j->b4 (cW nv i) j=false):
  ∀(l pre:aC cm) (ms:aC a2) (id:a2) (f:aZ) (T U:au) (ars:aC (a2×a2×kM)),all=pre++l->ms=nv.drop pre.length->ms.length=l.length->id+aO P l<=s0.next+aO P all->gS A (fG P pre pre.length<=K0) s0 (aO P all) pre.length id ars T U->(∀x∈ars,∃p,all[x.1]?=some p/\aJ P p=true)->bW P lib A all l (K0-fG P pre pre.length) id f U Q->
  ∃es f' T' U',(∃n,∀m,n<=m->cf P (iZ P lib m) all ms l pre.length id f T ars=some es)/\(aE P l es T).getLastD T=T' /\bV l es f=f' /\Cl.fill (fun _=>true) T' (ars++madeOf es pre.length)=U' /\
   (∀x∈madeOf es pre.length,pre.length<=x.1/\∃p,all[x.1]?=some p/\aJ P p=true)/\
   (∀k x,(aE P l es T)[k]?=some x->fG P pre pre.length+k<=K0->LA.dz A s0 x)/\(∀jn before,jn=before++aE P l es T->(∀k x,jn[k]?=some x->k<=K0->LA.dz A s0 x)->before.length=fG P pre pre.length->bO P all nv (ars++madeOf es pre.length) jn ms l es pre.length f=true)/\bQ s0 U' /\Q f' U' :=by
 intro l
 induction l with
 |nil=>
  intro pre ms id f T U ars _ _ hl _ aF _ hw;rw[iK] at hw;cases ms with
  |cons m r=>simp at hl
  |nil=>exact⟨[],f,T,U,⟨0,fun _ _=>rfl⟩,rfl,rfl,by simp only[madeOf,eg];exact aF.fill _ (fun _ _=>rfl),(fun x hx=>by simp[madeOf] at hx),(fun k x hx hk=>by
   simp only[aE] at hx;cases k with
   |zero=>simp at hx;rw[<-hx];exact aF.DW (by omega)
   |succ k=>simp at hx),fun _ _ _ _ _=>rfl,aF.keeps,hw⟩
 |cons o r ih=>
  intro pre ms id f T U ars kE Ci hl fM aF has hw;cases ms with
  |nil=>simp at hl
  |cons m ms=>
  have xN:ms.length=r.length:=by simpa using hl
  have mM:all=(pre++[o])++r:=by rw[kE,cv];rfl
  have dk:(pre++[o]).length=pre.length+1:=by simp
  have sk:ms=nv.drop (pre++[o]).length:=by
   rw[dk,<-cx,<-Ci];rfl
  have MR:cW nv pre.length=m:=by
   have ny:∀(L:aC a2) (k:a2) (x:a2) (t:aC a2),L.drop k=x::t->cW L k=x:=by
    intro L
    induction L with
    |nil=>intro k x t h;simp at h
    |cons y L FU=>
     intro k x t h;cases k with
     |zero=>simp at h;exact h.1
     |succ k=>simp only[List.drop_succ_cons] at h;simp only[cW];exact FU k x t h
   exact ny nv pre.length m ms Ci.symm
  have jq:all[pre.length]?=some o:=by rw[kE];simp
  have Bc:fG P all pre.length=fG P pre pre.length:=by rw[kE,qb]
  have vM:=vv P o pre;have jA:∀(v:av) (g' MS:a2) (U' :au),(dm f o.dst v fun f' =>bW P lib A all r g' MS f' U' Q)->∃f1,my f o.dst v=some f1/\bW P lib A all r g' MS f1 U' Q:=by
   intro v g' MS U' h;unfold dm at h;split at h
   ·exact⟨_,‹_›,h⟩
   exact h.elim
  have yL:∀b:dP,bh P o=b->fG P (pre++[o]) (pre++[o]).length=if b then fG P pre pre.length+1 else fG P pre pre.length:=fun b hb=>by rw[vM,hb]
  have ga:aO P (o::r)=if aJ P o then aO P r+1 else aO P r:=rfl
  have pq:LA.kO P o=true->Cl.fill (b4 m) T ars=U:=fun hn=>aF.fill _ (fun x hx=>by
   obtain⟨p,hp,Ig⟩:=has x hx;rw[<-MR];exact DT o p pre.length x.1 jq hp Ig (aF.before x hx) hn)
  rw[gy] at hw;cases pV:cH all o f with
  |false=>
   rw[pV] at hw;obtain⟨f1,hp,hw⟩:=jA _ _ _ _ hw;have fN:gS A (fG P (pre++[o]) (pre++[o]).length<=K0) s0 (aO P all) (pre++[o]).length (if aJ P o then id+1 else id) ars T U:=by
    refine⟨⟨aF.fill,aF.here,fun x hx=>by have:=aF.before x hx;omega,by have:=aF.lo;split<;>omega,fun k hk qP=>aF.free k (by split at hk<;>omega) qP,aF.next,aF.keeps⟩,fun h=>aF.DW (by rw[vM] at h;split at h<;>omega),fun h=>aF.DX (by rw[vM] at h;split at h<;>omega),aF.ids⟩
   obtain⟨es,f',T',U',⟨n,h1⟩,h3,h4,hf,mN,ln,h5,hk,h6⟩:=ih (pre++[o]) ms _ f1 T U ars mM sk xN (by rw[ga] at fM;split<;>split at fM<;>first|omega|contradiction) fN has (by rw[vM];cases he:bh P o<;>simp only[he,eI,if_false,eb] at hw|- <;>first|exact hw|(rw[e8];exact hw));rw[dk] at h1 h5 hf mN;refine⟨.skip::es,f',T',U',⟨n,fun q hq=> ?_⟩,?_,by simp only[bV,Ev.val,hp,h4],by simp only[madeOf];exact hf,(fun x hx=>by simp only[madeOf] at hx;obtain⟨a,b⟩:=mN x hx;exact⟨by omega,b⟩),(fun k x hx hk=>by
    simp only[aE] at hx;split at hx
    ·rename_i he;cases k with
     |zero=>simp at hx;rw[<-hx];exact aF.DW (by omega)
     |succ k=>exact ln k x (by simpa using hx) (by rw[vM,eJ he];omega)
    rename_i he;exact ln k x hx (by rw[vM,et he];omega)),fun jn before hs jJ hb=> ?_,hk,h6⟩
   ·simp only[cf,dH,pV,Ev.val,hp];rw[h1 q hq]
   ·simp only[aE];split
    ·obtain⟨rr,hr⟩:=dC P r es T;rw[hr] at h3|-
     rw[cb] at h3|-
     rw[cb];exact h3
    exact h3
   simp only[bO,Ev.val,hp,cJ,madeOf];simp only[aE] at hs;split at hs
   ·rename_i he;refine h5 jn (before++[T]) (by rw[hs,cv];rfl) jJ ?_;rw[<-dk,vM,eJ he,cc,hb];rfl
   rename_i he;refine h5 jn before hs jJ ?_;rw[<-dk,vM,et he,hb]
  |true=>
   rw[pV] at hw;cases hq:aS P o with
   |true=>
    simp only[gR,hq,cond_true] at hw;have cE:=iI hq;have Fp:=jB hq;rw[ga,et (by simp[Fp])] at fM;unfold mj at hw;split at hw
    case h_2=>exact hw.elim
    rename_i v s1 er;obtain⟨mA,hv,hw⟩:=hw;obtain⟨f1,hp,hw⟩:=jA _ _ _ _ hw;have fN:gS A (fG P (pre++[o]) (pre++[o]).length<=K0) s0 (aO P all) (pre++[o]).length id ars T U:=⟨⟨aF.fill,aF.here,fun x hx=>by have:=aF.before x hx;omega,aF.lo,aF.free,aF.next,aF.keeps⟩,fun h=>aF.DW (by rw[yL _ cE] at h;simpa using h),fun h=>aF.DX (by rw[yL _ cE] at h;simpa using h),aF.ids⟩;obtain⟨es,f',T',U',⟨n,h1⟩,h3,h4,hf,mN,ln,h5,hk,h6⟩:=ih (pre++[o]) ms id f1 T U ars mM sk xN fM fN has (by rw[yL _ cE];exact hw);rw[dk] at h1 h5 hf mN;have hle:LA.dD P o=true->fA o=false->countP (fun j=> !Nat.testBit (cW nv j) pre.length) P all 0<=K0/\fG P pre pre.length<=K0:=fun h1 h2=>by rw[<-Bc];exact kD o pre.length jq h1 h2
    have m8:∃s2,cV P o f (Cl.fill (b4 m) T ars)=some (.val v s2):=by
     cases kJ:LA.dD P o with
     |true=>exact⟨_,Hf kJ mA (fun h=>aF.DX (hle kJ h).2) (fun h=>(aF.DW (hle kJ h).2).trans (LA.nA _ _ _ _ aF.ids)) er⟩
     |false=>exact⟨s1,by rw[pq (by simp[LA.kO,kJ,Fp])];exact er⟩
    obtain⟨s2,m8⟩:=m8;refine⟨.quiet v::es,f',T',U',⟨n,fun q z7=> ?_⟩,?_,by simp only[bV,Ev.val,hp,h4],by simp only[madeOf];exact hf,(fun x hx=>by simp only[madeOf] at hx;obtain⟨a,b⟩:=mN x hx;exact⟨by omega,b⟩),(fun k x hx hk=>ln k x (by simpa [aE,cE] using hx) (by rw[yL _ cE];simpa using hk)),fun jn before hs jJ hb=> ?_,hk,h6⟩
    ·simp only[cf,dH,pV,hq,m8,Ev.val,hp,Fp];rw[et (by simp),h1 q z7]
    ·simp only[aE,cE];simpa using h3
    have tQ:jn=before++aE P r es T:=by simpa [aE,cE] using hs
    simp only[bO,Ev.val,hp,madeOf];rw[h5 jn before tQ jJ (by rw[<-dk,vM,et (by simp[cE]),hb]),fk];have hfw:∀X:au,Cl.fill (b4 m) X (ars++madeOf es (pre.length+1))=Cl.fill (b4 m) X ars:=by
     intro X;rw[jh,vw _ (madeOf es (pre.length+1))];intro x hx;obtain⟨a,p,Tf,Ig⟩:=mN x hx;rw[<-MR];exact MQ o p pre.length x.1 jq Tf Ig (by omega)
    have tP:∀(L:aC au),(LA.dD P o=true->fA o=false->∀x∈L,LA.dz A s0 x)->(LA.dD P o=false->∀x∈L,x=T)->sameAt P m (ars++madeOf es (pre.length+1)) o f v L=true:=by
     intro L
     induction L with
     |nil=>intro _ _;rfl
     |cons x L FU=>
      intro kA hx;simp only[sameAt,hfw];have:∃s3,cV P o f (Cl.fill (b4 m) x ars)=some (.val v s3):=by
       cases kJ:LA.dD P o with
       |true=>exact⟨_,Hf kJ mA (fun h=>aF.DX (hle kJ h).2) (fun h=>(kA kJ h x (c0 ..)).trans (LA.nA _ _ _ _ aF.ids)) er⟩
       |false=>rw[hx kJ x (c0 ..)];exact⟨s2,m8⟩
      obtain⟨s3,iT⟩:=this;rw[iT];simp only[hv,cJ];exact FU (fun h1 h2 y hy=>kA h1 h2 y (eu _ hy)) (fun kJ y hy=>hx kJ y (eu _ hy))
    refine tP _ (fun h1 h2 x hx=> ?_) (fun kJ x hx=> ?_)
    ·obtain⟨k,hk⟩:=List.getElem?_of_mem (List.mem_of_mem_drop hx);rw[List.getElem?_take] at hk;split at hk
     ·rename_i hkl;have:=(hle h1 h2).1;exact jJ k x hk (by omega)
     cases hk
    obtain⟨t1,t2⟩:=MP o pre.length jq hq kJ;rw[MR] at t2;rw[t2] at hx;obtain⟨rr,hr⟩:=dC P r es T;rw[Bc,<-hb,cz,tQ,hr,ev] at hx;have oK:countP (fun j=> !Nat.testBit (cW nv j) pre.length) P all 0+1-before.length<=1:=by omega
    generalize countP (fun j=> !Nat.testBit (cW nv j) pre.length) P all 0+1-before.length=k at hx oK;cases k with
    |zero=>simp at hx
    |succ k=>
     obtain rfl:k=0:=by omega
     simpa using hx
   |false=>
    cases ha:aJ P o with
    |true=>
     simp only[gR,hq,ha,cond_true,cond_false] at hw;rw[ga,eJ ha] at fM;have cE:bh P o=false:=by simp[bh,ha]
     unfold kY at hw;split at hw
     case h_2=>exact hw.elim
     rename_i v b er;obtain⟨f1,hp,hw⟩:=jA _ _ _ _ hw;have MT:∃s1,cV P o f ⟨.nil,id⟩=some (.val v s1)/\s1.bL id=some b:=by
      unfold dh at er;split at er
      ·rename_i v1 s1 h1;split at er
       ·rename_i b1 fp;injection er with er;injection er with e1 e2;subst e1;subst e2
        exact⟨s1,h1,fp⟩
       cases er
      cases er
     obtain⟨s1,zt,iV⟩:=MT;have jg:=aF.free id (b7 _) (by omega);have a7:id<U.next:=by have:=aF.next;omega
     have fN:gS A (fG P (pre++[o]) (pre++[o]).length<=K0) s0 (aO P all) (pre++[o]).length (id+1) (ars++[(pre.length,id,b)]) T (U.put id (.eE b)):=by
      refine⟨⟨fun p hp=> ?_,fun x hx=> ?_,fun x hx=> ?_,by have:=aF.lo;omega,fun k hk qP=> ?_,by have:=aF.next;simpa [au.put] using this,?_⟩,fun h=>aF.DW (by rw[yL _ cE] at h;simpa using h),fun h=>(aF.DX (by rw[yL _ cE] at h;simpa using h)).trans ⟨b7 _,fun i hi=>au.bo _ _ _ _ (by have:=aF.lo;have:=hA i hi;omega)⟩,fun x hx=> ?_⟩
      ·rw[jh,aF.fill p (fun x hx=>hp x (List.mem_append_left _ hx))];have SU:p pre.length=true:=hp (pre.length,id,b) (List.mem_append_right _ (c0 ..));simp only[Cl.fill,SU,jg]
      ·rcases bt.mp hx with hx|hx
       ·have hh:=aF.here x hx;have:x.2.1≠id:=fun e=>hh (by rw[e];exact jg)
        rw[au.bo _ _ _ _ (Ne.symm this)];exact hh
       rw[cd] at hx;subst hx
       simp only[au.put,Tr.bF _ _ _ _ (deep (by omega))];simp
      ·rcases bt.mp hx with hx|hx
       ·have:=aF.before x hx;omega
       rw[cd] at hx;subst hx;simp
      ·rw[au.bo _ _ _ _ (by omega)];exact aF.free k (by omega) qP
      ·have hk:=aF.keeps;refine⟨hk.next,fun j hj hn=> ?_,fun j hj=> ?_,⟨by omega,fun j ob hj=> ?_⟩⟩
       ·have:=aF.lo;rw[au.bo _ _ _ _ (by omega)];exact hk.gone j hj hn
       ·by_cases gD:id=j
        ·subst gD;simp only[au.put,Tr.bF _ _ _ _ (deep (by omega))];simp
        rw[au.bo _ _ _ _ gD];exact hk.here j hj
       by_cases gD:id=j
       ·subst gD;simpa [au.put] using a7
       rw[au.bo _ _ _ _ gD] at hj;have:=hk.wf.bound j ob hj;simpa [au.put] using this
      rcases bt.mp hx with hx|hx
      ·exact aF.ids x hx
      rw[cd] at hx;subst hx;exact(by cases hAi:A id with|false=>rfl|true=>(have:=hA id hAi;have:=aF.lo;omega))
     have MU:∀x∈ars++[(pre.length,id,b)],∃p,all[x.1]?=some p/\aJ P p=true:=by
      intro x hx;rcases bt.mp hx with hx|hx
      ·exact has x hx
      rw[cd] at hx;subst hx;exact⟨o,jq,ha⟩
     obtain⟨es,f',T',U',⟨n,h1⟩,h3,h4,hf,mN,ln,h5,hk,h6⟩:=ih (pre++[o]) ms (id+1) f1 T _ _ mM sk xN (by omega) fN MU (by rw[yL _ cE];exact hw);rw[dk] at h1 h5 hf mN;have Tz:∀L,ars++(pre.length,id,b)::L=(ars++[(pre.length,id,b)])++L:=fun L=>by rw[cv];rfl
     refine⟨.made v id b::es,f',T',U',⟨n,fun q z7=> ?_⟩,?_,by simp only[bV,Ev.val,hp,h4],by simp only[madeOf];rw[Tz];exact hf,(fun x hx=> ?_),(fun k x hx hk=>ln k x (by simpa [aE,cE] using hx) (by rw[yL _ cE];simpa using hk)),fun jn before hs jJ hb=> ?_,hk,h6⟩
     ·simp only[cf,dH,pV,hq,ha,zt,iV,Ev.val,hp,eb];rw[h1 q z7]
     ·simp only[aE,cE];simpa using h3
     ·simp only[madeOf] at hx;rcases eG.mp hx with rfl|hx
      ·exact⟨b7 _,o,jq,ha⟩
      obtain⟨a,c⟩:=mN x hx;exact⟨by omega,c⟩
     simp only[bO,Ev.val,hp,cJ,madeOf];rw[Tz];have tQ:jn=before++aE P r es T:=by simpa [aE,cE] using hs
     exact h5 jn before tQ jJ (by rw[<-dk,vM,et (by simp[cE]),hb])
    |false=>
     simp only[gR,hq,ha,cond_false] at hw;rw[ga,et (by simp[ha])] at fM;have he:bh P o=true:=by simp[bh,hq,ha]
     have kJ:LA.dD P o=false:=by
      cases kJ:LA.dD P o with
      |false=>rfl
      |true=>rw[LA.vy kJ] at hq;cases hq
     have hU:=pq (by simp[LA.kO,kJ,ha]);have fin:∀(v:av) (U1:au) (n0:a2),(∀q,n0<=q->dH P (iZ P lib q) all m id ars o f T=some (.BH v U1))->bQ U U1->(K0-fG P pre pre.length≠0->LA.dz A U U1)->(dm f o.dst v fun f' =>bW P lib A all r (K0-fG P pre pre.length-1) id f' U1 Q)->
       ∃es f' T' U',(∃n,∀m',n<=m' ->cf P (iZ P lib m') all (m::ms) (o::r) pre.length id f T ars=some es)/\(aE P (o::r) es T).getLastD T=T' /\bV (o::r) es f=f' /\Cl.fill (fun _=>true) T' (ars++madeOf es pre.length)=U' /\
        (∀x∈madeOf es pre.length,pre.length<=x.1/\∃p,all[x.1]?=some p/\aJ P p=true)/\
        (∀k x,(aE P (o::r) es T)[k]?=some x->fG P pre pre.length+k<=K0->LA.dz A s0 x)/\(∀jn before,jn=before++aE P (o::r) es T->(∀k x,jn[k]?=some x->k<=K0->LA.dz A s0 x)->before.length=fG P pre pre.length->bO P all nv (ars++madeOf es pre.length) jn (m::ms) (o::r) es pre.length f=true)/\bQ s0 U' /\Q f' U' :=by
      intro v U1 n0 hd z8 He hw;obtain⟨f1,hp,hw⟩:=jA _ _ _ _ hw;have ux:∀x∈ars,U1.heap.get x.2.1≠none:=fun x hx=>z8.here _ (aF.here x hx)
      have fN:gS A (fG P (pre++[o]) (pre++[o]).length<=K0) s0 (aO P all) (pre++[o]).length id ars U1 U1:=by
       refine⟨⟨fun p hp=>vx p ars U1 ux,ux,fun x hx=>by have:=aF.before x hx;omega,aF.lo,fun k hk qP=>z8.gone k (by have:=aF.next;omega) (aF.free k hk qP),by have:=aF.next;have:=z8.next;omega,aF.keeps.trans z8⟩,fun h=>(aF.DX (by rw[yL _ he] at h;simp at h;omega)).trans (He (by rw[yL _ he] at h;simp at h;omega)),fun h=>(aF.DX (by rw[yL _ he] at h;simp at h;omega)).trans (He (by rw[yL _ he] at h;simp at h;omega)),aF.ids⟩
      obtain⟨es,f',T',U',⟨n,h1⟩,h3,h4,hf,mN,ln,h5,hk,h6⟩:=ih (pre++[o]) ms id f1 U1 U1 ars mM sk xN fM fN has (by rw[yL _ he,eJ rfl,e8];exact hw);rw[dk] at h1 h5 hf mN;refine⟨.BH v U1::es,f',T',U',⟨n+n0,fun q z7=> ?_⟩,?_,by simp only[bV,Ev.val,hp,h4],by simp only[madeOf];exact hf,(fun x hx=>by simp only[madeOf] at hx;obtain⟨a,b⟩:=mN x hx;exact⟨by omega,b⟩),(fun k x hx hk=>by
       simp only[aE] at hx;cases k with
       |zero=>simp at hx;rw[<-hx];exact aF.DW (by omega)
       |succ k=>exact ln k x (by simpa using hx) (by rw[yL _ he,eJ rfl];omega)),fun jn before hs jJ hb=> ?_,hk,h6⟩
      ·simp only[cf,hd q (by omega),Ev.val,hp,ha];rw[et (by simp),h1 q (by omega)]
      ·simp only[aE];obtain⟨rr,hr⟩:=dC P r es U1;rw[hr] at h3|-
       rw[cb] at h3|-
       rw[cb];exact h3
      simp only[bO,Ev.val,hp,cJ,madeOf];simp only[aE] at hs;refine h5 jn (before++[T]) (by rw[hs,cv];rfl) jJ ?_;rw[<-dk,vM,eJ he,cc,hb];rfl
     unfold gk at hw;split at hw
     case h_3=>exact hw.elim
     ·rename_i v U1 er;obtain⟨He,hw⟩:=hw;exact fin v U1 0 (fun q _=>by simp only[dH,pV,hq,ha,hU,er]) (qS aF.keeps.wf er) He hw
     rename_i g args er;obtain⟨v,U1,⟨nc,hc⟩,z8,He,hw⟩:=hw aF.keeps.wf;exact fin v U1 nc (fun q z7=>by simp only[dH,pV,hq,ha,hU,er,hc q z7]) z8 He hw
theorem cN.loose {P:a1}{lib:aD}{ops:aC cm}{A:a2->dP}(K0:a2)(ht:px P ops K0=true){f:aZ}{s:au}{Q:aZ->au->Prop}(hA:∀i,A i=true->i<s.next)(h:bW P lib A ops ops K0 s.next f (spare s (aO P ops)) Q):cN P lib ops f s Q:=by
 intro pZ;simp only[px,List.all_eq_true,eS,Bool.or_eq_true,Bool.not_eq_true'] at ht;have mB:∀(o:cm) (i:a2),ops[i]?=some o->(o,i)∈ops.zipIdx:=fun o i hi=>by rw[List.mem_zipIdx_iff_getElem?];simpa using hi
 have Ci:(b9 ops []).length=ops.length:=by
  obtain⟨r,h1,h2⟩:=mg ops [];rw[h1];simpa using h2
 have jg:∀k,s.next<=k->s.heap.get k=none:=fun k oK=>by
  cases hg:s.heap.get k with
  |none=>rfl
  |some o=>have:=pZ.bound k o hg;omega
 have Jv:bQ s (spare s (aO P ops)):=⟨by simp[spare],fun _ _ h=>h,fun _ h=>h,⟨by omega,fun j o hj=>by have:=pZ.bound j o hj;simp only[spare];omega⟩⟩;obtain⟨es,f',T',U',⟨n,h1⟩,h3,h4,hf,mN,ln,h5,hk,h6⟩:=lj (P:=P) (lib:=lib) (all:=ops) (A:=A) s hA K0 (b9 ops []) (Q:=Q) (fun o i hi hc hp=>by
   have:=(ht (o,i) (mB o i hi)).1.2;have Ce:=kX P ops 0 i;rw[cU] at Ce;rcases this with h|h
   ·simp[hc,hp] at h
   obtain⟨t1,t2⟩:=h;rw[Ce] at t2;exact⟨by simpa [cB] using t1,by simpa [cB] using t2⟩)
  (fun o i hi hq hp=>by
   have:=(ht (o,i) (mB o i hi)).2;have Ce:=kX P ops 0 i;rw[cU] at Ce;rcases this with h|h
   ·simp[hq,hp] at h
   obtain⟨t1,t2⟩:=h;rw[Ce] at t1 t2;exact⟨by simpa [cB] using t1,by simpa [ed] using t2⟩)
  (fun o p i j hi hj ha gD hn=>by
   have:=(ht (o,i) (mB o i hi)).1.1 (p,j) (mB p j hj);have hb:dT j i=true:=by simpa [eK] using gD
   simp only[ha,hb,cond_true,hn] at this
   simpa using this)
  (fun o p i j hi hj ha Dd=>by
   have:=(ht (o,i) (mB o i hi)).1.1 (p,j) (mB p j hj);have hb:dT j i=false:=by rw[<-eV,eK];omega
   simp only[ha,hb,cond_false] at this
   simpa using this)
  ops [] (b9 ops []) s.next f (spare s (aO P ops)) (spare s (aO P ops)) [] rfl rfl Ci (by omega)
  ⟨⟨fun _ _=>rfl,fun _ hx=>(by cases hx),fun _ hx=>(by cases hx),b7 _,fun k oK _=>jg k oK,by simp[spare],Jv⟩,fun _=>LA.aw.qI hA (aw.spare _ _),fun _=>LA.aw.qI hA (aw.spare _ _),fun _ hx=>(by cases hx)⟩ (fun _ hx=>(by cases hx)) h
 simp only[eh,List.length_nil] at h1 h5 hf mN;refine⟨f',U',⟨n,fun m hm=> ?_⟩,hk,h6⟩;unfold iC;have MD:=h1 m hm;have hb:ea 0 16000000=true:=rfl;simp only[];show(match cf P (iZ P lib m) ops (b9 ops []) ops 0 s.next f (spare s (aO P ops)) [] with
  |some es=>match bO P ops (b9 ops []) (madeOf es 0) (aE P ops es (spare s (aO P ops))) (b9 ops []) ops es 0 f with
   |true=>some (bV ops es f,Cl.fill (fun _=>true) ((aE P ops es (spare s (aO P ops))).getLastD s) (madeOf es 0))
   |false=>none
  |none=>none)=_
 rw[MD];have h5' :=h5 (aE P ops es (spare s (aO P ops))) [] rfl (fun k x hx hk=>ln k x hx (by simpa [fG] using hk)) rfl;simp only[h5',h4];obtain⟨rr,hr⟩:=dC P ops es (spare s (aO P ops));rw[hr] at h3|-
 rw[cb] at h3|-
 rw[h3,hf]
theorem cN.dx {P:a1}{lib:aD}{ops:aC cm}{f:aZ}{s:au}{Q:aZ->au->Prop}(A:a2->dP)(hA:∀i,A i=true->i<s.next)(g k:a2)(ht:px P ops g=true)(hk:eD (aO P ops) k=true)(h:bW P lib A ops ops g s.next f (spare s k) Q):AL P lib ops f s Q false:=by
 have:aO P ops=k:=by simpa [ed] using hk
 exact cN.loose g ht hA (by rw[this];exact h)
section
variable {P:a1} {lib:aD} {A:a2->dP} {g:a2} {all r:aC cm} {id:a2} {f:aZ} {T:au} {d:cT Tmp} {Q:aZ->au->Prop}
theorem bR {cs:aC av}{n z base:a2}(h:cs.length=n*z)(fM:id<T.next)(hb:base<=id)
  (K:∀v T',Own T' z v n cs->aI v=some id->aw base T T' ->T'.next=T.next->(∀j,j≠id->T'.heap.get j=T.heap.get j)->fq P lib A g all r (id+1) f d Q v T'):kY P lib A g all r id f T d Q (dh id (oU (a6 ⟨.nil,id⟩ cs n z))):=by
 have e:dh id (oU (a6 ⟨.nil,id⟩ cs n z))=some (.slice (some ⟨id,0,none⟩) n (cs.length+1),⟨cs,1,true,z⟩):=by
  have:a6 ⟨.nil,id⟩ cs n z=some (.slice (some ⟨id,0,none⟩) n (cs.length+1),(⟨.nil,id⟩:au).new (.eE ⟨cs,1,true,z⟩)):=by simp[a6,au.room]
  rw[this,eU];have hb:((⟨.nil,id⟩:au).new (.eE ⟨cs,1,true,z⟩)).bL id=some ⟨cs,1,true,z⟩:=oM ⟨.nil,id⟩ _;simp only[dh,hb]
 rw[e,rq];have zI:∀j,j≠id->(T.put id (.eE ⟨cs,1,true,z⟩)).heap.get j=T.heap.get j:=fun j hj=>au.bo _ _ _ _ (Ne.symm hj)
 refine K _ _ (.of id n 1 cs (by simpa [au.put] using fM) (au.cC _ _ _ (by omega)) (by omega) h) rfl ⟨b7 _,fun j hj=>zI j (by omega)⟩ rfl zI
theorem eY {st xt e:bq}{xd:TypeDesc}{z kH:a2}{zv:av}(hu:P.underlying st=some (.slice e))(Cm:P.underlying xt=some xd)(wS:(∃e2,xd= .slice e2)\/xd= .string)(cX:br P e=some z)(oC:dX P e=some kH)(qu:b6 P e=some zv)(tq:eD zv.cells.toList.length z=true)
  {x y:av} {n m:a2} {l new:aC av} (hx:Own T z x n l) (hy:dU T z y=some (m,new)) (gM:new.length=m*z) (tE:0<z) (gF:new.all aT=true) (fp:(n+m)*kH<=140737488355328) (dr:n+m<=140737488355328) {base:a2} (hF:aM base x) (hB:base<=T.next) (BR:g≠0->∀i,aI x=some i->A i=false) (Bf:∀i,A i=true->i<T.next)
  (K:∀x' T',Own T' z x' (n+m) (l++new)->aM base x' ->bG x T T' ->(aI x' =aI x\/∃i,aI x' =some i/\T.next<=i)->fq P lib A (g-1) all r id f d Q x' T'):gk P lib A g all r id f d T Q (oU (eT P T st xt x y)):=by
 obtain⟨x',s',h1,h2,h3,h4⟩:=Own.append hu Cm wS cX oC qu tq hx hy gM tE gF fp dr;rw[h1,eU];have hk:g≠0->LA.dz A T s' :=fun hg=>⟨h3.next,fun i hi=>h3.get i (Bf i hi) (fun e=>by have:=BR hg i e;rw[hi] at this;cases this)⟩
 refine⟨hk,K _ _ h2 (fun i hi=> ?_) h3 h4⟩;rcases h4 with h4|⟨j,hj,hl⟩
 ·exact hF i (by rw[<-h4];exact hi)
 rw[hj] at hi;injection hi with hi;omega
end
end LB
theorem bn:type_of%
 (a8 (a8 (a8 @LB.iK @LB.gy) (a8 @LB.mm @LB.ez)) (a8 (a8 @LB.mn
 @LB.kh) (a8 @LB.kj (a8 @LB.ke @LB.ki)))):=
 (a8 (a8 (a8 @LB.iK @LB.gy) (a8 @LB.mm @LB.ez)) (a8 (a8 @LB.mn
 @LB.kh) (a8 @LB.kj (a8 @LB.ke @LB.ki))))
end Go.Cl
namespace Go.Cl
theorem az.aK {s s' :au}{i j:a2}{cs:aC av}(h:az s i cs)(h1:s'.next=s.next)(h2:∀q,q≠j->s'.heap.get q=s.heap.get q)(Dd:i≠j):az s' i cs:=
 h.turns (bG.aK (o:=0) (c:=none) h1 h2) (fun e=>by have e:some j=some i:=e;injection e with e;exact Dd e.symm)
def over (l:aC av)(off:a2)(vs:aC av):aC av:=l.take off++vs++l.drop (off+vs.length)
theorem Kl {l:aC av}{off:a2}{vs:aC av}(h:off+vs.length<=l.length):(over l off vs).length=l.length:=by
 unfold over;simp;omega
theorem Km {l vs:aC av}(h:vs.length=l.length):over l 0 vs=vs:=by
 unfold over;rw[ew,eh,cU,h,List.drop_length,eg]
theorem TD {P:a1}{e:bq}{s:au}{i:a2}{l:aC av}{low z m:a2}(hb:s.bL i=some ⟨l,low,true,z⟩)(hl:low<=l.length+1){off c:a2}(hc:c=l.length+1){v:av}{vs:aC av}(hv:v.cells.toList=vs)(hm:vs.length=m)(V9:0<m)(cX:br P e=some m)(ho:off+m<=l.length)(gF:vs.all aT=true):
  fw P s e (.pointer (some ⟨i,off,some c⟩)) v=some (s.put i (.eE ⟨over l off vs,l.length+1,true,z⟩)):=by
 subst hc;obtain⟨k,rfl⟩:∃k,m=k+1:=⟨m-1,by omega⟩
 obtain⟨a,w,rfl⟩:∃a w,vs=a::w:=by
  cases vs with
  |nil=>simp at hm
  |cons a w=>exact⟨a,w,rfl⟩
 unfold fw;have ah3:eD (a::w).length (k+1)=true:=by rw[ed];exact hm
 simp only[cX,hv,ah3,eb];unfold au.storeAt;have IE:setAt l off (a::w)=some (over l off (a::w)):=uy _ _ _ (by omega);have jZ:(true&&ea low (l.length+1)&&eD (l.length+1) (l.length+1)&&(a::w).all aT)=true:=by
  simp only[gF,fk,cJ,eS,cB,ed];exact⟨hl,trivial⟩
 simp only[hb,jZ,eb,IE]
theorem az.TE {P:a1}{e:bq}{s:au}{i:a2}{cs:aC av}(h:az s i cs){m off c:a2}(cX:br P e=some m)(V9:0<m)(hc:c=cs.length+1){v:av}{vs:aC av}(hv:v.cells.toList=vs)(hm:vs.length=m)(ho:off+m<=cs.length)(gF:vs.all aT=true):
  ∃s',fw P s e (.pointer (some ⟨i,off,some c⟩)) v=some s' /\az s' i (over cs off vs)/\(s'.next=s.next/\∀j,j≠i->s'.heap.get j=s.heap.get j):=by
 obtain⟨low,z,h1,h2⟩:=h.eE;refine⟨_,TD h1 h2 hc hv hm V9 cX ho gF,⟨h.lt,cs.length+1,z,au.cC _ _ _ (by omega),by rw[Kl (by omega)];omega⟩,rfl,fun j hj=>au.bo _ _ _ _ (Ne.symm hj)⟩
theorem sq {P:a1}{lib:aD}{all r:aC cm}{f:aZ}{s:au}{d:cT Tmp}{Q:aZ->au->Prop}{e:bq}{m:a2}(cX:br P e=some m)(V9:0<m){i:a2}{cs:aC av}(h:az s i cs){off c:a2}(hc:c=cs.length+1){v:av}{vs:aC av}(hv:v.cells.toList=vs)(hm:vs.length=m)(ho:off+m<=cs.length)(gF:vs.all aT=true)
  (K:∀s',az s' i (over cs off vs)->s'.next=s.next->(∀j,j≠i->s'.heap.get j=s.heap.get j)->iH P lib all r f s d Q (some (.val undef s'))):iH P lib all r f s d Q (Fk (fw P s e (.pointer (some ⟨i,off,some c⟩)) v)):=by
 obtain⟨s',h1,h2,h3,h4⟩:=h.TE cX V9 hc hv hm ho gF;rw[h1,kW];exact K s' h2 h3 h4
theorem aG {P:a1}{lib:aD}{all r:aC cm}{f:aZ}{s:au}{d:cT Tmp}{Q:aZ->au->Prop}{e:bq}{m:a2}(cX:br P e=some m)(V9:0<m){i:a2}{cs:aC av}(h:az s i cs)(hcs:cs.length=m){c:a2}(hc:c=m+1){vs:c8 av}(hm:vs.toList.length=m)(gF:vs.toList.all aT=true)
  (K:∀s',az s' i vs.toList->s'.next=s.next->(∀j,j≠i->s'.heap.get j=s.heap.get j)->iH P lib all r f s d Q (some (.val undef s'))):iH P lib all r f s d Q (Fk (fw P s e (.pointer (some ⟨i,0,some c⟩)) (.agg vs))):=by
 refine sq cX V9 h (by omega) (v:= .agg vs) (vs:=vs.toList) rfl hm (by omega) gF ?_;rw[Km (by omega)];exact K
theorem a4 (P:a1)(f:aZ)(s:au)(t:Tmp)(ty:bq)(r:aC ResultVar):dj P f s (.cell t ty::r)=if t<f.n then(match aN P s ty (f.get t),dj P f s r with
  |some v,some l=>some (v::l)
  |_,_=>none) else none:=by
 by_cases h:t<f.n
 ·have hb:dT t f.n=true:=by simpa [eK] using h
  rw[eJ h]
  conv=>lhs;rw[dj]
  simp only[hb,eb];rfl
 have hb:dT t f.n=false:=by rw[<-eV,eK];exact h
 rw[et h]
 conv=>lhs;rw[dj]
 simp[hb]
theorem gn {P:a1}{s:au}{t e:bq}{z:a2}{zv:av}{cs:c8 av}(hu:P.underlying t=some (.slice e))(cX:br P e=some z)(hz:b6 P e=some zv)(pg:cr zv=true)(tq:eD zv.cells.toList.length z=true)(hl:cs.toList.length=z)(hz6:z<=65536):bp P s t 1 [(0,.agg cs)]=a6 s cs.toList 1 z:=by
 unfold bp;rw[hu]
 have ah4:zv.cells.toList.length=z:=by simpa [ed] using tq
 have hr:db zv.cells.toList 1=zv.cells.toList:=by simp[db]
 have IE:setAt zv.cells.toList 0 cs.toList=some cs.toList:=by
  rw[uy _ _ _ (by omega)];rw[ew,eh,cU,List.drop_of_length_le (by omega),eg]
 have hc:(ea (1*z) 65536&&cr zv&&eD zv.cells.toList.length z)=true:=by rw[pg,tq];simp[cB];exact hz6
 simp only[cX,hz,hc,hr,iu,bJ,eL,IE,eb];simp[ah4,hl]
namespace LB
section
variable {P:a1} {lib:aD} {A:a2->dP} {g:a2} {all r:aC cm} {id:a2} {f:aZ} {T:au} {d:cT Tmp} {Q:aZ->au->Prop}
theorem gU {cs:aC av}{z:a2}(fM:id<T.next)
  (K:∀T',az T' id cs->T'.next=T.next->(∀j,j≠id->T'.heap.get j=T.heap.get j)->fq P lib A g all r (id+1) f d Q (.pointer (some ⟨id,0,some (cs.length+1)⟩)) T'):kY P lib A g all r id f T d Q (dh id (oU (iE ⟨.nil,id⟩ cs z))):=by
 have e:dh id (oU (iE ⟨.nil,id⟩ cs z))=some (.pointer (some ⟨id,0,some (cs.length+1)⟩),⟨cs,1,true,z⟩):=by
  have:iE ⟨.nil,id⟩ cs z=some (.pointer (some ⟨id,0,some (cs.length+1)⟩),(⟨.nil,id⟩:au).new (.eE ⟨cs,1,true,z⟩)):=by simp[iE,au.room]
  rw[this,eU];have hb:((⟨.nil,id⟩:au).new (.eE ⟨cs,1,true,z⟩)).bL id=some ⟨cs,1,true,z⟩:=oM ⟨.nil,id⟩ _;simp only[dh,hb]
 rw[e,rq];exact K _ ⟨by simpa [au.put] using fM,1,z,au.cC _ _ _ (by omega),by omega⟩ rfl (fun j hj=>au.bo _ _ _ _ (Ne.symm hj))
theorem fu {e:bq}{m:a2}(cX:br P e=some m)(V9:0<m){i:a2}{cs:aC av}(h:az T i cs){off c:a2}(hc:c=cs.length+1){v:av}{vs:aC av}(hv:v.cells.toList=vs)(hm:vs.length=m)(ho:off+m<=cs.length)(gF:vs.all aT=true)(hA:g≠0->A i=false)
  (K:∀T',az T' i (over cs off vs)->T'.next=T.next->(∀j,j≠i->T'.heap.get j=T.heap.get j)->fq P lib A (g-1) all r id f d Q undef T'):gk P lib A g all r id f d T Q (Fk (fw P T e (.pointer (some ⟨i,off,some c⟩)) v)):=by
 obtain⟨s',h1,h2,h3,h4⟩:=h.TE cX V9 hc hv hm ho gF;rw[h1,kW,vz];exact⟨fun hg=>⟨by omega,fun j hj=>h4 j (fun e=>by have:=hA hg;rw[e,this] at hj;cases hj)⟩,K s' h2 h3 h4⟩
theorem bS {e:bq}{m:a2}(cX:br P e=some m)(V9:0<m){i:a2}{cs:aC av}(h:az T i cs)(hcs:cs.length=m){c:a2}(hc:c=m+1){vs:c8 av}(hm:vs.toList.length=m)(gF:vs.toList.all aT=true)(hA:g≠0->A i=false)
  (K:∀T',az T' i vs.toList->T'.next=T.next->(∀j,j≠i->T'.heap.get j=T.heap.get j)->fq P lib A (g-1) all r id f d Q undef T'):gk P lib A g all r id f d T Q (Fk (fw P T e (.pointer (some ⟨i,0,some c⟩)) (.agg vs))):=by
 refine fu cX V9 h (by omega) (v:= .agg vs) (vs:=vs.toList) rfl hm (by omega) gF hA ?_;rw[Km (by omega)];exact K
end
end LB
end Go.Cl
namespace Go.Cl
open Go.RowKit Go.ChangeShapes Go.WideShapes
theorem Kn {α:Type}{f:α->aC av}{z:a2}(hl:∀d,(f d).length=z){j:a2}(hj:j<z):∀(D:aC α) (i:a2) (d:α),D[i]?=some d->(D.flatMap f).getD (i*z+j) undef=(f d).getD j undef:=by
 intro D
 induction D with
 |nil=>intro i d h;simp at h
 |cons e D ih=>
  intro i d h;rw[List.flatMap_cons,aR];cases i with
  |zero=>
   simp at h;subst h
   rw[eL,cU,c5 (by rw[hl];exact hj),aR]
  |succ i=>
   have h' :D[i]?=some d:=by simpa using h
   rw[c3 (by rw[hl,bA];omega),hl];have e2:(i+1)*z+j-z=i*z+j:=by rw[bA];omega
   rw[e2,<-aR];exact ih i d h'
theorem Ko (b o n:a2):(⟨b,o,none⟩:Addr).add n=⟨b,o+n,none⟩:=by
 unfold Addr.add;split
 ·rename_i h;subst h;rfl
 rfl
theorem QJ {W:ey}{a:Addr}{v:av}(h:W.cell? a=some v):a.spot=none:=by
 unfold World.cell? at h;split at h
 ·split at h
  ·cases h
  rename_i q;simpa using q
 cases h
theorem QK {W:ey}{b o:a2}{v:av}(h:W.cell? ⟨b,o,none⟩=some v):∃arr E fr,W.heap[b]?=some (.cells arr E fr)/\o<arr.size:=by
 unfold World.cell? at h;split at h
 ·rename_i c E fr hh;refine⟨c,E,fr,hh,?_⟩;simp only[Option.isSome_none,eI,if_false] at h;rcases fS o c.size with q|q
  ·exact q
  rw[Array.getElem?_eq_none q] at h;cases h
 cases h
variable {H:Type} {enc:bq×av->H} {P:a1}
def bP:av->a2->av
 | .pointer (some ⟨i,o,some c⟩),j=> .pointer (some ⟨i,o+j,some c⟩)
 |v,_=>v
theorem kl (z:a2)(v:av)(k j:a2):bI (bP (aX z v k) j) (bP (aX z v k) j)=true:=by
 unfold aX;split<;>exact nQ _
theorem aU.gp {e:bq}(nd:bU P e=some false){s:au}{z:a2}{v:av}{n:a2}{l:aC av}(h:aU s z v n l){k j:a2}(hk:k<n)(hj:j<z):aN P s e (bP (aX z v k) j)=some (l.getD (k*z+j) undef):=by
 have hlen:=h.length;cases h with
 |nil=>omega
 |bare=>omega
 |of i off n c b l hi hb hz hl hc hlen eO ht=>
  have hkz:k*z+z<=n*z:=by
   have:(k+1)*z<=n*z:=ch z hk
   rwa [bA] at this
  show aN P s e (.pointer (some ⟨i,off+k*z+j,some c⟩))=_;unfold aN;simp only[nd];rw[ij hb hl hc (by omega)];have e2:b.cells.drop (off+k*z+j)=(b.cells.drop off).drop (k*z+j):=by rw[cx];congr 1;omega
  have Ie:k*z+j<l.length:=by omega
  have e3:((b.cells.drop off).drop (k*z+j)).take 1=[l.getD (k*z+j) undef]:=by
   have:((b.cells.drop off).drop (k*z+j)).take 1=(((b.cells.drop off).take (n*z)).drop (k*z+j)).take 1:=by
    rw[cz,e9];congr 1;omega
   rw[this,ht,c6 Ie,eF,ew,aR,an Ie];rfl
  rw[e2,e3]
end Go.Cl
namespace Go.Cl
theorem LA.gh {A:a2->dP}{s:au}{z:a2}{v:av}{n:a2}{l:aC av}(h:aU s z v n l)(hA:∀i,i<s.next->A i=true){k:a2}(hk:k<n):LA.di A (some (aX z v k))=true:=by
 cases h with
 |nil=>omega
 |bare=>omega
 |of i off n c bl l hi hbb hz hl hc hlen eO ht=>simp only[aX,LA.di];exact hA i hi
theorem LA.z9 {A:a2->dP}{s:au}{z:a2}{v:av}{n:a2}{l:aC av}(h:aU s z v n l)(hA:∀i,i<s.next->A i=true){k:a2}(hk:k<n)(j:a2):LA.di A (some (bP (aX z v k) j))=true:=by
 cases h with
 |nil=>omega
 |bare=>omega
 |of i off n c bl l hi hbb hz hl hc hlen eO ht=>simp only[aX,bP,LA.di];exact hA i hi
end Go.Cl
namespace Go.Cl
inductive O where
 |mk (kind n:gf) (b:aC bk) (l:aC O) (d:aC (aC bk×O))
namespace O
def kind:O->gf
 | .mk k _ _ _ _=>k
def num:O->gf
 | .mk _ n _ _ _=>n
def bytes:O->aC bk
 | .mk _ _ b _ _=>b
def items:O->aC O
 | .mk _ _ _ l _=>l
def vN:O->aC (aC bk×O)
 | .mk _ _ _ _ d=>d
def none:O:= .mk 0 0 [] [] []
theorem yM {k n:gf}{b:aC bk}{l:aC O}{d:aC (aC bk×O)}{x:O}(h:x∈l):SizeOf.sizeOf x<SizeOf.sizeOf (O.mk k n b l d):=by
 have:=en h;simp only[O.mk.sizeOf_spec];omega
theorem Cn {k n:gf}{b:aC bk}{l:aC O}{d:aC (aC bk×O)}{e:aC bk×O}(h:e∈d):SizeOf.sizeOf e.2<SizeOf.sizeOf (O.mk k n b l d):=by
 have h1:=en h;obtain⟨a,x⟩:=e;simp only[Prod.mk.sizeOf_spec] at h1;simp only[O.mk.sizeOf_spec];omega
end O
def gq (F:a2->Prop):av->Prop
 | .slice (some a) _ c=>c≠0->F a.block
 |_=>True
theorem gq.mono {F G:a2->Prop}{v:av}(h:gq F v)(k:∀j,F j->G j):gq G v:=by
 unfold gq at*;split
 ·exact fun hc=>k _ (h hc)
 trivial
theorem gq.Kp {F:a2->Prop}{v:av}(h:∀j,aI v=some j->F j):gq F v:=by
 unfold gq;split
 ·exact fun _=>h _ rfl
 trivial
theorem gq.fresh {base:a2}{v:av}(h:aM base v):gq (fun j=>base<=j) v:=gq.Kp h
theorem aU.qA {F:a2->Prop}{s s' :au}{z:a2}{v u:av}{n:a2}{l:aC av}(h:aU s z v n l)(hf:gq F v)(k:bG u s s')(cE:∀j,F j->aI u≠some j):aU s' z v n l:=by
 cases h with
 |nil=>exact .nil
 |bare i off=>exact .bare i off
 |of i off n c b l hi hb hz hl hc hlen eO ht=>
  have hF:F i:=hf (by omega);refine .of i off n c b l (cp hi k.next) ?_ hz hl hc hlen eO ht;simp only[au.bL,k.get i hi (cE i hF)];exact hb
inductive dV (F:a2->Prop) (s:au):aC av->O->Prop
 |mk (kind n:gf) (b:aC bk) (l:aC O) (d:aC (aC bk×O)) (bv lv dv:av) (lc dc:aC av)
  (hb:aU s 1 bv b.length (ofBytes b)) (hl:aU s 5 lv l.length lc) (hd:aU s 6 dv d.length dc)
  (fb:gq F bv) (fl:gq F lv) (fd:gq F dv)
  (hL:∀i (h:i<l.length),dV F s ((lc.drop (i*5)).take 5) l[i])
  (hK:∀i (h:i<d.length),dc.getD (i*6) undef= .string ⟨(d[i].1).toArray⟩)
  (hD:∀i (h:i<d.length),dV F s ((dc.drop (i*6+1)).take 5) d[i].2)
  (hM:∀i (h:i<d.length),(d[i].1).length<=9223372036854775807):
  dV F s [.int .i64 kind,.int .i64 n,bv,lv,dv] (.mk kind n b l d)
variable {F G:a2->Prop} {s s' :au} {cs:aC av} {o:O}
theorem dV.keeps (h:dV F s cs o)(k:aw s.next s s'):dV F s' cs o:=by
 induction h with
 |mk kind n b l d bv lv dv lc dc hb hl hd fb fl fd _ hK _ hM hL hD=>exact .mk kind n b l d bv lv dv lc dc (hb.keeps k) (hl.keeps k) (hd.keeps k) fb fl fd hL hK hD hM
theorem dV.mono (h:dV F s cs o)(k:∀j,F j->G j):dV G s cs o:=by
 induction h with
 |mk kind n b l d bv lv dv lc dc hb hl hd fb fl fd _ hK _ hM hL hD=>exact .mk kind n b l d bv lv dv lc dc hb hl hd (fb.mono k) (fl.mono k) (fd.mono k) hL hK hD hM
theorem dV.turns {u:av}(h:dV F s cs o)(k:bG u s s')(cE:∀j,F j->aI u≠some j):dV F s' cs o:=by
 induction h with
 |mk kind n b l d bv lv dv lc dc hb hl hd fb fl fd _ hK _ hM hL hD=>exact .mk kind n b l d bv lv dv lc dc (hb.qA fb k cE) (hl.qA fl k cE) (hd.qA fd k cE) fb fl fd hL hK hD hM
theorem dV.len (h:dV F s cs o):cs.length=5:=by cases h;rfl
theorem dV.ok (h:dV F s cs o):cs.all aT=true:=by
 cases h with
 |mk kind n b l d bv lv dv lc dc hb hl hd fb fl fd hL hK hD hM=>
  have h1:=hb.aT;have h2:=hl.aT;have h3:=hd.aT;simp only[List.all_cons,List.all_nil,h1,h2,h3];rfl
theorem xe {a b c d e:av}(h1:cw a a=true)(h2:cw b b=true)(h3:cw c c=true)(h4:cw d d=true)(h5:cw e e=true):bI (.agg #[a,b,c,d,e]) (.agg #[a,b,c,d,e])=true:=by
 simp[bI,fc,h1,h2,h3,h4,h5]
theorem aU.Kq {s:au}{z:a2}{v:av}{n:a2}{l:aC av}(h:aU s z v n l):cw v v=true:=by
 cases h<;>simp[cw,Nat.beq_refl]
theorem dV.self (h:dV F s cs o):bI (.agg cs.toArray) (.agg cs.toArray)=true:=by
 cases h with
 |mk kind n b l d bv lv dv lc dc hb hl hd fb fl fd hL hK hD hM=>
  exact xe (by simp[cw]) (by simp[cw]) hb.Kq hl.Kq hd.Kq
theorem dV.inv {kind n:gf}{b:aC bk}{l:aC O}{d:aC (aC bk×O)}(h:dV F s cs (.mk kind n b l d)):∃bv lv dv lc dc,cs=[.int .i64 kind,.int .i64 n,bv,lv,dv]/\aU s 1 bv b.length (ofBytes b)/\aU s 5 lv l.length lc/\aU s 6 dv d.length dc/\gq F bv/\gq F lv/\gq F dv/\
  (∀i (h:i<l.length),dV F s ((lc.drop (i*5)).take 5) l[i])/\(∀i (h:i<d.length),dc.getD (i*6) undef= .string ⟨(d[i].1).toArray⟩)/\(∀i (h:i<d.length),dV F s ((dc.drop (i*6+1)).take 5) d[i].2)/\(∀i (h:i<d.length),(d[i].1).length<=9223372036854775807):=by
 cases h with
 |mk _ _ _ _ _ bv lv dv lc dc hb hl hd fb fl fd hL hK hD hM=>exact⟨bv,lv,dv,lc,dc,rfl,hb,hl,hd,fb,fl,fd,hL,hK,hD,hM⟩
def fC:aC av:=[.int .i64 0,.int .i64 0,.slice Option.none 0 0,.slice Option.none 0 0,.slice Option.none 0 0]
theorem dV.none (F:a2->Prop)(s:au):dV F s fC O.none:=
 .mk 0 0 [] [] [] _ _ _ [] [] .nil .nil .nil trivial trivial trivial (fun i h=>dg h (bz i)) (fun i h=>dg h (bz i)) (fun i h=>dg h (bz i)) (fun i h=>dg h (bz i))
theorem gq.below {z:a2}{v:av}{n:a2}{l:aC av}(h:aU s z v n l)(hf:gq F v):gq (fun j=>F j/\j<s.next) v:=by
 cases h with
 |nil=>trivial
 |bare i off=>exact fun hc=>dg rfl hc
 |of i off n c b l hi hb hz hl hc hlen eO ht=>exact fun Hg=>⟨hf Hg,hi⟩
theorem dV.W7 (h:dV F s cs o):dV (fun j=>F j/\j<s.next) s cs o:=by
 induction h with
 |mk kind n b l d bv lv dv lc dc hb hl hd fb fl fd _ hK _ hM hL hD=>exact .mk kind n b l d bv lv dv lc dc hb hl hd (gq.below hb fb) (gq.below hl fl) (gq.below hd fd) hL hK hD hM
structure wy {α:Type} (Q:(a2->Prop)->au->aC av->α->Prop):Prop where
 keeps:∀{F s s' cs d},Q F s cs d->aw s.next s s' ->Q F s' cs d
 mono:∀{F G:a2->Prop} {s cs d},Q F s cs d->(∀j,F j->G j)->Q G s cs d
 turns:∀{F:a2->Prop} {s s' cs d u},Q F s cs d->bG u s s' ->(∀j,F j->aI u≠some j)->Q F s' cs d
 below:∀{F:a2->Prop} {s cs d},Q F s cs d->Q (fun j=>F j/\j<s.next) s cs d
theorem dQ:wy dV:=⟨fun h k=>h.keeps k,fun h k=>h.mono k,fun h k n=>h.turns k n,fun h=>h.W7⟩
def lu (F:a2->Prop)(s:au)(cs:aC av)(e:aC bk×O):Prop:=∃r,cs= .string ⟨e.1.toArray⟩::r/\dV F s r e.2/\e.1.length<=9223372036854775807
theorem lu.keeps {e:aC bk×O}(h:lu F s cs e)(k:aw s.next s s'):lu F s' cs e:=by
 obtain⟨r,h1,h2,h3⟩:=h;exact⟨r,h1,h2.keeps k,h3⟩
theorem lu.mono {e:aC bk×O}(h:lu F s cs e)(k:∀j,F j->G j):lu G s cs e:=by
 obtain⟨r,h1,h2,h3⟩:=h;exact⟨r,h1,h2.mono k,h3⟩
theorem km:wy lu:=⟨fun h k=>h.keeps k,fun h k=>h.mono k,fun⟨r,h1,h2,h3⟩ k n=>⟨r,h1,h2.turns k n,h3⟩,fun⟨r,h1,h2,h3⟩=>⟨r,h1,h2.W7,h3⟩⟩
structure bX {α:Type} (Q:(a2->Prop)->au->aC av->α->Prop) (z:a2) (F:a2->Prop) (s:au) (D:aC α) (lc:aC av):Prop where
 len:lc.length=D.length*z
 row:∀i (h:i<D.length),Q F s ((lc.drop (i*z)).take z) D[i]
section
variable {α:Type} {Q:(a2->Prop)->au->aC av->α->Prop} {z:a2} {D:aC α} {lc:aC av}
theorem bX.nil:bX Q z F s [] []:=⟨by simp,fun i h=>dg h (bz i)⟩
theorem bX.keeps (hQ:wy Q)(h:bX Q z F s D lc)(k:aw s.next s s'):bX Q z F s' D lc:=⟨h.len,fun i hi=>hQ.keeps (h.row i hi) k⟩
theorem bX.mono (hQ:wy Q)(h:bX Q z F s D lc)(k:∀j,F j->G j):bX Q z G s D lc:=⟨h.len,fun i hi=>hQ.mono (h.row i hi) k⟩
theorem bX.turns {u:av}(hQ:wy Q)(h:bX Q z F s D lc)(k:bG u s s')(cE:∀j,F j->aI u≠some j):bX Q z F s' D lc:=⟨h.len,fun i hi=>hQ.turns (h.row i hi) k cE⟩
theorem bX.below (hQ:wy Q)(h:bX Q z F s D lc):bX Q z (fun j=>F j/\j<s.next) s D lc:=⟨h.len,fun i hi=>hQ.below (h.row i hi)⟩
theorem bX.snoc (h:bX Q z F s D lc){d:α}{cs:aC av}(hc:cs.length=z)(hd:Q F s cs d):bX Q z F s (D++[d]) (lc++cs):=by
 refine⟨by rw[cc,cc,h.len,hc,List.length_singleton,bA],fun i hi=> ?_⟩;have sO:i<D.length+1:=by simpa using hi
 by_cases YY:i<D.length
 ·have e:((lc++cs).drop (i*z)).take z=(lc.drop (i*z)).take z:=by
   have:(i+1)*z<=lc.length:=by rw[h.len];exact ch z YY
   rw[bA] at this;rw[cL (by omega),cM (by rw[eX];omega)]
  rw[e,dt YY];exact h.row i YY
 obtain rfl:i=D.length:=by omega
 have e:((lc++cs).drop (D.length*z)).take z=cs:=by rw[<-h.len,ev,a3 (by omega)]
 rw[e,c7 (by omega)];simp only[fV,ee];exact hd
theorem bX.grow (hQ:wy Q){base:a2}{X:a2->Prop}{T T' :au}{v x' :av}(h:bX Q z (fun j=>base<=j/\¬X j/\aI v≠some j) T D lc){d:α}{cs:aC av}(hc:cs.length=z)(hd:Q (fun j=>base<=j/\¬X j/\aI v≠some j) T cs d)
  (ht:bG v T T') (oh:aI x' =aI v\/∃i,aI x' =some i/\T.next<=i):bX Q z (fun j=>base<=j/\¬X j/\aI x' ≠some j) T' (D++[d]) (lc++cs):=by
 refine bX.mono hQ (bX.turns hQ (bX.below hQ (h.snoc hc hd)) ht (fun j hj=>hj.1.2.2)) (fun j hj=>⟨hj.1.1,hj.1.2.1,fun e=> ?_⟩);rcases oh with h1|⟨i,h1,h2⟩
 ·exact hj.1.2.2 (by rw[<-h1];exact e)
 rw[h1] at e;injection e with e;have:=hj.2;omega
end
theorem dV.parts {kind n:gf}{b:aC bk}{l:aC O}{d:aC (aC bk×O)}(h:dV F s cs (.mk kind n b l d)):∃bv lv dv lc dc,cs=[.int .i64 kind,.int .i64 n,bv,lv,dv]/\aU s 1 bv b.length (ofBytes b)/\aU s 5 lv l.length lc/\aU s 6 dv d.length dc/\gq F bv/\gq F lv/\gq F dv/\bX dV 5 F s l lc/\bX lu 6 F s d dc:=by
 obtain⟨bv,lv,dv,lc,dc,h1,h2,h3,h4,h5,h6,h7,hL,hK,hD,hM⟩:=h.inv;refine⟨bv,lv,dv,lc,dc,h1,h2,h3,h4,h5,h6,h7,⟨h3.length,hL⟩,⟨h4.length,fun i hi=>⟨_,?_,hD i hi,hM i hi⟩⟩⟩;have hk:=hK i hi;have a7:i*6<dc.length:=by rw[h4.length];omega
 rw[aR,an a7] at hk;have hk:dc[i*6]= .string ⟨(d[i].1).toArray⟩:=hk;rw[c6 a7,eF,hk]
theorem dV.whole {kind n:gf}{b:aC bk}{l:aC O}{d:aC (aC bk×O)}{bv lv dv:av}{lc dc:aC av}(hb:aU s 1 bv b.length (ofBytes b))(hl:aU s 5 lv l.length lc)(hd:aU s 6 dv d.length dc)(fb:gq F bv)(fl:gq F lv)(fd:gq F dv)(hL:bX dV 5 F s l lc)(hD:bX lu 6 F s d dc):
  dV F s [.int .i64 kind,.int .i64 n,bv,lv,dv] (.mk kind n b l d):=by
 refine .mk kind n b l d bv lv dv lc dc hb hl hd fb fl fd hL.row (fun i hi=> ?_) (fun i hi=> ?_) (fun i hi=> ?_)
 ·obtain⟨r,h1,_,_⟩:=hD.row i hi;have h0:((dc.drop (i*6)).take 6)[0]?=some (.string ⟨(d[i].1).toArray⟩):=by rw[h1];rfl
  rw[ck (by omega),c4,eM] at h0;rw[aR,h0];rfl
 ·obtain⟨r,h1,h2,_⟩:=hD.row i hi;have h0:((dc.drop (i*6)).take 6).drop 1=r:=by rw[h1];rfl
  rw[cz,cx] at h0;rw[show(dc.drop (i*6+1)).take 5=r from h0];exact h2
 obtain⟨_,_,_,h3⟩:=hD.row i hi;exact h3
theorem aU.uD {P:a1}{e:bq}{m:a2}(nd:bU P e=some true)(cX:br P e=some m){z:a2}{v:av}{n:a2}{l:aC av}(h:aU s z v n l){k j:a2}(hk:k<n)(hj:j+m<=z):aN P s e (bP (aX z v k) j)=some (.agg ((l.drop (k*z+j)).take m).toArray):=by
 cases h with
 |nil=>omega
 |bare=>omega
 |of i off n c b l hi hb hz hl hc hlen eO ht=>
  have hkz:k*z+z<=n*z:=by
   have:(k+1)*z<=n*z:=ch z hk
   rwa [bA] at this
  show aN P s e (.pointer (some ⟨i,off+k*z+j,some c⟩))=_;unfold aN;simp only[nd,cX];rw[ij hb hl hc (by omega),<-ht,cz,cx,e9,Nat.min_eq_left (by omega),fo]
inductive Small:O->Prop
 |mk {k n:gf} {b:aC bk} {l:aC O} {d:aC (aC bk×O)} (hb:b.length<=100000000) (hl:l.length<=100000) (hd:d.length<=100000) (hK:∀e∈d,e.1.length<=100000) (hL:∀x∈l,Small x) (hD:∀e∈d,Small e.2):Small (.mk k n b l d)
inductive Fit:O->Prop
 |mk {k n:gf} {b:aC bk} {l:aC O} {d:aC (aC bk×O)} (hb:b.length<=140737488351232) (hl:l.length*88<=140737488351232) (hd:d.length*104<=140737488351232) (hK:∀e∈d,e.1.length<=140737488351232) (hL:∀x∈l,Fit x) (hD:∀e∈d,Fit e.2):Fit (.mk k n b l d)
theorem Small.fit {o:O}(h:Small o):Fit o:=by
 induction h with
 |mk hb hl hd hK _ _ FU ihD=>exact .mk (by omega) (by omega) (by omega) (fun e he=>eP (hK e he) (by decide)) FU ihD
def adW (p:Prop)(v:av):Prop:=∃b:dP,v= .bool b/\(b=true->p)
theorem MW {l:aC O}{i:a2}(h:∀x∈l.take i,Small x)(hi:i<l.length)(hx:Small l[i]):∀x∈l.take (i+1),Small x:=by
 intro x hm;rw[List.take_add_one,an hi,bt] at hm;rcases hm with hm|hm
 ·exact h x hm
 simp at hm;rw[hm];exact hx
end Go.Cl
namespace Go.Cl
open Go.RowKit Go.ChangeShapes Go.WideShapes
structure ss (W:ey) (S S' :St):Prop where
 begun:nU W S'
 ext:Ext S S'
 stay:aw S.s.next S.s S'.s
theorem ss.refl {W:ey}{S:St}(h:nU W S):ss W S S:=⟨h,Ext.refl S,aw.refl _ _⟩
theorem ss.trans {W:ey}{S S' S'' :St}(h:ss W S S')(k:ss W S' S''):ss W S S'' :=⟨k.begun,h.ext.trans k.ext,h.stay.trans (k.stay.weaken h.stay.next)⟩
variable {H:Type} {enc:bq×av->H} {P:a1}
theorem MX {z:a2}(l m:aC av)(i:a2)(h:(i+1)*z<=l.length):((l++m).drop (i*z)).take z=(l.drop (i*z)).take z:=by
 rw[bA] at h;rw[cL (by omega),cM (by rw[eX];omega)]
def Wt (P:a1)(t:bq)(d:DataW H):Prop:=∀n∈d.weights P t,n<=reachBytes
theorem uE {e:bq}:∀{ds:aC (DataW H)} {d:DataW H},d∈ds->∀n∈d.weights P e,n∈e6 P e ds
 |_::_,d,hd,n,hn=>by
  rw[e6,bt];rcases eG.1 hd with h|h
  ·subst h;exact .inl hn
  exact .inr (uE h n hn)
theorem Wt.slice {t e:bq}(ht:P.underlying t=some (.slice e)){E R:aC (DataW H)}(h:Wt P t (.slice E R)):(E.length+R.length)*P.bytesOf e<=reachBytes/\∀d∈E,Wt P e d:=by
 refine⟨h _ (by simp[dK,ht]),fun d hd n hn=>h n ?_⟩;simp only[dK,ht,eG,bt];exact .inr (.inl (uE hd n hn))
theorem Wt.struct {t:bq}{fs:c8 Field}(ht:P.underlying t=some (.struct fs)){xs:aC (DataW H)}(h:Wt P t (.agg xs)){i:a2}{u:bq}{d:DataW H}(hu:(fs.toList.map (·.type))[i]?=some u)(hd:xs[i]?=some d):Wt P u d:=by
 intro n hn;refine h n ?_;simp only[dK,ht];exact DataW.weights_mem_each hu hd n hn
theorem vA {W:ey}{S:St}(h:nU W S){α:Type}{Q:(a2->Prop)->au->aC av->α->Prop}{p:α->Prop}(hQ:∀{F s s' cs d},Q F s cs d->aw s.next s s' ->Q F s' cs d)(hM:∀{F G:a2->Prop} {s cs d},Q F s cs d->(∀j,F j->G j)->Q G s cs d){t e:bq}{z fuel:a2}(ht:P.underlying t=some (.slice e))(hc:P.cellsOf e=z)(hz:0<z){b8:a2}(fp:b8<=P.bytesOf e)
  (IF:∀n,n<fuel->∀S:St,nU W S->∀cs x,bb enc P W 0 (fun _=>true) true n e cs=some x->Wt P e x.1->∃S' gY d,ss W S S' /\ft S' gY cs/\gY.length=z/\Q (fun j=>j<S'.s.next) S'.s gY d/\p d)
  {cs:aC av} {x:DataW H×aC MemPlace} (hf:bb enc P W 0 (fun _=>true) true fuel t cs=some x) (TF:Wt P t x.1):
  ∃(S' :St) (v' v:av) (lc:aC av) (D:aC α),cs=[v]/\ss W S S' /\VR S' v' v/\aU S'.s z v' D.length lc/\gq (fun j=>j<S'.s.next) v' /\(∀i (h:i<D.length),Q (fun j=>j<S'.s.next) S'.s ((lc.drop (i*z)).take z) D[i])/\(∀d∈D,p d)/\D.length*b8<=reachBytes:=by
 rcases DataW.trod_slice ht hf with ⟨rfl,_⟩|⟨a',len,cap,elems,rest,n,hn,rfl,rfl,hb,yf,hm,dk,adX,dI,_⟩
 ·exact⟨S,.slice none 0 0,_,[],[],rfl,ss.refl h,.jX,.nil,trivial,(fun i h=>dg h (bz i)),(fun d hd=>by cases hd),by simp⟩
 by_cases tl:cap=0
 ·subst tl;obtain rfl:len=0:=by omega
  exact⟨S,.slice (some ⟨0,0,none⟩) 0 0,_,[],[],rfl,ss.refl h,.slice 0 0 0 0 a' 0 (b7 _) (fun _=>rfl) (fun hx=>by omega),.bare _ _,(fun hc=>dg rfl hc),(fun i h=>dg h (bz i)),(fun d hd=>by cases hd),by simp⟩
 rw[hc] at adX dI;obtain⟨Fs,JB⟩:=Wt.slice ht TF;have each:∀i,i<cap->∃ds y,W.cells? 0 (a'.add (i*z)) z=some ds/\bb enc P W 0 (fun _=>true) true n e ds=some y/\(i<len->Wt P e y.1):=by
  intro i hi;have:∃y,(W.cells? 0 (a'.add (i*z)) z).bind (bb enc P W 0 (fun _=>true) true n e)=some y/\(i<len->Wt P e y.1):=by
   by_cases V8:i<len
   ·have:=adX i V8;rw[an (by omega)] at this;exact⟨_,this,fun _=>JB _ (List.mem_map_of_mem (List.getElem_mem _))⟩
   obtain⟨vK,fe⟩:=dI rfl;have:=fe (i-len) (by omega);rw[show len+(i-len)=i by omega,an (by omega)] at this;exact⟨_,this,fun h=>dg h V8⟩
  obtain⟨y,hy,hyw⟩:=this;rw[Option.bind_eq_some_iff] at hy;obtain⟨ds,h1,h2⟩:=hy;exact⟨ds,y,h1,h2,hyw⟩
 have YZ:a'.spot=none:=by
  obtain⟨ds,_,hd,_,_⟩:=each 0 (by omega);obtain⟨hl,_,hg⟩:=World.cells?_some hd;have h0:=hg 0 hz;rw[an (by omega)] at h0;have:=QJ h0;rw[eL] at this
  simpa [Addr.add] using this
 obtain⟨ab,ao,asp⟩:=a';simp only at YZ;subst YZ
 have mF:∀i ds,i<cap->W.cells? 0 ((⟨ab,ao,none⟩:Addr).add (i*z)) z=some ds->∀j,j<z->W.cell? ⟨ab,ao+(i*z+j),none⟩=some (ds.getD j undef):=by
  intro i ds hi hd j hj;obtain⟨hl,_,hg⟩:=World.cells?_some hd;have:=hg j hj;rw[Ko,Ko,an (by omega)] at this;rw[<-fo,this];simp[fF,an (show j<ds.length by omega)]
 have all:∀k,k<=len->∃(S' :St) (lc:aC av) (D:aC α),ss W S S' /\D.length=k/\lc.length=k*z/\(∀q,q<k*z->∃w,W.cell? ⟨ab,ao+q,none⟩=some w/\VR S' (lc.getD q undef) w)/\(∀d∈D,p d)/\∀i (h:i<D.length),Q (fun j=>j<S'.s.next) S'.s ((lc.drop (i*z)).take z) D[i]:=by
  intro k
  induction k with
  |zero=>intro _;exact⟨S,[],[],ss.refl h,rfl,by simp,(fun q hq=>by omega),(fun d hd=>by cases hd),fun i h=>dg h (bz i)⟩
  |succ k ih=>
   intro hk;obtain⟨S1,lc,D,hg,hD,W8,nq,BS,hq⟩:=ih (by omega);obtain⟨ds,y,hd,hy,hyw⟩:=each k (by omega);obtain⟨S2,ds',d,Bg,Hh,iG,Cg,TG⟩:=IF n (by omega) S1 hg.begun ds y hy (hyw (by omega));have dA:=Bg.stay;refine⟨S2,lc++ds',D++[d],hg.trans Bg,by simp[hD],by rw[cc,W8,iG,bA],(fun q hq' => ?_),(fun c hc=> ?_),fun i hi=> ?_⟩
   ·rw[bA] at hq';by_cases hqk:q<k*z
    ·obtain⟨w,h1,h2⟩:=nq q hqk;refine⟨w,h1,?_⟩;rw[aR,c5 (by omega),<-aR];exact h2.mono Bg.ext
    refine⟨_,by have:=mF k ds (by omega) hd (q-k*z) (by omega);rw[show k*z+(q-k*z)=q by omega] at this;exact this,?_⟩;rw[aR,c3 (by omega),W8,<-aR];exact Hh.2 _ (by omega)
   ·rcases bt.1 hc with h|h
    ·exact BS c h
    rw[cd.1 h];exact TG
   have sO:i<k+1:=by simpa [hD] using hi
   by_cases YY:i<k
   ·rw[MX _ _ _ (by rw[W8];exact ch z YY),dt (by omega)];exact hM (hQ (hq i (by omega)) dA) (fun j hj=>cp hj dA.next)
   obtain rfl:i=k:=by omega
   have e1:((lc++ds').drop (i*z)).take z=ds' :=by
    rw[<-W8,ev,a3 (by omega)]
   rw[e1,c7 (by omega)];simp only[hD,fV,ee];exact Cg
 obtain⟨S1,lc,D,hg,hD,DY,nq,BS,hq⟩:=all len (b7 _);have qK:∃arr E fr,W.heap[ab]?=some (.cells arr E fr)/\ao+cap*z<=arr.size:=by
  obtain⟨ds,_,hd,_,_⟩:=each (cap-1) (by omega);obtain⟨arr,E,fr,h1,h2⟩:=QK (mF (cap-1) ds (by omega) hd (z-1) (by omega));refine⟨arr,E,fr,h1,?_⟩;have:cap*z=(cap-1)*z+z:=by
   conv=>lhs;rw[show cap=(cap-1)+1 by omega,bA]
  omega
 obtain⟨arr,E,fr,hh,cX⟩:=qK;have a7:ab<W.heap.size:=by
  rcases fS ab W.heap.size with q|q
  ·exact q
  rw[Array.getElem?_eq_none q] at hh;cases hh
 obtain⟨h1,h2,h3,h4⟩:=hg.begun.push ⟨lc,len*z+1,false,z⟩ (ab,ao) rfl (by simp) (fun c hc=>by simp only[Live,DY] at hc|-;omega) (fun c _=>a7) (fun c _ q hq=>by
  simp only[DY] at hq;exact nq q hq)
 have W9:(S1.dL ⟨lc,len*z+1,false,z⟩ (ab,ao)).s.bL S1.s.next=some ⟨lc,len*z+1,false,z⟩:=oM _ _;have ah6:=h1.w;refine⟨_,.slice (some ⟨S1.s.next,0,none⟩) len (len*z+1),_,lc,D,rfl,hg.trans ⟨h1,h2,h3⟩,?_,?_,(fun _=>by show S1.s.next<_;rw[h4];omega),(fun i hi=> ?_),BS,?_⟩
 ·refine .slice _ _ _ _ _ cap yf (fun q=>by omega) (fun _=>⟨⟨_,W9,by simp only[DY];omega,fun _=> ?_⟩,fun b hb hl=> ?_⟩)
  ·simp only[St.dL,eb];simp
  rw[W9] at hb;obtain rfl:=ek hb
  exact⟨arr,E,fr,by rw[ah6];exact hh,cX⟩
 ·rw[hD];refine .of S1.s.next 0 len _ _ _ (by rw[h4];omega) W9 rfl (by simp) (by simp only[DY];omega) DY (by omega) ?_;rw[List.drop_zero];exact a3 (by show lc.length<=_;omega)
 ·exact hM (hQ (hq i hi) h3) (fun j hj=>by have:j<S1.s.next:=hj;show j<_;rw[h4];omega)
 rw[hD];rw[e7,e7,dk] at Fs;exact eP (Nat.mul_le_mul (Nat.le_add_right _ _) fp) Fs
end Go.Cl
namespace Go.Cl
theorem Aa {lc r:aC av}{i:a2}{a:av}(h:(lc.drop (i*6)).take 6=a::r):lc.getD (i*6) undef=a/\(lc.drop (i*6+1)).take 5=r:=by
 constructor
 ·have h0:((lc.drop (i*6)).take 6)[0]?=some a:=by rw[h];rfl
  rw[ck (by omega),c4,eM] at h0;rw[aR,h0];rfl
 have h1:((lc.drop (i*6)).take 6).drop 1=r:=by rw[h];rfl
 rw[cz,cx] at h1;exact h1
theorem MY {lc:aC av}{D:aC bk}(hl:lc.length=D.length)(h:∀i (h:i<D.length),(lc.drop (i*1)).take 1=[.int .u8 ((D[i]).toNat:gf)]):lc=ofBytes D:=by
 refine List.ext_getElem? fun i=> ?_
 by_cases hi:i<D.length
 ·have h0:((lc.drop (i*1)).take 1)[0]?=some (.int .u8 ((D[i]).toNat:gf)):=by rw[h i hi];rfl
  rw[ck (by omega),c4,eM,eA] at h0;rw[h0];simp[ofBytes,an hi]
 rw[eo (by omega),eo (by rw[eW];omega)]
end Go.Cl
namespace Go.Proofs.YtdfjfncifneocaaGreat
open Go.Cl
theorem coO:ax.cellsOf 26=5:=by kernel_rfl
theorem coE:ax.cellsOf 63=6:=by kernel_rfl
theorem coI:ax.cellsOf 3=1:=by kernel_rfl
theorem adY:ax.cellsOf 2=1:=by kernel_rfl
theorem ah8:ax.cellsOf 5=1:=by kernel_rfl
theorem coS:ax.cellsOf 9=1:=by kernel_rfl
theorem coB:ax.cellsOf 22=1:=by kernel_rfl
theorem coL:ax.cellsOf 23=1:=by kernel_rfl
theorem coD:ax.cellsOf 24=1:=by kernel_rfl
variable {H:Type} {enc:bq×av->H} {W:ey}
theorem ah9:1<=ax.bytesOf 5:=by rw[show ax.bytesOf 5=1 from by kernel_rfl];decide
theorem aia:88<=ax.bytesOf 26:=by rw[show ax.bytesOf 26=88 from by kernel_rfl];decide
theorem aib:104<=ax.bytesOf 63:=by rw[show ax.bytesOf 63=104 from by kernel_rfl];decide
theorem yN:reachBytes=140737488351232:=by decide
def adZ (e:aC bk×O):Prop:=e.1.length<=140737488351232/\Fit e.2
theorem aas {n:a2}(ih:∀m,m<n->∀S:St,nU W S->∀cs x,bb enc ax W 0 (fun _=>true) true m 26 cs=some x->Wt ax 26 x.1->∃S' gY o,ss W S S' /\ft S' gY cs/\gY.length=5/\dV (fun j=>j<S'.s.next) S'.s gY o/\Fit o)
  {S:St} (hS:nU W S) {cs:aC av} {x:DataW H×aC MemPlace} (h:bb enc ax W 0 (fun _=>true) true n 63 cs=some x) (TF:Wt ax 63 x.1):
  ∃S' gY e,ss W S S' /\ft S' gY cs/\gY.length=6/\lu (fun j=>j<S'.s.next) S'.s gY e/\adZ e:=by
 obtain⟨xs,m,hm,rfl,hl,xK,hx⟩:=eQ c9 h;rw[coE] at hl;have h0:=hx 0 _ rfl;have h1:=hx 1 _ rfl
 change bb enc ax W 0 (fun _=>true) true m 9 ((cs.drop 0).take (ax.cellsOf 9))=xs[0]? at h0
 change bb enc ax W 0 (fun _=>true) true m 26 ((cs.drop 1).take (ax.cellsOf 26))=xs[1]? at h1
 rw[coS] at h0;rw[coO] at h1;have hs:xs.length=2:=xK;rw[an (by omega)] at h0 h1;have w0:Wt ax 9 (xs[0]).1:=TF.struct c9 (i:=0) rfl (by rw[cg,an (by omega)];rfl);have w1:Wt ax 26 (xs[1]).1:=TF.struct c9 (i:=1) rfl (by rw[cg,an (by omega)];rfl);obtain⟨c,e0,ec,iz⟩:=DataW.trod_string Tryz.underlying9 h0;rw[ec] at w0;have w0:=w0 c.data.toList.length (by simp[dK]);rw[yN] at w0;obtain⟨S',gY,o,hg,hv,r8,ho,L2⟩:=ih m (by omega) S hS _ _ h1 w1;obtain⟨v0,v1,v2,v3,v4,v5,rfl⟩:∃v0 v1 v2 v3 v4 v5,cs=[v0,v1,v2,v3,v4,v5]:=by
  clear h h0 h1 e0
  match cs,hl with
  |[a,b,c,d,e,f],_=>exact⟨_,_,_,_,_,_,rfl⟩
 simp at e0;subst e0;have hm:maxLen=9223372036854775807:=by decide
 refine⟨S',.string c::gY,(c.data.toList,o),hg,.cons (.string _) hv,by simp[r8],⟨gY,?_,ho,?_⟩,w0,L2⟩
 ·cases c;simp
 show c.data.toList.length<=_;have:c.data.toList.length=c.size:=by rw[Array.length_toList];rfl
 omega
theorem TH:∀(fuel:a2) (S:St),nU W S->∀cs x,bb enc ax W 0 (fun _=>true) true fuel 26 cs=some x->Wt ax 26 x.1->∃S' gY o,ss W S S' /\ft S' gY cs/\gY.length=5/\dV (fun j=>j<S'.s.next) S'.s gY o/\Fit o:=by
 intro fuel
 induction fuel using Nat.strongRecOn with
 |_ fuel ih=>
  intro S hS cs x h TF;obtain⟨xs,n,hn,rfl,hl,xK,hx⟩:=eQ cA h;rw[coO] at hl;have h0:=hx 0 _ rfl;have h1:=hx 1 _ rfl;have h2:=hx 2 _ rfl;have h3:=hx 3 _ rfl;have h4:=hx 4 _ rfl
  change bb enc ax W 0 (fun _=>true) true n 3 ((cs.drop 0).take (ax.cellsOf 3))=xs[0]? at h0
  change bb enc ax W 0 (fun _=>true) true n 2 ((cs.drop 1).take (ax.cellsOf 2))=xs[1]? at h1
  change bb enc ax W 0 (fun _=>true) true n 22 ((cs.drop 2).take (ax.cellsOf 22))=xs[2]? at h2
  change bb enc ax W 0 (fun _=>true) true n 23 ((cs.drop 3).take (ax.cellsOf 23))=xs[3]? at h3
  change bb enc ax W 0 (fun _=>true) true n 24 ((cs.drop 4).take (ax.cellsOf 24))=xs[4]? at h4
  rw[coI] at h0;rw[adY] at h1;rw[coB] at h2;rw[coL] at h3;rw[coD] at h4;have hs:xs.length=5:=xK;rw[an (by omega)] at h0 h1 h2 h3 h4;have w2:Wt ax 22 (xs[2]).1:=TF.struct cA (i:=2) rfl (by rw[cg,an (by omega)];rfl);have w3:Wt ax 23 (xs[3]).1:=TF.struct cA (i:=3) rfl (by rw[cg,an (by omega)];rfl);have w4:Wt ax 24 (xs[4]).1:=TF.struct cA (i:=4) rfl (by rw[cg,an (by omega)];rfl);obtain⟨kind,e0,_⟩:=eB Tryz.underlying3 h0;obtain⟨num,e1,_⟩:=eB Tryz.underlying2 h1;obtain⟨S1,bv,bw,lb,B,e2,g1,r1,s1,f1,q1,_,k1⟩:=vA hS (Q:=fun _ _ cs (d:bk)=>cs=[.int .u8 (d.toNat:gf)]) (p:=fun _=>True) (fun h _=>h) (fun h _=>h) aY ah8 (by decide) ah9 (fun m _ S hS cs x h _=>by
   obtain⟨c,e,_,hw⟩:=eB Tryz.underlying5 h;obtain⟨bs,fp,dr⟩:=Tw (zs:=[c]) (by simpa using hw)
   match bs,fp with
   |[u],_=>
    have dr:[Value.int .u8 c]=[Value.int .u8 (u.toNat:gf)]:=dr;exact⟨S,[.int .u8 c],u,ss.refl hS,by rw[e];exact .cons (.int _ _) .nil,rfl,dr,trivial⟩) h2 w2
  obtain⟨S2,lv,lw,lc,L,e3,g2,r2,s2,f2,q2,p2,k2⟩:=vA g1.begun (Q:=fun F s cs o=>dV F s cs o) (p:=Fit) (fun h k=>h.keeps k) (fun h k=>h.mono k) Tryz.underlying23 coO (by decide) aia (fun m hm S hS cs x h hw=>ih m (by omega) S hS cs x h hw) h3 w3;obtain⟨S3,dv,dw,dc,D,e4,g3,r3,s3,f3,q3,p3,k3⟩:=vA g2.begun (Q:=fun F s cs e=>lu F s cs e) (p:=adZ) (fun h k=>h.keeps k) (fun h k=>h.mono k) Tryz.underlying24 coE (by decide) aib (fun m hm S hS cs x h hw=>aas (fun m' ME=>ih m' (by omega)) hS h hw) h4 w4;rw[yN] at k1 k2 k3;rw[eA] at k1;have Xa:=s1.length;rw[eA] at Xa;have hB:lb=ofBytes B:=MY Xa q1;subst hB;have m12:∀j,j<S1.s.next->j<S3.s.next:=fun j hj=>cp hj (eP g2.stay.next g3.stay.next)
  have m23:∀j,j<S2.s.next->j<S3.s.next:=fun j hj=>cp hj g3.stay.next
  obtain⟨v0,v1,v2,v3,v4,rfl⟩:∃v0 v1 v2 v3 v4,cs=[v0,v1,v2,v3,v4]:=by
   clear h h0 h1 h2 h3 h4 e0 e1 e2 e3 e4
   match cs,hl with
   |[a,b,c,d,e],_=>exact⟨_,_,_,_,_,rfl⟩
  simp at e0 e1 e2 e3 e4;subst e0;subst e1;subst e2;subst e3;subst e4
  refine⟨S3,_,.mk kind num B L D,(g1.trans g2).trans g3,.cons (.int _ _) (.cons (.int _ _) (.cons ((r1.mono g2.ext).mono g3.ext) (.cons (r2.mono g3.ext) (.cons r3 .nil)))),rfl,.mk kind num B L D bv lv dv lc dc ((s1.keeps g2.stay).keeps g3.stay) (s2.keeps g3.stay) s3 (f1.mono m12) (f2.mono m23) f3 (fun i hi=>((q2 i hi).keeps g3.stay).mono m23) (fun i hi=> ?_) (fun i hi=> ?_) (fun i hi=> ?_),.mk k1 k2 k3 (fun e he=>(p3 e he).1) p2 (fun e he=>(p3 e he).2)⟩
  ·obtain⟨r,h1,_,_⟩:=q3 i hi;exact(Aa h1).1
  ·obtain⟨r,h1,h2,_⟩:=q3 i hi;rw[(Aa h1).2];exact h2
  obtain⟨_,_,_,h3⟩:=q3 i hi;exact h3
end Go.Proofs.YtdfjfncifneocaaGreat
namespace Go.Proofs.YtdfjfncifneocaaGreat
open Go.Cl
theorem QL {a b:aC bk}{i:a2}(ha:i<a.length)(hb:i<b.length)(h:a.take i=b.take i)(he:a.getD i 0=b.getD i 0):a.take (i+1)=b.take (i+1):=by
 rw[b5 ha,b5 hb,h];simp[fF,an ha,an hb] at he;rw[he]
theorem TI {lib:aD}(hl:lib.at 18=none)(s:au)(x y:av)(a b:aC bk)(hx:aU s 1 x a.length (ofBytes a))(hy:aU s 1 y b.length (ofBytes b))(ha:a.length<=4294967296)(hb:b.length<=4294967296):
  Runs ax lib 18 [x,y] s fun v s' =>v= .bool (decide (a=b))/\s' =s:=by
 refine Runs.enter 26 Tryz.func18 rfl hl rfl rfl ?_;intro f hn hf;have h0:f.get 0=x:=hf 0;have h1:f.get 1=y:=hf 1;clear hf;simp only[aj,ak,ad,QM,WP,↓a0,hn,h0,h1,hx.aQ aY,hy.aQ aY];refine qW (fun h=> ?_) (fun h=> ?_)
 ·simp only[aj,al,oneOf,QM,↓a0,hn,eC];have:¬a=b:=fun e=>by subst e;simp at h
  simp[this]
 have Fm:a.length=b.length:=by simpa using h
 simp only[aj,QM,↓a0,hn];refine Comes.de (fun k f s' =>∃i:a2,k=a.length-i/\i<=a.length/\a.take i=b.take i/\f.n=26/\f.get 0=x/\f.get 1=y/\f.get 5= .int .i64 i/\s' =s) ⟨0,rfl,by omega,rfl,by simp only[aj,hn],by simp only[aj,WP,↓a0,h0],by simp only[aj,WP,↓a0,h1],by simp only[aj,↓a0];rfl,rfl⟩ ?_;clear hn h0 h1 f;rintro k f _ ⟨i,rfl,hi,heq,hn,h0,h1,h5,rfl⟩;by_cases a7:i<a.length
 ·simp(disch:=omega)only[aj,ak,ad,QM,WP,↓a0,hn,h0,h1,h5,hx.aQ aY,a7,hx.indexAddr aY cO,hy.indexAddr aY cO,hx.cu gQ,hy.cu gQ,aW,hx.self,hy.self];refine qW (fun h=> ?_) (fun h=> ?_)
  ·simp only[aj,al,oneOf,QM,↓a0,hn,eC];have:¬a=b:=fun e=>by subst e;simp at h
   simp[this]
  simp(disch:=omega)only[aj,QM,WP,↓a0,hn,h5,aB];refine ar (a.length-(i+1)) (by omega) ⟨i+1,rfl,by omega,?_,by simp only[ag,hn],by simp only[aa,↓a0,WP,h0],by simp only[aa,↓a0,WP,h1],by simp only[aa,↓a0];rfl,rfl⟩;refine QL a7 (by omega) heq ?_
  simpa [UInt8.toNat_inj] using h
 simp only[aj,al,oneOf,ad,QM,WP,↓a0,hn,h0,h5,hx.aQ aY,a7,eC];have:a=b:=by rw[a3 (by omega),a3 (by omega)] at heq;exact heq
 simp[this]
structure gz (s:au) (v:av) (s' :au) (l:aC bk):Prop where
 own:Own s' 1 v l.length (ofBytes l)
 fresh:aM s.next v
 stay:aw s.next s s'
theorem oW {l:aC bk}{i:a2}(h:i<l.length):l.take (i+1)=l.take i++[l.getD i 0]:=by
 rw[b5 h];simp[fF,an h]
end Go.Proofs.YtdfjfncifneocaaGreat
namespace Go.Proofs.YtdfjfncifneocaaGreat
open Go.Cl
theorem rC {lib:aD}(hl:lib.at 39=none)(s:au)(x:av)(a:aC bk)(hx:aU s 1 x a.length (ofBytes a))(ha:a.length<=4294967296):
  Runs ax lib 39 [x] s fun v s' =>gz s v s' a:=by
 refine Runs.enter 19 Tryz.func39 rfl hl rfl rfl ?_;intro f hn hf;have h0:f.get 0=x:=hf 0;clear hf;simp only[aj,QM,↓a0,hn];refine Comes.de (fun k f s' =>∃(i:a2) (o:av),k=a.length-i/\i<=a.length/\Own s' 1 o i (ofBytes (a.take i))/\aM s.next o/\aw s.next s s' /\f.n=19/\f.get 0=x/\f.get 4= .int .i64 i/\f.get 3=o) ⟨0,_,rfl,by omega,.nil,aM.nil _,aw.refl _ _,by simp only[ag,hn],by simp only[aa,↓a0,WP,h0],by simp only[aa,↓a0];rfl,by simp only[aa,↓a0,WP]⟩ ?_;clear hn h0 f;rintro k f s1 ⟨i,o,rfl,hi,ho,wL,aF,hn,h0,h4,h3⟩;have kU:=hx.keeps aF;by_cases a7:i<a.length
 ·simp(disch:=omega)only[aj,ad,ae,QM,WP,↓a0,hn,h0,h4,h3,a7,kU.aQ aY,kU.indexAddr aY cO,kU.cu gQ,aW,gI aY cO rU];refine cj aY cO sm rU rfl ho (by simp only[aa,↓a0,WP]) (by decide) (by simp only[ag,hn];decide) (by simp only[ag,hn];decide) rfl (by decide) rfl (by omega) (by omega) wL aF.next ?_;intro bs o' s2 Cj aai fN _ _;simp(disch:=omega)only[aj,QM,WP,↓a0,hn,h4,aB];refine ar (a.length-(i+1)) (by omega) ⟨i+1,o',rfl,by omega,?_,aai,aF.trans fN,by simp only[ag,hn],by simp only[aa,↓a0,WP,h0],by simp only[aa,↓a0];rfl,by simp only[aa,↓a0,WP]⟩;rw[oW a7,ct];exact Cj
 simp(disch:=omega)only[aj,al,oneOf,ad,QM,WP,↓a0,hn,h0,h4,h3,a7,kU.aQ aY,Tryz.results39];obtain rfl:i=a.length:=by omega
 rw[a3 (b7 _)] at ho;exact⟨ho,wL,aF⟩
end Go.Proofs.YtdfjfncifneocaaGreat
namespace Go.Cl
section
variable {P:a1} {lib:aD} {all r:aC cm} {f:aZ} {s:au} {d:cT Tmp} {Q:aZ->au->Prop}
end
end Go.Cl
namespace Go.Cl
section
variable {P:a1} {t:bq}
theorem fJ (a b:aC bk):dB P .eql t (.string ⟨a.toArray⟩) (.string ⟨b.toArray⟩)=some (.bool (decide (a=b))):=by
 simp only[dB,JH]
 congr 2
 by_cases h:a=b
 ·subst h;simp
 simp[h]
theorem O1 (hu:P.underlying t=some .string)(s:au)(a:aC bk):aQ P s t (.string ⟨a.toArray⟩)=some (.int .i64 a.length):=by
 unfold aQ;rw[hu]
theorem Hi {s:au}{dst e:bq}(hu:P.underlying t=some .string)(hd:P.underlying dst=some (.slice e))(he:P.underlying e=some (.int .u8)){a:aC bk}(h:a.length<=9223372036854775807):ir P s t dst (.string ⟨a.toArray⟩)=a6 s (ofBytes a) a.length 1:=by
 unfold ir;rw[hu,hd]
 have h8:Cy P e=true:=by unfold Cy;rw[he]
 have hb:ea a.length 9223372036854775807=true:=by simpa [cB] using h
 simp[h8,hb]
theorem MZ (a:aC bk):pS (ofBytes a)=some a:=by
 induction a with
 |nil=>rfl
 |cons c a ih=>
  rw[Iy];simp only[pS,ih,toByte];have:UInt8.ofNat ((c.toNat:gf)).toNat=c:=by simp
  rw[this]
theorem aU.str {s:au}{dst e:bq}(hu:P.underlying t=some (.slice e))(hd:P.underlying dst=some .string)(he:P.underlying e=some (.int .u8)){v:av}{a:aC bk}(h:aU s 1 v a.length (ofBytes a)):ir P s t dst v=some (.string ⟨a.toArray⟩,s):=by
 have h8:Cy P e=true:=by unfold Cy;rw[he]
 generalize hn:a.length=n at h;generalize ha:ofBytes a=l at h;have hlen:l.length=n:=by rw[<-ha,eW,hn]
 cases h with
 |nil=>
  have:a=[]:=ca hn;subst this;unfold ir;rw[hu,hd];simp[h8]
 |bare=>
  have:a=[]:=ca hn;subst this;unfold ir;rw[hu,hd];simp[h8]
 |of i off n c b l hi hb hz hl hc iG eO ht=>
  unfold ir;rw[hu,hd]
  simp only[h8,eb];cases n with
  |zero=>
   have:a=[]:=ca hn;subst this;rfl
  |succ n=>
   simp only;rw[ij hb hl hc (by omega)];have:(b.cells.drop off).take (n+1)=ofBytes a:=by rw[eA] at ht;rw[ht,ha]
   rw[this];simp only[MZ]
end
end Go.Cl
namespace Go.Cl
def yO:Prim:=fun args s=>
 match args with
 |[.int .i64 (.ofNat n)]=>if ea n 4294967296 then a6 s (ff n (.chan none)) n 1 else none
 |_=>none
def vB:Prim:=fun args s=>
 match args with
 |[.string a,.string b]=>some (.int .i64 (Extern.BytealgCompare.cmp a b),s)
 |_=>none
end Go.Cl
namespace Go.Cl
open Go.RowKit
def Y1 (P:a1)(g:fL)(e:c8 av->Sem av):Prop:=
 ∃fn,P.funcs[g]?=some fn/\(fn.name== "runtime.NumGoroutine")=false/\fn.body.isNone=true/\Extern.findNext fn=none/\Extern.find fn=some e
def Ab (P:a1)(e:c8 av->Sem av)(p:Prim):Prop:=
 ∀(base:a2) (S:St) (args:aC av) (v:av) (s' :au),SR base S->p args S.s=some (v,s')->∀args' :c8 av,ft S args args'.toList->
  ∃T v',(e args').run P S.w= .ok v' T.w/\T.s=s' /\VR T v v' /\Good base S T
theorem Ab.ok {P:a1}{g:fL}{e:c8 av->Sem av}{p:Prim}(Pre:a2->ey->Prop)(he:Y1 P g e)(hf:C5 p)(h:Ab P e p):Is P Pre g p:=by
 intro base S s args v s' jJ hs _ hp args' L8;obtain⟨t',k1,k2,_⟩:=hf s S.s _ args v s' jJ (jJ.wf hs.wf) hp;obtain⟨T,v',h1,h2,h3,h4⟩:=h base S args v t' hs k1 args' L8;obtain⟨fn,e1,e2,e3,e4,e5⟩:=he;refine .inr ⟨T,v',?_,by rw[h2];exact k2,h3,h4⟩;rw[run_callFunc_extern e1 e2 e3 e4 e5,h1];rfl
theorem ft.Mj {S:St}{a:av}{args:c8 av}(h:ft S [a] args.toList):∃a',args= #[a']/\VR S a a' :=by
 obtain⟨a',r,e,h1,h2⟩:=h.cons_inv;rw[h2.lI] at e;exact⟨a',by rw[<-Array.toList_inj,e],h1⟩
theorem ft.aac {S:St}{a b:av}{args:c8 av}(h:ft S [a,b] args.toList):∃a' b',args= #[a',b']/\VR S a a' /\VR S b b' :=by
 obtain⟨a',r,e,h1,h2⟩:=h.cons_inv;obtain⟨b',r2,e2,h3,h4⟩:=h2.cons_inv;rw[h4.lI] at e2;rw[e2] at e;exact⟨a',b',by rw[<-Array.toList_inj,e],h1,h3⟩
theorem Bh:∀(n t:a2) (acc:c8 av),(∀i,i<acc.size->∃m,acc.toList.getD i undef= .int .u8 m)->
  (Extern.BytealgMakeNoZero.digits n t acc).size=acc.size+n/\∀i,i<acc.size+n->∃m,(Extern.BytealgMakeNoZero.digits n t acc).toList.getD i undef= .int .u8 m
 |0,_,acc,h=>⟨rfl,h⟩
 |n+1,t,acc,h=>by
  have:=Bh n (t/256) (acc.push (.int .u8 (cD (t%256)))) (fun i hi=>by
   by_cases hia:i<acc.size
   ·obtain⟨m,hm⟩:=h i hia;refine⟨m,?_⟩;rw[Array.toList_push,fy _ _ _ (by simpa using hia)];exact hm
   have e:i=acc.size:=by simp at hi;omega
   refine⟨cD (t%256),?_⟩;rw[Array.toList_push,mJ _ _ _ (by simp;omega),e];simp)
  rw[Extern.BytealgMakeNoZero.digits];refine⟨by rw[this.1];simp;omega,fun i hi=>this.2 i (by simp;omega)⟩
theorem DZ (n i:a2)(v:av)(h:i<n):(ff n v).getD i undef=v:=by
 simp[aR,h]
theorem D0:C5 yO:=by
 intro s s' X args v t h hw hp;unfold yO at hp|-
 split at hp
 ·split at hp
  ·rename_i hc;rw[eJ hc];exact j8 h hw hp
  cases hp
 cases hp
theorem M0 {P:a1}{ps:c8 bq}{t e:bq}(ht:P.underlying t=some (.slice e)):Ab P (Extern.BytealgMakeNoZero.makeNoZero ps #[t]) yO:=by
 intro base S args v s' hs hp args' L8;unfold yO at hp;split at hp
 case h_2=>cases hp
 rename_i n;split at hp
 case isFalse=>cases hp
 rename_i hc;simp only[cB] at hc;obtain⟨a',rfl,ha⟩:=L8.Mj;cases ha;have aat:Extern.BytealgMakeNoZero.makeNoZero ps #[t] #[.int .i64 (cD n)]=
   (do
    let .slice elem<-underlying t|stuck "bytealg.MakeNoZero: slice type expected"
    if(cD n)<0||(cD n)>2^48 then runtimePanic (.error "makeslice: len out of range")
    let cap<-choose (.appendCap (cD n).toNat 0 elem)
    askRoom cap
    let bytes<-choose (.extern "internal/bytealg.MakeNoZero.bytes" 0)
    let a<-newRow elem (Extern.BytealgMakeNoZero.digits cap bytes #[])
    pure (.slice (some a) (cD n).toNat cap)):=rfl
 obtain⟨kH,oC⟩:∃b:a2,b=(Question.extern "internal/bytealg.MakeNoZero.bytes" 0).cut (S.w.tape (S.w.drawn+1) (.extern "internal/bytealg.MakeNoZero.bytes" 0)):=⟨_,rfl⟩
 obtain⟨d1,d2⟩:=Bh (grownCap S.w n 0 e) kH #[] (fun i hi=>by simp at hi);have L3:=grownCap_ge S.w n 0 e;have Il:∀(W:ey) (k:a2),(askRoom k).run P W= .ok () W:=fun W k=>by
  unfold askRoom;split
  ·rfl
  rfl
 have kC:(Extern.BytealgMakeNoZero.makeNoZero ps #[t] #[.int .i64 (cD n)]).run P S.w= .ok (.slice (some ⟨S.w.heap.size,0,none⟩) n (grownCap S.w n 0 e)) (S.w.drew.drew.alloc (.cells (Extern.BytealgMakeNoZero.digits (grownCap S.w n 0 e) kH #[]) e)):=by
  rw[aat,oC];have h1:¬(n:gf)<0:=by omega
  have h2:¬(281474976710656:gf)<(n:gf):=by omega
  simp[run_underlying ht,h1,h2,Question.forced,newRow,grownCap,Il]
 obtain⟨T,k1,k2,k3,k4⟩:=tV hs hp (Extern.BytealgMakeNoZero.digits (grownCap S.w n 0 e) kH #[]) e (0,0) (S.w.drew.drew.alloc (.cells (Extern.BytealgMakeNoZero.digits (grownCap S.w n 0 e) kH #[]) e)) (grownCap S.w n 0 e) ⟨rfl,rfl,rfl,rfl⟩ (.inl rfl)
  (by rw[ep,d1];simp;omega) (fun p hp=>by
   rw[ep] at hp;obtain⟨m,hm⟩:=d2 p (by simp;omega);rw[DZ _ _ _ hp,hm];exact .unk m) (by omega) (by rw[d1];simp)
 exact⟨T,_,by rw[k2];exact kC,k1,k3,k4⟩
theorem D1:C5 vB:=by
 intro s s' X args v t h hw hp;unfold vB at hp|-
 split at hp
 ·injection hp with hp;injection hp with e1 e2;subst e1;subst e2;exact⟨_,rfl,h,bQ.refl hw⟩
 cases hp
theorem M1 {P:a1}:Ab P Extern.BytealgCompare.compare vB:=by
 intro base S args v s' hs hp args' L8;unfold vB at hp;split at hp
 ·injection hp with hp;injection hp with e1 e2;subst e1;subst e2
  obtain⟨a',b',rfl,ha,hb⟩:=L8.aac;cases ha;cases hb
  refine⟨S,_,?_,rfl,.int _ _,Good.refl hs⟩;rename_i a b;have aat:Extern.BytealgCompare.compare #[.string a,.string b]=(do pure (goInt (Extern.BytealgCompare.cmp (<-Extern.Bytes.bytesOf (.string a)) (<-Extern.Bytes.bytesOf (.string b))))):=rfl;rw[aat];simp[Extern.Bytes.bytesOf,goInt]
 cases hp
theorem pW.cons {g:a2}{p:Prim}{l:aD}(h:C5 p)(k:pW l):pW ((g,p)::l):=by
 intro q r hq;simp only[aD.at] at hq;split at hq
 ·obtain rfl:=ek hq;exact h
 exact k q r hq
theorem qR.cons {P:a1}{Pre:a2->ey->Prop}{g:a2}{p:Prim}{l:aD}(h:Is P Pre g p)(k:qR P Pre l):qR P Pre ((g,p)::l):=by
 intro q r hq;simp only[aD.at] at hq;split at hq
 ·rename_i hc;obtain rfl:=ek hq;obtain rfl:g=q:=Nat.eq_of_beq_eq_true hc;exact h
 exact k q r hq
end Go.Cl
namespace Go.Cl
open Go.RowKit Go.ChangeShapes Go.WideShapes
variable {P:a1}
theorem Runs.aau {lib:aD}(hf:pW lib)(ho:qR P (fun _ _=>True) lib)(hp:CE P lib=true){g:fL}(hg:lib.at g=none){args:aC av}{S:St}{W:ey}(hB:nU W S)(hr:Runs P lib g args S.s fun v _=>v= .bool true){args' :c8 av}(hv:ft S args args'.toList):
  Calls P g args' W fun e w' =>e= .returned (.bool true)/\Below W.heap.size W w' :=by
 obtain⟨v,s',⟨n,hn⟩,_,rfl⟩:=hr hB.sr.wf;have hc:=Ix (Pre:=fun _ _=>True) (fun _ _ _ _ h=>h) hf ho hp n (g:=g) hg W.heap.size S S.s args _ s' (jR.refl _) hB.sr trivial (hn n (b7 _)) args' hv;rw[hB.w] at hc;refine Calls.mono hc ?_;rintro e w' ⟨T,v',_,rfl,rfl,hv,hg⟩;cases hv;refine⟨rfl,?_⟩;have:=hg.below;rw[hB.w] at this;exact this
end Go.Cl
namespace Go.Proofs.YtdfjfncifneocaaGreat
open Go.Cl
theorem Y2 {g:fL}{fn:Func}{e:c8 av->Sem av}(h:ax.funcs[g]?=some fn)(h1:(fn.name== "runtime.NumGoroutine")=false:=by kernel_rfl)(h2:fn.body.isNone=true:=by kernel_rfl)(h3:Extern.findNext fn=none:=by kernel_rfl)(h4:Extern.find fn=some e:=by kernel_rfl):Y1 ax g e:=⟨fn,h,h1,h2,h3,h4⟩
noncomputable abbrev dR:aD:=
 (175,yO)::
 (224,vB)::
 []
theorem ad1:pW dR:=
 pW.cons D0<|
 pW.cons D1<|
 pW.nil
theorem ad2 (Pre:a2->ey->Prop):qR ax Pre dR:=
 qR.cons (Ab.ok _ (Y2 Tryz.func175) (D0) (M0 (ps:= #[3]) (t:=22) (e:=5) aY))<|
 qR.cons (Ab.ok _ (Y2 Tryz.func224) (D1) (M1))<|
 qR.nil _ _
end Go.Proofs.YtdfjfncifneocaaGreat