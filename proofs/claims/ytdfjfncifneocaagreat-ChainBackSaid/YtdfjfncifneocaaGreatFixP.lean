import Derived.Test.YtdfjfncifneocaaGreatPrA
open _root_ renaming reduceIte->ab,UInt8->ao,Nat->a0,List->a1,Int->a8,eq_false->bk,eq_true->b5,if_neg->ca,if_pos->cp
open Go.Proofs.Tryz renaming prog->an,underlying22->a3,underlying5->bz,underlying3->b4,results161->b7,results116->b8,underlying206->cb,results170->cB,underlying188->c6,underlying162->c8,results200->dt,results36->dx
open BitVec renaming ofInt->av,ofInt_natCast->a4,toNat_ofNat->a5,toNat_or->cz
open Go.IntKind renaming i64->a2,u8->bg
open Int renaming toNat_natCast->a6,tdiv_eq_ediv_of_nonneg->cm
open Nat renaming mod_eq_of_lt->a7,pow_le_pow_right->bb,shiftLeft_add_eq_or_of_lt->cd,add_one_sub_one->c4,lt_of_lt_of_le->c7,le_trans->c9,shiftLeft_eq->dc,le_refl->ds,reducePow->dE,mul_assoc->dT,pow_succ->dU,mod_lt->dX
open UInt8 renaming ofNat->a9,toNat_ofNat'->bo
open List renaming length_append->bl,eq_nil_of_length_eq_zero->cg,length_drop->cv,length_set->cA,length_singleton->c0
open Go renaming Value->bq,Program->cx,TypeId->c5,IntKind->dv
open Go.Value renaming int->cc
open Nat renaming reduceLT->QS,reduceEqDiff->Qx
set_option maxHeartbeats 4000000
set_option linter.unusedSimpArgs false
set_option linter.unusedVariables false
set_option maxRecDepth 100000
namespace Go.Cl
theorem FM {P:cx}{d:Option Tmp}{ty:c5}{ps:String}{af:Array Edge}{gd:Option (a0×Bool)}{f:aW}{s:aq}(g:FuncId)(xs bs:Array Operand):cS P ⟨d,.makeFunc (.func g) xs bs,ty,ps,af,gd⟩ f s=match aa f xs.toList,aa f bs.toList with
  |some l,some m=>some (.val (.func (.func g) l.toArray m.toArray) s)
  |_,_=>none:=rfl
theorem QC {P:cx}{s:aq}{t e:c5}{zv a b c d x:bq}(hu:P.underlying t=some (.slice e))(cf:aX P e=some 1)(hz:bV P e=some zv)(ph:bN zv=true)(oK:∃w,zv.cells.toList=[w])(h1:a.cells.toList=[a])(h2:b.cells.toList=[b])(h3:c.cells.toList=[c])(h4:d.cells.toList=[d])(h5:x.cells.toList=[x]):aO P s t 5 [(0,a),(1,b),(2,c),(3,d),(4,x)]=aZ s [a,b,c,d,x] 5 1:=by
 obtain⟨w,hw⟩:=oK
 unfold aO;rw[hu];simp only[cf,hz,ph,hw,bB,fG,h1,h2,h3,h4,h5,c0];rfl
end Go.Cl
namespace Go.Proofs.YtdfjfncifneocaaGreat
open Go.Cl Go.Cl.Pr
structure Dt (lib:aA):Prop where
 adF:lib.at 157=none
 first:lib.at 158=none
 upper:lib.at 159=none
 half:lib.at 160=none
 nearest:lib.at 161=none
 nq:lib.at 193=none
 ahf:lib.at 116=none
 adG:lib.at 115=none
 parts:lib.at 114=none
 may:lib.at 46=none
def Du (s:aq)(z:a8)(v:bq)(s' :aq):Prop:=v= .int .i64 z/\ar s.next s s'
theorem Og:(2:a8)≠0:=by decide
theorem SI {lib:aA}(L:Dt lib)(s:aq)(a b c:a8)(ha:0<=a/\a<=255)(hb:0<=b/\b<=255)(hc:0<=c/\c<=255):Runs an lib 157 [i3 a b c] s (Du s (pD 0 a b c)):=by
 refine Runs.enter 3 Tryz.func157 rfl L.adF rfl rfl ?_
 intro f hn hf
 have h0:f.get 0=i3 a b c:=hf 0
 clear hf
 simp only[aj,QS,↓ab,hn,h0]
 refine aw ?_
 intro s1 ht aE xG
 have ht:ax s1 s.next (l3 a b c):=ht
 have p0:aJ an s1 3 (.pointer (some ⟨s.next,0,some 4⟩))=some (.int .i64 a):=ht.load bu (off:=0) (c:=4) rfl (by simp)
 have p1:aJ an s1 3 (.pointer (some ⟨s.next,1,some 4⟩))=some (.int .i64 b):=ht.load bu (off:=1) (c:=4) rfl (by simp)
 have p2:aJ an s1 3 (.pointer (some ⟨s.next,2,some 4⟩))=some (.int .i64 c):=ht.load bu (off:=2) (c:=4) rfl (by simp)
 have Dr:[cc .i64 a,.int .i64 b,.int .i64 c].length+1=4:=rfl
 have eh:=Og
 simp only[aj,al,oneOf,QS,↓ab,hn,Dr,Tryz.results157]
 exact⟨rfl,aE⟩
theorem Oh {lib:aA}(L:Dt lib)(s:aq)(a b c:a8)(ha:0<=a/\a<=255)(hb:0<=b/\b<=255)(hc:0<=c/\c<=255):Runs an lib 158 [i3 a b c] s (Du s (pD 1 a b c)):=by
 refine Runs.enter 5 Tryz.func158 rfl L.first rfl rfl ?_
 intro f hn hf
 have h0:f.get 0=i3 a b c:=hf 0
 clear hf
 simp only[aj,QS,↓ab,hn,h0]
 refine aw ?_
 intro s1 ht aE xG
 have ht:ax s1 s.next (l3 a b c):=ht
 have p0:aJ an s1 3 (.pointer (some ⟨s.next,0,some 4⟩))=some (.int .i64 a):=ht.load bu (off:=0) (c:=4) rfl (by simp)
 have p1:aJ an s1 3 (.pointer (some ⟨s.next,1,some 4⟩))=some (.int .i64 b):=ht.load bu (off:=1) (c:=4) rfl (by simp)
 have p2:aJ an s1 3 (.pointer (some ⟨s.next,2,some 4⟩))=some (.int .i64 c):=ht.load bu (off:=2) (c:=4) rfl (by simp)
 have Dr:[cc .i64 a,.int .i64 b,.int .i64 c].length+1=4:=rfl
 have eh:=Og
 simp only[aj,al,oneOf,QS,Qx,↓ab,hn,Dr,FL,p0,Tryz.results158]
 exact⟨rfl,aE⟩
theorem Oi {lib:aA}(L:Dt lib)(s:aq)(a b c:a8)(ha:0<=a/\a<=255)(hb:0<=b/\b<=255)(hc:0<=c/\c<=255):Runs an lib 159 [i3 a b c] s (Du s (pD 2 a b c)):=by
 refine Runs.enter 5 Tryz.func159 rfl L.upper rfl rfl ?_
 intro f hn hf
 have h0:f.get 0=i3 a b c:=hf 0
 clear hf
 simp only[aj,QS,↓ab,hn,h0]
 refine aw ?_
 intro s1 ht aE xG
 have ht:ax s1 s.next (l3 a b c):=ht
 have p0:aJ an s1 3 (.pointer (some ⟨s.next,0,some 4⟩))=some (.int .i64 a):=ht.load bu (off:=0) (c:=4) rfl (by simp)
 have p1:aJ an s1 3 (.pointer (some ⟨s.next,1,some 4⟩))=some (.int .i64 b):=ht.load bu (off:=1) (c:=4) rfl (by simp)
 have p2:aJ an s1 3 (.pointer (some ⟨s.next,2,some 4⟩))=some (.int .i64 c):=ht.load bu (off:=2) (c:=4) rfl (by simp)
 have Dr:[cc .i64 a,.int .i64 b,.int .i64 c].length+1=4:=rfl
 have eh:=Og
 simp only[aj,al,oneOf,QS,Qx,↓ab,hn,Dr,Dp,p1,Tryz.results159]
 exact⟨rfl,aE⟩
theorem SJ {lib:aA}(L:Dt lib)(s:aq)(a b c:a8)(ha:0<=a/\a<=255)(hb:0<=b/\b<=255)(hc:0<=c/\c<=255):Runs an lib 160 [i3 a b c] s (Du s (pD 3 a b c)):=by
 refine Runs.enter 9 Tryz.func160 rfl L.half rfl rfl ?_
 intro f hn hf
 have h0:f.get 0=i3 a b c:=hf 0
 clear hf
 simp only[aj,QS,↓ab,hn,h0]
 refine aw ?_
 intro s1 ht aE xG
 have ht:ax s1 s.next (l3 a b c):=ht
 have p0:aJ an s1 3 (.pointer (some ⟨s.next,0,some 4⟩))=some (.int .i64 a):=ht.load bu (off:=0) (c:=4) rfl (by simp)
 have p1:aJ an s1 3 (.pointer (some ⟨s.next,1,some 4⟩))=some (.int .i64 b):=ht.load bu (off:=1) (c:=4) rfl (by simp)
 have p2:aJ an s1 3 (.pointer (some ⟨s.next,2,some 4⟩))=some (.int .i64 c):=ht.load bu (off:=2) (c:=4) rfl (by simp)
 have Dr:[cc .i64 a,.int .i64 b,.int .i64 c].length+1=4:=rfl
 have eh:(a+b).tdiv 2=(a+b)/2:=cm (by omega)
 simp(disch:=omega)only[aj,al,oneOf,QS,Qx,↓ab,hn,Dr,FL,Dp,p0,p1,aD,eh,iQ,Tryz.results160]
 exact⟨rfl,aE⟩
theorem I5 {lib:aA}(L:Dt lib)(s:aq)(a b c:a8)(ha:0<=a/\a<=255)(hb:0<=b/\b<=255)(hc:0<=c/\c<=255):Runs an lib 161 [i3 a b c] s (Du s (lC a b c)):=by
 obtain⟨QQ,fw⟩:∃QQ:bq->aq->Prop,QQ=Du s (lC a b c):=⟨_,rfl⟩
 rw[<-fw]
 refine Runs.enter 46 Tryz.func161 rfl L.nearest rfl rfl ?_
 intro f hn hf
 have h0:f.get 0=i3 a b c:=hf 0
 clear hf
 simp only[aj,QS,↓ab,hn,h0]
 refine aw ?_
 intro s1 ht aE xG
 have ht:ax s1 s.next (l3 a b c):=ht
 have Dr:[cc .i64 a,.int .i64 b,.int .i64 c].length+1=4:=rfl
 have q0:∀t,ar s1.next s1 t->aJ an t 3 (.pointer (some ⟨s.next,0,some 4⟩))=some (.int .i64 a):=fun t h=>(ht.keeps h).load bu (off:=0) (c:=4) rfl (by simp)
 have q1:∀t,ar s1.next s1 t->aJ an t 3 (.pointer (some ⟨s.next,1,some 4⟩))=some (.int .i64 b):=fun t h=>(ht.keeps h).load bu (off:=1) (c:=4) rfl (by simp)
 have q2:∀t,ar s1.next s1 t->aJ an t 3 (.pointer (some ⟨s.next,2,some 4⟩))=some (.int .i64 c):=fun t h=>(ht.keeps h).load bu (off:=2) (c:=4) rfl (by simp)
 have k1:=ar.refl s1.next s1
 simp(disch:=omega)only[aj,QS,Qx,↓ab,hn,Dr,FL,Dp,Dq,q0 _ k1,q1 _ k1,q2 _ k1,aD]
 obtain⟨A,hA⟩:∃A:a0->Bool,A=fun j=>decide (j<s1.next):=⟨_,rfl⟩
 have iU:∀j,A j=true->j<s1.next:=by
  intro j h
  rw[hA] at h
  exact of_decide_eq_true h
 have vM:∀j,j<s1.next->A j=true:=fun j h=>by rw[hA];exact decide_eq_true h
 refine LB.cX.fi A iU 3 0 (by kernel_rfl) (by kernel_rfl) ?_
 have dC:=ar.spare s1 0
 have hl:∀k,LA.ej A (some (.pointer (some ⟨s.next,k,some 4⟩)))=true:=fun k=>LA.cr (A:=A) (i:=s.next) (vM _ ht.lt)
 simp(disch:=omega)only[aj,ak,bH,bI,c4,aa,QS,Qx,↓ab,hn,hl,FL,Dp,q0 _ dC]
 refine(Ds L.nq _ (a+b-c) a (by omega) (by omega)).mono ?_
 rintro _ _ ⟨rfl,rfl⟩
 refine⟨fun _=>LA.ar.yC iU (ar.refl _ _),?_⟩
 simp only[aj,ak,bH,bI,c4,aa,QS,Qx,↓ab,hn,hl,Dq,q1 _ dC]
 refine(Ds L.nq _ (a+b-c) b (by omega) (by omega)).mono ?_
 rintro _ _ ⟨rfl,rfl⟩
 refine⟨fun _=>LA.ar.yC iU (ar.refl _ _),?_⟩
 simp only[aj,ak,bH,bI,Nat.sub_self,aa,QS,Qx,↓ab,hn,hl,q2 _ dC]
 refine(Ds L.nq _ (a+b-c) c (by omega) (by omega)).mono ?_
 rintro _ _ ⟨rfl,rfl⟩
 refine⟨fun _=>LA.ar.yC iU (ar.refl _ _),?_⟩
 have cR:ar s.next s (spare s1 0):=aE.trans (dC.weaken aE.next)
 by_cases c1:uA (a+b-c) a<=uA (a+b-c) b
 ·by_cases c2:uA (a+b-c) a<=uA (a+b-c) c
  ·have e:lC a b c=a:=by unfold lC;rw[cp ⟨c1,c2⟩]
   simp only[aj,ak,oneOf,QS,Qx,↓ab,aj,ak,al,oneOf,QS,Qx,↓ab,hn,b5 c1,b5 c2,FL,q0 _ dC,b7]
   rw[fw];exact⟨by rw[e],cR⟩
  ·by_cases c3:uA (a+b-c) b<=uA (a+b-c) c
   ·have e:lC a b c=b:=by unfold lC;rw[ca (fun h=>c2 h.2),cp c3]
    simp only[aj,ak,oneOf,QS,Qx,↓ab,aj,ak,al,oneOf,QS,Qx,↓ab,hn,b5 c1,bk c2,b5 c3,Dp,q1 _ dC,b7]
    rw[fw];exact⟨by rw[e],cR⟩
   ·have e:lC a b c=c:=by unfold lC;rw[ca (fun h=>c2 h.2),ca c3]
    simp only[aj,ak,oneOf,QS,Qx,↓ab,aj,ak,al,oneOf,QS,Qx,↓ab,hn,b5 c1,bk c2,bk c3,Dq,q2 _ dC,b7]
    rw[fw];exact⟨by rw[e],cR⟩
 ·by_cases c3:uA (a+b-c) b<=uA (a+b-c) c
  ·have e:lC a b c=b:=by unfold lC;rw[ca (fun h=>c1 h.1),cp c3]
   simp only[aj,ak,oneOf,QS,Qx,↓ab,aj,ak,al,oneOf,QS,Qx,↓ab,undef,hn,bk c1,b5 c3,Dp,q1 _ dC,b7]
   rw[fw];exact⟨by rw[e],cR⟩
  ·have e:lC a b c=c:=by unfold lC;rw[ca (fun h=>c1 h.1),ca c3]
   simp only[aj,ak,oneOf,QS,Qx,↓ab,aj,ak,al,oneOf,QS,Qx,↓ab,undef,hn,bk c1,bk c3,Dq,q2 _ dC,b7]
   rw[fw];exact⟨by rw[e],cR⟩
theorem alJ:bV an 119=some .nilFunc:=by kernel_rfl
theorem abZ:aX an 119=some 1:=by kernel_rfl
theorem ahg:bX an 119=some false:=by kernel_rfl
theorem Dv {lib:aA}(L:Dt lib)(s:aq)(t a b c:a8)(ht:0<=t/\t<=4)(ha:0<=a/\a<=255)(hb:0<=b/\b<=255)(hc:0<=c/\c<=255):Runs an lib 116 [i3 a b c,.int .i64 t] s (Du s (pD t a b c)):=by
 refine Runs.enter 20 Tryz.func116 rfl L.ahf rfl rfl ?_
 intro f hn hf
 have h0:f.get 0=i3 a b c:=hf 0
 have h1:f.get 1= .int .i64 t:=hf 1
 clear hf
 simp only[aj,QS,↓ab,hn,h0]
 refine aw ?_
 intro s1 Nq aE xG
 have Nq:ax s1 s.next (l3 a b c):=Nq
 have Dr:[cc .i64 a,.int .i64 b,.int .i64 c].length+1=4:=rfl
 have la:aJ an s1 141 (.pointer (some ⟨s.next,0,some 4⟩))=some (i3 a b c):=ax.bF (P:=an) (cs:=l3 a b c) VV QB Nq (c:=4) rfl
 simp only[aj,aa,ae,QS,Qx,↓ab,hn,Dr,la,FM,QC (a:= .func (.func 157) #[i3 a b c] #[]) (b:= .func (.func 158) #[i3 a b c] #[]) (c:= .func (.func 159) #[i3 a b c] #[]) (d:= .func (.func 160) #[i3 a b c] #[]) (x:= .func (.func 161) #[i3 a b c] #[]) c6 abZ alJ rfl ⟨_,rfl⟩ rfl rfl rfl rfl rfl]
 refine aQ rfl ?_
 intro v s2 hv hF aR
 have cR:ar s.next s s2:=aE.trans (aR.weaken aE.next)
 obtain⟨k,rfl⟩:∃k:a0,t=k:=⟨t.toNat,by omega⟩
 have hk:k<5:=by omega
 have gB:=hv.aG.indexAddr (P:=an) (k:= .i64) (x:=(k:a8)) c6 abZ (by omega) (by omega)
 rw[a6] at gB
 have fz:=hv.aG.di (P:=an) ahg hk
 match k,hk with
 |0,_=>
  simp only[aj,ak,aa,QS,Qx,↓ab,hn,h1,gB,fz]
  refine(SI L s2 a b c ha hb hc).mono ?_
  rintro _ s3 ⟨rfl,fB⟩
  simp only[aj,al,oneOf,QS,↓ab,hn,b8]
  exact⟨rfl,cR.trans (fB.weaken cR.next)⟩
 |1,_=>
  simp only[aj,ak,aa,QS,Qx,↓ab,hn,h1,gB,fz]
  refine(Oh L s2 a b c ha hb hc).mono ?_
  rintro _ s3 ⟨rfl,fB⟩
  simp only[aj,al,oneOf,QS,↓ab,hn,b8]
  exact⟨rfl,cR.trans (fB.weaken cR.next)⟩
 |2,_=>
  simp only[aj,ak,aa,QS,Qx,↓ab,hn,h1,gB,fz]
  refine(Oi L s2 a b c ha hb hc).mono ?_
  rintro _ s3 ⟨rfl,fB⟩
  simp only[aj,al,oneOf,QS,↓ab,hn,b8]
  exact⟨rfl,cR.trans (fB.weaken cR.next)⟩
 |3,_=>
  simp only[aj,ak,aa,QS,Qx,↓ab,hn,h1,gB,fz]
  refine(SJ L s2 a b c ha hb hc).mono ?_
  rintro _ s3 ⟨rfl,fB⟩
  simp only[aj,al,oneOf,QS,↓ab,hn,b8]
  exact⟨rfl,cR.trans (fB.weaken cR.next)⟩
 |4,_=>
  simp only[aj,ak,aa,QS,Qx,↓ab,hn,h1,gB,fz]
  refine(I5 L s2 a b c ha hb hc).mono ?_
  rintro _ s3 ⟨rfl,fB⟩
  simp only[aj,al,oneOf,QS,↓ab,hn,b8]
  exact⟨rfl,cR.trans (fB.weaken cR.next)⟩
def J7 (R:a1 ao)(k c:a0):a8:=if c<=k then(((R.getD (k-c) 0).toNat:a0):a8) else 0
def Oj (W:a1 ao)(k:a0):a8:=if 0<W.length then(((W.getD k 0).toNat:a0):a8) else 0
def Ol (W:a1 ao)(k c:a0):a8:=if 0<W.length/\c<=k then(((W.getD (k-c) 0).toNat:a0):a8) else 0
def ahh (s:aq)(a b c:a8)(v:bq)(s' :aq):Prop:=v=i3 a b c/\ar s.next s s'
theorem QD {lib:aA}(L:Dt lib)(s:aq)(x y:bq)(R W:a1 ao)(hx:aN s 1 x R.length (ofBytes R))(hy:aN s 1 y W.length (ofBytes W))(hl:R.length<=1000000)(k c:a0)(hk:k<R.length)(hc:1<=c)(hW:W.length=0\/W.length=R.length):
  Runs an lib 115 [x,y,.int .i64 k,.int .i64 c] s (ahh s (J7 R k c) (Oj W k) (Ol W k c)):=by
 refine Runs.enter 42 Tryz.func115 rfl L.adG rfl rfl ?_
 intro f hn hf
 have h0:f.get 0=x:=hf 0
 have h1:f.get 1=y:=hf 1
 have h2:f.get 2= .int .i64 k:=hf 2
 have h3:f.get 3= .int .i64 c:=hf 3
 clear hf
 have Dr:[cc .i64 0,.int .i64 0,.int .i64 0].length+1=4:=rfl
 simp(disch:=omega)only[aj,↓ab,ahe,abY]
 refine aw ?_
 intro s1 eK bn iV
 simp(disch:=omega)only[aj,QS,↓ab,hn,ahe,abY]
 refine aw ?_
 intro s2 dD aR m8
 have eK:ax s2 s.next (l3 0 0 0):=ax.keeps eK aR
 have dD:ax s2 s1.next (l3 0 0 0):=dD
 have cR:ar s.next s s2:=bn.trans (aR.weaken bn.next)
 have n1:=bn.next
 have n2:=aR.next
 have YS:∀z:a1 ao,∀j,z.getD j 0=z.getD j 0:=fun _ _=>rfl
 have ek:c<=k->((k:a8)-(c:a8))=((k-c:a0):a8):=fun h=>by omega
 simp(disch:=omega)only[aj,QS,Qx,↓ab,hn,h2,h3,Dr]
 generalize hK:rP an lib (Code.seq (Code.seq (Code.region _ _ _) _) _) _=K1
 have go:∀f t,f.n=42->f.get 0=x->f.get 1=y->f.get 2= .int .i64 k->f.get 3= .int .i64 c->f.get 8= .pointer (some ⟨s.next,0,some 4⟩)->f.get 9= .pointer (some ⟨s1.next,0,some 4⟩)->ax t s.next (l3 0 0 0)->ax t s1.next (l3 (J7 R k c) 0 0)->ar s.next s t->K1 .normal f t:=by
  clear hn h0 h1 h2 h3 f
  subst hK
  intro f t hn h0 h1 h2 h3 h8 h9 hA hB aE
  have SK:=hy.keeps aE
  simp(disch:=omega)only[aj,aa,QS,↓ab,hn,h1,SK.bm a3]
  generalize hK:rP an lib (Code.seq (Code.region _ _ _) Code.ret) _=K2
  have go2:∀f t A B C,f.n=42->f.get 8= .pointer (some ⟨s.next,0,some 4⟩)->f.get 9= .pointer (some ⟨s1.next,0,some 4⟩)->ax t s.next (l3 0 0 0)->ax t s1.next (l3 A B C)->ar s.next s t->A=J7 R k c->B=Oj W k->C=Ol W k c->K2 .normal f t:=by
   clear hn h0 h1 h2 h3 h8 h9 hA hB SK aE t f
   subst hK
   intro f t A B C hn h8 h9 hA hB aE e1 e2 e3
   have la:aJ an t 141 (.pointer (some ⟨s1.next,0,some 4⟩))=some (i3 A B C):=ax.bF (P:=an) (cs:=l3 A B C) VV QB hB (c:=4) rfl
   simp(disch:=omega)only[aj,QS,Qx,↓ab,hn,h8,h9,la]
   refine aB QB (by decide) hA rfl rfl rfl rfl ?_
   intro t2 QA xG hot
   have QA:ax t2 s.next (l3 A B C):=QA
   have lb:aJ an t2 141 (.pointer (some ⟨s.next,0,some 4⟩))=some (i3 A B C):=ax.bF (P:=an) (cs:=l3 A B C) VV QB QA (c:=4) rfl
   simp(disch:=omega)only[aj,al,oneOf,QS,Qx,↓ab,hn,h8,lb,aV,Tryz.results115]
   refine⟨by rw[e1,e2,e3],⟨by have:=aE.next;omega,fun j hj=>by rw[hot j (by omega)];exact aE.get j hj⟩⟩
  by_cases hw:(0:a8)<((W.length:a0):a8)
  rotate_left
  ·simp(disch:=omega)only[aj,bk hw]
   exact go2 _ _ _ _ _ (by simp only[ag,hn]) (by simp only[ad,↓ab,Qx,h8]) (by simp only[ad,↓ab,Qx,h9]) hA hB aE rfl (by unfold Oj;rw[ca (by omega)]) (by unfold Ol;rw[ca (by omega)])
  have hkw:k<W.length:=by omega
  have gB:=SK.indexAddr (P:=an) (k:= .i64) (x:=(k:a8)) a3 bK (by omega) (by omega)
  rw[a6] at gB
  have fz:=SK.di (P:=an) kI hkw
  rw[bw hkw] at fz
  have w8:=u6 (W.getD k 0)
  have eA:((((W.getD k 0).toNat:a0):a8))=Oj W k:=by unfold Oj;rw[cp (by omega)]
  rw[eA] at fz w8
  simp(disch:=omega)only[aj,QS,Qx,↓ab,hn,h1,h2,h9,b5 hw,gB,fz,bL bz b4,aD,Dp]
  refine aY bA hB rfl (by simp) rfl ?_
  intro t3 Az Dw FN
  have Az:ax t3 s1.next (l3 (J7 R k c) (Oj W k) 0):=Az
  have hA3:ax t3 s.next (l3 0 0 0):=hA.aK Dw FN (by omega)
  have bC:ar s.next s t3:=⟨by have:=aE.next;omega,fun j hj=>by rw[FN j (by omega)];exact aE.get j hj⟩
  by_cases J3:(c:a8)<=(k:a8)
  rotate_left
  ·simp(disch:=omega)only[aj,QS,Qx,↓ab,hn,h2,h3,bk J3]
   exact go2 _ _ _ _ _ (by simp only[ag,hn]) (by simp only[ad,↓ab,Qx,h8]) (by simp only[ad,↓ab,Qx,h9]) hA3 Az bC rfl rfl (by unfold Ol;rw[ca (by omega)])
  have Om:c<=k:=by omega
  have ec:=ek Om
  have ZS:=hy.keeps bC
  have gB:=ZS.indexAddr (P:=an) (k:= .i64) (x:=((k-c:a0):a8)) a3 bK (by omega) (by omega)
  rw[a6] at gB
  have UC:k-c<W.length:=by omega
  have fz:=ZS.di (P:=an) kI UC
  rw[bw UC] at fz
  have w8:=u6 (W.getD (k-c) 0)
  have eB:((((W.getD (k-c) 0).toNat:a0):a8))=Ol W k c:=by unfold Ol;rw[cp (by omega)]
  rw[eB] at fz w8
  simp(disch:=omega)only[aj,QS,Qx,↓ab,hn,h1,h2,h3,h9,b5 J3,aD,ec,gB,fz,bL bz b4,Dq]
  refine aY bA Az rfl (by simp) rfl ?_
  intro t4 ZT sl oD
  have ZT:ax t4 s1.next (l3 (J7 R k c) (Oj W k) (Ol W k c)):=ZT
  exact go2 _ _ _ _ _ (by simp only[ag,hn]) (by simp only[ad,↓ab,Qx,h8]) (by simp only[ad,↓ab,Qx,h9]) (hA3.aK sl oD (by omega)) ZT ⟨by have:=bC.next;omega,fun j hj=>by rw[oD j (by omega)];exact bC.get j hj⟩ rfl rfl rfl
 by_cases J3:(c:a8)<=(k:a8)
 rotate_left
 ·have e0:J7 R k c=0:=by unfold J7;rw[ca (by omega)]
  have Om:¬c<=k:=by omega
  simp(disch:=omega)only[aj,bk Om]
  exact go _ _ (by simp only[ag,hn]) (by simp only[ad,↓ab,Qx,h0]) (by simp only[ad,↓ab,Qx,h1]) (by simp only[ad,↓ab,Qx,h2]) (by simp only[ad,↓ab,Qx,h3]) (by simp only[ad,↓ab,Qx]) (by simp only[ad,↓ab,Qx]) eK (by rw[e0];exact dD) cR
 have Om:c<=k:=by omega
 have ec:=ek Om
 have ko:=hx.keeps cR
 have gB:=ko.indexAddr (P:=an) (k:= .i64) (x:=((k-c:a0):a8)) a3 bK (by omega) (by omega)
 rw[a6] at gB
 have UC:k-c<R.length:=by omega
 have fz:=ko.di (P:=an) kI UC
 rw[bw UC] at fz
 have w8:=u6 (R.getD (k-c) 0)
 have eB:((((R.getD (k-c) 0).toNat:a0):a8))=J7 R k c:=by unfold J7;rw[cp Om]
 rw[eB] at fz w8
 simp(disch:=omega)only[aj,QS,Qx,↓ab,hn,h0,h2,h3,b5 Om,aD,ec,gB,fz,bL bz b4,FL]
 refine aY bA dD rfl (by simp) rfl ?_
 intro t4 ZT sl oD
 have ZT:ax t4 s1.next (l3 (J7 R k c) 0 0):=ZT
 exact go _ _ (by simp only[ag,hn]) (by simp only[ad,↓ab,Qx,h0]) (by simp only[ad,↓ab,Qx,h1]) (by simp only[ad,↓ab,Qx,h2]) (by simp only[ad,↓ab,Qx,h3]) (by simp only[ad,↓ab,Qx]) (by simp only[ad,↓ab,Qx]) (eK.aK sl oD (by omega)) ZT ⟨by have:=cR.next;omega,fun j hj=>by rw[oD j (by omega)];exact cR.get j hj⟩
end Go.Proofs.YtdfjfncifneocaaGreat
namespace Go.Cl
theorem VW (P:cx)(t:c5)(k' :dv)(a:a8):cQ P .shl t (.int .i64 a) (.int k' 8)=some (.int .i64 (a2.wrap (a*256))):=by
 rw[mW P t .i64 a 8 k' (by decide)];rfl
theorem ZU {n:a0}{x:ao}(h:n<4503599627370496):a2.wrap (((av a2.bits ((n:a8)*256)|||av a2.bits (x.toNat:a8)).toNat:a0):a8)=((n*256+x.toNat:a0):a8):=by
 have e1:a2.bits=64:=rfl
 have hx:=x.toNat_lt
 rw[e1]
 have:(av 64 ((n:a8)*256)|||av 64 (x.toNat:a8)).toNat=n*256+x.toNat:=by
  have e2:((n:a8)*256)=((n*256:a0):a8):=by omega
  rw[e2,cz,a4,a4,a5,a5,a7 (by omega),a7 (by omega)]
  have:=cd (i:=8) (b:=x.toNat) hx n
  rw[dc] at this
  exact this.symm
 rw[this,aD (by omega)]
def j8 (l:a1 ao):a0:=l.foldl (fun n x=>n*256+x.toNat) 0
theorem vN (l:a1 ao)(x:ao):j8 (l++[x])=j8 l*256+x.toNat:=by simp[j8]
theorem Lf (l:a1 ao):∀n,l.length=n->j8 l<256^n:=by
 intro n
 induction n generalizing l with
 |zero=>intro h;have:l=[]:=cg h
        subst this;simp[j8]
 |succ n ih=>
  intro h
  have cH:l≠[]:=by intro e;subst e;simp at h
  rw[<-List.dropLast_concat_getLast cH,vN]
  have:=ih l.dropLast (by rw[List.length_dropLast];omega)
  have hx:=(l.getLast cH).toNat_lt
  rw[dU];omega
theorem Lg {l:a1 ao}(h:l.length<7):j8 l<4503599627370496:=by
 have:=Lf l l.length rfl
 have h2:256^l.length<=256^6:=bb (by omega) (by omega)
 have h3:(256:a0)^6=281474976710656:=by decide
 omega
end Go.Cl
namespace Go.Cl.Rw
def FO (y:ao)(x:a8)(k:a0):ao:=y|||a9 ((x%2).toNat*2^k)
def room (p:a1 ao×a0):a1 ao:=if p.2%8=0 then p.1++[0] else p.1
def nO (p:a1 ao×a0)(x:a8):a1 ao×a0:=((room p).set (p.2/8) (FO ((room p).getD (p.2/8) 0) x (p.2%8)),p.2+1)
def l5 (p:a1 ao×a0)(x:a8):a0->a1 ao×a0
 |0=>p
 |k+1=>nO (l5 p x k) (x.fdiv (2^k))
def Ok (p:a1 ao×a0):Prop:=p.2<=8*p.1.length/\8*p.1.length<p.2+8
theorem xH {p:a1 ao×a0}(h:Ok p):p.2/8<(room p).length/\8*(room p).length<p.2+9:=by
 obtain⟨h1,h2⟩:=h
 unfold room
 by_cases hz:p.2%8=0
 ·rw[cp hz,bl,c0];omega
 ·rw[ca hz];omega
theorem Bu {p:a1 ao×a0}{x:a8}(h:Ok p):Ok (nO p x):=by
 obtain⟨h1,h2⟩:=xH h
 unfold Ok nO
 simp only[cA]
 omega
theorem xI {p:a1 ao×a0}{x:a8}(h:Ok p):∀k,Ok (l5 p x k)
 |0=>h
 |k+1=>Bu (xI h k)
theorem kL (p:a1 ao×a0)(x:a8):∀k,(l5 p x k).2=p.2+k
 |0=>rfl
 |k+1=>by
  show(l5 p x k).2+1=_
  rw[kL p x k];omega
theorem VX (x:a8):a2.wrap (((av a2.bits x&&&av a2.bits 1).toNat:a0):a8)=x%2:=by
 have e1:a2.bits=64:=rfl
 rw[e1]
 have:(av 64 x&&&av 64 1).toNat=(x%18446744073709551616).toNat%2:=by
  rw[BitVec.toNat_and,BitVec.toNat_ofInt]
  show(x%18446744073709551616).toNat&&&1=_
  exact Nat.and_one_is_mod _
 rw[this,aD (by omega)]
 omega
theorem QE (x:a8):bg.wrap (x%2)=(((x%2).toNat:a0):a8):=by rw[fu];omega
theorem alK {k:a0}(h:k<8):2^k<=128:=by
 have:2^k<=2^7:=bb (by omega) (by omega)
 exact this
theorem ZV (P:cx)(t:c5)(k' :dv)(x:a8){k:a0}(h:k<8):cQ P .shl t (.int .u8 (((x%2).toNat:a0):a8)) (.int k' (k:a0))=some (.int .u8 (((x%2).toNat*2^k:a0):a8)):=by
 rw[mW P t .u8 _ _ k' (by omega)]
 have e:min ((k:a0):a8).toNat bg.bits=k:=by
  have:bg.bits=8:=rfl
  rw[this,a6];omega
 have hp:=alK h
 have hx:(x%2).toNat=0\/(x%2).toNat=1:=by omega
 rw[e,fu]
 rcases hx with hx|hx
 ·rw[hx];simp
 ·rw[hx]
  have e2:((1:a0):a8)*(2:a8)^k=((1*2^k:a0):a8):=by norm_cast
  rw[e2]
  congr 2
  generalize 2^k=q at hp
  omega
theorem orB (y:ao)(x:a8)(k:a0):bg.wrap (((av bg.bits (y.toNat:a8)|||av bg.bits (((x%2).toNat*2^k:a0):a8)).toNat:a0):a8)=((FO y x k).toNat:a8):=by
 have e1:bg.bits=8:=rfl
 have hy:=y.toNat_lt
 rw[e1,fu]
 unfold FO
 generalize (x%2).toNat*2^k=w
 have:(av 8 (y.toNat:a8)|||av 8 (w:a8)).toNat=(y|||a9 w).toNat:=by
  rw[cz,a4,a4,a5,a5,UInt8.toNat_or,bo,a7 (by omega)]
 rw[this]
 have:=(y|||a9 w).toNat_lt
 omega
theorem I6 (P:cx)(t:c5)(k' :dv)(x:a8){k:a0}(h:k<64):cQ P .shr t (.int .i64 x) (.int k' (k:a0))=some (.int .i64 (x.fdiv (2^k))):=by
 rw[lS P t .i64 _ _ k' (by omega)]
 have e:min ((k:a0):a8).toNat a2.bits=k:=by
  have:a2.bits=64:=rfl
  rw[this,a6];omega
 rw[e]
theorem I7 (n:a0):((n:a8)).tmod 8=((n%8:a0):a8):=by rw[Int.tmod_eq_emod_of_nonneg (by omega)];omega
theorem SL (n:a0):((n:a8)).tdiv 8=((n/8:a0):a8):=by rw[cm (by omega)];omega
theorem jN {P:cx}{lib:aA}{all r:a1 Oper}{id:a0}{f:aW}{s:aq}{d:Option Tmp}{Q:aW->aq->Prop}{e:c5}(cf:aX P e=some 1){v:bq}{n:a0}{l:a1 bq}(h:Own s 1 v n l){k:a0}(hk:k<n){w:bq}(hw:aL w=true)
  (K:∀s',Own s' 1 v n (l.set k w)->bt v s s' ->tm P lib all r id f d Q undef s'):qa P lib all r id f d s Q (BN (dR P s e (bc 1 v k) w)):=by
 obtain⟨s',h1,h2,h3⟩:=h.put cf hk hw
 rw[h1,iC]
 exact K s' h2 h3
structure du (j:a0) (v:bq) (s:aq) (v' :bq) (s' :aq):Prop where
 next:s.next<=s'.next
 get:∀i,i<s.next->i≠j->aI v≠some i->s'.heap.get i=s.heap.get i
 id:aI v' =aI v\/∃i,aI v' =some i/\s.next<=i
theorem du.refl (j:a0)(v:bq)(s:aq):du j v s v s:=⟨ds _,fun _ _ _ _=>rfl,.inl rfl⟩
theorem du.trans {j:a0}{v v' v'' :bq}{s s' yB:aq}(h:du j v s v' s')(k:du j v' s' v'' yB):du j v s v'' yB:=by
 refine⟨c9 h.next k.next,fun i hi hj hv=> ?_,?_⟩
 ·rw[k.get i (c7 hi h.next) hj ?_,h.get i hi hj hv]
  rcases h.id with e|⟨q,e,hq⟩
  ·rw[e];exact hv
  ·rw[e];intro q2;injection q2 with q2;omega
 ·rcases k.id with e|⟨q,e,hq⟩
  ·rcases h.id with e2|⟨q,e2,hq⟩
   ·exact .inl (by rw[e,e2])
   ·exact .inr ⟨q,by rw[e,e2],hq⟩
  ·exact .inr ⟨q,e,c9 h.next hq⟩
theorem du.stay {j base:a0}{v v' :bq}{s s' :aq}(h:du j v s v' s')(hj:base<=j)(hF:aF base v)(hb:base<=s.next):ar base s s' :=
 ⟨h.next,fun i hi=>h.get i (by omega) (by omega) (fun e=>by have:=hF i e;omega)⟩
theorem du.turns {j:a0}{v v' :bq}{s s' :aq}(h:bt v s s')(gz:aI v' =aI v\/∃i,aI v' =some i/\s.next<=i):du j v s v' s' :=⟨h.next,fun i hi _ hv=>h.get i hi hv,gz⟩
theorem du.put {j:a0}{v:bq}{s s' :aq}(hn:s'.next=s.next)(h:∀i,i≠j->s'.heap.get i=s.heap.get i):du j v s v s' :=⟨by omega,fun i _ hj _=>h i hj,.inl rfl⟩
structure nP (base:a0) (s:aq) (j:a0) (v:bq) (p:a1 ao×a0):Prop where
 cJ:ax s j [v,.int .i64 p.2]
 own:Own s 1 v p.1.length (ofBytes p.1)
 fresh:aF base v
 ne:aI v≠some j
 lo:base<=j
 ok:Ok p
theorem nP.keeps {base j:a0}{s s' :aq}{v:bq}{p:a1 ao×a0}(h:nP base s j v p)(k:ar s.next s s'):nP base s' j v p:=
 ⟨h.cJ.keeps k,h.own.keeps k,h.fresh,h.ne,h.lo,h.ok⟩
end Go.Cl.Rw
namespace Go.Proofs.YtdfjfncifneocaaGreat
open Go.Cl Go.Cl.Rw
theorem qi (l:a1 ao)(k:a0)(c:ao):(ofBytes l).set k (.int .u8 (c.toNat:a8))=ofBytes (l.set k c):=by
 simp[ofBytes,List.map_set]
abbrev qW (j:a0):bq:= .pointer (some ⟨j,0,some 3⟩)
theorem Hf (i o c:a0):au an 162 (.pointer (some ⟨i,o,some c⟩)) 0=some (.pointer (some ⟨i,o+0,some c⟩)):=by
 unfold au;rw[c8];simp[fT]
theorem Hg (i o c:a0):au an 162 (.pointer (some ⟨i,o,some c⟩)) 1=some (.pointer (some ⟨i,o+1,some c⟩)):=by
 unfold au;rw[c8];simp[bA]
def oz (base:a0)(j:a0)(v:bq)(s:aq)(p:a1 ao×a0)(s' :aq):Prop:=∃v',nP base s' j v' p/\du j v s v' s'
theorem ZW {lib:aA}(hl:lib.at 200=none)(base:a0)(s:aq)(j:a0)(v:bq)(p:a1 ao×a0)(x:a8)(h:nP base s j v p)(hb:base<=s.next)(hp:p.2<=1073741824):
  Runs an lib 200 [qW j,.int .i64 x] s fun _ s' =>oz base j v s (nO p x) s' :=by
 obtain⟨B,n⟩:=p
 obtain⟨ho,hB,hF,cH,hj,dH⟩:=h
 obtain⟨mO,hrb⟩:=xH dH
 have VY:=Bu (x:=x) dH
 simp only at ho hB hp
 obtain⟨lz,oB⟩:=dH
 simp only at lz oB
 refine Runs.enter 48 Tryz.func200 rfl hl rfl rfl ?_
 intro f hn hf
 have h0:f.get 0=qW j:=hf 0
 have h1:f.get 1= .int .i64 x:=hf 1
 clear hf
 have l0:=ho.load (P:=an) fU (off:=0) (c:=3) rfl (by simp)
 have l1:=ho.load (P:=an) bu (off:=1) (c:=3) rfl (by simp)
 have SM:n%8<8:=dX _ (by omega)
 by_cases hz:n%8=0
 ·have vx:((n%8:a0):a8)=0:=by omega
  have dd:room (B,n)=B++[0]:=by unfold room;rw[cp hz]
  simp(disch:=omega)only[aj,ak,ae,QS,Qx,↓ab,hn,h0,Hf,Hg,l0,l1,fg,I7,b5 vx,gG a3 bK ks]
  refine bG a3 bK jW ks rfl hB (by simp only[ad,↓ab]) (by decide) (by simp only[ag,hn];decide) (by simp only[ag,hn];decide) (by rfl) (by decide) rfl (by omega) (by omega) (base:=base) hF hb ?_
  intro bs B' s2 hB' ze dO Nl vz
  have fN:=ho.turns Nl cH
  have Bc:aI B' ≠some j:=by
   rcases vz with e|⟨i,e,hi⟩
   ·rw[e];exact cH
   ·rw[e];intro q;injection q with q;have:=ho.lt;omega
  simp only[aj,QS,Qx,↓ab,hn,Hf]
  refine aY fT fN rfl (by simp) hB'.aG.aL ?_
  intro s3 ou mQ bC
  have e1:ofBytes B++[.int .u8 0]=ofBytes (B++[0]):=by rw[br];rfl
  have e2:B.length+1=(B++[0]).length:=by simp
  have Az:=hB'.aK mQ bC Bc
  rw[e1,e2] at Az
  have bd:n/8<(B++[0]).length:=by rw[<-dd];exact mO
  simp only[aj]
  refine cX.vK (by kernel_rfl) ?_
  have l0:=(ou).load (P:=an) fU (off:=0) (c:=3) rfl (by simp)
  have l1:=(ou).load (P:=an) bu (off:=1) (c:=3) rfl (by simp)
  have k1:=(Az).aG.di (P:=an) kI bd
  rw[bw bd] at k1
  simp(disch:=omega)only[aj,ak,QS,Qx,↓ab,hn,h0,h1,Hf,Hg,l0,l1,(Az).self,fg,I7,iQ,SL,aD,(Az).aG.indexAddr a3 bK,k1,fh,VX,bL b4 bz,QE,ZV,jV,orB]
  refine jN bK Az bd rfl ?_
  intro t1 gL eK
  have ux:=(ou).turns eK Bc
  have ZX:=ux.load (P:=an) bu (off:=1) (c:=3) rfl (by simp)
  simp(disch:=omega)only[aj,ak,QS,Qx,↓ab,hn,h0,Hg,ZX,aD]
  refine aY bA ux rfl (by simp) rfl ?_
  intro t2 fN g9 cR
  have dI:=gL.aK g9 cR Bc
  simp(disch:=omega)only[aj,ah,dt]
  rw[qi] at dI
  have hr:(nO (B,n) x).1=(B++[0]).set (n/8) (FO ((B++[0]).getD (n/8) 0) x (n%8)):=by simp only[nO,dd]
  refine⟨B',⟨fN,?_,ze,Bc,hj,VY⟩,((du.turns Nl vz).trans (du.put mQ bC)).trans ((du.turns eK (.inl rfl)).trans (du.put g9 cR))⟩
  rw[hr,cA];exact dI
 ·have vx:¬((n%8:a0):a8)=0:=by omega
  have dd:room (B,n)=B:=by unfold room;rw[ca hz]
  have bd:n/8<B.length:=by rw[<-dd];exact mO
  simp(disch:=omega)only[aj,ak,QS,↓ab,hn,h0,Hg,l1,fg,I7,bk vx]
  refine cX.vK (by kernel_rfl) ?_
  have l0:=(ho).load (P:=an) fU (off:=0) (c:=3) rfl (by simp)
  have l1:=(ho).load (P:=an) bu (off:=1) (c:=3) rfl (by simp)
  have k1:=(hB).aG.di (P:=an) kI bd
  rw[bw bd] at k1
  simp(disch:=omega)only[aj,ak,QS,Qx,↓ab,hn,h0,h1,Hf,Hg,l0,l1,(hB).self,fg,I7,iQ,SL,aD,(hB).aG.indexAddr a3 bK,k1,fh,VX,bL b4 bz,QE,ZV,jV,orB]
  refine jN bK hB bd rfl ?_
  intro t1 gL eK
  have ux:=(ho).turns eK cH
  have ZX:=ux.load (P:=an) bu (off:=1) (c:=3) rfl (by simp)
  simp(disch:=omega)only[aj,ak,QS,Qx,↓ab,hn,h0,Hg,ZX,aD]
  refine aY bA ux rfl (by simp) rfl ?_
  intro t2 fN g9 cR
  have dI:=gL.aK g9 cR cH
  simp(disch:=omega)only[aj,ah,dt]
  rw[qi] at dI
  have hr:(nO (B,n) x).1=B.set (n/8) (FO (B.getD (n/8) 0) x (n%8)):=by simp only[nO,dd]
  refine⟨v,⟨fN,?_,hF,cH,hj,VY⟩,(du.turns eK (.inl rfl)).trans (du.put g9 cR)⟩
  rw[hr,cA];exact dI
theorem oz.start {base j:a0}{v:bq}{s:aq}{p:a1 ao×a0}(h:nP base s j v p):oz base j v s p s:=⟨v,h,du.refl _ _ _⟩
def I8 (p:a1 ao×a0)(x w:a8):a1 ao×a0:=if w<1\/16<w then p else l5 p x w.toNat
theorem Bv {lib:aA}(hl:lib.at 170=none)(lV:lib.at 200=none)(base:a0)(s:aq)(j:a0)(v:bq)(p:a1 ao×a0)(x w:a8)(h:nP base s j v p)(hb:base<=s.next)(hp:p.2<=1000000000):
  Runs an lib 170 [qW j,.int .i64 x,.int .i64 w] s fun _ s' =>oz base j v s (I8 p x w) s' :=by
 refine Runs.enter 27 Tryz.func170 rfl hl rfl rfl ?_
 intro f hn hf
 have h0:f.get 0=qW j:=hf 0
 have h1:f.get 1= .int .i64 x:=hf 1
 have h2:f.get 2= .int .i64 w:=hf 2
 clear hf
 by_cases c1:w<1
 ·simp only[aj,ak,al,QS,Qx,↓ab,hn,h0,h2,cY cb,b5 c1,cB]
  unfold I8;rw[cp (.inl c1)];exact oz.start h
 ·by_cases c2:16<w
  ·simp only[aj,ak,al,QS,Qx,↓ab,hn,h0,h2,cY cb,bk c1,b5 c2,cB]
   unfold I8;rw[cp (.inr c2)];exact oz.start h
  ·obtain⟨m,rfl⟩:∃m:a0,w=m:=⟨w.toNat,by omega⟩
   have VZ:I8 p x m=l5 p x m:=by unfold I8;rw[ca (by omega),a6]
   simp only[aj,ak,QS,Qx,↓ab,hn,h0,h2,cY cb,bk c1,bk c2]
   refine Comes.eZ (fun q f s' =>∃(k:a0),q=m-k/\k<=m/\oz base j v s (l5 p x k) s' /\f.n=27/\f.get 0=qW j/\f.get 1= .int .i64 x/\f.get 17= .int .i64 m/\f.get 18= .int .i64 k)
    ⟨0,rfl,by omega,oz.start h,by simp only[ad,ag,↓ab,Qx,hn,h0,h1,true_and];rfl⟩ ?_
   clear hn h0 h1 h2 f
   rintro q f s1 ⟨k,rfl,hk,⟨v1,pd,fk⟩,hn,h0,h1,Be,zh⟩
   by_cases hkm:k<m
   ·have On:(k:a8)<m:=by omega
    simp(disch:=omega)only[aj,ak,aa,QS,Qx,↓ab,hn,h0,h1,Be,zh,b5 On,I6]
    refine(ZW lV base s1 j v1 (l5 p x k) (x.fdiv (2^k)) pd (c9 hb fk.next) (by rw[kL];omega)).mono ?_
    rintro _ s2 ⟨v2,gx,nQ⟩
    simp(disch:=omega)only[aj,QS,Qx,↓ab,hn,zh,aD]
    refine ay (m-(k+1)) (by omega) ⟨k+1,rfl,by omega,⟨v2,gx,fk.trans nQ⟩,by simp only[ag,hn],by simp only[ad,↓ab,Qx,h0],by simp only[ad,↓ab,Qx,h1],by simp only[ad,↓ab,Qx,Be],by simp only[ad,↓ab];rfl⟩
   ·obtain rfl:k=m:=by omega
    have On:¬(k:a8)<k:=by omega
    simp only[aj,ah,QS,↓ab,hn,Be,zh,bk On,cB]
    rw[VZ];exact⟨v1,pd,fk⟩
theorem I9 {lib:aA}(hl:lib.at 36=none)(s:aq)(x:bq)(a:a1 ao)(hx:aN s 1 x a.length (ofBytes a))(ha:a.length<=4294967296):
  Runs an lib 36 [x] s fun v s' =>cM s v s' a:=by
 refine Runs.enter 8 Tryz.func36 rfl hl rfl rfl ?_
 intro f hn hf
 have h0:f.get 0=x:=hf 0
 clear hf
 cases sk:C4 x with
 |true=>
  obtain⟨e1,_,e2⟩:=hx.isNil sk
  obtain rfl:a=[]:=cg e1
  simp only[aj,al,oneOf,QS,Qx,↓ab,hn,h0,hx.oP a3,sk,dx]
  exact⟨.nil,aF.nil _,ar.refl _ _⟩
 |false=>
  simp only[aj,ae,QS,Qx,↓ab,hn,h0,hx.oP a3,sk,y9 a3 bK ks rfl rfl]
  refine aQ (n:=0) (by rfl) ?_
  intro b s2 hb Oo aR
  simp only[aj,aa,QS,Qx,↓ab,hn,h0]
  refine bY a3 a3 (.inl ⟨_,rfl⟩) bK jW ks rfl hb (hx.keeps aR).src (by rw[bM,Nat.mul_one]) (by decide) (dh _) (by omega) (by omega) Oo (by have:=aR.next;omega) ?_
  intro o' s3 pM ze dO Nl vz
  simp only[aj,al,oneOf,QS,↓ab,hn,dx]
  rw[Nat.zero_add,List.nil_append] at pM
  exact⟨pM,ze,aR.trans dO⟩
theorem SN {lib:aA}(hl:lib.at 138=none)(jL:lib.at 36=none)(base:a0)(s:aq)(j:a0)(v:bq)(p:a1 ao×a0)(h:nP base s j v p)(hp:p.1.length<=1000000000):
  Runs an lib 138 [qW j] s fun w s' =>cM s w s' p.1:=by
 refine Runs.enter 10 Tryz.func138 rfl hl rfl rfl ?_
 intro f hn hf
 have h0:f.get 0=qW j:=hf 0
 clear hf
 have l0:=h.cJ.load (P:=an) fU (off:=0) (c:=3) rfl (by simp)
 simp only[aj,ak,aa,QS,Qx,↓ab,hn,h0,cY cb,Hf,l0]
 refine(I9 jL s v p.1 h.own.aG (by omega)).mono ?_
 intro w s2 hw
 simp only[aj,al,oneOf,QS,↓ab,hn,Tryz.results138]
 exact hw
end Go.Proofs.YtdfjfncifneocaaGreat
namespace Go.Cl.Sto
def FP (n:a0)(last:a0):a1 ao:=[a9 last,a9 n,a9 (n/256),a9 (255-n%256),a9 (255-n/256%256)]
def uB (l:a1 ao):a1 ao:=
 if _h:l.length<=65535 then FP l.length 1++l else(FP 65535 0++l.take 65535)++uB (l.drop 65535)
termination_by l.length
decreasing_by rw[cv];omega
theorem tx {l:a1 ao}(h:l.length<=65535):uB l=FP l.length 1++l:=by rw[uB,dif_pos h]
theorem tz {l:a1 ao}(h:¬l.length<=65535):uB l=(FP 65535 0++l.take 65535)++uB (l.drop 65535):=by rw[uB,dif_neg h]
theorem iH (n k:a0):(FP n k).length=5:=rfl
def blocks (n:a0):a0:=max 1 ((n+65534)/65535)
theorem qX:∀(k:a0) (l:a1 ao),l.length<=k->(uB l).length=l.length+5*blocks l.length:=by
 intro k
 induction k with
 |zero=>intro l hl;rw[tx (by omega),bl,iH];unfold blocks;omega
 |succ k ih=>
  intro l hl
  by_cases h:l.length<=65535
  ·rw[tx h,bl,iH];unfold blocks;omega
  ·have:=ih (l.drop 65535) (by rw[cv];omega)
   rw[tz h,bl,bl,iH,this,List.length_take,cv]
   unfold blocks
   omega
theorem ahk {n:a0}(h:n<4611686018427387904):unA .xor (.int .i64 (n:a8))=some (.int .i64 (-(n:a8)-1)):=by
 show some (cc .i64 (a2.wrap (((av 64 (-1)^^^av 64 (n:a8)).toNat:a0):a8)))=_
 have e:(av 64 (-1)^^^av 64 (n:a8)).toNat=18446744073709551615-n:=by
  have h1:av 64 (-1)=BitVec.allOnes 64:=by decide
  rw[h1,BitVec.allOnes_xor,BitVec.toNat_not,a4,a5,a7 (by omega)]
 rw[e]
 congr 2
 have e1:a2.bits=64:=rfl
 have e2:a2.signed=true:=rfl
 simp only[IntKind.wrap,e1,e2,Bool.true_and]
 split<;>simp_all<;>omega
theorem ZY (P:cx)(t:c5)(k' :dv)(a:a8):cQ P .shr t (.int .i64 a) (.int k' 8)=some (.int .i64 (a.fdiv 256)):=by
 rw[lS P t .i64 a 8 k' (by decide)];rfl
theorem QF (a:a8):a.fdiv 256=a/256:=Int.fdiv_eq_ediv_of_nonneg _ (by omega)
theorem b0 (n:a0):bg.wrap (n:a8)=((a9 n).toNat:a8):=by rw[fu,bo];omega
theorem b1 (n:a0):bg.wrap ((n:a8)/256)=((a9 (n/256)).toNat:a8):=by rw[fu,bo];omega
theorem b2 (n:a0):bg.wrap (-(n:a8)-1)=((a9 (255-n%256)).toNat:a8):=by rw[fu,bo];omega
theorem b3 (n:a0):bg.wrap ((-(n:a8)-1)/256)=((a9 (255-n/256%256)).toNat:a8):=by rw[fu,bo];omega
def bit (D:a1 ao)(k:a0):a0:=(D.getD (k/8) 0).toNat/2^(k%8)%2
def cj (D:a1 ao)(at_:a0):a0->a0
 |0=>0
 |n+1=>cj D at_ n+bit D (at_+n)*2^n
theorem vO (D:a1 ao)(k:a0):bit D k<2:=dX _ (by omega)
theorem jz (D:a1 ao)(a:a0):∀n,cj D a n<2^n
 |0=>by simp[cj]
 |n+1=>by
  have h1:=jz D a n
  have h2:=vO D (a+n)
  have h3:bit D (a+n)=0\/bit D (a+n)=1:=by omega
  simp only[cj,dU]
  rcases h3 with h|h<;>rw[h]<;>omega
theorem nR (D:a1 ao)(i k:a0)(h:k<8):bit D (8*i+k)=(D.getD i 0).toNat/2^k%2:=by
 unfold bit
 rw[show(8*i+k)/8=i by omega,show(8*i+k)%8=k by omega]
theorem ab0 (D:a1 ao)(i:a0):cj D (8*i) 8=(D.getD i 0).toNat:=by
 have hx:=(D.getD i 0).toNat_lt
 simp only[cj]
 rw[nR D i 0 (by omega),nR D i 1 (by omega),nR D i 2 (by omega),nR D i 3 (by omega),nR D i 4 (by omega),nR D i 5 (by omega),nR D i 6 (by omega),nR D i 7 (by omega)]
 generalize (D.getD i 0).toNat=x at hx
 simp only[dE]
 omega
theorem Hh (D:a1 ao)(a n:a0):∀m,cj D a (n+m)=cj D a n+2^n*cj D (a+n) m
 |0=>by simp[cj]
 |m+1=>by
  have:=Hh D a n m
  show cj D a (n+m)+bit D (a+(n+m))*2^(n+m)=_
  rw[this]
  simp only[cj]
  rw[Nat.pow_add,Nat.mul_add,show a+(n+m)=a+n+m by omega]
  have:bit D (a+n+m)*(2^n*2^m)=2^n*(bit D (a+n+m)*2^m):=by
   rw[<-dT,Nat.mul_comm (bit D (a+n+m)),dT]
  omega
theorem V0 (D:a1 ao)(i:a0):cj D (8*i) 16=(D.getD i 0).toNat+256*(D.getD (i+1) 0).toNat:=by
 have:=Hh D (8*i) 8 8
 rw[show 8*i+8=8*(i+1) by omega,ab0,ab0] at this
 exact this
theorem ahl (D:a1 ao)(i:a0):cj D (8*i) 1=(D.getD i 0).toNat%2:=by
 simp only[cj]
 rw[nR D i 0 (by omega)]
 simp
theorem V1 (D:a1 ao)(i:a0):cj D (8*i+1) 2=(D.getD i 0).toNat/2%4:=by
 simp only[cj]
 rw[nR D i 1 (by omega),show 8*i+1+1=8*i+2 by omega,nR D i 2 (by omega)]
 generalize (D.getD i 0).toNat=x
 simp only[dE]
 omega
theorem SO (P:cx)(t:c5)(k' :dv){b:a0}(hb:b<2){k:a0}(h:k<32):cQ P .shl t (.int .i64 ((b:a0):a8)) (.int k' (k:a0))=some (.int .i64 ((b*2^k:a0):a8)):=by
 rw[mW P t .i64 _ _ k' (by omega)]
 have e:min ((k:a0):a8).toNat a2.bits=k:=by
  have:a2.bits=64:=rfl
  rw[this,a6];omega
 have hp:2^k<=2^32:=bb (by omega) (by omega)
 have Ns:(2:a0)^32=4294967296:=by decide
 have e2:((b:a0):a8)*(2:a8)^k=((b*2^k:a0):a8):=by norm_cast
 rw[e,e2]
 have hx:b=0\/b=1:=by omega
 rw[aD (by rcases hx with rfl|rfl<;>(generalize 2^k=q at hp;omega))]
theorem orI {v b k:a0}(hv:v<2^k)(hb:b<2)(hk:k<32):a2.wrap (((av a2.bits (v:a8)|||av a2.bits ((b*2^k:a0):a8)).toNat:a0):a8)=((v+b*2^k:a0):a8):=by
 have e1:a2.bits=64:=rfl
 have hp:2^k<=2^32:=bb (by omega) (by omega)
 have Ns:(2:a0)^32=4294967296:=by decide
 have hx:b=0\/b=1:=by omega
 have hbk:b*2^k<=4294967296:=by rcases hx with rfl|rfl<;>(generalize 2^k=q at*;omega)
 rw[e1]
 have:(av 64 (v:a8)|||av 64 ((b*2^k:a0):a8)).toNat=v+b*2^k:=by
  rw[cz,a4,a4,a5,a5,a7 (by omega),a7 (by omega)]
  have:=cd (i:=k) (b:=v) hv b
  rw[dc] at this
  rw[Nat.or_comm,<-this,Nat.add_comm]
 rw[this,aD (by omega)]
theorem ahm {m:a0}(h:m<65536):a2.wrap (((av a2.bits (m:a8)^^^av a2.bits 65535).toNat:a0):a8)=((65535-m:a0):a8):=by
 have e1:a2.bits=64:=rfl
 rw[e1]
 have:(av 64 (m:a8)^^^av 64 65535).toNat=65535-m:=by
  have e2:(av 64 65535)=BitVec.ofNat 64 65535:=rfl
  rw[e2,BitVec.toNat_xor,a4,a5,a5,a7 (by omega),a7 (by omega)]
  apply Nat.eq_of_testBit_eq
  intro i
  have SP:(65535:a0)=2^16-1:=by decide
  have Be:65535-m=2^16-(m+1):=by
   have:(2:a0)^16=65536:=by decide
   omega
  rw[Be,Nat.testBit_two_pow_sub_succ (by show m<2^16;exact h),Nat.testBit_xor,SP,Nat.testBit_two_pow_sub_one]
  by_cases hi:i<16
  ·simp[hi]
  ·have:m.testBit i=false:=Nat.testBit_lt_two_pow (c7 h (by show 2^16<=2^i;exact bb (by omega) (by omega)))
   simp[hi,this]
 rw[this,aD (by omega)]
end Go.Cl.Sto
namespace Go.Cl.Fx
open Go.Cl.Rw Go.Cl.Sto
def ia (p:a1 ao×a0)(n:a0):a0->a1 ao×a0
 |0=>p
 |w+1=>ia (l5 p ((n:a8).fdiv (2^w)) 1) n w
theorem lF (n:a0):∀(w:a0) (p:a1 ao×a0),(ia p n w).2=p.2+w
 |0,p=>rfl
 |w+1,p=>by
  unfold ia
  rw[lF n w,kL];omega
theorem Dx (n:a0):∀(w:a0) (p:a1 ao×a0),Ok p->Ok (ia p n w)
 |0,p,h=>h
 |w+1,p,h=>by
  unfold ia
  exact Dx n w _ (xI h 1)
def gS (s:a0):a0×a0:=if s<144 then(48+s,8) else if s<256 then(256+s,9) else if s<280 then(s-256,7) else(s-88,8)
def jA (p:a1 ao×a0)(s:a0):a1 ao×a0:=ia p (gS s).1 (gS s).2
theorem xJ (s:a0):7<=(gS s).2/\(gS s).2<=9:=by
 unfold gS
 split
 ·simp
 ·split
  ·simp
  ·split<;>simp
def gb:a0->a0->a0->a0
 |0,_,_=>0
 |f+1,n,g=>if n<2*g then 0 else gb f (n/2) g+1
def lG (n g:a0):a0×a0×a0:=((gb 16 n g+1)*g+n/2^gb 16 n g-g,n%2^gb 16 n g,gb 16 n g)
def cq (n:a0):a0×a0×a0:=if n=258 then(285,0,0) else(257+(lG (n-3) 4).1,(lG (n-3) 4).2)
def eL (n:a0):a0×a0×a0:=lG (n-1) 2
def ZZ (n:a0):a0->a0×a0×a0
 |0=>(n+254,0,0)
 |k+1=>if(4+k%4)*2^((4+k)/4)+3<=n then(265+k,n-((4+k%4)*2^((4+k)/4)+3),(4+k)/4) else ZZ n k
def Z0 (n:a0):a0->a0×a0×a0
 |0=>(n-1,0,0)
 |k+1=>if(2+k%2)*2^((4+k)/2-1)+1<=n then(4+k,n-((2+k%2)*2^((4+k)/2-1)+1),(4+k)/2-1) else Z0 n k
def Oq:a0->Bool
 |0=>true
 |n+1=>decide (ZZ (n+3) 20=cq (n+3))&&decide ((cq (n+3)).1<=284/\257<=(cq (n+3)).1/\(cq (n+3)).2.2<=5/\(cq (n+3)).2.1<2^(cq (n+3)).2.2)&&Oq n
theorem Hi:∀{m:a0},Oq m=true->∀n,n<m->ZZ (n+3) 20=cq (n+3)/\(cq (n+3)).1<=284/\257<=(cq (n+3)).1/\(cq (n+3)).2.2<=5/\(cq (n+3)).2.1<2^(cq (n+3)).2.2
 |m+1,h,n,hn=>by
  simp only[Oq,Bool.and_eq_true,decide_eq_true_eq] at h
  by_cases e:n=m
  ·subst e;exact⟨h.1.1,h.1.2⟩
  ·exact Hi h.2 n (by omega)
theorem V2 {n:a0}(h3:3<=n)(h:n<258):ZZ n 20=cq n/\(cq n).1<=284/\257<=(cq n).1/\(cq n).2.2<=5/\(cq n).2.1<2^(cq n).2.2:=by
 have:=Hi (m:=255) (by decide+kernel) (n-3) (by omega)
 rw[show n-3+3=n by omega] at this
 exact this
def Ot:a0->Bool
 |0=>true
 |n+1=>decide (Z0 (n+1) 26=eL (n+1))&&decide ((eL (n+1)).1<=29/\(eL (n+1)).2.2<=4/\(eL (n+1)).2.1<2^(eL (n+1)).2.2)&&Ot n
theorem Hj:∀{m:a0},Ot m=true->∀n,n<m->Z0 (n+1) 26=eL (n+1)/\(eL (n+1)).1<=29/\(eL (n+1)).2.2<=4/\(eL (n+1)).2.1<2^(eL (n+1)).2.2
 |m+1,h,n,hn=>by
  simp only[Ot,Bool.and_eq_true,decide_eq_true_eq] at h
  by_cases e:n=m
  ·subst e;exact⟨h.1.1,h.1.2⟩
  ·exact Hj h.2 n (by omega)
theorem Dy {n:a0}(h1:1<=n)(h:n<=64):Z0 n 26=eL n/\(eL n).1<=29/\(eL n).2.2<=4/\(eL n).2.1<2^(eL n).2.2:=by
 have:=Hj (m:=64) (by decide+kernel) (n-1) (by omega)
 rw[show n-1+1=n by omega] at this
 exact this
def comm (l:a1 ao)(a d:a0):a0->a0->a0
 |n,0=>n
 |n,f+1=>if a+n<l.length/\l.getD (a+n-d) 0=l.getD (a+n) 0 then comm l a d (n+1) f else n
def Ou (l:a1 ao)(a d:a0):a0:=comm l a d 0 258
theorem QG (l:a1 ao)(a d:a0):∀f n,n<=comm l a d n f/\comm l a d n f<=n+f
 |0,n=>by simp[comm]
 |f+1,n=>by
  unfold comm
  split
  ·have:=QG l a d f (n+1);omega
  ·omega
theorem QH (l:a1 ao)(a d:a0):∀f n,a+n<=l.length->a+comm l a d n f<=l.length
 |0,n,h=>by simpa [comm] using h
 |f+1,n,h=>by
  unfold comm
  split
  ·rename_i c;exact QH l a d f (n+1) (by omega)
  ·exact h
theorem adJ (l:a1 ao)(a d:a0):Ou l a d<=258:=by have:=(QG l a d 258 0).2;unfold Ou;omega
theorem adK {l:a1 ao}{a:a0}(d:a0)(h:a<=l.length):a+Ou l a d<=l.length:=QH l a d 258 0 h
theorem QI (l:a1 ao)(a d:a0):∀f n,(∀i,i<n->l.getD (a+i-d) 0=l.getD (a+i) 0)->∀i,i<comm l a d n f->l.getD (a+i-d) 0=l.getD (a+i) 0
 |0,n,h=>by simpa [comm] using h
 |f+1,n,h=>by
  unfold comm
  split
  ·rename_i c
   refine QI l a d f (n+1) (fun i hi=> ?_)
   by_cases e:i=n
   ·subst e;exact c.2
   ·exact h i (by omega)
  ·exact h
theorem adL (l:a1 ao)(a d:a0):∀i,i<Ou l a d->l.getD (a+i-d) 0=l.getD (a+i) 0:=QI l a d 258 0 (fun i h=>absurd h (Nat.not_lt_zero i))
def db (l:a1 ao)(a:a0):a0->a0×a0
 |0=>(0,0)
 |k+1=>if(db l a k).1<Ou l a (k+1) then(Ou l a (k+1),k+1) else db l a k
theorem Bw (l:a1 ao)(a:a0):∀k,(db l a k=(0,0))\/(1<=(db l a k).2/\(db l a k).2<=k/\(db l a k).1=Ou l a (db l a k).2)
 |0=> .inl rfl
 |k+1=>by
  unfold db
  split
  ·exact .inr ⟨by simp,ds _,rfl⟩
  ·rcases Bw l a k with h|⟨h1,h2,h3⟩
   ·exact .inl h
   ·exact .inr ⟨h1,by omega,h3⟩
theorem Z1 (l:a1 ao)(a k:a0):(db l a k).1<=258/\(db l a k).2<=k:=by
 rcases Bw l a k with h|⟨h1,h2,h3⟩
 ·rw[h];simp
 ·exact⟨by rw[h3];exact adJ ..,h2⟩
def gE (p:a1 ao×a0)(x w:a0):a1 ao×a0:=l5 p (x:a8) w
def mF (p:a1 ao×a0)(n d:a0):a1 ao×a0:=gE (ia (gE (jA p (cq n).1) (cq n).2.1 (cq n).2.2) (eL d).1 5) (eL d).2.1 (eL d).2.2
def nq (a:a0):a0:=min a 64
def jB (l:a1 ao)(a:a0):a0:=if(db l a (nq a)).1<3 then a+1 else a+(db l a (nq a)).1
def jd (l:a1 ao)(a:a0)(p:a1 ao×a0):a1 ao×a0:=if(db l a (nq a)).1<3 then jA p (l.getD a 0).toNat else mF p (db l a (nq a)).1 (db l a (nq a)).2
def iq (l:a1 ao):a0->a0->a1 ao×a0->a1 ao×a0
 |0,_,p=>p
 |f+1,a,p=>if a<l.length then iq l f (jB l a) (jd l a p) else p
def j9:a1 ao×a0:=l5 ([],0) 3 3
def sm (l:a1 ao):a1 ao×a0:=jA (iq l (l.length+1) 0 j9) 256
def fixed (l:a1 ao):a1 ao:=(sm l).1
theorem qj (l:a1 ao)(a:a0):a<jB l a:=by unfold jB;split<;>omega
theorem Dz (l:a1 ao){a:a0}(h:a<l.length):jB l a<=l.length:=by
 unfold jB
 split
 ·omega
 ·rename_i c
  rcases Bw l a (nq a) with e|⟨h1,h2,h3⟩
  ·rw[e] at c;simp at c
  ·rw[h3];exact adK _ (by omega)
theorem DA {l:a1 ao}{a:a0}(c:¬(db l a (nq a)).1<3):3<=(db l a (nq a)).1/\(db l a (nq a)).1<=258/\1<=(db l a (nq a)).2/\(db l a (nq a)).2<=64/\(db l a (nq a)).2<=a/\(db l a (nq a)).1=Ou l a (db l a (nq a)).2:=by
 rcases Bw l a (nq a) with e|⟨h1,h2,h3⟩
 ·rw[e] at c;simp at c
 ·have:=Z1 l a (nq a)
  unfold nq at*
  exact⟨by omega,by omega,h1,by omega,by omega,h3⟩
theorem zi {n:a0}(h3:3<=n)(h:n<=258):(cq n).1<=285/\257<=(cq n).1/\(cq n).2.2<=5/\(cq n).2.1<2^(cq n).2.2:=by
 by_cases e:n=258
 ·subst e;decide
 ·have:=V2 h3 (by omega);omega
theorem qk (p:a1 ao×a0)(s:a0):(jA p s).2=p.2+(gS s).2:=lF ..
theorem Ja {p:a1 ao×a0}(h:Ok p)(s:a0):Ok (jA p s):=Dx _ _ _ h
theorem tA (p:a1 ao×a0)(x w:a0):(gE p x w).2=p.2+w:=kL ..
theorem Ov (p:a1 ao×a0)(n d:a0):(mF p n d).2=p.2+(gS (cq n).1).2+(cq n).2.2+5+(eL d).2.2:=by
 unfold mF
 rw[tA,lF,tA,qk]
theorem V3 {s:a0}(h:257<=s):(gS s).2<=8:=by
 unfold gS
 rw[ca (by omega),ca (by omega)]
 split<;>simp
theorem SQ (p:a1 ao×a0){n d:a0}(h3:3<=n)(h:n<=258)(hd:1<=d)(vC:d<=64):(mF p n d).2<=p.2+22:=by
 have h1:=zi h3 h
 have h2:=V3 h1.2.1
 have h4:=Dy hd vC
 rw[Ov];omega
theorem Lj (l:a1 ao)(a:a0)(p:a1 ao×a0):(jd l a p).2+9*a<=p.2+9*jB l a:=by
 unfold jd jB
 split
 ·have:=xJ (l.getD a 0).toNat
  rw[qk];omega
 ·rename_i c
  have h:=DA c
  have:=SQ p h.1 h.2.1 h.2.2.1 h.2.2.2.1
  omega
theorem nS (l:a1 ao){f a:a0}(p:a1 ao×a0)(h:l.length<=a):iq l f a p=p:=by
 cases f with
 |zero=>rfl
 |succ f=>unfold iq;rw[ca (by omega)]
theorem zj (l:a1 ao){f a:a0}(p:a1 ao×a0)(h:a<l.length):iq l (f+1) a p=iq l f (jB l a) (jd l a p):=by rw[iq,cp h]
theorem zk (l:a1 ao):∀(f g a:a0) (p:a1 ao×a0),l.length<=a+f->l.length<=a+g->iq l f a p=iq l g a p
 |0,g,a,p,h,_=>by rw[nS l p (by omega),nS l p (by omega)]
 |f+1,0,a,p,_,h=>by rw[nS l p (by omega),nS l p (by omega)]
 |f+1,g+1,a,p,h1,h2=>by
  by_cases c:a<l.length
  ·rw[zj l p c,zj l p c]
   have:=qj l a
   exact zk l f g _ _ (by omega) (by omega)
  ·rw[nS l p (by omega),nS l p (by omega)]
def uC (l:a1 ao)(a:a0)(p:a1 ao×a0):a1 ao×a0:=iq l (l.length-a) a p
theorem ql (l:a1 ao){a:a0}(p:a1 ao×a0)(h:l.length<=a):uC l a p=p:=nS l p h
theorem uc (l:a1 ao){a:a0}(p:a1 ao×a0)(h:a<l.length):uC l a p=uC l (jB l a) (jd l a p):=by
 unfold uC
 obtain⟨f,hf⟩:∃f,l.length-a=f+1:=⟨l.length-a-1,by omega⟩
 have:=qj l a
 rw[hf,zj l p h,zk l f (l.length-jB l a) _ _ (by omega) (by omega)]
theorem Bx (l:a1 ao):sm l=jA (uC l 0 j9) 256:=by
 unfold sm uC
 rw[zk l (l.length+1) (l.length-0) 0 _ (by omega) (by omega)]
theorem QJ (l:a1 ao):∀(k a:a0) (p:a1 ao×a0),l.length<=a+k->a<=l.length->Ok p->Ok (uC l a p)/\(uC l a p).2+9*a<=p.2+9*l.length
 |0,a,p,h,h2,hp=>by rw[ql l p (by omega)];exact⟨hp,by omega⟩
 |k+1,a,p,h,h2,hp=>by
  by_cases c:a<l.length
  ·rw[uc l p c]
   have h3:=qj l a
   have h4:=Dz l c
   have dH:Ok (jd l a p):=by
    unfold jd
    split
    ·exact Ja hp _
    ·exact xI (Dx _ _ _ (xI (Ja hp _) _)) _
   have:=QJ l k _ _ (by omega) h4 dH
   have h5:=Lj l a p
   exact⟨this.1,by omega⟩
  ·rw[ql l p (by omega)];exact⟨hp,by omega⟩
theorem xK:Ok j9/\j9.2=3:=⟨xI ⟨ds _,by decide⟩ 3,rfl⟩
theorem Jb (l:a1 ao):Ok (sm l)/\(sm l).2<=10+9*l.length:=by
 rw[Bx]
 have h:=QJ l l.length 0 j9 (by omega) (by omega) xK.1
 have h2:=xK.2
 refine⟨Ja h.1 _,?_⟩
 rw[qk]
 have:(gS 256).2=7:=rfl
 omega
theorem xL (l:a1 ao):(fixed l).length<=3+2*l.length:=by
 have:=Jb l
 unfold fixed
 have h:=this.1.2
 omega
end Go.Cl.Fx
