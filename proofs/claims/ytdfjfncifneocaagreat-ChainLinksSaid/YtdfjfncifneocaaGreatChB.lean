import Derived.Test.YtdfjfncifneocaaGreatPrA
open _root_ renaming reduceIte->ab,UInt8->ao,List->av,Nat->ax,Int->a0,eq_false->a2,eq_true->bt,if_neg->bw,if_pos->cb,and_self->cT,true_and->dk,of_decide_eq_true->er,if_false->ew,Option->ey,if_true->eP,Bool->eX
open Go.Proofs.Tryz renaming prog->an,underlying22->a3,underlying137->cd,underlying5->cp,results161->cv,results116->cz,results152->c0,results120->c4,underlying58->c9,underlying3->dc,underlying188->eg,underlying117->ep
open BitVec renaming ofInt->aC,ofInt_natCast->bl,toNat_ofNat->bq,toNat_or->dT,toNat_and->eC
open Int renaming toNat_natCast->a1,fdiv_eq_ediv_of_nonneg->ck,tdiv_eq_ediv_of_nonneg->c6,tmod_eq_emod_of_nonneg->c7,pow_nonneg->ea
open Go renaming Value->a8,Program->cm,TypeId->cU,IntKind->c5
open Go.IntKind renaming i64->bb,u8->b5,u32->ca,u64->cM,wrap->ev
open List renaming getD_eq_getElem?_getD->bk,replicate->b4,getElem?_eq_getElem->cg,length_replicate->cB,length_drop->cJ,eq_nil_of_length_eq_zero->cL,ext_getElem->ds,range->dP,getElem_range->eo,getElem_set->eD,getElem_map->eG,take_length->eI,length_cons->eL,drop_drop->eQ,drop_zero->eS,getD->e4
open Nat renaming mod_eq_of_lt->bz,pow_le_pow_right->b7,shiftLeft_add_eq_or_of_lt->ch,le_refl->c8,shiftLeft_eq->dg,pow_succ->dt,le_trans->dv,mod_lt->dw,mul_le_mul_right->eb,add_one_sub_one->ee,lt_of_lt_of_le->en,sub_self->eu,mul_one->eM,mul_comm->eV
open UInt8 renaming ofNat->b8,toNat_ofNat'->cA
open Go.Value renaming int->cD
open Nat renaming reduceLT->QM,reduceEqDiff->WP
set_option maxHeartbeats 4000000
set_option linter.unusedSimpArgs false
set_option linter.unusedVariables false
set_option maxRecDepth 100000
namespace Go.Cl
theorem F8 {P:cm}{d:ey Tmp}{ty:cU}{ps:String}{af:Array Edge}{gd:ey (ax×eX)}{f:aZ}{s:au}(g:FuncId)(xs bs:Array Operand):cV P ⟨d,.makeFunc (.func g) xs bs,ty,ps,af,gd⟩ f s=match ad f xs.toList,ad f bs.toList with
  |some l,some m=>some (.val (.func (.func g) l.toArray m.toArray) s)
  |_,_=>none:=rfl
theorem Pa {P:cm}{s:au}{t e:cU}{zv a b c d x:a8}(hu:P.underlying t=some (.slice e))(cX:br P e=some 1)(hz:b6 P e=some zv)(pg:cr zv=true)(tq:∃w,zv.cells.toList=[w])(h1:a.cells.toList=[a])(h2:b.cells.toList=[b])(h3:c.cells.toList=[c])(h4:d.cells.toList=[d])(h5:x.cells.toList=[x]):bp P s t 5 [(0,a),(1,b),(2,c),(3,d),(4,x)]=a6 s [a,b,c,d,x] 5 1:=by
 obtain⟨w,hw⟩:=tq;unfold bp;rw[hu];simp only[cX,hz,pg,hw,db,iu,h1,h2,h3,h4,h5,List.length_singleton];rfl
end Go.Cl
namespace Go.Proofs.YtdfjfncifneocaaGreat
open Go.Cl Go.Cl.Pr
structure F9 (lib:aD):Prop where
 aaM:lib.at 157=none
 first:lib.at 158=none
 upper:lib.at 159=none
 half:lib.at 160=none
 nearest:lib.at 161=none
 Y7:lib.at 193=none
 TZ:lib.at 116=none
 aaN:lib.at 115=none
 parts:lib.at 114=none
 may:lib.at 46=none
def Eh (s:au)(z:a0)(v:a8)(s' :au):Prop:=v= .int .i64 z/\aw s.next s s'
theorem KG:(2:a0)≠0:=by decide
theorem QX {lib:aD}(L:F9 lib)(s:au)(a b c:a0)(ha:0<=a/\a<=255)(hb:0<=b/\b<=255)(hc:0<=c/\c<=255):Runs an lib 157 [i3 a b c] s (Eh s (il 0 a b c)):=by
 refine Runs.enter 3 Tryz.func157 rfl L.aaM rfl rfl ?_;intro f hn hf;have h0:f.get 0=i3 a b c:=hf 0;clear hf;simp only[aj,QM,↓ab,hn,h0];refine aA ?_;intro s1 ht aF vR;have ht:az s1 s.next (l3 a b c):=ht;have p0:aN an s1 3 (.pointer (some ⟨s.next,0,some 4⟩))=some (.int .i64 a):=ht.load aP (off:=0) (c:=4) rfl (by simp);have p1:aN an s1 3 (.pointer (some ⟨s.next,1,some 4⟩))=some (.int .i64 b):=ht.load aP (off:=1) (c:=4) rfl (by simp);have p2:aN an s1 3 (.pointer (some ⟨s.next,2,some 4⟩))=some (.int .i64 c):=ht.load aP (off:=2) (c:=4) rfl (by simp);have Ah:[cD .i64 a,.int .i64 b,.int .i64 c].length+1=4:=rfl;have eh:=KG;simp only[aj,al,oneOf,QM,↓ab,hn,Ah,Tryz.results157];exact⟨rfl,aF⟩
theorem Nl {lib:aD}(L:F9 lib)(s:au)(a b c:a0)(ha:0<=a/\a<=255)(hb:0<=b/\b<=255)(hc:0<=c/\c<=255):Runs an lib 158 [i3 a b c] s (Eh s (il 1 a b c)):=by
 refine Runs.enter 5 Tryz.func158 rfl L.first rfl rfl ?_;intro f hn hf;have h0:f.get 0=i3 a b c:=hf 0;clear hf;simp only[aj,QM,↓ab,hn,h0];refine aA ?_;intro s1 ht aF vR;have ht:az s1 s.next (l3 a b c):=ht;have p0:aN an s1 3 (.pointer (some ⟨s.next,0,some 4⟩))=some (.int .i64 a):=ht.load aP (off:=0) (c:=4) rfl (by simp);have p1:aN an s1 3 (.pointer (some ⟨s.next,1,some 4⟩))=some (.int .i64 b):=ht.load aP (off:=1) (c:=4) rfl (by simp);have p2:aN an s1 3 (.pointer (some ⟨s.next,2,some 4⟩))=some (.int .i64 c):=ht.load aP (off:=2) (c:=4) rfl (by simp);have Ah:[cD .i64 a,.int .i64 b,.int .i64 c].length+1=4:=rfl;have eh:=KG;simp only[aj,al,oneOf,QM,WP,↓ab,hn,Ah,F7,p0,Tryz.results158];exact⟨rfl,aF⟩
theorem Nm {lib:aD}(L:F9 lib)(s:au)(a b c:a0)(ha:0<=a/\a<=255)(hb:0<=b/\b<=255)(hc:0<=c/\c<=255):Runs an lib 159 [i3 a b c] s (Eh s (il 2 a b c)):=by
 refine Runs.enter 5 Tryz.func159 rfl L.upper rfl rfl ?_;intro f hn hf;have h0:f.get 0=i3 a b c:=hf 0;clear hf;simp only[aj,QM,↓ab,hn,h0];refine aA ?_;intro s1 ht aF vR;have ht:az s1 s.next (l3 a b c):=ht;have p0:aN an s1 3 (.pointer (some ⟨s.next,0,some 4⟩))=some (.int .i64 a):=ht.load aP (off:=0) (c:=4) rfl (by simp);have p1:aN an s1 3 (.pointer (some ⟨s.next,1,some 4⟩))=some (.int .i64 b):=ht.load aP (off:=1) (c:=4) rfl (by simp);have p2:aN an s1 3 (.pointer (some ⟨s.next,2,some 4⟩))=some (.int .i64 c):=ht.load aP (off:=2) (c:=4) rfl (by simp);have Ah:[cD .i64 a,.int .i64 b,.int .i64 c].length+1=4:=rfl;have eh:=KG;simp only[aj,al,oneOf,QM,WP,↓ab,hn,Ah,Ee,p1,Tryz.results159];exact⟨rfl,aF⟩
theorem QY {lib:aD}(L:F9 lib)(s:au)(a b c:a0)(ha:0<=a/\a<=255)(hb:0<=b/\b<=255)(hc:0<=c/\c<=255):Runs an lib 160 [i3 a b c] s (Eh s (il 3 a b c)):=by
 refine Runs.enter 9 Tryz.func160 rfl L.half rfl rfl ?_;intro f hn hf;have h0:f.get 0=i3 a b c:=hf 0;clear hf;simp only[aj,QM,↓ab,hn,h0];refine aA ?_;intro s1 ht aF vR;have ht:az s1 s.next (l3 a b c):=ht;have p0:aN an s1 3 (.pointer (some ⟨s.next,0,some 4⟩))=some (.int .i64 a):=ht.load aP (off:=0) (c:=4) rfl (by simp);have p1:aN an s1 3 (.pointer (some ⟨s.next,1,some 4⟩))=some (.int .i64 b):=ht.load aP (off:=1) (c:=4) rfl (by simp);have p2:aN an s1 3 (.pointer (some ⟨s.next,2,some 4⟩))=some (.int .i64 c):=ht.load aP (off:=2) (c:=4) rfl (by simp);have Ah:[cD .i64 a,.int .i64 b,.int .i64 c].length+1=4:=rfl;have eh:(a+b).tdiv 2=(a+b)/2:=c6 (by omega);simp(disch:=omega)only[aj,al,oneOf,QM,WP,↓ab,hn,Ah,F7,Ee,p0,p1,aB,eh,gA,Tryz.results160];exact⟨rfl,aF⟩
theorem IM {lib:aD}(L:F9 lib)(s:au)(a b c:a0)(ha:0<=a/\a<=255)(hb:0<=b/\b<=255)(hc:0<=c/\c<=255):Runs an lib 161 [i3 a b c] s (Eh s (fD a b c)):=by
 obtain⟨QQ,eK⟩:∃QQ:a8->au->Prop,QQ=Eh s (fD a b c):=⟨_,rfl⟩
 rw[<-eK];refine Runs.enter 46 Tryz.func161 rfl L.nearest rfl rfl ?_;intro f hn hf;have h0:f.get 0=i3 a b c:=hf 0;clear hf;simp only[aj,QM,↓ab,hn,h0];refine aA ?_;intro s1 ht aF vR;have ht:az s1 s.next (l3 a b c):=ht;have Ah:[cD .i64 a,.int .i64 b,.int .i64 c].length+1=4:=rfl;have q0:∀t,aw s1.next s1 t->aN an t 3 (.pointer (some ⟨s.next,0,some 4⟩))=some (.int .i64 a):=fun t h=>(ht.keeps h).load aP (off:=0) (c:=4) rfl (by simp)
 have q1:∀t,aw s1.next s1 t->aN an t 3 (.pointer (some ⟨s.next,1,some 4⟩))=some (.int .i64 b):=fun t h=>(ht.keeps h).load aP (off:=1) (c:=4) rfl (by simp)
 have q2:∀t,aw s1.next s1 t->aN an t 3 (.pointer (some ⟨s.next,2,some 4⟩))=some (.int .i64 c):=fun t h=>(ht.keeps h).load aP (off:=2) (c:=4) rfl (by simp)
 have k1:=aw.refl s1.next s1;simp(disch:=omega)only[aj,QM,WP,↓ab,hn,Ah,F7,Ee,Ef,q0 _ k1,q1 _ k1,q2 _ k1,aB];obtain⟨A,hA⟩:∃A:ax->eX,A=fun j=>decide (j<s1.next):=⟨_,rfl⟩
 have gu:∀j,A j=true->j<s1.next:=by
  intro j h;rw[hA] at h;exact er h
 have oO:∀j,j<s1.next->A j=true:=fun j h=>by rw[hA];exact decide_eq_true h
 refine LB.cN.dx A gu 3 0 (by kernel_rfl) (by kernel_rfl) ?_;have dI:=aw.spare s1 0;have hl:∀k,LA.di A (some (.pointer (some ⟨s.next,k,some 4⟩)))=true:=fun k=>LA.bN (A:=A) (i:=s.next) (oO _ ht.lt)
 simp(disch:=omega)only[aj,ak,bg,bn,ee,ad,QM,WP,↓ab,hn,hl,F7,Ee,q0 _ dI];refine(Eg L.Y7 _ (a+b-c) a (by omega) (by omega)).mono ?_;rintro _ _ ⟨rfl,rfl⟩;refine⟨fun _=>LA.aw.qI gu (aw.refl _ _),?_⟩;simp only[aj,ak,bg,bn,ee,ad,QM,WP,↓ab,hn,hl,Ef,q1 _ dI];refine(Eg L.Y7 _ (a+b-c) b (by omega) (by omega)).mono ?_;rintro _ _ ⟨rfl,rfl⟩;refine⟨fun _=>LA.aw.qI gu (aw.refl _ _),?_⟩;simp only[aj,ak,bg,bn,eu,ad,QM,WP,↓ab,hn,hl,q2 _ dI];refine(Eg L.Y7 _ (a+b-c) c (by omega) (by omega)).mono ?_;rintro _ _ ⟨rfl,rfl⟩;refine⟨fun _=>LA.aw.qI gu (aw.refl _ _),?_⟩;have dA:aw s.next s (spare s1 0):=aF.trans (dI.weaken aF.next);by_cases c1:mR (a+b-c) a<=mR (a+b-c) b
 ·by_cases c2:mR (a+b-c) a<=mR (a+b-c) c
  ·have e:fD a b c=a:=by unfold fD;rw[cb ⟨c1,c2⟩]
   simp only[aj,ak,oneOf,QM,WP,↓ab,aj,ak,al,oneOf,QM,WP,↓ab,hn,bt c1,bt c2,F7,q0 _ dI,cv];rw[eK];exact⟨by rw[e],dA⟩
  by_cases c3:mR (a+b-c) b<=mR (a+b-c) c
  ·have e:fD a b c=b:=by unfold fD;rw[bw (fun h=>c2 h.2),cb c3]
   simp only[aj,ak,oneOf,QM,WP,↓ab,aj,ak,al,oneOf,QM,WP,↓ab,hn,bt c1,a2 c2,bt c3,Ee,q1 _ dI,cv];rw[eK];exact⟨by rw[e],dA⟩
  have e:fD a b c=c:=by unfold fD;rw[bw (fun h=>c2 h.2),bw c3]
  simp only[aj,ak,oneOf,QM,WP,↓ab,aj,ak,al,oneOf,QM,WP,↓ab,hn,bt c1,a2 c2,a2 c3,Ef,q2 _ dI,cv];rw[eK];exact⟨by rw[e],dA⟩
 by_cases c3:mR (a+b-c) b<=mR (a+b-c) c
 ·have e:fD a b c=b:=by unfold fD;rw[bw (fun h=>c1 h.1),cb c3]
  simp only[aj,ak,oneOf,QM,WP,↓ab,aj,ak,al,oneOf,QM,WP,↓ab,undef,hn,a2 c1,bt c3,Ee,q1 _ dI,cv];rw[eK];exact⟨by rw[e],dA⟩
 have e:fD a b c=c:=by unfold fD;rw[bw (fun h=>c1 h.1),bw c3]
 simp only[aj,ak,oneOf,QM,WP,↓ab,aj,ak,al,oneOf,QM,WP,↓ab,undef,hn,a2 c1,a2 c3,Ef,q2 _ dI,cv];rw[eK];exact⟨by rw[e],dA⟩
theorem aiA:b6 an 119=some .nilFunc:=by kernel_rfl
theorem Y8:br an 119=some 1:=by kernel_rfl
theorem aem:bU an 119=some false:=by kernel_rfl
theorem Nn {lib:aD}(L:F9 lib)(s:au)(t a b c:a0)(ht:0<=t/\t<=4)(ha:0<=a/\a<=255)(hb:0<=b/\b<=255)(hc:0<=c/\c<=255):Runs an lib 116 [i3 a b c,.int .i64 t] s (Eh s (il t a b c)):=by
 refine Runs.enter 20 Tryz.func116 rfl L.TZ rfl rfl ?_;intro f hn hf;have h0:f.get 0=i3 a b c:=hf 0;have h1:f.get 1= .int .i64 t:=hf 1;clear hf;simp only[aj,QM,↓ab,hn,h0];refine aA ?_;intro s1 TB aF vR;have TB:az s1 s.next (l3 a b c):=TB;have Ah:[cD .i64 a,.int .i64 b,.int .i64 c].length+1=4:=rfl;have la:aN an s1 141 (.pointer (some ⟨s.next,0,some 4⟩))=some (i3 a b c):=az.bd (P:=an) (cs:=l3 a b c) TY O9 TB (c:=4) rfl;simp only[aj,ad,ae,QM,WP,↓ab,hn,Ah,la,F8,Pa (a:= .func (.func 157) #[i3 a b c] #[]) (b:= .func (.func 158) #[i3 a b c] #[]) (c:= .func (.func 159) #[i3 a b c] #[]) (d:= .func (.func 160) #[i3 a b c] #[]) (x:= .func (.func 161) #[i3 a b c] #[]) eg Y8 aiA rfl ⟨_,rfl⟩ rfl rfl rfl rfl rfl];refine bc rfl ?_;intro v s2 hv hF aR;have dA:aw s.next s s2:=aF.trans (aR.weaken aF.next);obtain⟨k,rfl⟩:∃k:ax,t=k:=⟨t.toNat,by omega⟩
 have hk:k<5:=by omega
 have fk:=hv.aL.indexAddr (P:=an) (k:= .i64) (x:=(k:a0)) eg Y8 (by omega) (by omega);rw[a1] at fk;have eF:=hv.aL.cu (P:=an) aem hk
 match k,hk with
 |0,_=>
  simp only[aj,ak,ad,QM,WP,↓ab,hn,h1,fk,eF];refine(QX L s2 a b c ha hb hc).mono ?_;rintro _ s3 ⟨rfl,iT⟩;simp only[aj,al,oneOf,QM,↓ab,hn,cz];exact⟨rfl,dA.trans (iT.weaken dA.next)⟩
 |1,_=>
  simp only[aj,ak,ad,QM,WP,↓ab,hn,h1,fk,eF];refine(Nl L s2 a b c ha hb hc).mono ?_;rintro _ s3 ⟨rfl,iT⟩;simp only[aj,al,oneOf,QM,↓ab,hn,cz];exact⟨rfl,dA.trans (iT.weaken dA.next)⟩
 |2,_=>
  simp only[aj,ak,ad,QM,WP,↓ab,hn,h1,fk,eF];refine(Nm L s2 a b c ha hb hc).mono ?_;rintro _ s3 ⟨rfl,iT⟩;simp only[aj,al,oneOf,QM,↓ab,hn,cz];exact⟨rfl,dA.trans (iT.weaken dA.next)⟩
 |3,_=>
  simp only[aj,ak,ad,QM,WP,↓ab,hn,h1,fk,eF];refine(QY L s2 a b c ha hb hc).mono ?_;rintro _ s3 ⟨rfl,iT⟩;simp only[aj,al,oneOf,QM,↓ab,hn,cz];exact⟨rfl,dA.trans (iT.weaken dA.next)⟩
 |4,_=>
  simp only[aj,ak,ad,QM,WP,↓ab,hn,h1,fk,eF];refine(IM L s2 a b c ha hb hc).mono ?_;rintro _ s3 ⟨rfl,iT⟩;simp only[aj,al,oneOf,QM,↓ab,hn,cz];exact⟨rfl,dA.trans (iT.weaken dA.next)⟩
def Pb (R:av ao)(k c:ax):a0:=if c<=k then(((R.getD (k-c) 0).toNat:ax):a0) else 0
def T0 (W:av ao)(k:ax):a0:=if 0<W.length then(((W.getD k 0).toNat:ax):a0) else 0
def T3 (W:av ao)(k c:ax):a0:=if 0<W.length/\c<=k then(((W.getD (k-c) 0).toNat:ax):a0) else 0
def aen (s:au)(a b c:a0)(v:a8)(s' :au):Prop:=v=i3 a b c/\aw s.next s s'
theorem Xl {lib:aD}(L:F9 lib)(s:au)(x y:a8)(R W:av ao)(hx:aU s 1 x R.length (ofBytes R))(hy:aU s 1 y W.length (ofBytes W))(hl:R.length<=1000000)(k c:ax)(hk:k<R.length)(hc:1<=c)(hW:W.length=0\/W.length=R.length):
  Runs an lib 115 [x,y,.int .i64 k,.int .i64 c] s (aen s (Pb R k c) (T0 W k) (T3 W k c)):=by
 refine Runs.enter 42 Tryz.func115 rfl L.aaN rfl rfl ?_;intro f hn hf;have h0:f.get 0=x:=hf 0;have h1:f.get 1=y:=hf 1;have h2:f.get 2= .int .i64 k:=hf 2;have h3:f.get 3= .int .i64 c:=hf 3;clear hf;have Ah:[cD .i64 0,.int .i64 0,.int .i64 0].length+1=4:=rfl;simp(disch:=omega)only[aj,↓ab,ael,Y6];refine aA ?_;intro s1 eJ aY gG;simp(disch:=omega)only[aj,QM,↓ab,hn,ael,Y6];refine aA ?_;intro s2 dK aR jD;have eJ:az s2 s.next (l3 0 0 0):=az.keeps eJ aR;have dK:az s2 s1.next (l3 0 0 0):=dK;have dA:aw s.next s s2:=aY.trans (aR.weaken aY.next);have n1:=aY.next;have n2:=aR.next;have Wf:∀z:av ao,∀j,z.getD j 0=z.getD j 0:=fun _ _=>rfl
 have ek:c<=k->((k:a0)-(c:a0))=((k-c:ax):a0):=fun h=>by omega
 simp(disch:=omega)only[aj,QM,WP,↓ab,hn,h2,h3,Ah];generalize hK:oD an lib (Code.seq (Code.seq (Code.region _ _ _) _) _) _=K1;have go:∀f t,f.n=42->f.get 0=x->f.get 1=y->f.get 2= .int .i64 k->f.get 3= .int .i64 c->f.get 8= .pointer (some ⟨s.next,0,some 4⟩)->f.get 9= .pointer (some ⟨s1.next,0,some 4⟩)->az t s.next (l3 0 0 0)->az t s1.next (l3 (Pb R k c) 0 0)->aw s.next s t->K1 .normal f t:=by
  clear hn h0 h1 h2 h3 f;subst hK;intro f t hn h0 h1 h2 h3 h8 h9 hA hB aF;have JE:=hy.keeps aF;simp(disch:=omega)only[aj,ad,QM,↓ab,hn,h1,JE.aQ a3];generalize hK:oD an lib (Code.seq (Code.region _ _ _) Code.ret) _=K2;have go2:∀f t A B C,f.n=42->f.get 8= .pointer (some ⟨s.next,0,some 4⟩)->f.get 9= .pointer (some ⟨s1.next,0,some 4⟩)->az t s.next (l3 0 0 0)->az t s1.next (l3 A B C)->aw s.next s t->A=Pb R k c->B=T0 W k->C=T3 W k c->K2 .normal f t:=by
   clear hn h0 h1 h2 h3 h8 h9 hA hB JE aF t f;subst hK;intro f t A B C hn h8 h9 hA hB aF e1 e2 e3;have la:aN an t 141 (.pointer (some ⟨s1.next,0,some 4⟩))=some (i3 A B C):=az.bd (P:=an) (cs:=l3 A B C) TY O9 hB (c:=4) rfl;simp(disch:=omega)only[aj,QM,WP,↓ab,hn,h8,h9,la];refine aG O9 (by decide) hA rfl rfl rfl rfl ?_;intro t2 Bf vR hot;have Bf:az t2 s.next (l3 A B C):=Bf;have lb:aN an t2 141 (.pointer (some ⟨s.next,0,some 4⟩))=some (i3 A B C):=az.bd (P:=an) (cs:=l3 A B C) TY O9 Bf (c:=4) rfl;simp(disch:=omega)only[aj,al,oneOf,QM,WP,↓ab,hn,h8,lb,a4,Tryz.results115];refine⟨by rw[e1,e2,e3],⟨by have:=aF.next;omega,fun j hj=>by rw[hot j (by omega)];exact aF.get j hj⟩⟩
  by_cases hw:(0:a0)<((W.length:ax):a0);rotate_left
  ·simp(disch:=omega)only[aj,a2 hw];exact go2 _ _ _ _ _ (by simp only[ag,hn]) (by simp only[aa,↓ab,WP,h8]) (by simp only[aa,↓ab,WP,h9]) hA hB aF rfl (by unfold T0;rw[bw (by omega)]) (by unfold T3;rw[bw (by omega)])
  have hkw:k<W.length:=by omega
  have fk:=JE.indexAddr (P:=an) (k:= .i64) (x:=(k:a0)) a3 cO (by omega) (by omega);rw[a1] at fk;have eF:=JE.cu (P:=an) gQ hkw;rw[aW hkw] at eF;have w8:=rE (W.getD k 0);have eA:((((W.getD k 0).toNat:ax):a0))=T0 W k:=by unfold T0;rw[cb (by omega)]
  rw[eA] at eF w8;simp(disch:=omega)only[aj,QM,WP,↓ab,hn,h1,h2,h9,bt hw,fk,eF,a9 cp dc,aB,Ee];refine ba aV hB rfl (by simp) rfl ?_;intro t3 JF Ga QZ;have JF:az t3 s1.next (l3 (Pb R k c) (T0 W k) 0):=JF;have hA3:az t3 s.next (l3 0 0 0):=hA.aK Ga QZ (by omega);have bA:aw s.next s t3:=⟨by have:=aF.next;omega,fun j hj=>by rw[QZ j (by omega)];exact aF.get j hj⟩;by_cases Jy:(c:a0)<=(k:a0);rotate_left
  ·simp(disch:=omega)only[aj,QM,WP,↓ab,hn,h2,h3,a2 Jy];exact go2 _ _ _ _ _ (by simp only[ag,hn]) (by simp only[aa,↓ab,WP,h8]) (by simp only[aa,↓ab,WP,h9]) hA3 JF bA rfl rfl (by unfold T3;rw[bw (by omega)])
  have Np:c<=k:=by omega
  have ec:=ek Np;have hy3:=hy.keeps bA;have fk:=hy3.indexAddr (P:=an) (k:= .i64) (x:=((k-c:ax):a0)) a3 cO (by omega) (by omega);rw[a1] at fk;have hkc:k-c<W.length:=by omega
  have eF:=hy3.cu (P:=an) gQ hkc;rw[aW hkc] at eF;have w8:=rE (W.getD (k-c) 0);have eB:((((W.getD (k-c) 0).toNat:ax):a0))=T3 W k c:=by unfold T3;rw[cb (by omega)]
  rw[eB] at eF w8;simp(disch:=omega)only[aj,QM,WP,↓ab,hn,h1,h2,h3,h9,bt Jy,aB,ec,fk,eF,a9 cp dc,Ef];refine ba aV JF rfl (by simp) rfl ?_;intro t4 Xm uF oo;have Xm:az t4 s1.next (l3 (Pb R k c) (T0 W k) (T3 W k c)):=Xm;exact go2 _ _ _ _ _ (by simp only[ag,hn]) (by simp only[aa,↓ab,WP,h8]) (by simp only[aa,↓ab,WP,h9]) (hA3.aK uF oo (by omega)) Xm ⟨by have:=bA.next;omega,fun j hj=>by rw[oo j (by omega)];exact bA.get j hj⟩ rfl rfl rfl
 by_cases Jy:(c:a0)<=(k:a0);rotate_left
 ·have e0:Pb R k c=0:=by unfold Pb;rw[bw (by omega)]
  have Np:¬c<=k:=by omega
  simp(disch:=omega)only[aj,a2 Np];exact go _ _ (by simp only[ag,hn]) (by simp only[aa,↓ab,WP,h0]) (by simp only[aa,↓ab,WP,h1]) (by simp only[aa,↓ab,WP,h2]) (by simp only[aa,↓ab,WP,h3]) (by simp only[aa,↓ab,WP]) (by simp only[aa,↓ab,WP]) eJ (by rw[e0];exact dK) dA
 have Np:c<=k:=by omega
 have ec:=ek Np;have kA:=hx.keeps dA;have fk:=kA.indexAddr (P:=an) (k:= .i64) (x:=((k-c:ax):a0)) a3 cO (by omega) (by omega);rw[a1] at fk;have hkc:k-c<R.length:=by omega
 have eF:=kA.cu (P:=an) gQ hkc;rw[aW hkc] at eF;have w8:=rE (R.getD (k-c) 0);have eB:((((R.getD (k-c) 0).toNat:ax):a0))=Pb R k c:=by unfold Pb;rw[cb Np]
 rw[eB] at eF w8;simp(disch:=omega)only[aj,QM,WP,↓ab,hn,h0,h2,h3,bt Np,aB,ec,fk,eF,a9 cp dc,F7];refine ba aV dK rfl (by simp) rfl ?_;intro t4 Xm uF oo;have Xm:az t4 s1.next (l3 (Pb R k c) 0 0):=Xm;exact go _ _ (by simp only[ag,hn]) (by simp only[aa,↓ab,WP,h0]) (by simp only[aa,↓ab,WP,h1]) (by simp only[aa,↓ab,WP,h2]) (by simp only[aa,↓ab,WP,h3]) (by simp only[aa,↓ab,WP]) (by simp only[aa,↓ab,WP]) (eJ.aK uF oo (by omega)) Xm ⟨by have:=dA.next;omega,fun j hj=>by rw[oo j (by omega)];exact dA.get j hj⟩
end Go.Proofs.YtdfjfncifneocaaGreat
namespace Go.Cl
theorem KH (P:cm)(t:cU)(k' :c5)(a:a0):dB P .shl t (.int .i64 a) (.int k' 8)=some (.int .i64 (bb.wrap (a*256))):=by
 rw[p9 P t .i64 a 8 k' (by decide)];rfl
theorem Pc {n:ax}{x:ao}(h:n<4503599627370496):bb.wrap (((aC bb.bits ((n:a0)*256)|||aC bb.bits (x.toNat:a0)).toNat:ax):a0)=((n*256+x.toNat:ax):a0):=by
 have e1:bb.bits=64:=rfl;have hx:=x.toNat_lt;rw[e1];have:(aC 64 ((n:a0)*256)|||aC 64 (x.toNat:a0)).toNat=n*256+x.toNat:=by
  have e2:((n:a0)*256)=((n*256:ax):a0):=by omega
  rw[e2,dT,bl,bl,bq,bq,bz (by omega),bz (by omega)];have:=ch (i:=8) (b:=x.toNat) hx n;rw[dg] at this;exact this.symm
 rw[this,aB (by omega)]
def jM (l:av ao):ax:=l.foldl (fun n x=>n*256+x.toNat) 0
theorem xl (l:av ao)(x:ao):jM (l++[x])=jM l*256+x.toNat:=by simp[jM]
theorem Ei (l:av ao):∀n,l.length=n->jM l<256^n:=by
 intro n
 induction n generalizing l with
 |zero=>intro h;have:l=[]:=cL h
        subst this;simp[jM]
 |succ n ih=>
  intro h;have cE:l≠[]:=by intro e;subst e;simp at h
  rw[<-List.dropLast_concat_getLast cE,xl];have:=ih l.dropLast (by rw[List.length_dropLast];omega);have hx:=(l.getLast cE).toNat_lt;rw[dt];omega
theorem Bl {l:av ao}(h:l.length<7):jM l<4503599627370496:=by
 have:=Ei l l.length rfl;have h2:256^l.length<=256^6:=b7 (by omega) (by omega);have h3:(256:ax)^6=281474976710656:=by decide
 omega
end Go.Cl
namespace Go.Cl.Rw
def aiB (y:ao)(x:a0)(k:ax):ao:=y|||b8 ((x%2).toNat*2^k)
def room (p:av ao×ax):av ao:=if p.2%8=0 then p.1++[0] else p.1
def aiC (p:av ao×ax)(x:a0):av ao×ax:=((room p).set (p.2/8) (aiB ((room p).getD (p.2/8) 0) x (p.2%8)),p.2+1)
def aep (p:av ao×ax)(x:a0):ax->av ao×ax
 |0=>p
 |k+1=>aiC (aep p x k) (x.fdiv (2^k))
def Ok (p:av ao×ax):Prop:=p.2<=8*p.1.length/\8*p.1.length<p.2+8
theorem aiD (P:cm)(t:cU)(k' :c5)(x:a0){k:ax}(h:k<64):dB P .shr t (.int .i64 x) (.int k' (k:ax))=some (.int .i64 (x.fdiv (2^k))):=by
 rw[mL P t .i64 _ _ k' (by omega)];have e:min ((k:ax):a0).toNat bb.bits=k:=by
  have:bb.bits=64:=rfl;rw[this,a1];omega
 rw[e]
theorem Xn (n:ax):((n:a0)).tmod 8=((n%8:ax):a0):=by rw[c7 (by omega)];omega
theorem Nq (n:ax):((n:a0)).tdiv 8=((n/8:ax):a0):=by rw[c6 (by omega)];omega
structure fK (j:ax) (v:a8) (s:au) (v' :a8) (s' :au):Prop where
 next:s.next<=s'.next
 get:∀i,i<s.next->i≠j->aI v≠some i->s'.heap.get i=s.heap.get i
 id:aI v' =aI v\/∃i,aI v' =some i/\s.next<=i
theorem fK.refl (j:ax)(v:a8)(s:au):fK j v s v s:=⟨c8 _,fun _ _ _ _=>rfl,.inl rfl⟩
theorem fK.trans {j:ax}{v v' v'' :a8}{s s' Fq:au}(h:fK j v s v' s')(k:fK j v' s' v'' Fq):fK j v s v'' Fq:=by
 refine⟨dv h.next k.next,fun i hi hj hv=> ?_,?_⟩
 ·rw[k.get i (en hi h.next) hj ?_,h.get i hi hj hv];rcases h.id with e|⟨q,e,hq⟩
  ·rw[e];exact hv
  rw[e];intro q2;injection q2 with q2;omega
 rcases k.id with e|⟨q,e,hq⟩
 ·rcases h.id with e2|⟨q,e2,hq⟩
  ·exact .inl (by rw[e,e2])
  exact .inr ⟨q,by rw[e,e2],hq⟩
 exact .inr ⟨q,e,dv h.next hq⟩
theorem fK.stay {j base:ax}{v v' :a8}{s s' :au}(h:fK j v s v' s')(hj:base<=j)(hF:aM base v)(hb:base<=s.next):aw base s s' :=
 ⟨h.next,fun i hi=>h.get i (by omega) (by omega) (fun e=>by have:=hF i e;omega)⟩
theorem fK.turns {j:ax}{v v' :a8}{s s' :au}(h:bG v s s')(fM:aI v' =aI v\/∃i,aI v' =some i/\s.next<=i):fK j v s v' s' :=⟨h.next,fun i hi _ hv=>h.get i hi hv,fM⟩
theorem fK.put {j:ax}{v:a8}{s s' :au}(hn:s'.next=s.next)(h:∀i,i≠j->s'.heap.get i=s.heap.get i):fK j v s v s' :=⟨by omega,fun i _ hj _=>h i hj,.inl rfl⟩
structure aeq (base:ax) (s:au) (j:ax) (v:a8) (p:av ao×ax):Prop where
 fE:az s j [v,.int .i64 p.2]
 own:Own s 1 v p.1.length (ofBytes p.1)
 fresh:aM base v
 ne:aI v≠some j
 lo:base<=j
 ok:Ok p
end Go.Cl.Rw
namespace Go.Proofs.YtdfjfncifneocaaGreat
open Go.Cl Go.Cl.Rw
theorem pD {x:a0}(h0:0<=x)(h:x<18446744073709551616):cM.wrap x=x:=by
 have e1:cM.bits=64:=rfl;have e2:cM.signed=false:=rfl;simp only[ev,e1,e2,Bool.false_and];simp;omega
def JT (base:ax)(j:ax)(v:a8)(s:au)(p:av ao×ax)(s' :au):Prop:=∃v',aeq base s' j v' p/\fK j v s v' s'
def aer (p:av ao×ax)(x w:a0):av ao×ax:=if w<1\/16<w then p else aep p x w.toNat
end Go.Proofs.YtdfjfncifneocaaGreat
namespace Go.Cl.Sto
def zx (n:ax)(last:ax):av ao:=[b8 last,b8 n,b8 (n/256),b8 (255-n%256),b8 (255-n/256%256)]
theorem aaP (P:cm)(t:cU)(k' :c5)(a:a0):dB P .shr t (.int .i64 a) (.int k' 8)=some (.int .i64 (a.fdiv 256)):=by
 rw[mL P t .i64 a 8 k' (by decide)];rfl
theorem b0 (n:ax):b5.wrap (n:a0)=((b8 n).toNat:a0):=by rw[fO,cA];omega
theorem b1 (n:ax):b5.wrap ((n:a0)/256)=((b8 (n/256)).toNat:a0):=by rw[fO,cA];omega
theorem b2 (n:ax):b5.wrap (-(n:a0)-1)=((b8 (255-n%256)).toNat:a0):=by rw[fO,cA];omega
theorem b3 (n:ax):b5.wrap ((-(n:a0)-1)/256)=((b8 (255-n/256%256)).toNat:a0):=by rw[fO,cA];omega
def bit (D:av ao)(k:ax):ax:=(D.getD (k/8) 0).toNat/2^(k%8)%2
def bY (D:av ao)(at_:ax):ax->ax
 |0=>0
 |n+1=>bY D at_ n+bit D (at_+n)*2^n
theorem qC (D:av ao)(k:ax):bit D k<2:=dw _ (by omega)
theorem cY (D:av ao)(a:ax):∀n,bY D a n<2^n
 |0=>by simp[bY]
 |n+1=>by
  have h1:=cY D a n;have h2:=qC D (a+n);have h3:bit D (a+n)=0\/bit D (a+n)=1:=by omega
  simp only[bY,dt];rcases h3 with h|h<;>rw[h]<;>omega
theorem uN (D:av ao)(i k:ax)(h:k<8):bit D (8*i+k)=(D.getD i 0).toNat/2^k%2:=by
 unfold bit;rw[show(8*i+k)/8=i by omega,show(8*i+k)%8=k by omega]
theorem aes (D:av ao)(i:ax):bY D (8*i) 8=(D.getD i 0).toNat:=by
 have hx:=(D.getD i 0).toNat_lt;simp only[bY];rw[uN D i 0 (by omega),uN D i 1 (by omega),uN D i 2 (by omega),uN D i 3 (by omega),uN D i 4 (by omega),uN D i 5 (by omega),uN D i 6 (by omega),uN D i 7 (by omega)];generalize (D.getD i 0).toNat=x at hx;simp only[Nat.reducePow];omega
theorem aet (P:cm)(t:cU)(k' :c5)(c:ao){k:ax}(h:k<8):dB P .shr t (.int .u8 (c.toNat:a0)) (.int k' (k:ax))=some (.int .u8 ((c.toNat/2^k:ax):a0)):=by
 rw[mL P t .u8 _ _ k' (by omega)];have e:min ((k:ax):a0).toNat b5.bits=k:=by
  have:b5.bits=8:=rfl;rw[this,a1];omega
 rw[e,ck _ (by exact ea (by omega))]
 norm_cast
theorem aeu {x:ax}(h:x<256):b5.wrap (((aC b5.bits (x:a0)&&&aC b5.bits 1).toNat:ax):a0)=((x%2:ax):a0):=by
 have e1:b5.bits=8:=rfl;rw[e1];have:(aC 8 (x:a0)&&&aC 8 1).toNat=x%2:=by
  rw[eC,bl,bq,bz (by omega)];show x&&&1=_;exact Nat.and_one_is_mod _
 rw[this,fO];omega
theorem KI (P:cm)(t:cU)(k' :c5){b:ax}(hb:b<2){k:ax}(h:k<32):dB P .shl t (.int .i64 ((b:ax):a0)) (.int k' (k:ax))=some (.int .i64 ((b*2^k:ax):a0)):=by
 rw[p9 P t .i64 _ _ k' (by omega)];have e:min ((k:ax):a0).toNat bb.bits=k:=by
  have:bb.bits=64:=rfl;rw[this,a1];omega
 have hp:2^k<=2^32:=b7 (by omega) (by omega);have TG:(2:ax)^32=4294967296:=by decide
 have e2:((b:ax):a0)*(2:a0)^k=((b*2^k:ax):a0):=by norm_cast
 rw[e,e2];have hx:b=0\/b=1:=by omega
 rw[aB (by rcases hx with rfl|rfl<;>(generalize 2^k=q at hp;omega))]
theorem orI {v b k:ax}(hv:v<2^k)(hb:b<2)(hk:k<32):bb.wrap (((aC bb.bits (v:a0)|||aC bb.bits ((b*2^k:ax):a0)).toNat:ax):a0)=((v+b*2^k:ax):a0):=by
 have e1:bb.bits=64:=rfl;have hp:2^k<=2^32:=b7 (by omega) (by omega);have TG:(2:ax)^32=4294967296:=by decide
 have hx:b=0\/b=1:=by omega
 have hbk:b*2^k<=4294967296:=by rcases hx with rfl|rfl<;>(generalize 2^k=q at*;omega)
 rw[e1];have:(aC 64 (v:a0)|||aC 64 ((b*2^k:ax):a0)).toNat=v+b*2^k:=by
  rw[dT,bl,bl,bq,bq,bz (by omega),bz (by omega)];have:=ch (i:=k) (b:=v) hv b;rw[dg] at this;rw[Nat.or_comm,<-this,Nat.add_comm]
 rw[this,aB (by omega)]
theorem Y9 {m:ax}(h:m<65536):bb.wrap (((aC bb.bits (m:a0)^^^aC bb.bits 65535).toNat:ax):a0)=((65535-m:ax):a0):=by
 have e1:bb.bits=64:=rfl;rw[e1];have:(aC 64 (m:a0)^^^aC 64 65535).toNat=65535-m:=by
  have e2:(aC 64 65535)=BitVec.ofNat 64 65535:=rfl;rw[e2,BitVec.toNat_xor,bl,bq,bq,bz (by omega),bz (by omega)];apply Nat.eq_of_testBit_eq;intro i;have h16:(65535:ax)=2^16-1:=by decide
  have M7:65535-m=2^16-(m+1):=by
   have:(2:ax)^16=65536:=by decide
   omega
  rw[M7,Nat.testBit_two_pow_sub_succ (by show m<2^16;exact h),Nat.testBit_xor,h16,Nat.testBit_two_pow_sub_one];by_cases hi:i<16
  ·simp[hi]
  have:m.testBit i=false:=Nat.testBit_lt_two_pow (en h (by show 2^16<=2^i;exact b7 (by omega) (by omega)));simp[hi,this]
 rw[this,aB (by omega)]
end Go.Cl.Sto
namespace Go.Cl.Fx
open Go.Cl.Rw Go.Cl.Sto
def Ej (s:ax):ax×ax:=if s<144 then(48+s,8) else if s<256 then(256+s,9) else if s<280 then(s-256,7) else(s-88,8)
theorem T4 (s:ax):7<=(Ej s).2/\(Ej s).2<=9:=by
 unfold Ej;split
 ·simp
 split
 ·simp
 split<;>simp
def comm (l:av ao)(a d:ax):ax->ax->ax
 |n,0=>n
 |n,f+1=>if a+n<l.length/\l.getD (a+n-d) 0=l.getD (a+n) 0 then comm l a d (n+1) f else n
def com (l:av ao)(a d:ax):ax:=comm l a d 0 258
def T5 (l:av ao)(a:ax):ax->ax×ax
 |0=>(0,0)
 |k+1=>if(T5 l a k).1<com l a (k+1) then(com l a (k+1),k+1) else T5 l a k
def Y7 (a:ax):ax:=min a 64
theorem T6 (n k:ax):(n:a0).fdiv (2^k)=((n/2^k:ax):a0):=by
 rw[ck _ (by exact ea (by omega))]
 norm_cast
theorem aew (P:cm)(t:cU)(k' :c5)(n:ax){k:ax}(h:k<64):dB P .shr t (.int .i64 (n:a0)) (.int k' (k:ax))=some (.int .i64 ((n/2^k:ax):a0)):=by
 rw[aiD P t k' (n:a0) h,T6]
end Go.Cl.Fx
namespace Go.Proofs.YtdfjfncifneocaaGreat
open Go.Cl Go.Cl.Rw Go.Cl.Sto Go.Cl.Fx
theorem KJ (a b c:a8):aH (.tuple #[a,b,c]) 0=some a:=rfl
theorem KK (a b c:a8):aH (.tuple #[a,b,c]) 1=some b:=rfl
theorem KL (a b c:a8):aH (.tuple #[a,b,c]) 2=some c:=rfl
end Go.Proofs.YtdfjfncifneocaaGreat
namespace Go.Cl.Fx
open Go.Cl.Rw Go.Cl.Sto
def bm (L:av ax):av a8:=L.map fun n:ax=> .int .i64 (n:a0)
theorem fm {L:av ax}{i:ax}(h:i<L.length):(bm L).getD i undef= .int .i64 ((L.getD i 0:ax):a0):=by
 simp[bm,bk,List.getElem?_map,cg h]
theorem rF (L:av ax)(i n:ax):(bm L).set i (.int .i64 (n:a0))=bm (L.set i n):=by simp[bm,List.map_set]
theorem rG (n:ax):b4 n (cD .i64 0)=bm (b4 n 0):=by simp[bm]
def IP:av ax:=(dP 288).map fun s=>(Ej s).2
def aaQ:av ax:=b4 32 5
theorem qd:IP.length=288:=by simp[IP]
def tx (c:av ax)(l:ax):ax->ax->av ax->ax->av ax×ax
 |0,_,o,n=>(o,n)
 |f+1,i,o,n=>if c.getD i 0=l then tx c l f (i+1) (o.set i n) (n+1) else tx c l f (i+1) o n
def KM (c:av ax):ax->ax->av ax->ax->av ax
 |0,_,o,_=>o
 |f+1,l,o,n=>KM c f (l+1) (tx c l c.length 0 o (2*n)).1 (tx c l c.length 0 o (2*n)).2
def fQ (c:av ax):av ax:=KM c 15 1 (b4 c.length 0) 0
theorem Ek (c:av ax)(l:ax):∀(f i:ax) (o:av ax) (n:ax),(tx c l f i o n).2<=n+f
 |0,i,o,n=>c8 _
 |f+1,i,o,n=>by
  unfold tx;split
  ·have:=Ek c l f (i+1) (o.set i n) (n+1);omega
  have:=Ek c l f (i+1) o n;omega
theorem uO (c:av ax)(l:ax):∀(f i:ax) (o:av ax) (n:ax),(tx c l f i o n).1.length=o.length
 |0,i,o,n=>rfl
 |f+1,i,o,n=>by
  unfold tx;split
  ·rw[uO c l f];simp
  rw[uO c l f]
end Go.Cl.Fx
namespace Go.Proofs.YtdfjfncifneocaaGreat
open Go.Cl Go.Cl.Rw Go.Cl.Sto Go.Cl.Fx
theorem xm:bU an 3=some false:=by kernel_rfl
theorem sy:dX an 3=some 8:=by kernel_rfl
theorem qf:b6 an 3=some (.int .i64 0):=by kernel_rfl
theorem dS:an.underlying 134=some (.slice 3):=Tryz.underlying134
theorem dE:an.underlying 195=some (.slice 3):=Tryz.underlying195
theorem Aj {lib:aD}(hl:lib.at 180=none)(s:au)(x:a8)(c:av ax)(hx:aU s 1 x c.length (bm c))(hlen:c.length<=300):
  Runs an lib 180 [x] s fun v s' =>Own s' 1 v c.length (bm (fQ c))/\(fQ c).length=c.length/\aM s.next v/\aw s.next s s' :=by
 refine Runs.enter 35 Tryz.func180 rfl hl rfl rfl ?_;intro f hn hf;have h0:f.get 0=x:=hf 0;clear hf;simp(disch:=omega)only[aj,ad,QM,WP,↓ab,hn,h0,hx.aQ dE,rm dS aV qf sy];refine bc (by rw[cB,eM]) ?_;intro y s1 hy ko aY;rw[rG] at hy;have gZ:=aY.next;simp(disch:=omega)only[aj,QM,↓ab,hn];refine Comes.bD (fun z f t=>∃(k:ax) (o:av ax) (n:ax),z=15-k/\k<=15/\o.length=c.length/\fQ c=KM c (15-k) (k+1) o n/\n+300<=300*2^k/\Own t 1 y c.length (bm o)/\aw s.next s t/\f.n=35/\f.get 0=x/\f.get 3=y/\f.get 4= .int .i64 (n:ax)/\f.get 5= .int .i64 ((k:a0)+1))
  (fun z f t=>z= .exit 0/\Own t 1 y c.length (bm (fQ c))/\(fQ c).length=c.length/\aw s.next s t/\f.n=35/\f.get 3=y)
  ⟨0,_,0,rfl,by omega,by simp,rfl,by simp,hy,aY,by simp only[ag,hn],by simp only[aa,↓ab,WP,h0],by simp only[aa,↓ab,WP],by simp only[aa,↓ab,WP];rfl,by simp only[aa,↓ab];rfl⟩ ?_ ?_
 ·clear hn h0 f hy aY gZ;rintro Q hQ z f t ⟨k,o,n,rfl,hk,ho,hc,hb,hy,aF,hn,h0,h3,h4,h5⟩;by_cases a7:k<15;rotate_left
  ·obtain rfl:k=15:=by omega
   have d1:¬((15:ax):a0)+1<=15:=by omega
   have e:fQ c=o:=hc;simp(disch:=omega)only[aj,QM,↓ab,hn,h5,a2 d1];exact hQ _ _ _ ⟨rfl,by rw[e];exact hy,by rw[e];exact ho,aF,by simp only[aa,ag,↓ab,WP,hn,h3,cT]⟩
  have d1:(k:a0)+1<=15:=by omega
  have hp:2^k<=2^15:=b7 (by omega) (by omega);have TG:(2:ax)^15=32768:=by decide
  have hps:2^(k+1)=2*2^k:=by rw[dt,eV]
  have oG:dB an .shl 3 (.int .i64 (n:ax)) (.int .u64 1)=some (.int .i64 ((2*n:ax):a0)):=by
   rw[p9 _ _ .i64 _ _ .u64 (by omega)];have e:min (1:a0).toNat bb.bits=1:=by decide
   rw[e,aB (by omega)]
   congr 2;omega
  rw[show 15-k=(15-(k+1))+1 by omega,KM] at hc;have hrs:=Ek c (k+1) c.length 0 o (2*n);have xM:=uO c (k+1) c.length 0 o (2*n);simp(disch:=omega)only[aj,QM,WP,↓ab,hn,h4,h5,bt d1,oG];refine Comes.bD (fun z f t' =>∃(i:ax) (o1:av ax) (n1:ax),z=c.length-i/\i<=c.length/\o1.length=c.length/\tx c (k+1) c.length 0 o (2*n)=tx c (k+1) (c.length-i) i o1 n1/\n1<=2*n+i/\Own t' 1 y c.length (bm o1)/\aw s.next s t' /\f.n=35/\f.get 0=x/\f.get 3=y/\f.get 4= .int .i64 (n1:ax)/\f.get 5= .int .i64 ((k:a0)+1)/\f.get 6= .int .i64 (i:ax))
   (fun z f t' =>z= .exit 2/\Own t' 1 y c.length (bm (tx c (k+1) c.length 0 o (2*n)).1)/\aw s.next s t' /\f.n=35/\f.get 0=x/\f.get 3=y/\f.get 4= .int .i64 ((tx c (k+1) c.length 0 o (2*n)).2:ax)/\f.get 5= .int .i64 ((k:a0)+1))
   ⟨0,o,2*n,rfl,by omega,ho,rfl,by omega,hy,aF,by simp only[aa,ag,↓ab,WP,hn,h0,h3,h5,dk];rfl⟩ ?_ ?_
  ·clear hn h0 h3 h4 h5 f;rintro Q2 El z f t' ⟨i,o1,n1,rfl,hi,zt,hr,fp,Gx,aY,hn,h0,h3,h4,h5,h6⟩;have kU:=hx.keeps aY;by_cases uP:i<c.length;rotate_left
   ·obtain rfl:i=c.length:=by omega
    have d2:¬((c.length:ax):a0)<((c.length:ax):a0):=by omega
    rw[eu,tx] at hr;simp(disch:=omega)only[aj,ad,QM,WP,↓ab,hn,h0,h6,kU.aQ dE,a2 d2];exact El _ _ _ ⟨rfl,by rw[hr];exact Gx,aY,by simp only[ag,hn],by simp only[aa,↓ab,WP,h0],by simp only[aa,↓ab,WP,h3],by simp only[aa,↓ab,WP,h4];rw[hr],by simp only[aa,↓ab,WP,h5]⟩
   have d2:(i:a0)<(c.length:a0):=by omega
   have jK:=kU.indexAddr (P:=an) (k:= .i64) (x:=(i:a0)) dE aV (by omega) (by omega);rw[a1] at jK;have k1:=kU.cu (P:=an) xm uP;rw[fm uP] at k1;rw[show c.length-i=(c.length-(i+1))+1 by omega,tx] at hr;by_cases he:c.getD i 0=k+1
   ·have d3:((c.getD i 0:ax):a0)=(k:a0)+1:=by omega
    rw[cb he] at hr;have hj1:=Gx.aL.indexAddr (P:=an) (k:= .i64) (x:=(i:a0)) dS aV (by omega) (by omega);rw[a1] at hj1;simp(disch:=omega)only[aj,ad,QM,WP,↓ab,hn,h0,h3,h4,h5,h6,kU.aQ dE,bt d2,jK,k1,bt d3,hj1];refine cI aV Gx uP rfl ?_;intro t2 nh dK;rw[rF] at nh;simp(disch:=omega)only[aj,QM,WP,↓ab,hn,h4,h6,aB];exact ar (c.length-(i+1)) (by omega) ⟨i+1,_,n1+1,rfl,by omega,by simpa using zt,hr,by omega,nh,aY.trans (dK.keeps ko (dv (c8 _) aY.next)),by simp only[ag,hn],by simp only[aa,↓ab,WP,h0],by simp only[aa,↓ab,WP,h3],by simp only[aa,↓ab,WP];rfl,by simp only[aa,↓ab,WP,h5,dk];rfl⟩
   have d3:¬((c.getD i 0:ax):a0)=(k:a0)+1:=by omega
   rw[bw he] at hr;simp(disch:=omega)only[aj,ad,QM,WP,↓ab,hn,h0,h5,h6,kU.aQ dE,bt d2,jK,k1,a2 d3,aB];exact ar (c.length-(i+1)) (by omega) ⟨i+1,o1,n1,rfl,by omega,zt,hr,by omega,Gx,aY,by simp only[aa,ag,↓ab,WP,hn,h0,h3,h4,h5,dk];rfl⟩
  clear hn h0 h3 h4 h5 f;rintro z f t' ⟨rfl,Gx,aY,hn,h0,h3,h4,h5⟩;simp(disch:=omega)only[aj,QM,↓ab,hn,h5,aB];exact ar (15-(k+1)) (by omega) ⟨k+1,_,_,rfl,by omega,by rw[xM];exact ho,hc,by rw[hps];omega,Gx,aY,by simp only[aa,ag,↓ab,WP,hn,h0,h3,h4,dk];rfl⟩
 clear hn h0 f;rintro z f t ⟨rfl,Gx,iz,aR,hn,h3⟩;simp(disch:=omega)only[aj,al,oneOf,QM,↓ab,hn,h3,Tryz.results180];exact⟨Gx,iz,ko,aR⟩
end Go.Proofs.YtdfjfncifneocaaGreat
namespace Go.Cl.Fx
open Go.Cl.Rw Go.Cl.Sto
def Wg (i:ax):av ax:=(dP 288).map fun s=>if s<i then(Ej s).2 else 0
theorem Xo:Wg 288=IP:=by
 unfold Wg IP;refine List.map_congr_left (fun s hs=> ?_);rw[cb (List.mem_range.1 hs)]
theorem Xp (g:ax->ax)(n:ax):b4 n 0=(dP n).map fun s=>if s<0 then g s else 0:=by
 refine ds (by simp) (fun i h1 h2=>by simp)
theorem T7:b4 288 0=Wg 0:=Xp (fun s=>(Ej s).2) 288
theorem Xq {i:ax}(h:i<288):(Wg i).set i (Ej i).2=Wg (i+1):=by
 unfold Wg;refine ds (by simp) (fun j h1 h2=> ?_);rw[eD];simp only[eG,eo];by_cases c:i=j
 ·subst c;simp
 rw[bw c];by_cases c2:j<i
 ·rw[cb c2,cb (by omega)]
 rw[bw c2,bw (by omega)]
def T8 (i:ax):av ax:=(dP 32).map fun s=>if s<i then 5 else 0
theorem Xr:T8 32=aaQ:=by decide
theorem T9:b4 32 0=T8 0:=by decide
theorem Xs {i:ax}(h:i<32):(T8 i).set i 5=T8 (i+1):=by
 unfold T8;refine ds (by simp) (fun j h1 h2=> ?_);rw[eD];simp only[eG,eo];by_cases c:i=j
 ·subst c;simp
 rw[bw c];by_cases c2:j<i
 ·rw[cb c2,cb (by omega)]
 rw[bw c2,bw (by omega)]
end Go.Cl.Fx
namespace Go.Proofs.YtdfjfncifneocaaGreat
open Go.Cl Go.Cl.Rw Go.Cl.Sto Go.Cl.Fx
def Xt (s:au)(v:a8)(s' :au):Prop:=∃a b,v= .tuple #[a,b]/\Own s' 1 a 288 (bm IP)/\Own s' 1 b 32 (bm aaQ)/\aM s.next a/\aM s.next b/\aw s.next s s'
theorem Nr {lib:aD}(hl:lib.at 164=none)(s:au):Runs an lib 164 [] s (Xt s):=by
 refine Runs.enter 42 Tryz.func164 rfl hl rfl rfl ?_;intro f hn hf;clear hf;simp only[aj,QM,↓ab,hn];obtain⟨B,hB⟩:∃B:ax->eX,B=fun j=>decide (j<s.next):=⟨_,rfl⟩
 have Em:∀j,B j=true->j<s.next:=by
  intro j h;rw[hB] at h;exact er h
 refine LB.cN.dx B Em 0 2 (by kernel_rfl) (by kernel_rfl) ?_;have js:=aw.spare s 2;have Fo:(spare s 2).next=s.next+2:=bu _ _;have mk1:∀t:au,dq an t 195 (.int .i64 288) (.int .i64 288)=a6 t (b4 288 (.int .i64 0)) 288 1:=fun t=>rm (n:=288) dE aV qf sy (by decide) (by decide)
 have mk2:∀t:au,dq an t 195 (.int .i64 32) (.int .i64 32)=a6 t (b4 32 (.int .i64 0)) 32 1:=fun t=>rm (n:=32) dE aV qf sy (by decide) (by decide)
 simp only[aj,bn,↓ab,mk1];refine LB.bR (base:=s.next) (by rw[cB,eM]) (by omega) (c8 _) ?_;intro a s1 ha hia aY gG aiG;simp only[aj,bn,QM,↓ab,hn,mk2];refine LB.bR (base:=s.next) (by rw[cB,eM]) (by omega) (by omega) ?_;intro b s2 hb So aR jD Xf;have dA:aw s.next s s2:=⟨by omega,fun i hi=>by rw[Xf i (by omega),aiG i (by omega),js.get i hi]⟩;have Fm:∀i,aI a=some i->aI b≠some i:=fun i h1 h2=>by
  rw[hia] at h1;rw[So] at h2
  injection h1 with h1;injection h2 with h2;omega
 have hba:∀i,aI b=some i->aI a≠some i:=fun i h1 h2=>Fm i h2 h1
 have haF:aM s.next a:=fun i h=>by rw[hia] at h;injection h with h;omega
 have M4:aM s.next b:=fun i h=>by rw[So] at h;injection h with h;omega
 have wN:Own s2 1 a 288 (bm (Wg 0)):=by
  rw[<-T7,<-rG];exact ha.aK jD Xf (fun e=>by rw[hia] at e;injection e with e;omega)
 have dr:Own s2 1 b 32 (bm (T8 0)):=by rw[<-T9,<-rG];exact hb
 clear ha hb;simp only[aj,bg,bn,QM,WP,↓ab,aj,QM,WP,↓ab,hn,wN.self,dr.self];refine Comes.bD (fun z f t=>∃i:ax,z=288-i/\i<=288/\Own t 1 a 288 (bm (Wg i))/\Own t 1 b 32 (bm (T8 0))/\aw s.next s t/\f.n=42/\f.get 2=a/\f.get 3=b/\f.get 4= .int .i64 (i:ax))
  (fun z f t=>z= .exit 0/\Own t 1 a 288 (bm IP)/\Own t 1 b 32 (bm (T8 0))/\aw s.next s t/\f.n=42/\f.get 2=a/\f.get 3=b)
  ⟨0,rfl,by omega,wN,dr,dA,by simp only[aa,ag,↓ab,WP,hn,dk];rfl⟩ ?_ ?_
 ·clear hn f wN dr;rintro Q hQ z f t ⟨i,rfl,hi,wN,dr,aF,hn,h2,h3,h4⟩;by_cases a7:i<288;rotate_left
  ·obtain rfl:i=288:=by omega
   have d1:¬((288:ax):a0)<288:=by omega
   rw[Xo] at wN;simp only[aj,QM,↓ab,hn,h4,a2 d1];exact hQ _ _ _ ⟨rfl,wN,dr,aF,by simp only[aa,ag,↓ab,WP,hn,h2,h3,cT]⟩
  have d1:(i:a0)<288:=by omega
  have fk:=wN.aL.indexAddr (P:=an) (k:= .i64) (x:=(i:a0)) dE aV (by omega) (by omega);rw[a1] at fk;have F5:=Xq a7;have key:∀(f' :aZ) (w:ax),(Ej i).2=w->f'.n=42->f'.get 2=a->f'.get 3=b->f'.get 4= .int .i64 (i:ax)->∀t2,Own t2 1 a 288 ((bm (Wg i)).set i (.int .i64 ((w:ax):a0)))->bG a t t2->Own t2 1 a 288 (bm (Wg (i+1)))/\Own t2 1 b 32 (bm (T8 0))/\aw s.next s t2:=by
   intro f' w hw _ _ _ _ t2 h1 h2;rw[rF,<-hw,F5] at h1;exact⟨h1,dr.turns h2 (fun j hj=>hba j hj),aF.trans (h2.keeps haF aF.next)⟩
  unfold Ej at key;by_cases c1:i<144
  ·have d2:(i:a0)<=143:=by omega
   rw[cb c1] at key;simp only[aj,QM,WP,↓ab,hn,h2,h4,bt d1,bt d2,fk];refine cI aV wN a7 rfl ?_;intro t2 nh dK;obtain⟨k1,k2,k3⟩:=key f 8 rfl hn h2 h3 h4 t2 nh dK;simp(disch:=omega)only[aj,QM,WP,↓ab,hn,h4,aB];exact ar (288-(i+1)) (by omega) ⟨i+1,rfl,by omega,k1,k2,k3,by simp only[ag,hn],by simp only[aa,↓ab,WP,h2],by simp only[aa,↓ab,WP,h3],by simp only[aa,↓ab];rfl⟩
  have d2:¬(i:a0)<=143:=by omega
  rw[bw c1] at key;by_cases c2:i<256
  ·have d3:(i:a0)<=255:=by omega
   rw[cb c2] at key;simp only[aj,QM,WP,↓ab,hn,h2,h4,bt d1,a2 d2,bt d3,fk];refine cI aV wN a7 rfl ?_;intro t2 nh dK;obtain⟨k1,k2,k3⟩:=key f 9 rfl hn h2 h3 h4 t2 nh dK;simp(disch:=omega)only[aj,QM,WP,↓ab,hn,h4,aB];exact ar (288-(i+1)) (by omega) ⟨i+1,rfl,by omega,k1,k2,k3,by simp only[ag,hn],by simp only[aa,↓ab,WP,h2],by simp only[aa,↓ab,WP,h3],by simp only[aa,↓ab];rfl⟩
  have d3:¬(i:a0)<=255:=by omega
  rw[bw c2] at key;by_cases c3:i<280
  ·have d4:(i:a0)<=279:=by omega
   rw[cb c3] at key;simp only[aj,QM,WP,↓ab,hn,h2,h4,bt d1,a2 d2,a2 d3,bt d4,fk];refine cI aV wN a7 rfl ?_;intro t2 nh dK;obtain⟨k1,k2,k3⟩:=key f 7 rfl hn h2 h3 h4 t2 nh dK;simp(disch:=omega)only[aj,QM,WP,↓ab,hn,h4,aB];exact ar (288-(i+1)) (by omega) ⟨i+1,rfl,by omega,k1,k2,k3,by simp only[ag,hn],by simp only[aa,↓ab,WP,h2],by simp only[aa,↓ab,WP,h3],by simp only[aa,↓ab];rfl⟩
  have d4:¬(i:a0)<=279:=by omega
  rw[bw c3] at key;simp only[aj,QM,WP,↓ab,hn,h2,h4,bt d1,a2 d2,a2 d3,a2 d4,fk];refine cI aV wN a7 rfl ?_;intro t2 nh dK;obtain⟨k1,k2,k3⟩:=key f 8 rfl hn h2 h3 h4 t2 nh dK;simp(disch:=omega)only[aj,QM,WP,↓ab,hn,h4,aB];exact ar (288-(i+1)) (by omega) ⟨i+1,rfl,by omega,k1,k2,k3,by simp only[ag,hn],by simp only[aa,↓ab,WP,h2],by simp only[aa,↓ab,WP,h3],by simp only[aa,↓ab];rfl⟩
 clear hn f wN dr;rintro z f t ⟨rfl,wN,dr,aF,hn,h2,h3⟩;simp only[aj,QM,↓ab,hn];refine Comes.bD (fun z f t=>∃i:ax,z=32-i/\i<=32/\Own t 1 a 288 (bm IP)/\Own t 1 b 32 (bm (T8 i))/\aw s.next s t/\f.n=42/\f.get 2=a/\f.get 3=b/\f.get 5= .int .i64 (i:ax))
  (fun z f t=>z= .exit 3/\Own t 1 a 288 (bm IP)/\Own t 1 b 32 (bm aaQ)/\aw s.next s t/\f.n=42/\f.get 2=a/\f.get 3=b)
  ⟨0,rfl,by omega,wN,dr,aF,by simp only[aa,ag,↓ab,WP,hn,h2,h3,dk];rfl⟩ ?_ ?_
 ·clear hn h2 h3 f wN dr aF;rintro Q hQ z f t ⟨i,rfl,hi,wN,dr,aF,hn,h2,h3,h5⟩;by_cases a7:i<32;rotate_left
  ·obtain rfl:i=32:=by omega
   have d1:¬((32:ax):a0)<32:=by omega
   rw[Xr] at dr;simp only[aj,QM,↓ab,hn,h5,a2 d1];exact hQ _ _ _ ⟨rfl,wN,dr,aF,by simp only[aa,ag,↓ab,WP,hn,h2,h3,cT]⟩
  have d1:(i:a0)<32:=by omega
  have fk:=dr.aL.indexAddr (P:=an) (k:= .i64) (x:=(i:a0)) dE aV (by omega) (by omega);rw[a1] at fk;simp only[aj,QM,WP,↓ab,hn,h3,h5,bt d1,fk];refine cI aV dr a7 rfl ?_;intro t2 nh dK;have nh:Own t2 1 b 32 ((bm (T8 i)).set i (.int .i64 ((5:ax):a0))):=nh;rw[rF,Xs a7] at nh;simp(disch:=omega)only[aj,QM,WP,↓ab,hn,h5,aB];exact ar (32-(i+1)) (by omega) ⟨i+1,rfl,by omega,wN.turns dK (fun j hj=>Fm j hj),nh,aF.trans (dK.keeps M4 aF.next),by simp only[ag,hn],by simp only[aa,↓ab,WP,h2],by simp only[aa,↓ab,WP,h3],by simp only[aa,↓ab];rfl⟩
 clear hn h2 h3 f wN dr aF;rintro z f t ⟨rfl,wN,dr,aF,hn,h2,h3⟩;simp only[aj,al,oneOf,QM,WP,↓ab,hn,h2,h3,Tryz.results164];exact⟨a,b,rfl,wN,dr,haF,M4,aF⟩
end Go.Proofs.YtdfjfncifneocaaGreat
namespace Go.Cl.Fx
open Go.Cl.Rw Go.Cl.Sto
theorem Ua (P:cm)(t:cU)(k' :c5){x k:ax}(hk:k<=16)(hx:x*2^k<=1000000):dB P .shl t (.int .i64 ((x:ax):a0)) (.int k' (k:ax))=some (.int .i64 ((x*2^k:ax):a0)):=by
 rw[p9 P t .i64 _ _ k' (by omega)];have e:min ((k:ax):a0).toNat bb.bits=k:=by
  have:bb.bits=64:=rfl;rw[this,a1];omega
 have e2:((x:ax):a0)*(2:a0)^k=((x*2^k:ax):a0):=by norm_cast
 rw[e,e2,aB (by omega)]
theorem Cq {k m:ax}(h:k<=m):2^k<=2^m:=b7 (by omega) h
end Go.Cl.Fx
namespace Go.Proofs.YtdfjfncifneocaaGreat
open Go.Cl Go.Cl.Rw Go.Cl.Sto Go.Cl.Fx
theorem Ns (a b:a8):aH (.tuple #[a,b]) 0=some a:=rfl
theorem Nt (a b:a8):aH (.tuple #[a,b]) 1=some b:=rfl
end Go.Proofs.YtdfjfncifneocaaGreat
namespace Go.Cl
def Xu (q:ax×ax)(c:ao):ax×ax:=((q.1+c.toNat)%65521,(q.2+(q.1+c.toNat)%65521)%65521)
def oP (l:av ao):ax×ax:=l.foldl Xu (1,0)
def KN (l:av ao):ax:=(oP l).2*65536+(oP l).1
theorem yV (l:av ao):(oP l).1<65521/\(oP l).2<65521:=by
 have key:∀(l:av ao) (q:ax×ax),q.1<65521/\q.2<65521->(l.foldl Xu q).1<65521/\(l.foldl Xu q).2<65521:=by
  intro l
  induction l with
  |nil=>intro q h;exact h
  |cons c l ih=>intro q h;exact ih _ ⟨dw _ (by omega),dw _ (by omega)⟩
 exact key l _ (by decide)
theorem Nu (l:av ao):KN l<4294967296:=by
 have:=yV l;unfold KN;omega
theorem Hs {l:av ao}{i:ax}(h:i<l.length):oP (l.take (i+1))=Xu (oP (l.take i)) (l.getD i 0):=by
 unfold oP;rw[List.take_add_one,cg h,List.foldl_append,bk,cg h];rfl
theorem nY {x:a0}(h0:0<=x)(h:x<4294967296):ca.wrap x=x:=by
 have e1:ca.bits=32:=rfl;have e2:ca.signed=false:=rfl;simp only[ev,e1,e2,Bool.false_and];simp;omega
theorem orU {y x:ax}(hy:y<65536)(hx:x<65536):ca.wrap (((aC ca.bits ((y*65536:ax):a0)|||aC ca.bits (x:a0)).toNat:ax):a0)=((y*65536+x:ax):a0):=by
 have e1:ca.bits=32:=rfl;rw[e1];have:(aC 32 ((y*65536:ax):a0)|||aC 32 (x:a0)).toNat=y*65536+x:=by
  rw[dT,bl,bl,bq,bq,bz (by omega),bz (by omega)];have:=ch (i:=16) (b:=x) (by omega) y;rw[dg] at this;exact this.symm
 rw[this,nY (by omega) (by omega)]
theorem aiI (P:cm)(t:cU)(k' :c5){y:ax}(hy:y<65536):dB P .shl t (.int .u32 (y:a0)) (.int k' 16)=some (.int .u32 ((y*65536:ax):a0)):=by
 rw[p9 P t .u32 _ _ k' (by omega)];have e:min (16:a0).toNat ca.bits=16:=by decide
 rw[e];have e2:(y:a0)*(2:a0)^16=((y*65536:ax):a0):=by omega
 rw[e2,nY (by omega) (by omega)]
end Go.Cl
namespace Go.Proofs.YtdfjfncifneocaaGreat
open Go.Cl
theorem Ub (n:ax):((n:a0)).tmod 65521=((n%65521:ax):a0):=by rw[c7 (by omega)];omega
theorem aex:ca.wrap (((aC ca.bits 1&&&aC ca.bits 65535).toNat:ax):a0)=1:=by decide
theorem Uc {lib:aD}(hl:lib.at 151=none)(s:au)(x:a8)(l:av ao)(hx:aU s 1 x l.length (ofBytes l))(hlen:l.length<=1000000000):
  Runs an lib 151 [.int .u32 1,x] s fun v s' =>v= .int .u32 (KN l:ax)/\s' =s:=by
 refine Runs.enter 35 Tryz.func151 rfl hl rfl rfl ?_;intro f hn hf;have h0:f.get 0= .int .u32 1:=hf 0;have h1:f.get 1=x:=hf 1;clear hf;have m1:(1:a0).tmod 65521=1:=by decide
 have m0:(0:a0).tmod 65521=0:=by decide
 have s0:dB an .shr 117 (.int .u32 1) (.int .u64 16)=some (.int .u32 0):=by
  rw[mL _ _ .u32 _ _ .u64 (by omega)];rfl
 simp(disch:=omega)only[aj,ad,QM,WP,↓ab,hn,h0,h1,fY,aex,dZ,m1,m0,s0,hx.aQ a3];refine Comes.bD (fun z f t=>∃i:ax,z=l.length-i/\i<=l.length/\t=s/\f.n=35/\f.get 5= .int .u32 ((oP (l.take i)).1:ax)/\f.get 6= .int .u32 ((oP (l.take i)).2:ax)/\f.get 15=x/\f.get 16= .int .i64 (l.length:ax)/\f.get 17= .int .i64 (i:ax))
  (fun z f t=>z= .exit 0/\t=s/\f.n=35/\f.get 5= .int .u32 ((oP l).1:ax)/\f.get 6= .int .u32 ((oP l).2:ax))
  ⟨0,rfl,by omega,rfl,by simp only[ag,hn],by simp only[aa,↓ab,WP];rfl,by simp only[aa,↓ab,WP];rfl,by simp only[aa,↓ab,WP],by simp only[aa,↓ab,WP],by simp only[aa,↓ab];rfl⟩ ?_ ?_
 ·clear hn h0 h1 f;rintro Q hQ z f t ⟨i,rfl,hi,rfl,hn,h5,h6,Bm,h16,M7⟩;by_cases a7:i<l.length;rotate_left
  ·obtain rfl:i=l.length:=by omega
   have d1:¬((l.length:ax):a0)<((l.length:ax):a0):=by omega
   rw[eI] at h5 h6;simp only[aj,QM,↓ab,hn,h16,M7,a2 d1];exact hQ _ _ _ ⟨rfl,rfl,by simp only[aa,ag,↓ab,WP,hn,h5,h6,cT]⟩
  have d1:(i:a0)<(l.length:a0):=by omega
  have jK:=hx.indexAddr (P:=an) (k:= .i64) (x:=(i:a0)) a3 cO (by omega) (by omega);rw[a1] at jK;have k1:=hx.cu (P:=an) gQ a7;rw[aW a7] at k1;have hc:=(l.getD i 0).toNat_lt;have hq:=yV (l.take i);have ht:=Hs a7;generalize oP (l.take i)=q at h5 h6 hq ht;obtain⟨q1,q2⟩:=q;simp only at h5 h6 hq;have e1:(q1:a0)+((l.getD i 0).toNat:a0)=((q1+(l.getD i 0).toNat:ax):a0):=by omega
  have e2:(q2:a0)+((((q1+(l.getD i 0).toNat)%65521:ax)):a0)=((q2+(q1+(l.getD i 0).toNat)%65521:ax):a0):=by omega
  simp(disch:=omega)only[aj,QM,WP,↓ab,hn,h5,h6,Bm,h16,M7,bt d1,jK,k1,a9 cp ep,nY,e1,dZ,Ub,e2,aB];exact ar (l.length-(i+1)) (by omega) ⟨i+1,rfl,by omega,rfl,by simp only[ag,hn],by simp only[aa,↓ab,WP];rw[ht];rfl,by simp only[aa,↓ab,WP];rw[ht];rfl,by simp only[aa,↓ab,WP,Bm,h16,dk];rfl⟩
 clear hn h0 h1 f;rintro z f t ⟨rfl,rfl,hn,h5,h6⟩;have hq:=yV l;have oh:=orU (y:=(oP l).2) (x:=(oP l).1) (by omega) (by omega);have Hl:=aiI an 117 .u64 (y:=(oP l).2) (by omega);simp only[aj,al,oneOf,QM,WP,↓ab,hn,h5,h6,Hl,kd,oh,Tryz.results151];rfl
theorem Q0 {lib:aD}(hl:lib.at 168=none)(s:au)(x:a8)(l:av ao)(hx:aU s 1 x l.length (ofBytes l))(hlen:l.length<=1000000000):
  Runs an lib 168 [.int .u32 1,x] s fun v s' =>v= .int .u32 (KN l:ax)/\s' =s:=by
 refine Runs.enter 36 Tryz.func168 rfl hl rfl rfl ?_;intro f hn hf;have h0:f.get 0= .int .u32 1:=hf 0;have h1:f.get 1=x:=hf 1;clear hf;have m2:(1:a0).tmod 65536=1:=by decide
 have m1:(1:a0).tmod 65521=1:=by decide
 have m0:(0:a0).tmod 65521=0:=by decide
 have q0:(1:a0).tdiv 65536=0:=by decide
 simp(disch:=omega)only[aj,QM,WP,↓ab,hn,h0,dZ,gA,m2,m1,m0,q0,nY];refine Comes.bD (fun z f t=>∃i:ax,z=l.length-i/\i<=l.length/\t=s/\f.n=36/\f.get 1=x/\f.get 5= .int .u32 ((oP (l.take i)).1:ax)/\f.get 6= .int .u32 ((oP (l.take i)).2:ax)/\f.get 7= .int .i64 (i:ax))
  (fun z f t=>z= .exit 0/\t=s/\f.n=36/\f.get 5= .int .u32 ((oP l).1:ax)/\f.get 6= .int .u32 ((oP l).2:ax))
  ⟨0,rfl,by omega,rfl,by simp only[ag,hn],by simp only[aa,↓ab,WP,h1],by simp only[aa,↓ab,WP];rfl,by simp only[aa,↓ab,WP];rfl,by simp only[aa,↓ab];rfl⟩ ?_ ?_
 ·clear hn h0 h1 f;rintro Q hQ z f t ⟨i,rfl,hi,rfl,hn,h1,h5,h6,h7⟩;by_cases a7:i<l.length;rotate_left
  ·obtain rfl:i=l.length:=by omega
   have d1:¬((l.length:ax):a0)<((l.length:ax):a0):=by omega
   rw[eI] at h5 h6;simp(disch:=omega)only[aj,ad,QM,WP,↓ab,hn,h1,h7,hx.aQ a3,a2 d1];exact hQ _ _ _ ⟨rfl,rfl,by simp only[aa,ag,↓ab,WP,hn,h5,h6,cT]⟩
  have d1:(i:a0)<(l.length:a0):=by omega
  have jK:=hx.indexAddr (P:=an) (k:= .i64) (x:=(i:a0)) a3 cO (by omega) (by omega);rw[a1] at jK;have k1:=hx.cu (P:=an) gQ a7;rw[aW a7] at k1;have hc:=(l.getD i 0).toNat_lt;have hq:=yV (l.take i);have ht:=Hs a7;generalize oP (l.take i)=q at h5 h6 hq ht;obtain⟨q1,q2⟩:=q;simp only at h5 h6 hq;have e1:(q1:a0)+((l.getD i 0).toNat:a0)=((q1+(l.getD i 0).toNat:ax):a0):=by omega
  have e2:(q2:a0)+((((q1+(l.getD i 0).toNat)%65521:ax)):a0)=((q2+(q1+(l.getD i 0).toNat)%65521:ax):a0):=by omega
  simp(disch:=omega)only[aj,ad,QM,WP,↓ab,hn,h1,h5,h6,h7,hx.aQ a3,bt d1,jK,k1,a9 cp ep,nY,e1,dZ,Ub,e2,aB];exact ar (l.length-(i+1)) (by omega) ⟨i+1,rfl,by omega,rfl,by simp only[ag,hn],by simp only[aa,↓ab,WP,h1],by simp only[aa,↓ab,WP];rw[ht];rfl,by simp only[aa,↓ab,WP];rw[ht];rfl,by simp only[aa,↓ab];rfl⟩
 clear hn h0 h1 f;rintro z f t ⟨rfl,rfl,hn,h5,h6⟩;have hq:=yV l;have e1:(((oP l).2:ax):a0)*65536=(((oP l).2*65536:ax):a0):=by omega
 have e2:(((oP l).2*65536:ax):a0)+(((oP l).1:ax):a0)=((KN l:ax):a0):=by unfold KN;omega
 have e3:=Nu l;simp(disch:=omega)only[aj,al,oneOf,QM,WP,↓ab,hn,h5,h6,e1,nY,e2,Tryz.results168]
 try exact⟨rfl,rfl⟩
theorem Nv {lib:aD}(qN:lib.at 119=none)(hl:lib.at 168=none)(s:au)(x:a8)(l:av ao)(hx:aU s 1 x l.length (ofBytes l))(hlen:l.length<=1000000000):
  Runs an lib 119 [x] s fun v s' =>v= .int .u32 (KN l:ax)/\s' =s:=by
 refine Runs.enter 5 Tryz.func119 rfl qN rfl rfl ?_;intro f hn hf;have h0:f.get 0=x:=hf 0;clear hf;simp only[aj,ak,ad,QM,WP,↓ab,hn,h0];refine(Q0 hl s x l hx hlen).mono ?_;rintro _ s2 ⟨rfl,rfl⟩;simp only[aj,al,oneOf,QM,↓ab,hn,Tryz.results119]
 try exact⟨rfl,rfl⟩
theorem Q1 {lib:aD}(qN:lib.at 104=none)(hl:lib.at 151=none)(s:au)(y x:a8)(l:av ao)(hy:aU s 1 y 1 [x])(hx:aU s 1 x l.length (ofBytes l))(hlen:l.length<=1000000000):
  Runs an lib 104 [y] s fun v s' =>v= .int .u32 (KN l:ax)/\s' =s:=by
 refine Runs.enter 17 Tryz.func104 rfl qN rfl rfl ?_;intro f hn hf;have h0:f.get 0=y:=hf 0;clear hf;simp only[aj,ad,QM,WP,↓ab,hn,h0,hy.aQ cd];refine Comes.bD (fun z f t=>∃i:ax,z=1-i/\i<=1/\t=s/\f.n=17/\f.get 3= .int .u32 ((if i=0 then 1 else KN l:ax):a0)/\f.get 6=y/\f.get 7= .int .i64 ((1:ax):a0)/\f.get 8= .int .i64 (i:ax))
  (fun z f t=>z= .exit 0/\t=s/\f.n=17/\f.get 3= .int .u32 (KN l:ax))
  ⟨0,rfl,by omega,rfl,by simp only[ag,hn],by simp only[aa,↓ab,WP];try rfl,by simp only[aa,↓ab,WP],by simp only[aa,↓ab,WP],by simp only[aa,↓ab];try rfl⟩ ?_ ?_
 ·clear hn h0 f;rintro Q hQ z f t ⟨i,rfl,hi,rfl,hn,h3,h6,h7,h8⟩;by_cases a7:i<1;rotate_left
  ·obtain rfl:i=1:=by omega
   have d1:¬((1:ax):a0)<((1:ax):a0):=by omega
   simp only[aj,QM,↓ab,hn,h7,h8,a2 d1];exact hQ _ _ _ ⟨rfl,rfl,by simp only[ag,hn],by simp only[aa,↓ab,WP,h3];try rfl⟩
  obtain rfl:i=0:=by omega
  have h3:f.get 3= .int .u32 1:=h3;have d1:((0:ax):a0)<((1:ax):a0):=by omega
  have jK:=hy.indexAddr (P:=an) (k:= .i64) (x:=((0:ax):a0)) cd iA (by omega) (by omega);rw[a1] at jK;have k1:=hy.cu (P:=an) gJ (k:=0) (by omega);have k1:aN an t 22 (aX 1 y 0)=some x:=k1;simp only[aj,ak,ad,QM,WP,↓ab,hn,h3,h6,h7,h8,bt d1,jK,k1];refine(Uc hl t x l hx hlen).mono ?_;rintro _ t2 ⟨rfl,rfl⟩;simp only[aj,QM,WP,↓ab,hn,h8];exact ar 0 (by omega) ⟨1,rfl,by omega,rfl,by simp only[ag,hn],by simp only[aa,↓ab,WP];try rfl,by simp only[aa,↓ab,WP,h6],by simp only[aa,↓ab,WP,h7],by simp only[aa,↓ab];try rfl⟩
 clear hn h0 f;rintro z f t ⟨rfl,rfl,hn,h3⟩;simp only[aj,al,oneOf,QM,↓ab,hn,h3,Tryz.results104]
 try exact⟨rfl,rfl⟩
end Go.Proofs.YtdfjfncifneocaaGreat
namespace Go.Cl
structure aiJ (s:au) (vs:av a8) (L:av (av ao)):Prop where
 len:vs.length=L.length
 aL:∀k (h:k<L.length),aU s 1 (vs.getD k undef) (L[k]).length (ofBytes L[k])
end Go.Cl
namespace Go.Cl.Fx
open Go.Cl.Rw Go.Cl.Sto
theorem aU.aaS {s:au}{z:ax}{v:a8}{n:ax}{l:av a8}(h:aU s z v n l):∃a n c,v= .slice a n c:=by cases h<;>exact⟨_,_,_,rfl⟩
end Go.Cl.Fx
namespace Go.Proofs.YtdfjfncifneocaaGreat
open Go.Cl Go.Cl.Rw Go.Cl.Sto Go.Cl.Fx
theorem aiK:b6 an 22=some (.slice none 0 0):=by kernel_rfl
theorem Xv (s:au)(a:ey Addr)(n1 c1:ax):bp an s 137 1 [(0,.slice a n1 c1)]=a6 s [.slice a n1 c1] 1 1:=by
 unfold bp;rw[cd];simp only[iA,aiK];rfl
end Go.Proofs.YtdfjfncifneocaaGreat
namespace Go.Cl
def vN (T:av (av ao×a0)):av (a8×a8):=T.map fun e=>(.string ⟨e.1.toArray⟩,.int .i64 e.2)
def Xw (k:av ao):av (av ao×a0)->ey a0
 |[]=>none
 |e::T=>if k=e.1 then some e.2 else Xw k T
structure aey (s:au) (r:ax) (T:av (av ao×a0)):Prop where
 lt:r<s.next
 map:s.fj r=some (vN T)
section
variable {P:cm} {t kt et:cU}
end
section
variable {P:cm} {lib:aD} {all r:av Oper} {f:aZ} {s:au} {d:ey Tmp} {Q:aZ->au->Prop}
end
end Go.Cl
namespace Go.Cl.Lz
abbrev vC:=av (av ao×a0)
def ext (T:vC)(b:av ao):ax->ax->a0->ax×a0
 |0,n,c=>(n,c)
 |k+1,n,c=>
  match Xw (b.take (n+1)) T with
  |some x=>ext T b k (n+1) x
  |none=>(n,c)
def T5 (b:av ao):vC->ax×a0->ax×a0
 |[],p=>p
 |e::T,p=>T5 b T (if p.1<e.1.length/\b.take e.1.length=e.1 then(e.1.length,e.2) else p)
structure zU (T:vC):Prop where
 two:∀e∈T,2<=e.1.length
 pre:∀e∈T,2<e.1.length->∃x,(e.1.dropLast,x)∈T
 one:∀e∈T,∀e' ∈T,e.1=e'.1->e=e'
def width (next:ax):ax:=if next<511 then 9 else if next<1023 then 10 else if next<2047 then 11 else 12
theorem En (n:ax):9<=width n/\width n<=12:=by unfold width;repeat (first|(split;all_goals try omega)|omega)
def KO (c:ax):ax->av ax
 |0=>[]
 |w+1=>c/2^w%2::KO c w
def enc:ax->av ao->vC->ax->eX->av ax
 |0,_,_,rd,_=>KO 257 (width rd)
 |k+1,b,T,rd,fst=>
  if b=[] then KO 257 (width rd)
  else
   let p:=T5 b T (1,((b.getD 0 0).toNat:a0))
   let rd' :=if fst then rd else min (rd+1) 4096
   KO p.2.toNat (width rd)++
    (if p.1<b.length then
     (if 258+T.length=4095 then KO 256 (width rd')++enc k (b.drop p.1) [] 258 true
     else enc k (b.drop p.1) (T++[(b.take (p.1+1),((258+T.length:ax):a0))]) rd' false)
    else enc k (b.drop p.1) T rd' false)
structure Good (T:vC):Prop where
 closed:zU T
 lo:∀e∈T,258<=e.2/\e.2<4096
 len:T.length<3838
structure Found (T:vC) (b:av ao) (p:ax×a0):Prop where
 eq:ext T b (b.length-1) 1 ((b.getD 0 0).toNat:a0)=p
 one:1<=p.1
 le:p.1<=b.length
 lo:0<=p.2
 hi:p.2<4096
 n6:p.2≠256
 n7:p.2≠257
 Xw:p.1<b.length->Go.Cl.Xw (b.take (p.1+1)) T=none
 more:p.1<b.length->258+T.length≠4095->Good (T++[(b.take (p.1+1),((258+T.length:ax):a0))])
end Go.Cl.Lz
namespace Go.Cl.Runs
theorem Ht (l:av ao)(i j:ax):(l.drop i).getD j 0=l.getD (i+j) 0:=by simp[e4]
theorem Xx {l:av ao}{i:ax}(h:i<l.length):l.getD i 0=l[i]:=by simp[e4,cg h]
theorem drop_cons {l:av ao}{i:ax}(h:i<l.length):l.drop i=l.getD i 0::l.drop (i+1):=by
 rw[Xx h];exact List.drop_eq_getElem_cons h
def rowOf (l:av ao):ax:=min 128 (l.takeWhile (fun x=>x==l.getD 0 0)).length
def room (most:a0)(out:av ao):ax:=(most-out.length).toNat
def dec (most:a0)(l out:av ao):av ao×a0:=
 match l with
 |[]=>([],2)
 |n::r=>
  if n.toNat=128 then(out,0)
  else if 128<n.toNat then
   match r with
   |[]=>([],2)
   |c::r' =>if 257-n.toNat<=room most out then dec most r' (out++b4 (257-n.toNat) c) else([],7)
  else if r.length<n.toNat+1/\r.length<=room most out then([],2)
  else if room most out<n.toNat+1 then([],7)
  else dec most (r.drop (n.toNat+1)) (out++r.take (n.toNat+1))
termination_by l.length
decreasing_by
 ·simp;omega
 simp;omega
theorem qg (most:a0)(out:av ao):dec most [] out=([],2):=by rw[dec]
theorem yX {most:a0}{n:ao}{r out:av ao}(h:n.toNat=128):dec most (n::r) out=(out,0):=by rw[dec.eq_def];simp[h]
theorem wB {most:a0}{n:ao}{out:av ao}(h:128<n.toNat):dec most [n] out=([],2):=by rw[dec.eq_def];simp[show¬n.toNat=128 by omega,h]
theorem vD {most:a0}{n c:ao}{r out:av ao}(h:128<n.toNat)(hr:257-n.toNat<=room most out):dec most (n::c::r) out=dec most r (out++b4 (257-n.toNat) c):=by
 rw[dec.eq_def];simp only[show¬n.toNat=128 by omega,h,eP,ew,hr]
theorem qD {most:a0}{n c:ao}{r out:av ao}(h:128<n.toNat)(hr:room most out<257-n.toNat):dec most (n::c::r) out=([],7):=by
 rw[dec.eq_def];simp only[show¬n.toNat=128 by omega,h,eP,ew,show¬257-n.toNat<=room most out by omega]
theorem wC {most:a0}{n:ao}{r out:av ao}(h:n.toNat<128)(h1:r.length<n.toNat+1)(h2:r.length<=room most out):dec most (n::r) out=([],2):=by
 rw[dec.eq_def];simp only[show¬n.toNat=128 by omega,show¬128<n.toNat by omega,ew,h1,h2,cT,eP]
theorem wD {most:a0}{n:ao}{r out:av ao}(h:n.toNat<128)(h1:room most out<r.length)(h2:room most out<n.toNat+1):dec most (n::r) out=([],7):=by
 rw[dec.eq_def];simp only[show¬n.toNat=128 by omega,show¬128<n.toNat by omega,ew,show¬(r.length<n.toNat+1/\r.length<=room most out) by omega,h2,eP]
theorem Pf {most:a0}{n:ao}{r out:av ao}(h:n.toNat<128)(h1:n.toNat+1<=r.length)(h2:n.toNat+1<=room most out):dec most (n::r) out=dec most (r.drop (n.toNat+1)) (out++r.take (n.toNat+1)):=by
 rw[dec.eq_def];simp only[show¬n.toNat=128 by omega,show¬128<n.toNat by omega,ew,show¬(r.length<n.toNat+1/\r.length<=room most out) by omega,show¬room most out<n.toNat+1 by omega]
theorem Q3 {m1 m2:a0}(h:∀out,room m1 out=room m2 out):∀(n:ax) (l out:av ao),l.length<=n->dec m1 l out=dec m2 l out:=by
 intro n
 induction n with
 |zero=>
  intro l out hl;have:l=[]:=cL (by omega);subst this;rw[qg,qg]
 |succ n ih=>
  intro l out hl;cases l with
  |nil=>rw[qg,qg]
  |cons c r=>
   simp only[eL] at hl;rw[dec.eq_def,dec.eq_def m2];simp only[h];split
   ·rfl
   split
   ·cases r with
    |nil=>rfl
    |cons d r=>
     simp only[eL] at hl;simp only;split
     ·exact ih _ _ (by omega)
     rfl
   split
   ·rfl
   split
   ·rfl
   exact ih _ _ (by rw[cJ];omega)
theorem Xy (most:a0)(l out:av ao):dec (if 0>most then 0 else most) l out=dec most l out:=
 Q3 (fun out=>by unfold room;split<;>omega) l.length l out (c8 _)
end Go.Cl.Runs
namespace Go.Cl.Hx
def digits:av ao:=[48,49,50,51,52,53,54,55,56,57,97,98,99,100,101,102]
def two (c:ao):av ao:=[digits.getD (c.toNat/16) 0,digits.getD (c.toNat%16) 0]
def aiM (l:av ao):av ao:=l.flatMap two
def hex (l:av ao):av ao:=aiM l++[62]
theorem Ud (c:ao):b5.wrap (((aC b5.bits (c.toNat:a0)&&&aC b5.bits 15).toNat:ax):a0)=((c.toNat%16:ax):a0):=by
 have e1:b5.bits=8:=rfl;have hx:=c.toNat_lt;rw[e1];have:(aC 8 (c.toNat:a0)&&&aC 8 15).toNat=c.toNat%16:=by
  rw[eC,bl,bq,bz (by omega)];show c.toNat&&&15=_;exact Nat.and_two_pow_sub_one_eq_mod c.toNat 4
 rw[this,fO];omega
end Go.Cl.Hx
namespace Go.Cl.B85
def val (l:av ao):ax->ax
 |0=>0
 |i+1=>val l i*256+(if i<min 4 l.length then(l.getD i 0).toNat else 0)
def dig (x k:ax):ao:=b8 (33+x/85^(4-k)%85)
def laid (x j:ax):av ao:=(dP 5).map fun k=>if 5<=k+j then dig x k else 0
end Go.Cl.B85
namespace Go.Cl.Ch
open Go.Cl.Pr Go.Cl.Hx Go.Cl.B85
structure Lk where
 p:a0
 co:a0
 cl:a0
 name:av ao
 early:a0
def Lk.cells (l:Lk):av a8:=[.int .i64 l.p,.int .i64 l.co,.int .i64 l.cl,.string ⟨l.name.toArray⟩,.int .i64 l.early]
def wE (L:av Lk):av a8:=(L.map Lk.cells).flatten
theorem Eo {L:av Lk}{i:ax}(h:i<L.length):((wE L).drop (i*5)).take 5=L[i].cells:=by
 induction L generalizing i with
 |nil=>simp at h
 |cons l L ih=>
  cases i with
  |zero=>simp[wE,Lk.cells]
  |succ i=>
   have:=ih (i:=i) (by simpa using h);simp only[wE,List.map_cons,List.flatten_cons,List.getElem_cons_succ] at this|-
   rw[show(i+1)*5=l.cells.length+i*5 by simp[Lk.cells];omega,<-eQ,List.drop_left];exact this
theorem xo (L M:av Lk):wE (L++M)=wE L++wE M:=by simp[wE]
theorem rH {L:av Lk}{i:ax}(h:i<L.length)(j:ax)(hj:j<5):(wE L).getD (i*5+j) undef=L[i].cells.getD j undef:=by
 have h1:=Eo h;rw[<-h1,bk,bk,List.getElem?_take_of_lt hj,List.getElem?_drop]
def nC:av ao:=[70,108,97,116,101,68,101,99,111,100,101]
def Ak:av ao:=[76,90,87,68,101,99,111,100,101]
def sA:av ao:=[65,83,67,73,73,72,101,120,68,101,99,111,100,101]
def Q4:av ao:=[65,83,67,73,73,56,53,68,101,99,111,100,101]
def Q5:av ao:=[82,117,110,76,101,110,103,116,104,68,101,99,111,100,101]
def rI:av (av ao):=[nC,Ak,sA,Q4,Q5]
def IP (l:Lk):Lk:=if l.p=0/\l.co=0/\l.cl=0 then {l with p:=1,co:=1,cl:=1} else l
def okL (l:Lk):Prop:=l.name∈rI/\pC l.p l.co l.cl
instance (l:Lk):Decidable (okL l):=by unfold okL;infer_instance
end Go.Cl.Ch
namespace Go.Proofs.YtdfjfncifneocaaGreat
open Go.Cl Go.Cl.Pr Go.Cl.Ch
abbrev eN (l:Lk):a8:= .agg l.cells.toArray
theorem gl:br an 58=some 5:=by kernel_rfl
theorem qh:bU an 58=some true:=by kernel_rfl
theorem IQ (i o c:ax):ay an 58 (.pointer (some ⟨i,o,some c⟩)) 0=some (.pointer (some ⟨i,o+0,some c⟩)):=by
 unfold ay;rw[c9];simp[KE]
theorem Nw (i o c:ax):ay an 58 (.pointer (some ⟨i,o,some c⟩)) 1=some (.pointer (some ⟨i,o+3,some c⟩)):=by
 unfold ay;rw[c9];simp[xk]
theorem Ue (i o c:ax):ay an 58 (.pointer (some ⟨i,o,some c⟩)) 2=some (.pointer (some ⟨i,o+4,some c⟩)):=by
 unfold ay;rw[c9];simp[aV]
theorem aez:b6 an 9=some (.string ⟨#[]⟩):=by kernel_rfl
theorem Q6 (s:au)(l:Lk):Runs an dR 35 [eN l] s (Ag s (l.name∈rI)):=by
 refine Runs.enter 7 Tryz.func35 rfl rfl rfl rfl ?_;intro f hn hf;have h0:f.get 0=eN l:=hf 0;clear hf;simp only[aj,QM,↓ab,hn,h0];refine aA ?_;intro s1 ht aF vR;have ht:az s1 s.next l.cells:=ht;have hd:l.cells.length+1=6:=rfl;have Uf:bp an s1 27 5 [(0,.string ⟨nC.toArray⟩),(1,.string ⟨Ak.toArray⟩),(2,.string ⟨sA.toArray⟩),(3,.string ⟨Q4.toArray⟩),(4,.string ⟨Q5.toArray⟩)]=a6 s1 (D9 rI) 5 1:=Pa Tryz.underlying27 xk aez rfl ⟨_,rfl⟩ rfl rfl rfl rfl rfl;unfold nC Ak sA Q4 Q5 at Uf;simp only[aj,ae,QM,↓ab,hn,hd,Uf];refine bc (by rfl) ?_;intro x s2 hx hF aR;have dK:=ht.keeps aR;have p3:aN an s2 9 (.pointer (some ⟨s.next,3,some 6⟩))=some (.string ⟨l.name.toArray⟩):=dK.load uL (off:=3) (c:=6) rfl (by simp[Lk.cells]);simp only[aj,ak,ad,QM,WP,↓ab,hn,Nw,p3];refine(wA (lib:=dR) rfl rfl s2 x l.name rI hx.aL (by decide)).mono ?_;rintro _ s3 ⟨rfl,rfl⟩;simp only[aj,al,oneOf,QM,↓ab,hn,Tryz.results35];exact⟨rfl,aF.trans (aR.weaken aF.next)⟩
end Go.Proofs.YtdfjfncifneocaaGreat
namespace Go.Cl
theorem aaV {P:cm}{s:au}{t e:cU}{k:c5}{a b c:a0}(hu:P.underlying t=some (.slice e))(cX:br P e=some 1)(hz:b6 P e=some (.int k 0)):bp P s t 3 [(0,.int k a),(1,.int k b),(2,.int k c)]=a6 s [.int k a,.int k b,.int k c] 3 1:=by
 unfold bp;rw[hu];simp only[cX,hz];rfl
end Go.Cl
namespace Go.Cl.Ch
def Hu:av ao:=[66,105,116,115,80,101,114,67,111,109,112,111,110,101,110,116]
def vE:av ao:=[67,111,108,111,114,115]
def rJ:av ao:=[67,111,108,117,109,110,115]
def Hv:av ao:=[80,114,101,100,105,99,116,111,114]
def fh:av ao:=[70,105,108,116,101,114]
def lV:av ao:=[68,101,99,111,100,101,80,97,114,109,115]
def Ug (b:av ao):O:= .mk 5 0 b [] []
end Go.Cl.Ch
namespace Go.Cl
theorem aU.Nx {P:cm}{t e:cU}{z:ax}(hu:P.underlying t=some (.slice e))(cX:br P e=some z){s:au}{v:a8}{n:ax}{l:av a8}(h:aU s z v n l){k k2:c5}{m:ax}(h0:0<m)(h1:m<=n):fa P s t v none (some (.int k (m:ax))) (some (.int k2 (m:ax)))=some (jC z v 0 m):=by
 have hl:=h.ra hu cX (k:=k) (y:=(m:a0)) (by omega) (by omega);rw[a1] at hl;rw[<-hl];have gZ:∀k d,kT (some (.int k ((m:ax):a0))) d=some m:=fun _ _=>rfl
 have mI:Nat.beq 0 m=false:=by
  rw[<-Bool.not_eq_true,Nat.beq_eq];omega
 have hle:(Nat.ble m m&&Nat.ble m n)=true:=by simp;omega
 cases h with
 |nil=>omega
 |bare=>omega
 |of i off n c b l hi hb hz hl hc hlen eO ht=>
  unfold fa;simp only[hu,lU,gZ,cX,hle,eP,mI];rfl
structure yY (s:au) (vs:av a8) (L:av (av ao)):Prop where
 len:vs.length=L.length
 aL:∀k (h:k<L.length),aU s 1 (vs.getD k undef) (L[k]).length (ofBytes L[k])
theorem yY.nil (s:au):yY s [] []:=⟨rfl,fun k h=>absurd h (Nat.not_lt_zero k)⟩
theorem yY.keeps {s s' :au}{vs:av a8}{L:av (av ao)}(h:yY s vs L)(k:aw s.next s s'):yY s' vs L:=⟨h.len,fun j hj=>(h.aL j hj).keeps k⟩
theorem yY.snoc {s:au}{v:a8}{a:av ao}{vs:av a8}{L:av (av ao)}(k:yY s vs L)(h:aU s 1 v a.length (ofBytes a)):yY s (vs++[v]) (L++[a]):=by
 refine⟨by simp[k.len],fun j hj=> ?_⟩;have V1:j<L.length+1:=by simpa using hj
 by_cases Xz:j<L.length
 ·have:=k.aL j Xz;rw[List.getElem_append_left Xz,bk,List.getElem?_append_left (by rw[k.len];exact Xz),<-bk];exact this
 obtain rfl:j=L.length:=by omega
 rw[List.getElem_append_right (by omega),bk,List.getElem?_append_right (by rw[k.len];omega)];simp only[k.len,eu,List.getElem_cons_zero];exact h
end Go.Cl
namespace Go.Proofs.YtdfjfncifneocaaGreat
open Go.Cl Go.Cl.Pr
theorem aeA:b6 an 22=some (.slice none 0 0):=by kernel_rfl
theorem aeB:dX an 22=some 24:=by kernel_rfl
theorem Ui (s:au)(a:ey Addr)(n1 c1:ax):bp an s 137 1 [(0,.slice a n1 c1)]=a6 s [.slice a n1 c1] 1 1:=by
 unfold bp;rw[cd];simp only[iA,aeA];rfl
def wy (s:au)(l:av ao)(n:ax)(v:a8)(s' :au):Prop:=∃w vs,v= .tuple #[w,.bool (decide (l.length%n=0))]/\aU s' 1 w (l.length/n) vs/\yY s' vs (uM l n (l.length/n))/\aw s.next s s'
theorem Ny (z:ax)(v:a8)(a b:ax):∃x n c,jC z v a b= .slice x n c:=by
 unfold jC;split<;>exact⟨_,_,_,rfl⟩
theorem Nz {lib:aD}(L:F9 lib)(s:au)(x:a8)(l:av ao)(hx:aU s 1 x l.length (ofBytes l))(hl:l.length<=100000000)(n:ax)(WR:1<=n)(gZ:n<=1000000):
  Runs an lib 114 [x,.int .i64 n] s (wy s l n):=by
 refine Runs.enter 25 Tryz.func114 rfl L.parts rfl rfl ?_;intro f hn hf;have h0:f.get 0=x:=hf 0;have h1:f.get 1= .int .i64 n:=hf 1;clear hf;simp only[aj,QM,↓ab,hn];have hdiv:l.length/n*n<=l.length:=Nat.div_mul_le_self _ _;have aiN:l.length/n<=l.length:=Nat.div_le_self _ _;have yZ:=Nat.div_add_mod l.length n;have hml:=dw l.length (show n>0 by omega);rw[eV] at yZ;unfold wy;generalize l.length/n=q at hdiv aiN yZ|-
 refine Comes.bD (fun z f t=>∃(i:ax) (y w:a8) (vs:av a8),z=q-i/\i<=q/\aU s 1 y (l.drop (i*n)).length (ofBytes (l.drop (i*n)))/\Own t 1 w i vs/\yY s vs (uM l n i)/\aM s.next w/\aw s.next s t/\f.n=25/\f.get 0=y/\f.get 1= .int .i64 n/\f.get 6=w)
  (fun z f t=>z= .exit 0/\∃(y w:a8) (vs:av a8),aU s 1 y (l.drop (q*n)).length (ofBytes (l.drop (q*n)))/\Own t 1 w (q) vs/\yY s vs (uM l n (q))/\aw s.next s t/\f.n=25/\f.get 0=y/\f.get 6=w)
  ⟨0,x,.slice none 0 0,[],rfl,by omega,by rw[Nat.zero_mul,eS];exact hx,.nil,yY.nil _,aM.nil _,aw.refl _ _,by simp only[aa,ag,↓ab,WP,hn,h0,h1,cT]⟩ ?_ ?_
 ·clear hn h0 h1 f;rintro Q hQ z f t ⟨i,y,w,vs,rfl,hi,BN,hw,hb,hF,aF,hn,h0,h1,h6⟩;have hy:=BN.keeps aF;have him:i*n<=q*n:=eb n hi;have Wf:(l.drop (i*n)).length=l.length-i*n:=cJ;by_cases a7:i<q;rotate_left
  ·obtain rfl:i=q:=by omega
   have d1:¬n<=(l.drop (i*n)).length:=by omega
   have d2:¬(n:a0)<=(((l.drop (i*n)).length:ax):a0):=by omega
   simp only[aj,ad,QM,WP,↓ab,hn,h0,h1,hy.aQ a3,a2 d2];exact hQ _ _ _ ⟨rfl,y,w,vs,BN,hw,hb,aF,by simp only[aa,ag,↓ab,WP,hn,h0,h6,cT]⟩
  have aoz:(i+1)*n<=q*n:=eb n a7;have tm:(i+1)*n=i*n+n:=Nat.succ_mul i n;have d1:n<=(l.drop (i*n)).length:=by omega
  have d2:(n:a0)<=(((l.drop (i*n)).length:ax):a0):=by omega
  have kD:=BN.IB (lo:=0) (hi:=n) (by omega) (by omega);rw[eS,Nat.sub_zero] at kD;obtain⟨cx,cn,cc,hcc⟩:=Ny 1 y 0 n;have V6:=hy.Nx (P:=an) a3 cO (k:= .i64) (k2:= .i64) (m:=n) (by omega) (by omega);rw[hcc] at V6 kD;simp only[aj,ad,ae,ai,QM,WP,↓ab,hn,h0,h1,h6,hy.aQ a3,bt d2,V6,Ui];refine bc (by rfl) ?_;intro bv t2 dr ig aR;simp only[aj,ad,QM,WP,↓ab,hn];have gF:([Value.slice cx cn cc]:av a8).all aT=true:=by rfl
  refine gb cd cd (.inl ⟨_,rfl⟩) iA aeB aeA rfl (hw.keeps aR) dr.aL.src rfl (by decide) gF (by omega) (by omega) hF (by have:=aR.next;have:=aF.next;omega) ?_;intro w' t3 hw' zw bA aoB _;have mq:aw s.next s t3:=(aF.trans (aR.weaken aF.next)).trans bA;have hy3:=BN.keeps mq;have mA:=BN.IB (lo:=n) (hi:=(l.drop (i*n)).length) (by omega) (by omega);rw[List.take_of_length_le (by rw[cJ];omega),eQ] at mA;simp(disch:=omega)only[aj,ai,QM,WP,↓ab,hn,h0,h1,hy3.qZ a3 cO];refine ar (q-(i+1)) (by omega) ⟨i+1,jC 1 y n (l.drop (i*n)).length,w',vs++[.slice cx cn cc],rfl,by omega,?_,hw',?_,zw,mq,by simp only[aa,ag,↓ab,WP,hn,h1,cT]⟩
  ·rw[tm];exact mA
  rw[Ng];exact hb.snoc kD
 clear hn h0 h1 f;rintro z f t ⟨rfl,y,w,vs,BN,hw,hb,aF,hn,h0,h6⟩;have hy:=BN.keeps aF;have Wf:(l.drop (q*n)).length=l.length-q*n:=cJ;have ed:decide ((((l.drop (q*n)).length:ax):a0)=0)=decide (l.length%n=0):=decide_eq_decide.2 (by omega);simp only[aj,al,oneOf,ad,QM,WP,↓ab,hn,h0,h6,hy.aQ a3,ed,Tryz.results114];exact⟨w,vs,rfl,hw.aL,hb.keeps aF,aF⟩
def rK (s:au)(p:av ao×a0)(v:a8)(s' :au):Prop:=∃w,v= .tuple #[w,.int .i64 p.2]/\gz s w s' p.1
end Go.Proofs.YtdfjfncifneocaaGreat
namespace Go.Proofs.YtdfjfncifneocaaGreat
open Go.Cl Go.Cl.Rw
theorem KP {x:a0}(h0:0<=x)(h:x<18446744073709551616):cM.wrap x=x:=by
 have e1:cM.bits=64:=rfl;have e2:cM.signed=false:=rfl;simp only[ev,e1,e2,Bool.false_and];simp;omega
structure aaW (base:ax) (s:au) (j:ax) (v:a8) (p:av ao×ax) (R:av a8):Prop where
 fE:az s j (v:: .int .i64 p.2::R)
 own:Own s 1 v p.1.length (ofBytes p.1)
 fresh:aM base v
 ne:aI v≠some j
 lo:base<=j
 ok:Ok p
end Go.Proofs.YtdfjfncifneocaaGreat
namespace Go.Proofs.YtdfjfncifneocaaGreat
open Go.Cl Go.Cl.Lz Go.Cl.Rw
theorem Q7 {lib:aD}(hl:lib.at 152=none)(s:au)(n:ax):
  Runs an lib 152 [.int .i64 n] s fun v s' =>v= .int .i64 (width n:ax)/\s' =s:=by
 refine Runs.enter 12 Tryz.func152 rfl hl rfl rfl ?_;intro f hn hf;have h0:f.get 0= .int .i64 n:=hf 0;clear hf;by_cases c1:n<511
 ·have wG:(n:a0)<511:=by omega
  have e:width n=9:=by unfold width;rw[cb c1]
  simp only[aj,al,oneOf,QM,WP,↓ab,hn,h0,bt wG,e,c0];rfl
 have wG:¬(n:a0)<511:=by omega
 by_cases c2:n<1023
 ·have Hw:(n:a0)<1023:=by omega
  have e:width n=10:=by unfold width;rw[bw c1,cb c2]
  simp only[aj,al,oneOf,QM,WP,↓ab,hn,h0,a2 wG,bt Hw,e,c0];rfl
 have Hw:¬(n:a0)<1023:=by omega
 by_cases c3:n<2047
 ·have Gb:(n:a0)<2047:=by omega
  have e:width n=11:=by unfold width;rw[bw c1,bw c2,cb c3]
  simp only[aj,al,oneOf,QM,WP,↓ab,hn,h0,a2 wG,a2 Hw,bt Gb,e,c0];rfl
 have Gb:¬(n:a0)<2047:=by omega
 have e:width n=12:=by unfold width;rw[bw c1,bw c2,bw c3]
 simp only[aj,al,oneOf,QM,WP,↓ab,hn,h0,a2 wG,a2 Hw,a2 Gb,e,c0];rfl
theorem NA {lib:aD}(hl:lib.at 120=none)(s:au)(n:ax):
  Runs an lib 120 [.int .i64 n] s fun v s' =>v= .int .i64 (width n:ax)/\s' =s:=by
 refine Runs.enter 12 Tryz.func120 rfl hl rfl rfl ?_;intro f hn hf;have h0:f.get 0= .int .i64 n:=hf 0;clear hf;by_cases c1:n<511
 ·have wG:(n:a0)<511:=by omega
  have e:width n=9:=by unfold width;rw[cb c1]
  simp only[aj,al,oneOf,QM,WP,↓ab,hn,h0,bt wG,e,c4];rfl
 have wG:¬(n:a0)<511:=by omega
 by_cases c2:n<1023
 ·have Hw:(n:a0)<1023:=by omega
  have e:width n=10:=by unfold width;rw[bw c1,cb c2]
  simp only[aj,al,oneOf,QM,WP,↓ab,hn,h0,a2 wG,bt Hw,e,c4];rfl
 have Hw:¬(n:a0)<1023:=by omega
 by_cases c3:n<2047
 ·have Gb:(n:a0)<2047:=by omega
  have e:width n=11:=by unfold width;rw[bw c1,bw c2,cb c3]
  simp only[aj,al,oneOf,QM,WP,↓ab,hn,h0,a2 wG,a2 Hw,bt Gb,e,c4];rfl
 have Gb:¬(n:a0)<2047:=by omega
 have e:width n=12:=by unfold width;rw[bw c1,bw c2,bw c3]
 simp only[aj,al,oneOf,QM,WP,↓ab,hn,h0,a2 wG,a2 Hw,a2 Gb,e,c4];rfl
theorem T6 (c k:ax):((c:a0)).fdiv (2^k)=((c/2^k:ax):a0):=by
 rw[ck _ (by exact ea (by omega))];norm_cast
theorem qE:br an 4=some 1:=by kernel_rfl
def aeC (B:av ax):av a8:=B.map fun x=> .int .i64 (x:ax)
structure aiO (base:ax) (s:au) (j:ax) (v bv:a8) (p:av ao×ax) (B:av ax) (next:ax) (begun:eX):Prop where
 row:aaW base s j v p [bv,.int .i64 next,.bool begun]
 bits:Own s 1 bv B.length (aeC B)
 bf:aM base bv
 bj:aI bv≠some j
 bx:∀k,aI v=some k->aI bv≠some k
structure aoC (j:ax) (v bv:a8) (s:au) (v' jS:a8) (s' :au):Prop where
 next:s.next<=s'.next
 get:∀i,i<s.next->i≠j->aI v≠some i->aI bv≠some i->s'.heap.get i=s.heap.get i
 iv:aI v' =aI v\/∃i,aI v' =some i/\s.next<=i
 ib:aI jS=none\/aI jS=aI bv\/∃i,aI jS=some i/\s.next<=i
def Wr (base:ax)(s:au)(j:ax)(v bv:a8)(q:av ao×av ax)(next:ax)(begun:eX):Prop:=aiO base s j v bv (q.1,8*q.1.length) q.2 next begun
theorem NB:bU an 4=some false:=by kernel_rfl
end Go.Proofs.YtdfjfncifneocaaGreat
namespace Go.Cl.Lz
def tg (b:av ao)(i:ax):ax:=(b.getD (i/8) 0).toNat/2^(7-i%8)%2
theorem Ep (b:av ao)(i:ax):tg b i<2:=dw _ (by omega)
def jN (b:av ao)(p:ax):ax->ax
 |0=>0
 |w+1=>jN b p w*2+tg b (p+w)
theorem uQ (b:av ao)(p:ax):∀w,jN b p w<2^w
 |0=>by simp[jN]
 |w+1=>by have h1:=uQ b p w;have h2:=Ep b (p+w);rw[jN,dt];omega
def rowOf (T:av (av ao))(last:av ao)(c:ax):ey (av ao):=
 if c<256 then some [b8 c]
 else if last=[] then none
 else if c=258+T.length then some (last++last.take 1)
 else T[c-258]?
def grow (T:av (av ao))(last x:av ao):av (av ao):=if last≠[]/\258+T.length<4096 then T++[last++x.take 1] else T
def dec (b:av ao)(most:ax):ax->ax->av (av ao)->av ao->av ao->ax×av ao
 |0,_,_,_,out=>(0,out)
 |k+1,p,T,last,out=>
  if 8*b.length<p+width (258+T.length) then(2,[])
  else if jN b p (width (258+T.length))=257 then(0,out)
  else if jN b p (width (258+T.length))=256 then dec b most k (p+width (258+T.length)) [] [] out
  else match rowOf T last (jN b p (width (258+T.length))) with
   |none=>(4,[])
   |some x=>if most<out.length+x.length then(7,[]) else dec b most k (p+width (258+T.length)) (grow T last x) x (out++x)
def y4 (b:av ao)(most:ax):ax×av ao:=dec b most (8*b.length+1) 0 [] [] []
theorem Hy {b:av ao}{most k p:ax}{T:av (av ao)}{last out:av ao}(h:8*b.length<p+width (258+T.length)):dec b most (k+1) p T last out=(2,[]):=by rw[dec,cb h]
theorem yX {b:av ao}{most k p:ax}{T:av (av ao)}{last out:av ao}(h:¬8*b.length<p+width (258+T.length))(hc:jN b p (width (258+T.length))=257):dec b most (k+1) p T last out=(0,out):=by rw[dec,bw h,cb hc]
theorem Hz {b:av ao}{most k p:ax}{T:av (av ao)}{last out:av ao}(h:¬8*b.length<p+width (258+T.length))(hc:jN b p (width (258+T.length))=256):dec b most (k+1) p T last out=dec b most k (p+width (258+T.length)) [] [] out:=by rw[dec,bw h,bw (by omega),cb hc]
theorem vD {b:av ao}{most k p c:ax}{T:av (av ao)}{last out:av ao}(h:¬8*b.length<p+width (258+T.length))(hc:jN b p (width (258+T.length))=c)(h7:c≠257)(h6:c≠256):
  dec b most (k+1) p T last out=match rowOf T last c with
   |none=>(4,[])
   |some x=>if most<out.length+x.length then(7,[]) else dec b most k (p+width (258+T.length)) (grow T last x) x (out++x):=by
 rw[dec,bw h,bw (by omega),bw (by omega),hc]
def Num (T:vC):Prop:=∀i e,T[i]?=some e->e.2=((258+i:ax):a0)
theorem oW {l:av ao}{n:ax}(h:n<l.length):l.take (n+1)=l.take n++(l.drop n).take 1:=by
 rw[List.take_add]
structure Sync (l:av ao) (T:vC) (rd:ax) (fst:eX) (D:av (av ao)) (last:av ao):Prop where
 aoE:Good T
 num:Num T
 rd:rd=258+D.length
 few:D.length<3838
 first:fst=true->T=[]/\D=[]/\last=[]
 adS:fst=false->last≠[]/\(l≠[]->T.map Prod.fst=D++[last++l.take 1])
end Go.Cl.Lz
namespace Go.Proofs.YtdfjfncifneocaaGreat
open Go.Cl Go.Cl.Lz Go.Cl.Rw
structure al4 (base:ax) (s:au) (j r:ax) (v bv:a8) (q:av ao×av ax) (T:vC) (next:ax) (begun:eX):Prop where
 wr:Wr base s j v bv q next begun
 map:aey s r T
 rj:r≠j
 rv:aI v≠some r
 rb:aI bv≠some r
 lo:base<=r
section
variable {base:ax} {s s' :au} {j r:ax} {v bv v' jS:a8} {q q' :av ao×av ax} {T:vC} {next next' :ax} {begun aiP:eX}
end
theorem gz.after {s s1 s' :au}{w:a8}{l:av ao}{base:ax}(h:gz s1 w s' l)(k:aw base s s1)(hb:base=s.next):gz s w s' l:=by
 subst hb;exact⟨h.own,fun i hi=>dv k.next (h.fresh i hi),k.trans (h.stay.weaken k.next)⟩
end Go.Proofs.YtdfjfncifneocaaGreat
namespace Go.Proofs.YtdfjfncifneocaaGreat
open Go.Cl Go.Cl.Pr Go.Cl.Ch Go.Cl.Hx Go.Cl.B85
theorem gz.behind {s s1 s' :au}{w:a8}{l:av ao}(h:gz s1 w s' l)(k:aw s.next s s1):gz s w s' l:=gz.after h k rfl
theorem aeD:F9 dR:=⟨rfl,rfl,rfl,rfl,rfl,rfl,rfl,rfl,rfl,rfl⟩
end Go.Proofs.YtdfjfncifneocaaGreat