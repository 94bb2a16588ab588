import Derived.Test.YtdfjfncifneocaaGreatRUnb
import Derived.Test.YtdfjfncifneocaaGreatLrB
open _root_ renaming reduceIte->ab,decide_eq_true->an,decide_eq_false->ao,if_neg->av,eq_false->ax,if_pos->a0,List->a2,eq_true->a8,UInt8->bl,Int->bq,Nat->b7,decide_not->ca,true_and->cc,absurd->cg,and_self->cp,of_decide_eq_true->ds,if_false->ew
open Go.Proofs.Tryz renaming prog->af,underlying22->aC,underlying134->a3,results40->ch,results38->cv,results74->cB,underlying35->cD,underlying5->cM,results14->c6,underlying31->c8,underlying58->dg,underlying56->dk,underlying24->dt,underlying3->ee,results15->ek,results77->en,results41->eo,results20->ep
open List renaming take_succ_eq_append_getElem->a1,mem_singleton->bt,length_append->bz,getElem?_cons_zero->b4,getElem?_cons_succ->b5,length_cons->b8,getElem?_toArray->cb,mem_append->ck,take_length->cx,getElem_mem->cA,take_of_length_le->cL,eq_nil_of_length_eq_zero->cT,length_nil->cX,drop_eq_getElem_cons->c7,drop_eq_nil_of_le->dw,length_replicate->eb,length_singleton->ec,drop_length->eg,replicate->eh,drop_zero->er,all_cons->et
open Int renaming toNat_natCast->bk
open Go renaming Value->bw
open Nat renaming le_refl->cd,reduceAdd->cm,le_trans->dT,reduceSub->ed,sub_self->ev
open Go.Value renaming string->ea
open Nat renaming reduceLT->QM,reduceEqDiff->WP
set_option maxHeartbeats 8000000
set_option linter.unusedSimpArgs false
set_option linter.unusedVariables false
set_option maxRecDepth 100000
namespace Go.Proofs.YtdfjfncifneocaaGreat
open Go.Cl Go.Cl.Uh
def SkV (base:b7)(s:au)(j:b7)(P:a2 bl)(M bad:bq)(v:bw):Prop:=
 ∃B,az s j [B,.int .i64 M,.int .i64 bad]/\Own s 1 B P.length (ofBytes P)/\aM base B/\aI B≠some j/\base<=j/\∀k,aI v=some k->k≠j/\aI B≠some k
theorem SkV.is {base:b7}{s:au}{j:b7}{P:a2 bl}{M bad:bq}{v:bw}(h:SkV base s j P M bad v):gK base s j P M bad:=by
 obtain⟨B,h1,h2,h3,h4,h5,_⟩:=h;exact⟨B,h1,h2,h3,h4,h5⟩
theorem gK.apart {base:b7}{s:au}{j:b7}{P:a2 bl}{M bad:bq}(h:gK base s j P M bad):SkV base s j P M bad (.slice none 0 0):=by
 obtain⟨B,h1,h2,h3,h4,h5⟩:=h;exact⟨B,h1,h2,h3,h4,h5,fun k e=>by cases e⟩
theorem SkV.turns {base:b7}{s s' :au}{j:b7}{P:a2 bl}{M bad:bq}{v v' :bw}(h:SkV base s j P M bad v)(k:bG v s s')(fM:aI v' =aI v\/∃i,aI v' =some i/\s.next<=i):SkV base s' j P M bad v' :=by
 obtain⟨B,h1,h2,h3,h4,h5,h6⟩:=h;refine⟨B,h1.turns k (fun e=>(h6 j e).1 rfl),h2.turns k (fun i e q=>(h6 i q).2 e),h3,h4,h5,fun q hq=> ?_⟩;rcases fM with e|⟨i,e,hi⟩
 ·exact h6 q (by rw[<-e];exact hq)
 rw[e] at hq;injection hq with hq
 exact⟨by have:=h1.lt;omega,fun e2=>by have:=h2.ei q e2;omega⟩
def fin (b:bq)(r:a2 bl)(P:a2 bl):a2 bl×bq:=
 if b≠0 then([],b) else if(sign r).1<0 then([],2) else if(sign r).1=62 then(P,0) else([],4)
theorem VS {lib:aD}(hl:lib.at 74=none)(y9:lib.at 125=none)(sR:lib.at 122=none)(mA:lib.at 123=none)(tI:lib.at 124=none)(hlg:lib.at 127=none)
  (s:au) (x:bw) (l:a2 bl) (most M:bq) (Rx:(if most<0 then 0 else most)=M) (hx:aU s 1 x l.length (ofBytes l)) (hlen:l.length<=4000000):
  Runs af lib 74 [x,.int .i64 most] s (mv s.next s (sE M l [] []).1 (sE M l [] []).2):=by
 refine Runs.enter 123 Tryz.func74 rfl hl rfl rfl ?_;intro f hn hf;have h0:f.get 0=x:=hf 0;have h1:f.get 1= .int .i64 most:=hf 1;clear hf;simp only[aj,ad,ae,QM,WP,↓ab,hn,h1,zc,Rx];refine aA ?_;intro s1 ho aF vR;obtain⟨j,hj⟩:∃j,j=s.next:=⟨_,rfl⟩
 rw[<-hj] at ho;have acj:gK s.next s1 j [] M 0:=⟨_,ho,.nil,aM.nil _,(by intro h;cases h),by omega⟩;simp only[aj,QM,cm,↓ab,hn,b8,cX];refine Comes.de (fun q f s' =>∃(i:b7) (P:a2 bl) (bad:bq) (g:a2 b7) (v:bw),q=(if bad=0 then l.length+1-i else 0)/\(bad=0->i<=l.length/\P.length<=4*i/\sE M (l.drop i) g P=sE M l [] []/\g.length<=4/\(∀d∈g,d<85)/\Own s' 1 v g.length (nI 0 g)/\aM s.next v/\SkV s.next s' j P M 0 v/\(g=[]->v= .slice none 0 0))/\(bad≠0->sE M l [] []=([],bad))/\gK s.next s' j P M bad/\aw s.next s s' /\f.n=123/\f.get 0=x/\f.get 6= .pointer (some ⟨j,0,some 4⟩)/\f.get 7=v/\f.get 8= .int .i64 i)
  ⟨0,[],0,[],.slice none 0 0,rfl,fun _=>⟨by omega,by simp,rfl,by simp,by simp,.nil,aM.nil _,acj.apart,fun _=>rfl⟩,fun h=>cg rfl h,acj,aF,by simp only[aa,ag,↓ab,WP,hn,h0,hj,cc];rfl⟩ ?_
 clear hn h0 h1 f ho aF vR acj s1;rintro q f s1 ⟨i,P,bad,g,v,rfl,kI,fF,nJ,aF,hn,h0,h6,h7,h8⟩;have kU:=hx.keeps aF;obtain⟨B,Rz,hB,hF,cE,Ma⟩:=id nJ;have l2:=Rz.load (P:=af) aP (off:=2) (c:=4) rfl (by simp);have hex:(bad=0->l.length<=i)->sE M l [] []=([],if bad=0 then 2 else bad):=by
  intro hi;by_cases mI:bad=0
  ·obtain⟨_,_,h4,_⟩:=kI mI;rw[dw (hi mI)] at h4;rw[<-h4,a0 mI];rfl
  rw[av mI];exact fF mI
 by_cases a7:i<l.length
 ·have BO:(i:bq)<l.length:=by omega
  by_cases hb:bad=0
  ·obtain⟨hi,hPi,hu,hg4,Ry,hv,xp,agj,ZS⟩:=kI hb;clear kI fF hex;subst hb;rw[qn a7] at hu;obtain⟨c,hc⟩:∃c,c=l.getD i 0:=⟨_,rfl⟩
   obtain⟨r,hr⟩:∃r,r=l.drop (i+1):=⟨_,rfl⟩
   rw[<-hc,<-hr,sE] at hu;have NW:=c.toNat_lt;have hq:l.length+1-(i+1)<(if(0:bq)=0 then l.length+1-i else 0):=by rw[a0 rfl];omega
   have XM:0<(if(0:bq)=0 then l.length+1-i else 0):=by rw[a0 rfl];omega
   simp(disch:=omega)only[aj,ak,ad,QM,WP,↓ab,hn,h0,h6,h8,a8 BO,kU.aQ aC,pG,l2,kU.indexAddr aC cO,kU.cu gQ,aW,<-hc,a9 cM ee,aB];refine(pH y9 s1 _).mono ?_;rintro _ s1 ⟨rfl,rfl⟩;by_cases hw:dY c.toNat=true
   ·rw[a0 hw] at hu;simp(disch:=omega)only[aj,QM,WP,↓ab,hn,h8,hw,aB];refine ar (l.length+1-(i+1)) hq ⟨i+1,P,0,g,v,rfl,fun _=>⟨by omega,by omega,by rw[<-hr];exact hu,hg4,Ry,hv,xp,agj,ZS⟩,fun h=>cg rfl h,nJ,aF,by simp only[ag,hn],by simp only[aa,↓ab,WP,h0],by simp only[aa,↓ab,WP,h6],by simp only[aa,↓ab,WP,h7],by simp only[aa,↓ab];rfl⟩
   rw[av hw] at hu;simp only[Bool.not_eq_true] at hw;by_cases sF:(c.toNat:bq)=126
   ·rw[a0 sF] at hu;by_cases g1:g.length=1;have g1' :(g.length:bq)=1:=by omega
    have g2' :¬(1:bq)<(g.length:bq):=by omega
    simp only[aj,ak,ad,QM,WP,↓ab,hn,h6,h7,hw,a8 sF,hv.aL.aQ a3,a8 g1'];refine(cy sR s.next s1 j P M 0 4 nJ).mono ?_;rintro _ s2 ⟨gH,aR⟩;rw[a0 rfl] at gH;have dP:=aF.trans aR;have rT:sE M l [] []=fin 4 r P:=by rw[<-hu];unfold sD fin;rw[a0 g1,a0 (by decide)]
    simp(disch:=omega)only[aj,ad,QM,WP,↓ab,hn,h7,h8,hv.aL.aQ a3,ax g2',aB];rotate_left;have g1' :¬(g.length:bq)=1:=by omega
    by_cases g2:1<g.length;have g2' :(1:bq)<(g.length:bq):=by omega
    simp only[aj,ak,ad,QM,WP,↓ab,hn,h6,h7,hw,a8 sF,hv.aL.aQ a3,ax g1',a8 g2'];refine(H4 hlg sR tI s.next s1 j P M g v nJ hv.aL Ry (by omega) (by omega) (by omega)).mono ?_;rintro _ s2 ⟨⟨P2,gH,Ws⟩,aR⟩;have dP:=aF.trans aR;obtain⟨y,hy⟩:∃y,y=HG M g (g.length-1) P:=⟨_,rfl⟩
    rw[<-hy] at gH Ws;have rT:sE M l [] []=fin y.2 r P2:=by
     rw[<-hu];unfold sD fin
     by_cases Sv:y.2=0
     ·have q1:¬(1<g.length/\y.2≠0):=by simp[Sv]
      have q2:¬(y.2≠0):=by simp[Sv]
      rw[av g1,<-hy,av q1,av q2,a0 g2,Ws Sv]
     rw[av g1,<-hy,a0 ⟨g2,Sv⟩,a0 Sv]
    simp(disch:=omega)only[aj,QM,WP,↓ab,hn,h8,aB];rotate_left;have g2' :¬(1:bq)<(g.length:bq):=by omega
    have rT:sE M l [] []=fin 0 r P:=by
     rw[<-hu];unfold sD fin
     have q1:¬(1<g.length/\(HG M g (g.length-1) P).2≠0):=by simp[g2]
     have q2:¬((0:bq)≠0):=by simp
     rw[av g1,av q1,av q2,av g2]
    simp(disch:=omega)only[aj,ad,QM,WP,↓ab,hn,h7,h8,hw,a8 sF,hv.aL.aQ a3,ax g1',ax g2',aB];obtain⟨s2,rfl⟩:∃t,t=s1:=⟨_,rfl⟩
    have gH:=nJ;have dP:=aF
    all_goals
     obtain⟨pp,bb,gH,rT⟩:∃p b,gK s.next s2 j p M b/\sE M l [] []=fin b r p:=⟨_,_,gH,rT⟩
     have vl:=hx.keeps dP;refine Comes.bD (fun q f s' =>∃i' :b7,q=l.length-i' /\i' <=l.length/\s' =s2/\sign (l.drop i')=sign r/\f.n=123/\f.get 0=x/\f.get 6= .pointer (some ⟨j,0,some 4⟩)/\f.get 8= .int .i64 i')
      (fun y f s' =>y= .exit 3/\s' =s2/\∃i' :b7,i' <=l.length/\(i' <l.length->dY (l.getD i' 0).toNat=false)/\sign (l.drop i')=sign r/\f.n=123/\f.get 0=x/\f.get 6= .pointer (some ⟨j,0,some 4⟩)/\f.get 8= .int .i64 i')
      ⟨i+1,rfl,by omega,rfl,by rw[hr],by simp only[ag,hn],by simp only[aa,↓ab,WP,h0],by simp only[aa,↓ab,WP,h6],by simp only[aa,↓ab];rfl⟩ ?_ ?_
     ·clear hn h0 h6 h7 h8 f;rintro Q hQ q f s5 ⟨i',rfl,sO,oE,oZ,hn,h0,h6,h8⟩;subst oE;by_cases zq:i' <l.length
      ·have iG:(i' :bq)<l.length:=by omega
       have zx:=qn zq;obtain⟨c',gj⟩:∃c',c' =l.getD i' 0:=⟨_,rfl⟩
       have NW:=c'.toNat_lt;simp(disch:=omega)only[aj,ak,ad,QM,WP,↓ab,hn,h0,h8,a8 iG,vl.aQ aC,vl.indexAddr aC cO,vl.cu gQ,aW,<-gj,a9 cM ee,aB];refine(pH y9 s5 _).mono ?_;rintro _ s5 ⟨rfl,rfl⟩;by_cases hw:dY c'.toNat=true
       ·simp(disch:=omega)only[aj,QM,WP,↓ab,hn,h8,hw,aB];rw[<-gj] at zx;refine ar (l.length-(i' +1)) (by omega) ⟨i' +1,rfl,by omega,rfl,?_,by simp only[ag,hn],by simp only[aa,↓ab,WP,h0],by simp only[aa,↓ab,WP,h6],by simp only[aa,↓ab];rfl⟩;rw[zx] at oZ;rw[<-oZ];simp only[sign];rw[a0 hw]
       simp only[Bool.not_eq_true] at hw;simp only[aj,QM,WP,↓ab,hn,hw];exact hQ _ _ _ ⟨rfl,rfl,i',sO,fun _=>by rw[<-gj];exact hw,oZ,by simp only[aa,ag,↓ab,WP,hn,h0,h6,h8,cp]⟩
      have iG:¬(i' :bq)<l.length:=by omega
      simp only[aj,ak,ad,QM,WP,↓ab,hn,h0,h8,ax iG,vl.aQ aC];exact hQ _ _ _ ⟨rfl,rfl,i',sO,fun h=>cg h zq,oZ,by simp only[aa,ag,↓ab,WP,hn,h0,h6,h8,cp]⟩
     clear hn h0 h6 h7 h8 f;rintro _ f s5 ⟨rfl,oE,i',sO,Rt,oZ,hn,h0,h6,h8⟩;subst oE;by_cases zq:i' <l.length
     ·have iG:¬(l.length:bq)<=i' :=by omega
      have zx:=qn zq;have hw:=Rt zq;obtain⟨c',gj⟩:∃c',c' =l.getD i' 0:=⟨_,rfl⟩
      rw[<-gj] at zx hw;have fL:(sign r).1=(c'.toNat:bq):=by
       rw[<-oZ,zx];simp only[sign];rw[av (by rw[hw];decide)]
      by_cases zA:(c'.toNat:bq)=62
      ·simp(disch:=omega)only[aj,ak,ad,QM,WP,↓ab,hn,h0,h6,h8,ax iG,vl.aQ aC,vl.indexAddr aC cO,vl.cu gQ,aW,<-gj,a8 zA];refine(cZ mA s.next s5 j pp M bb gH).mono ?_;rintro _ s6 ⟨B2,rfl,kQ,ig,cU⟩;simp only[aj,al,oneOf,QM,WP,↓ab,hn,aH,cb,b4,b5,cB];have hz:sE M l [] []=(if bb=0 then pp else [],bb):=by
        rw[rT];unfold fin
        by_cases hb:bb=0
        ·rw[av (by simp[hb]),av (by omega),a0 (by rw[fL];exact zA),a0 hb,hb]
        rw[a0 hb,av hb]
       rw[hz];exact⟨_,rfl,kQ,ig,(dP).trans cU⟩
      simp(disch:=omega)only[aj,ak,ad,QM,WP,↓ab,hn,h0,h6,h8,ax iG,vl.aQ aC,vl.indexAddr aC cO,vl.cu gQ,aW,<-gj,ax zA];refine(cy sR s.next s5 j pp M bb 4 gH).mono ?_;rintro _ s6 ⟨Ff,cU⟩;simp only[aj,ak,ad,QM,WP,↓ab,hn,h6];refine(cZ mA s.next s6 j pp M _ Ff).mono ?_;rintro _ s7 ⟨B2,rfl,kQ,ig,iX⟩;simp only[aj,al,oneOf,QM,WP,↓ab,hn,aH,cb,b4,b5,cB];have hz:sE M l [] []=([],if bb=0 then 4 else bb):=by
       rw[rT];unfold fin
       by_cases hb:bb=0
       ·rw[av (by simp[hb]),av (by omega),av (by rw[fL];exact zA),a0 hb]
       rw[a0 hb,av hb]
      rw[hz];have cE:¬(if bb=0 then(4:bq) else bb)=0:=by split<;>omega
      rw[av cE] at kQ;exact⟨_,rfl,kQ,ig,(dP).trans (cU.trans iX)⟩
     have iG:(l.length:bq)<=i' :=by omega
     have fL:(sign r).1= -1:=by rw[<-oZ,dw (by omega)];rfl
     simp only[aj,ak,ad,QM,WP,↓ab,hn,h0,h6,h8,a8 iG,vl.aQ aC];refine(cy sR s.next s5 j pp M bb 2 gH).mono ?_;rintro _ s6 ⟨Ff,cU⟩;simp only[aj,ak,ad,QM,WP,↓ab,hn,h6];refine(cZ mA s.next s6 j pp M _ Ff).mono ?_;rintro _ s7 ⟨B2,rfl,kQ,ig,iX⟩;simp only[aj,al,oneOf,QM,WP,↓ab,hn,aH,cb,b4,b5,cB];have hz:sE M l [] []=([],if bb=0 then 2 else bb):=by
      rw[rT];unfold fin
      by_cases hb:bb=0
      ·rw[av (by simp[hb]),a0 (by omega),a0 hb]
      rw[a0 hb,av hb]
     rw[hz];have cE:¬(if bb=0 then(2:bq) else bb)=0:=by split<;>omega
     rw[av cE] at kQ;exact⟨_,rfl,kQ,ig,(dP).trans (cU.trans iX)⟩
   rw[av sF] at hu;by_cases cz:(c.toNat:bq)=122/\g=[]
   ·obtain⟨u7,rfl⟩:=cz;rw[a0 ⟨u7,rfl⟩] at hu;have Sa:=ZS rfl;simp only[aj,ak,ad,QM,WP,↓ab,hn,h7,hw,ax sF,a8 u7,hv.aL.aQ a3,cX,Int.natCast_zero];subst Sa;refine Comes.bD (fun q f s' =>∃(k:b7) (P' :a2 bl) (bad:bq),q=4-k/\k<=4/\gK s.next s' j P' M bad/\aw s.next s s' /\P'.length<=P.length+k/\(bad=0->P' =P++eh k 0/\(k=0\/(k:bq)<=M-P.length))/\(bad≠0->bad=7/\M-P.length<4)/\f.n=123/\f.get 0=x/\f.get 6= .pointer (some ⟨j,0,some 4⟩)/\f.get 7= .slice none 0 0/\f.get 8= .int .i64 i/\f.get 10= .int .i64 k)
     (fun y f s' =>y= .exit 5/\∃(P' :a2 bl) (bad:bq),gK s.next s' j P' M bad/\aw s.next s s' /\(bad=0->P' =P++eh 4 0/\(4:bq)<=M-P.length)/\(bad≠0->bad=7/\M-P.length<4)/\f.n=123/\f.get 0=x/\f.get 6= .pointer (some ⟨j,0,some 4⟩)/\f.get 7= .slice none 0 0/\f.get 8= .int .i64 i)
     ⟨0,P,0,rfl,by omega,nJ,aF,by omega,fun _=>⟨by simp,.inl rfl⟩,fun e=>cg rfl e,by simp only[aa,ag,↓ab,WP,hn,h0,h6,h7,h8,cc];rfl⟩ ?_ ?_
    ·clear hn h0 h6 h7 h8 f;rintro Q hQ q f s2 ⟨k,P',bad,rfl,hk,gH,aR,Wq,hgd,YJ,hn,h0,h6,h7,h8,cJ⟩;by_cases hk4:k<4
     ·have ack:(k:bq)<4:=by omega
      simp only[aj,ak,ad,QM,WP,↓ab,hn,h6,cJ,a8 ack];refine(ji tI s.next s2 j P' M bad 0 gH (by omega)).mono ?_;rintro _ s3 ⟨jy,bA⟩;simp(disch:=omega)only[aj,QM,WP,↓ab,hn,cJ,aB];have mq:=aR.trans bA;by_cases hb:bad=0
      ·obtain⟨hP',hkM⟩:=hgd hb;have zq:P'.length=P.length+k:=by rw[hP',bz,eb]
       by_cases gN:M<=P'.length
       ·rw[av (by omega),a0 ⟨hb,gN⟩] at jy;refine ar (4-(k+1)) (by omega) ⟨k+1,P',7,rfl,by omega,jy,mq,by omega,fun e=>cg e (by decide),fun _=>⟨rfl,by omega⟩,by simp only[ag,hn],by simp only[aa,↓ab,WP,h0],by simp only[aa,↓ab,WP,h6],by simp only[aa,↓ab,WP,h7],by simp only[aa,↓ab,WP,h8],by simp only[aa,↓ab];rfl⟩
       rw[a0 ⟨hb,by omega⟩,av (by omega)] at jy;refine ar (4-(k+1)) (by omega) ⟨k+1,_,bad,rfl,by omega,jy,mq,by simp;omega,fun _=>⟨by rw[hP',List.replicate_succ',List.append_assoc],.inr (by omega)⟩,fun e=>cg hb e,by simp only[aa,ag,↓ab,WP,hn,h0,h6,h7,h8,cc];rfl⟩
      rw[av (fun e=>hb e.1),av (fun e=>hb e.1)] at jy;refine ar (4-(k+1)) (by omega) ⟨k+1,P',bad,rfl,by omega,jy,mq,by omega,fun e=>cg e hb,YJ,by simp only[aa,ag,↓ab,WP,hn,h0,h6,h7,h8,cc];rfl⟩
     obtain rfl:k=4:=by omega
     have ack:¬((4:b7):bq)<4:=by omega
     simp only[aj,ak,QM,↓ab,hn,cJ,ax ack];exact hQ _ _ _ ⟨rfl,P',bad,gH,aR,fun e=>⟨(hgd e).1,by have:=(hgd e).2;omega⟩,YJ,by simp only[aa,ag,↓ab,WP,hn,h0,h6,h7,h8,cp]⟩
    clear hn h0 h6 h7 h8 f;rintro _ f s2 ⟨rfl,P',bad,gH,aR,hgd,YJ,hn,h0,h6,h7,h8⟩;simp(disch:=omega)only[aj,QM,↓ab,hn,h8,aB];by_cases hb:bad=0
    ·obtain⟨rfl,hM4⟩:=hgd hb;subst hb;rw[av (by omega)] at hu;refine ar (l.length+1-(i+1)) hq ⟨i+1,_,0,[],.slice none 0 0,rfl,fun _=>⟨by omega,by simp;omega,by rw[<-hr];exact hu,by simp,by simp,.nil,aM.nil _,gH.apart,fun _=>rfl⟩,fun h=>cg rfl h,gH,aR,by simp only[ag,hn],by simp only[aa,↓ab,WP,h0],by simp only[aa,↓ab,WP,h6],by simp only[aa,↓ab,WP,h7],by simp only[aa,↓ab];rfl⟩
    obtain⟨rfl,hM4⟩:=YJ hb;rw[a0 hM4] at hu;refine ar 0 XM ⟨i+1,P',7,[],.slice none 0 0,rfl,fun h=>cg h (by decide),fun _=>hu.symm,gH,aR,by simp only[aa,ag,↓ab,WP,hn,h0,h6,h7,cc];rfl⟩
   rw[av cz] at hu;by_cases u7:(c.toNat:bq)=122
   ·have XZ:¬(g.length:bq)=0:=fun e=>cz ⟨u7,cT (by omega)⟩
    have d1:¬(c.toNat:bq)<33:=by omega
    have d2:(117:bq)<c.toNat:=by omega
    rw[a0 (by omega)] at hu;simp only[aj,ak,ad,QM,WP,↓ab,hn,h6,h7,hw,ax sF,a8 u7,hv.aL.aQ a3,ax XZ,ax d1,a8 d2];refine(cy sR s.next s1 j P M 0 4 nJ).mono ?_;rintro _ s2 ⟨gH,aR⟩;rw[a0 rfl] at gH;simp(disch:=omega)only[aj,QM,WP,↓ab,hn,h8,aB];refine ar 0 XM ⟨i+1,P,4,g,v,rfl,fun h=>cg h (by decide),fun _=>hu.symm,gH,aF.trans aR,by simp only[ag,hn],by simp only[aa,↓ab,WP,h0],by simp only[aa,↓ab,WP,h6],by simp only[aa,↓ab,WP,h7],by simp only[aa,↓ab];rfl⟩
   by_cases d1:(c.toNat:bq)<33
   ·rw[a0 (by omega)] at hu;simp only[aj,ak,ad,QM,WP,↓ab,hn,h6,hw,ax sF,ax u7,a8 d1];refine(cy sR s.next s1 j P M 0 4 nJ).mono ?_;rintro _ s2 ⟨gH,aR⟩;rw[a0 rfl] at gH;simp(disch:=omega)only[aj,QM,WP,↓ab,hn,h8,aB];refine ar 0 XM ⟨i+1,P,4,g,v,rfl,fun h=>cg h (by decide),fun _=>hu.symm,gH,aF.trans aR,by simp only[ag,hn],by simp only[aa,↓ab,WP,h0],by simp only[aa,↓ab,WP,h6],by simp only[aa,↓ab,WP,h7],by simp only[aa,↓ab];rfl⟩
   by_cases d2:(117:bq)<c.toNat
   ·rw[a0 (by omega)] at hu;simp only[aj,ak,ad,QM,WP,↓ab,hn,h6,hw,ax sF,ax u7,ax d1,a8 d2];refine(cy sR s.next s1 j P M 0 4 nJ).mono ?_;rintro _ s2 ⟨gH,aR⟩;rw[a0 rfl] at gH;simp(disch:=omega)only[aj,QM,WP,↓ab,hn,h8,aB];refine ar 0 XM ⟨i+1,P,4,g,v,rfl,fun h=>cg h (by decide),fun _=>hu.symm,gH,aF.trans aR,by simp only[ag,hn],by simp only[aa,↓ab,WP,h0],by simp only[aa,↓ab,WP,h6],by simp only[aa,↓ab,WP,h7],by simp only[aa,↓ab];rfl⟩
   rw[av (by omega)] at hu;obtain⟨d,hd⟩:∃d,d=c.toNat-33:=⟨_,rfl⟩
   rw[<-hd] at hu;have UY:d<85:=by omega
   have hdc:(c.toNat:bq)-33=((d+0:b7):bq):=by omega
   simp(disch:=omega)only[aj,ak,ae,QM,WP,↓ab,hn,h7,hw,ax sF,ax u7,ax d1,ax d2,hdc,aB,gI a3 aV W4];refine cj a3 aV YW W4 rfl hv (by simp only[aa,↓ab,WP]) (by decide) (by simp only[ag,hn];decide) (by simp only[ag,hn];decide) (by rfl) (by decide) rfl (by omega) (by omega) xp aF.next ?_;intro bs v' s3 Gi IY bA jE B1;have U0:nI 0 g++[.int .i64 ((d+0:b7):bq)]=nI 0 (g++[d]):=by
    simp only[nI,List.map_append,List.map_cons,List.map_nil]
   rw[U0] at Gi;have Tk:∀a∈g++[d],a<85:=fun a ha=>by
    rcases ck.mp ha with ha|ha
    ·exact Ry a ha
    rw[bt.mp ha];exact UY
   have XZ:(g++[d]).length=g.length+1:=by simp
   have VT:=agj.turns jE B1;have mq:=aF.trans bA;by_cases g5:g.length=4
   ·have g5' :((g.length+1:b7):bq)=5:=by omega
    rw[a0 g5] at hu;simp only[aj,ak,ad,QM,WP,↓ab,hn,h6,Gi.aL.aQ a3,a8 g5'];rw[<-XZ] at Gi;refine(H4 hlg sR tI s.next s3 j P M (g++[d]) v' VT.is Gi.aL Tk (by omega) (by omega) (by omega)).mono ?_;rintro _ s4 ⟨⟨P2,I7,Ws⟩,eP⟩;have qj:=mq.trans eP;have tD:=Pv M (g++[d]) 4 P (by omega);have e4:(g++[d]).length-1=4:=by omega
    rw[e4] at I7 Ws;obtain⟨y,hy⟩:∃y,y=HG M (g++[d]) 4 P:=⟨_,rfl⟩
    rw[<-hy] at I7 Ws tD hu;simp(disch:=omega)only[aj,QM,WP,↓ab,hn,h8,aB];by_cases fF:y.2=0
    ·rw[a0 fF,<-Ws fF] at hu;rw[fF] at I7;rw[<-Ws fF] at tD;refine ar (l.length+1-(i+1)) hq ⟨i+1,P2,0,[],.slice none 0 0,rfl,fun _=>⟨by omega,by omega,by rw[<-hr];exact hu,by simp,by simp,.nil,aM.nil _,I7.apart,fun _=>rfl⟩,fun h=>cg rfl h,I7,qj,by simp only[ag,hn],by simp only[aa,↓ab,WP,h0],by simp only[aa,↓ab,WP,h6],by simp only[aa,↓ab,WP],by simp only[aa,↓ab];rfl⟩
    rw[av fF] at hu;refine ar 0 XM ⟨i+1,P2,y.2,[],.slice none 0 0,by rw[av fF],fun h=>cg h fF,fun _=>hu.symm,I7,qj,by simp only[aa,ag,↓ab,WP,hn,h0,h6,cc];rfl⟩
   have g5' :¬((g.length+1:b7):bq)=5:=by omega
   rw[av g5] at hu;simp(disch:=omega)only[aj,ad,QM,WP,↓ab,hn,h8,Gi.aL.aQ a3,ax g5',aB];rw[<-XZ] at Gi;refine ar (l.length+1-(i+1)) hq ⟨i+1,P,0,g++[d],v',rfl,fun _=>⟨by omega,by omega,by rw[<-hr];exact hu,by omega,Tk,Gi,IY,VT,fun e=>by simp at e⟩,fun h=>cg rfl h,VT.is,mq,by simp only[ag,hn],by simp only[aa,↓ab,WP,h0],by simp only[aa,↓ab,WP,h6],by simp only[aa,↓ab,WP],by simp only[aa,↓ab];rfl⟩
  simp only[aj,ak,ad,QM,WP,↓ab,hn,h0,h6,h8,a8 BO,kU.aQ aC,pG,l2,ax hb];refine(cy sR s.next s1 j P M bad 2 nJ).mono ?_;rintro _ s2 ⟨gH,aR⟩;simp only[aj,ak,ad,QM,WP,↓ab,hn,h6];refine(cZ mA s.next s2 j P M _ gH).mono ?_;rintro _ s3 ⟨B2,rfl,kQ,ig,bA⟩;simp only[aj,al,oneOf,QM,WP,↓ab,hn,aH,cb,b4,b5,cB];rw[hex (fun h=>cg h hb)];simp only[hb,ew] at kQ|-
  exact⟨_,rfl,kQ,ig,aF.trans (aR.trans bA)⟩
 have BO:¬(i:bq)<l.length:=by omega
 simp only[aj,ak,ad,QM,WP,↓ab,hn,h0,h6,h8,ax BO,kU.aQ aC];refine(cy sR s.next s1 j P M bad 2 nJ).mono ?_;rintro _ s2 ⟨gH,aR⟩;simp only[aj,ak,ad,QM,WP,↓ab,hn,h6];refine(cZ mA s.next s2 j P M _ gH).mono ?_;rintro _ s3 ⟨B2,rfl,kQ,ig,bA⟩;simp only[aj,al,oneOf,QM,WP,↓ab,hn,aH,cb,b4,b5,cB];rw[hex (fun _=>by omega)];by_cases mI:bad=0
 ·simp only[mI,if_true,show¬(2:bq)=0 by decide,ew] at kQ|-
  exact⟨_,rfl,kQ,ig,aF.trans (aR.trans bA)⟩
 simp only[mI,ew] at kQ|-
 exact⟨_,rfl,kQ,ig,aF.trans (aR.trans bA)⟩
end Go.Proofs.YtdfjfncifneocaaGreat
namespace Go.Proofs.YtdfjfncifneocaaGreat
open Go.Cl Go.Cl.Pr Go.Cl.Ch Go.Cl.Hx Go.Cl.B85 Go.Cl.Uh
theorem ZT:VL dR:=⟨rfl,rfl,rfl,rfl,rfl,rfl⟩
theorem Sb (s:au)(l:Lk)(x:bw)(b:a2 bl)(most:bq)(hx:aU s 1 x b.length (ofBytes b))(hb:b.length<=4000000)(hm:most<=20000000):
  Runs af dR 40 [eN l,x,.int .i64 most] s (rK s (fX l b most)):=by
 obtain⟨QQ,eK⟩:∃QQ:bw->au->Prop,QQ=rK s (fX l b most):=⟨_,rfl⟩
 rw[<-eK];refine Runs.enter 56 Tryz.func40 rfl rfl rfl rfl ?_;intro f hn hf;have h0:f.get 0=eN l:=hf 0;have h1:f.get 1=x:=hf 1;have h2:f.get 2= .int .i64 most:=hf 2;clear hf;simp only[aj,QM,↓ab,hn,h0];refine aA ?_;intro s1 ht aF vR;have ht:az s1 s.next l.cells:=ht;have hd:l.cells.length+1=6:=rfl;have kU:=hx.keeps aF;have n1:=aF.next;have p3:aN af s1 9 (.pointer (some ⟨s.next,3,some 6⟩))=some (.string ⟨l.name.toArray⟩):=ht.load uL (off:=3) (c:=6) rfl (by simp[Lk.cells]);have la:∀t,aw s1.next s1 t->aN af t 66 (.pointer (some ⟨s.next,0,some 6⟩))=some (i3 l.p l.co l.cl):=fun t h=>by
  have:=az.qc (P:=af) O8 Hq (ht.keeps h) (off:=0) (c:=6) rfl (by simp[Lk.cells]);rw[this];rfl
 have e1:=fJ (P:=af) (t:=9) l.name nC;have e2:=fJ (P:=af) (t:=9) l.name Ak;have e3:=fJ (P:=af) (t:=9) l.name sA;have e4:=fJ (P:=af) (t:=9) l.name Q4;rw[show nC.toArray= #[70,108,97,116,101,68,101,99,111,100,101] from rfl] at e1;rw[show Ak.toArray= #[76,90,87,68,101,99,111,100,101] from rfl] at e2;rw[show sA.toArray= #[65,83,67,73,73,72,101,120,68,101,99,111,100,101] from rfl] at e3;rw[show Q4.toArray= #[65,83,67,73,73,56,53,68,101,99,111,100,101] from rfl] at e4;by_cases c1:l.name=nC
 ·rw[an c1] at e1;have eu:fX l b most=jQ l (RZ b most):=by unfold fX;rw[a0 c1]
  have Sz:=E8 b most;simp only[aj,ak,ad,QM,WP,↓ab,hn,h1,h2,hd,Uy,p3,e1];have r:=LU s1 x b (8*b.length+fuelZ) kU (by omega) most (by omega) (by rw[LP];omega);refine r.mono ?_;intro v s2 hv;have hv:∃w n,v= .tuple #[w,.int .i64 n,.int .i64 (RZ b most).2]/\gz s1 w s2 (RZ b most).1:=by
   unfold RZ;cases h:Nf.ti (8*b.length+fuelZ) b most.toNat with
   |error e=>rw[h] at hv;obtain⟨rfl,k⟩:=hv;exact⟨_,_,rfl,⟨.nil,aM.nil _,k⟩⟩
   |ok r=>rw[h] at hv;obtain⟨o,rfl,ho,hF,k⟩:=hv;exact⟨_,_,rfl,⟨ho,hF,k⟩⟩
  obtain⟨w,n,rfl,hw⟩:=hv;generalize RZ b most=r at Sz hw eu;have x0:aH (.tuple #[w,.int .i64 n,.int .i64 r.2]) 0=some w:=rfl;have x1:aH (.tuple #[w,.int .i64 n,.int .i64 r.2]) 1=some (.int .i64 n):=rfl;have x2:aH (.tuple #[w,.int .i64 n,.int .i64 r.2]) 2=some (.int .i64 r.2):=rfl;have hk:aw s.next s s2:=aF.trans (hw.stay.weaken n1);by_cases c9:r.2=0;rotate_left
  ·have e9:jQ l r=([],r.2):=by unfold jQ;rw[a0 c9]
   simp only[aj,ak,al,oneOf,QM,WP,↓ab,hn,x0,x1,x2,ca,ao c9,ch];rw[eK,eu,e9];exact⟨_,rfl,⟨.nil,aM.nil _,hk⟩⟩
  have e9:jQ l r=ks l.p l.co l.cl r.1:=by unfold jQ;rw[av (fun h=>h c9)]
  simp only[aj,ak,ad,QM,WP,↓ab,hn,x0,x1,x2,ca,an c9,IX,la _ hw.stay];refine(Fb (lib:=dR) ZT rfl s2 l.p l.co l.cl w r.1 hw.own.aL (by omega)).mono ?_;rintro _ s3 ⟨z,rfl,hz⟩;have y0:∀q,aH (.tuple #[z,q]) 0=some z:=fun _=>rfl
  have y1:∀q,aH (.tuple #[z,q]) 1=some q:=fun _=>rfl
  simp only[aj,al,oneOf,QM,WP,↓ab,hn,y0,y1,ch];rw[eK,eu,e9];exact⟨z,rfl,hz.behind hk⟩
 rw[ao c1] at e1;by_cases c2:l.name=Ak
 ·rw[an c2] at e2;have eu:fX l b most=jQ l (Wv b most):=by unfold fX;rw[av c1,a0 c2]
  have Sz:=E9 b most;simp only[aj,ak,ad,QM,WP,↓ab,hn,h1,h2,hd,Uy,p3,e1,e2];refine(LV (lib:=dR) rfl rfl rfl rfl rfl rfl rfl s1 x b most most.toNat (by split<;>omega) kU (.inr ⟨hb,by omega⟩)).mono ?_;intro v s2 hv;obtain⟨w,rfl,hw⟩:∃w,v= .tuple #[w,.int .i64 (Wv b most).2]/\gz s1 w s2 (Wv b most).1:=mv.LQ hv
  generalize Wv b most=r at Sz hw eu;have x0:aH (.tuple #[w,.int .i64 r.2]) 0=some w:=rfl;have x1:aH (.tuple #[w,.int .i64 r.2]) 1=some (.int .i64 r.2):=rfl;have hk:aw s.next s s2:=aF.trans (hw.stay.weaken n1);by_cases c9:r.2=0;rotate_left
  ·have e9:jQ l r=([],r.2):=by unfold jQ;rw[a0 c9]
   simp only[aj,ak,al,oneOf,QM,WP,↓ab,hn,x0,x1,ca,ao c9,ch];rw[eK,eu,e9];exact⟨_,rfl,⟨.nil,aM.nil _,hk⟩⟩
  have e9:jQ l r=ks l.p l.co l.cl r.1:=by unfold jQ;rw[av (fun h=>h c9)]
  simp only[aj,ak,ad,QM,WP,↓ab,hn,x0,x1,ca,an c9,IX,la _ hw.stay];refine(Fb (lib:=dR) ZT rfl s2 l.p l.co l.cl w r.1 hw.own.aL (by omega)).mono ?_;rintro _ s3 ⟨z,rfl,hz⟩;have y0:∀q,aH (.tuple #[z,q]) 0=some z:=fun _=>rfl
  have y1:∀q,aH (.tuple #[z,q]) 1=some q:=fun _=>rfl
  simp only[aj,al,oneOf,QM,WP,↓ab,hn,y0,y1,ch];rw[eK,eu,e9];exact⟨z,rfl,hz.behind hk⟩
 rw[ao c2] at e2;by_cases c3:l.name=sA
 ·rw[an c3] at e3;have eu:fX l b most=Bu (oB most) b (-1) []:=by unfold fX;rw[av c1,av c2,a0 c3]
  simp only[aj,ak,ad,QM,WP,↓ab,hn,h1,h2,hd,Uy,p3,e1,e2,e3];refine(Ou (lib:=dR) rfl rfl rfl rfl rfl rfl s1 x b most (oB most) rfl kU (by omega)).mono ?_;intro v s2 hv;obtain⟨w,rfl,hw⟩:=mv.LQ hv;have x0:∀z,aH (.tuple #[w,z]) 0=some w:=fun _=>rfl
  have x1:∀z,aH (.tuple #[w,z]) 1=some z:=fun _=>rfl
  simp only[aj,al,oneOf,QM,WP,↓ab,hn,x0,x1,ch];rw[eK,eu];exact⟨w,rfl,hw.behind aF⟩
 rw[ao c3] at e3;by_cases c4:l.name=Q4
 ·rw[an c4] at e4;have eu:fX l b most=sE (oB most) b [] []:=by unfold fX;rw[av c1,av c2,av c3,a0 c4]
  simp only[aj,ak,ad,QM,WP,↓ab,hn,h1,h2,hd,Uy,p3,e1,e2,e3,e4];refine(VS (lib:=dR) rfl rfl rfl rfl rfl rfl s1 x b most (oB most) rfl kU (by omega)).mono ?_;intro v s2 hv;obtain⟨w,rfl,hw⟩:=mv.LQ hv;have x0:∀z,aH (.tuple #[w,z]) 0=some w:=fun _=>rfl
  have x1:∀z,aH (.tuple #[w,z]) 1=some z:=fun _=>rfl
  simp only[aj,al,oneOf,QM,WP,↓ab,hn,x0,x1,ch];rw[eK,eu];exact⟨w,rfl,hw.behind aF⟩
 rw[ao c4] at e4;have eu:fX l b most=Runs.dec most b []:=by unfold fX;rw[av c1,av c2,av c3,av c4]
 simp only[aj,ak,ad,QM,WP,↓ab,hn,h1,h2,hd,Uy,p3,e1,e2,e3,e4];refine(I6 (lib:=dR) rfl rfl rfl rfl rfl s1 x b most kU (by omega)).mono ?_;intro v s2 hv;obtain⟨w,rfl,hw⟩:=mv.LQ hv;have x0:∀z,aH (.tuple #[w,z]) 0=some w:=fun _=>rfl
 have x1:∀z,aH (.tuple #[w,z]) 1=some z:=fun _=>rfl
 simp only[aj,al,oneOf,QM,WP,↓ab,hn,x0,x1,ch];rw[eK,eu];exact⟨w,rfl,hw.behind aF⟩
end Go.Proofs.YtdfjfncifneocaaGreat
namespace Go.Proofs.YtdfjfncifneocaaGreat
open Go.Cl Go.Cl.Pr Go.Cl.Ch
def mX:a2 Lk->a2 bl->bq->a2 bl×bq
 |[],b,_=>(b,0)
 |l::r,b,m=>if(fX l b m).2≠0 then([],(fX l b m).2) else mX r (fX l b m).1 m
def Fits:a2 Lk->a2 bl->bq->Prop
 |[],_,_=>True
 |l::r,b,m=>b.length<=4000000/\((fX l b m).2=0->Fits r (fX l b m).1 m)
def Cd (o:O)(m:bq):a2 bl×bq:=
 if(df o).2≠0 then([],(df o).2) else if¬∀l∈(df o).1,l.name∈rI then([],11) else mX (df o).1 o.bytes m
theorem zo (F:b7->Prop)(s:au)(cs:a2 bw)(o:O)(ho:dV F s cs o)(iW:Small o)(m:bq)(hm:m<=20000000)(hL:(df o).1.length<=1000)(gm:Fits (df o).1 o.bytes m):
  Runs af dR 14 [.agg cs.toArray,.int .i64 m] s (rK s (Cd o m)):=by
 have iz:=ho.len;obtain⟨QQ,eK⟩:∃QQ:bw->au->Prop,QQ=rK s (Cd o m):=⟨_,rfl⟩
 rw[<-eK];refine Runs.enter 52 Tryz.func14 rfl rfl rfl rfl ?_;intro f hn hf;have h0:f.get 0= .agg cs.toArray:=hf 0;have h1:f.get 1= .int .i64 m:=hf 1;clear hf;have UK:=c8;have IU:b6 af 58=some (eN ⟨0,0,0,[],0⟩):=by kernel_rfl
 have vS:cr (eN ⟨0,0,0,[],0⟩)=true:=by kernel_rfl
 have Sx:(⟨0,0,0,[],0⟩:Lk).cells.length+1=6:=rfl;simp only[aj,QM,↓ab,hn,h0];refine aA ?_;intro s1 eJ aY gG;have n1:=aY.next;simp only[aj,ak,ad,QM,WP,cm,↓ab,hn,iz,az.fi eJ iz];refine(uR F s1 cs o (ho.keeps aY) iW).mono ?_;obtain⟨R,hR⟩:∃R,R=df o:=⟨_,rfl⟩
 have hD:Cd o m=if R.2≠0 then([],R.2) else if¬∀l∈R.1,l.name∈rI then([],11) else mX R.1 o.bytes m:=by unfold Cd;rw[<-hR]
 rw[<-hR] at gm hL|-
 obtain⟨L,e⟩:=R;dsimp only at hD gm hL;rintro _ s2 ⟨y,rfl,hy,ko,k2⟩;dsimp only at hy|-
 have n2:=k2.next;have aR:aw s.next s s2:=aY.trans (k2.weaken n1);have x0:aH (.tuple #[y,.int .i64 e]) 0=some y:=rfl;have x1:aH (.tuple #[y,.int .i64 e]) 1=some (.int .i64 e):=rfl;by_cases c0:e=0;rotate_left
 ·simp only[aj,ak,al,oneOf,QM,WP,↓ab,hn,x0,x1,ca,ao c0,c6];rw[eK,hD,a0 c0];exact⟨_,rfl,⟨.nil,aM.nil _,aR⟩⟩
 rw[av (fun h=>h c0)] at hD;simp only[aj,ak,ad,QM,WP,↓ab,hn,x0,x1,ca,an c0,hy.aL.aQ UK];refine Comes.bD (fun q f t=>∃i:b7,q=L.length-i/\i<=L.length/\(∀l∈L.take i,l.name∈rI)/\aw s2.next s2 t/\f.n=52/\f.get 1= .int .i64 m/\f.get 2= .pointer (some ⟨s.next,0,some 6⟩)/\f.get 6=y/\f.get 21=y/\f.get 22= .int .i64 (L.length:b7)/\f.get 23= .int .i64 (i:b7))
  (fun q f t=>(q= .ret/\(¬∀l∈L,l.name∈rI)/\aw s2.next s2 t/\f.n=52/\f.get 4= .slice none 0 0/\f.get 5= .int .i64 11)\/(q= .exit 0/\(∀l∈L,l.name∈rI)/\aw s2.next s2 t/\f.n=52/\f.get 1= .int .i64 m/\f.get 2= .pointer (some ⟨s.next,0,some 6⟩)/\f.get 6=y))
  ⟨0,rfl,by omega,by simp,aw.refl _ _,by simp only[aa,ag,↓ab,WP,hn,h1,cc];rfl⟩ ?_ ?_
 ·clear hn h0 h1 f;rintro Q hQ q f t ⟨i,rfl,hi,kE,aF,hn,h1,h2,h6,h21,h22,Wu⟩;have nt:=aF.next;by_cases a7:i<L.length;rotate_left
  ·obtain rfl:i=L.length:=by omega
   have d1:¬((L.length:b7):bq)<((L.length:b7):bq):=by omega
   rw[cx] at kE;simp only[aj,QM,↓ab,hn,h22,Wu,ax d1];exact hQ _ _ _ (.inr ⟨rfl,kE,aF,by simp only[aa,ag,↓ab,WP,hn,h1,h2,h6,cp]⟩)
  have d1:(i:bq)<(L.length:bq):=by omega
  have JE:=hy.keeps aF;have fk:=JE.aL.indexAddr (P:=af) (k:= .i64) (x:=(i:bq)) UK gl (by omega) (by omega);rw[bk] at fk;have eF:=JE.aL.fZ (P:=af) qh gl a7;rw[Eo a7] at eF;obtain⟨l,hl⟩:∃l,l=L[i]:=⟨_,rfl⟩
  rw[<-hl] at eF;simp only[aj,QM,WP,↓ab,hn,h21,h22,Wu,a8 d1,fk,eF,IU,vS];refine aA ?_;intro s7 xO iX uK;simp only[aj,QM,WP,↓ab,hn,Sx];refine aG gl (by decide) xO rfl rfl rfl rfl ?_;intro s8 xj JD Yx;have xj:az s8 t.next l.cells:=xj;have n7:=iX.next;have k8:aw t.next t s8:=iX.trans ⟨by omega,fun j hj=>Yx j (by omega)⟩;have la:aN af s8 58 (.pointer (some ⟨t.next,0,some 6⟩))=some (eN l):=az.bd (P:=af) (cs:=l.cells) qh gl xj (c:=6) rfl;simp only[aj,ak,ad,QM,↓ab,hn,la];refine(Q6 s8 l).mono ?_;rintro _ s9 ⟨rfl,k9⟩;have ot:aw s2.next s2 s9:=(aF.trans (k8.weaken nt)).trans (k9.weaken (by have:=k8.next;omega));by_cases c1:l.name∈rI;rotate_left
  ·rw[ao c1];simp only[aj,QM,↓ab,hn];exact hQ _ _ _ (.inl ⟨rfl,fun h=>c1 (h l (by rw[hl];exact cA a7)),ot,by simp only[aa,ag,↓ab,WP,hn,cp]⟩)
  rw[an c1];simp(disch:=omega)only[aj,QM,WP,↓ab,hn,Wu,aB];refine ar (L.length-(i+1)) (by omega) ⟨i+1,rfl,by omega,fun a ha=> ?_,ot,by simp only[ag,hn],by simp only[aa,↓ab,WP,h1],by simp only[aa,↓ab,WP,h2],by simp only[aa,↓ab,WP,h6],by simp only[aa,↓ab,WP,h21],by simp only[aa,↓ab,WP,h22],by simp only[aa,↓ab];rfl⟩;rw[a1 a7,<-hl] at ha;rcases ck.1 ha with ha|ha
  ·exact kE a ha
  rw[bt.1 ha];exact c1
 clear hn h0 h1 f;rintro _ f t (⟨rfl,fF,aF,hn,h4,h5⟩|⟨rfl,kE,aF,hn,h1,h2,h6⟩)
 ·simp only[aj,al,oneOf,QM,↓ab,hn,h4,h5,c6];rw[eK,hD,a0 fF];exact⟨_,rfl,⟨.nil,aM.nil _,aR.trans (aF.weaken aR.next)⟩⟩
 rw[av (fun h=>h kE)] at hD;have nt:=aF.next;have bA:aw s.next s t:=aR.trans (aF.weaken aR.next);obtain⟨bv,tu,nj,m3⟩:∃bv,cs.getD 2 undef=bv/\aU s 1 bv o.bytes.length (ofBytes o.bytes)/\o.bytes.length<=100000000:=by
  cases o with
  |mk k n b l d=>obtain⟨bv,lv,dv,lc,dc,rfl,h1,-⟩:=ho.parts;exact⟨bv,rfl,h1,by cases iW with|mk hb=>exact hb⟩
 have aco:=(eJ.keeps k2).keeps aF;have l2:aN af t 22 (.pointer (some ⟨s.next,2,some 6⟩))=some bv:=by
  have:=aco.load (P:=af) gJ (off:=2) (c:=6) (by omega) (by omega);rw[this,tu]
 simp only[aj,ak,ad,QM,↓ab,hn,h2,M3,l2];refine(xI (lib:=dR) rfl t bv o.bytes (nj.keeps bA) (by omega)).mono ?_;intro v0 t0 Sa;have k0:=Sa.stay;have JE:=hy.keeps (aF.trans (k0.weaken nt));obtain⟨b0,mI⟩:∃b,b=o.bytes:=⟨_,rfl⟩
 rw[<-mI] at Sa hD gm;have nt0:=k0.next;have eP:aw s.next s t0:=bA.trans (k0.weaken bA.next);simp only[aj,ad,QM,WP,↓ab,hn,h6,JE.aL.aQ UK];refine Comes.bD (fun q f u=>∃(i:b7) (v:bw) (c:a2 bl) (z:bq),q=L.length-i/\i<=L.length/\mX L b0 m=mX (L.drop i) c m/\Fits (L.drop i) c m/\Own u 1 v c.length (ofBytes c)/\aM s.next v/\aw t0.next t0 u/\f.n=52/\f.get 1= .int .i64 m/\f.get 10=v/\f.get 34=y/\f.get 35= .int .i64 (L.length:b7)/\f.get 36= .int .i64 (i:b7))
  (fun q f u=>(q= .ret/\∃z:bq,mX L b0 m=([],z)/\aw t0.next t0 u/\f.n=52/\f.get 4= .slice none 0 0/\f.get 5= .int .i64 z)\/(q= .exit 2/\∃v c,mX L b0 m=(c,0)/\Own u 1 v c.length (ofBytes c)/\aM s.next v/\aw t0.next t0 u/\f.n=52/\f.get 10=v))
  ⟨0,v0,b0,0,rfl,by omega,rfl,gm,Sa.own,fun j hj=>by have:=Sa.fresh j hj;have:=bA.next;omega,aw.refl _ _,by simp only[aa,ag,↓ab,WP,hn,h1,cc];rfl⟩ ?_ ?_
 ·clear hn h1 h2 h6 f;rintro Q hQ q f u ⟨i,v,c,_,rfl,hi,hU,hF,hv,xp,aF,hn,h1,cJ,rV,Md,h36⟩;have nu:=aF.next;by_cases a7:i<L.length;rotate_left
  ·obtain rfl:i=L.length:=by omega
   have d1:¬((L.length:b7):bq)<((L.length:b7):bq):=by omega
   rw[eg] at hU;simp only[aj,QM,↓ab,hn,Md,h36,ax d1];exact hQ _ _ _ (.inr ⟨rfl,v,c,hU,hv,xp,aF,by simp only[aa,ag,↓ab,WP,hn,cJ,cp]⟩)
  have d1:(i:bq)<(L.length:bq):=by omega
  have JE:=JE.keeps aF;have fk:=JE.aL.indexAddr (P:=af) (k:= .i64) (x:=(i:bq)) UK gl (by omega) (by omega);rw[bk] at fk;have eF:=JE.aL.fZ (P:=af) qh gl a7;rw[Eo a7] at eF;obtain⟨l,hl⟩:∃l,l=L[i]:=⟨_,rfl⟩
  have zx:L.drop i=l::L.drop (i+1):=by rw[c7 a7,hl]
  rw[<-hl] at eF;rw[zx] at hU hF;obtain⟨hc,ig⟩:=hF;simp only[aj,QM,WP,↓ab,hn,rV,Md,h36,a8 d1,fk,eF,IU,vS];refine aA ?_;intro s7 xO iX uK;simp only[aj,QM,WP,↓ab,hn,Sx];refine aG gl (by decide) xO rfl rfl rfl rfl ?_;intro s8 xj JD Yx;have xj:az s8 u.next l.cells:=xj;have n7:=iX.next;have k8:aw u.next u s8:=iX.trans ⟨by omega,fun j hj=>Yx j (by omega)⟩;have la:aN af s8 58 (.pointer (some ⟨u.next,0,some 6⟩))=some (eN l):=az.bd (P:=af) (cs:=l.cells) qh gl xj (c:=6) rfl;simp only[aj,ak,ad,QM,WP,↓ab,hn,h1,cJ,la];refine(VK s8 l v c m (hv.keeps k8).aL hc hm).mono ?_;rintro _ s9 ⟨w,rfl,hw⟩;have k9:=hw.stay;have x0:∀z,aH (.tuple #[w,z]) 0=some w:=fun _=>rfl
  have x1:∀z,aH (.tuple #[w,z]) 1=some z:=fun _=>rfl
  have n8:=k8.next;have ot:aw t0.next t0 s9:=(aF.trans (k8.weaken nu)).trans (k9.weaken (by omega));simp only[mX] at hU;by_cases ce:(fX l c m).2=0;rotate_left
  ·rw[a0 ce] at hU;simp only[aj,ak,QM,WP,↓ab,hn,x0,x1,ca,ao ce];exact hQ _ _ _ (.inl ⟨rfl,_,hU,ot,by simp only[aa,ag,↓ab,WP,hn,cp]⟩)
  rw[av (fun h=>h ce)] at hU;simp(disch:=omega)only[aj,ak,QM,WP,↓ab,hn,h36,x0,x1,ca,an ce,aB];refine ar (L.length-(i+1)) (by omega) ⟨i+1,w,_,0,rfl,by omega,hU,ig ce,hw.own,fun j hj=>by have:=hw.fresh j hj;have:=eP.next;omega,ot,by simp only[ag,hn],by simp only[aa,↓ab,WP,h1],by simp only[aa,↓ab,WP],by simp only[aa,↓ab,WP,rV],by simp only[aa,↓ab,WP,Md],by simp only[aa,↓ab];rfl⟩
 clear hn h1 h2 h6 f;rintro _ f u (⟨rfl,z,hU,aF,hn,h4,h5⟩|⟨rfl,v,c,hU,hv,xp,aF,hn,cJ⟩)
 ·rw[hU] at hD;simp only[aj,al,oneOf,QM,↓ab,hn,h4,h5,c6];rw[eK,hD];exact⟨_,rfl,⟨.nil,aM.nil _,eP.trans (aF.weaken eP.next)⟩⟩
 rw[hU] at hD;simp only[aj,al,oneOf,QM,WP,↓ab,hn,cJ,c6];rw[eK,hD];exact⟨v,rfl,⟨hv,xp,eP.trans (aF.weaken eP.next)⟩⟩
end Go.Proofs.YtdfjfncifneocaaGreat
namespace Go.Cl.Runs
theorem Yy {m:bq}{K:b7}(hm:m<=K):∀(n:b7) (l out:a2 bl),l.length<=n->out.length<=K->(dec m l out).1.length<=K:=by
 intro n
 induction n with
 |zero=>
  intro l out hl ho;have:l=[]:=cT (by omega);subst this;rw[qg];simp
 |succ n ih=>
  intro l out hl ho
  match l,hl with
  |[],_=>rw[qg];simp
  |c::r,hl=>
   simp only[b8] at hl;rw[dec.eq_def];dsimp only;split
   ·exact ho
   split
   ·match r,hl with
    |[],_=>simp
    |d::r',hl=>
     dsimp only;simp only[b8] at hl;split
     ·rename_i h;refine ih r' _ (by omega) ?_;rw[bz,eb];unfold room at h;omega
     simp
   split
   ·simp
   split
   ·simp
   rename_i h;refine ih _ _ (by rw[List.length_drop];omega) ?_;rw[bz,List.length_take];unfold room at h;omega
end Go.Cl.Runs
namespace Go.Cl.Pr
theorem Sc (p co cl:bq)(l:a2 bl):(ks p co cl l).1.length<=l.length:=by
 unfold ks;generalize (if 10<=p then 1 else 0)=h;generalize co.toNat*cl.toNat=n;by_cases h1:¬pC p co cl
 ·rw[a0 h1];simp
 rw[av h1];by_cases h2:p=1
 ·rw[a0 h2];exact cd _
 rw[av h2];by_cases h3:l.length%(h+n)≠0
 ·rw[a0 h3];simp
 rw[av h3];by_cases h4:y8 l h n (l.length/(h+n))=true
 ·rw[a0 h4];simp
 rw[av h4];show(im _ _ _ _ _).length<=_;rw[gV];exact dT (Nat.mul_le_mul_left _ (Nat.le_add_left n h)) (Nat.div_mul_le_self _ _)
end Go.Cl.Pr
namespace Go.Proofs.YtdfjfncifneocaaGreat
open Go.Cl Go.Cl.Pr Go.Cl.Ch Go.Cl.Hx Go.Cl.B85 Go.Cl.Uh
theorem Cw {M:bq}{K:b7}(hM:M<=K):∀(l:a2 bl) (h:bq) (P:a2 bl),P.length<=K->(Bu M l h P).1.length<=K
 |[],_,_,_=>by simp[Bu]
 |c::r,h,P,hP=>by
  unfold Bu;split
  ·exact Cw hM r h P hP
  split
  ·split
   ·exact hP
   split
   ·simp
   simp only[bz,ec];omega
  split
  ·simp
  split
  ·exact Cw hM r _ P hP
  split
  ·simp
  exact Cw hM r _ _ (by simp only[bz,ec];omega)
theorem PY {M:bq}{K:b7}(hM:M<=K){g:a2 b7}{n:b7}{P:a2 bl}(hP:P.length<=K):(HG M g n P).1.length<=K:=by
 unfold HG;split
 ·exact hP
 split
 ·exact hP
 have:=List.length_take_le n (mS (iN g 5));simp only[bz];omega
theorem VU {M:bq}{K:b7}(hM:M<=K){r:a2 bl}{g:a2 b7}{P:a2 bl}(hP:P.length<=K):(sD M r g P).1.length<=K:=by
 unfold sD;split
 ·simp
 split
 ·simp
 split
 ·simp
 split
 ·split
  ·exact PY hM hP
  exact hP
 simp
theorem zp {M:bq}{K:b7}(hM:M<=K):∀(l:a2 bl) (g:a2 b7) (P:a2 bl),P.length<=K->(sE M l g P).1.length<=K
 |[],_,_,_=>by simp[sE]
 |c::r,g,P,hP=>by
  unfold sE;split
  ·exact zp hM r g P hP
  split
  ·exact VU hM hP
  split
  ·split
   ·simp
   exact zp hM r _ _ (by simp only[bz,b8,cX];omega)
  split
  ·simp
  split
  ·split
   ·exact zp hM r _ _ (PY hM hP)
   simp
  exact zp hM r _ P hP
theorem H5 {l:Lk}{r:a2 bl×bq}{K:b7}(h:r.1.length<=K):(jQ l r).1.length<=K:=by
 unfold jQ;split
 ·simp
 exact dT (Sc _ _ _ _) h
theorem H6 {m:bq}{K:b7}(hm:m<=K)(l:Lk)(b:a2 bl):(fX l b m).1.length<=K:=by
 have hn:oB m<=K:=by unfold oB;split<;>omega
 unfold fX;split
 ·exact H5 (dT (E8 b m) (by omega))
 split
 ·exact H5 (dT (E9 b m) (by omega))
 split
 ·exact Cw hn _ _ _ (by simp)
 split
 ·exact zp hn _ _ _ (by simp)
 exact Runs.Yy hm _ _ _ (cd _) (by simp)
theorem Fg {m:bq}(hm:m<=65536):∀(L:a2 Lk) (b:a2 bl),b.length<=65536->Fits L b m
 |[],_,_=>trivial
 |l::r,b,hb=>⟨by omega,fun _=>Fg hm r _ (H6 (K:=65536) hm l b)⟩
theorem Fh {m:bq}{K:b7}(hm:m<=K):∀(L:a2 Lk) (b:a2 bl),b.length<=K->(mX L b m).1.length<=K
 |[],_,hb=>hb
 |l::r,b,hb=>by
  unfold mX;split
  ·simp
  exact Fh hm r _ (H6 hm l b)
end Go.Proofs.YtdfjfncifneocaaGreat
namespace Go.Proofs.YtdfjfncifneocaaGreat
open Go.Cl Go.Cl.Pr Go.Cl.Ch
theorem Sd (s:au)(n:a2 bl):Runs af dR 38 [.string ⟨n.toArray⟩] s fun v s' =>v= .bool (decide (n∈rI))/\s' =s:=by
 refine Runs.enter 10 Tryz.func38 rfl rfl rfl rfl ?_;intro f hn hf;have h0:f.get 0= .string ⟨n.toArray⟩:=hf 0;clear hf;have e1:=fJ (P:=af) (t:=9) n nC;have e2:=fJ (P:=af) (t:=9) n Ak;have e3:=fJ (P:=af) (t:=9) n sA;have e4:=fJ (P:=af) (t:=9) n Q4;have e5:=fJ (P:=af) (t:=9) n Q5;rw[show nC.toArray= #[70,108,97,116,101,68,101,99,111,100,101] from rfl] at e1;rw[show Ak.toArray= #[76,90,87,68,101,99,111,100,101] from rfl] at e2;rw[show sA.toArray= #[65,83,67,73,73,72,101,120,68,101,99,111,100,101] from rfl] at e3;rw[show Q4.toArray= #[65,83,67,73,73,56,53,68,101,99,111,100,101] from rfl] at e4;rw[show Q5.toArray= #[82,117,110,76,101,110,103,116,104,68,101,99,111,100,101] from rfl] at e5;by_cases c1:n=nC
 ·rw[an c1] at e1;simp only[aj,al,oneOf,QM,WP,↓ab,hn,h0,e1,cv];simp[rI,c1]
 rw[ao c1] at e1;by_cases c2:n=Ak
 ·rw[an c2] at e2;simp only[aj,al,oneOf,QM,WP,↓ab,hn,h0,e1,e2,cv];simp[rI,c2]
 rw[ao c2] at e2;by_cases c3:n=sA
 ·rw[an c3] at e3;simp only[aj,al,oneOf,QM,WP,↓ab,hn,h0,e1,e2,e3,cv];simp[rI,c3]
 rw[ao c3] at e3;by_cases c4:n=Q4
 ·rw[an c4] at e4;simp only[aj,al,oneOf,QM,WP,↓ab,hn,h0,e1,e2,e3,e4,cv];simp[rI,c4]
 rw[ao c4] at e4;by_cases c5:n=Q5
 ·rw[an c5] at e5;simp only[aj,al,oneOf,QM,WP,↓ab,hn,h0,e1,e2,e3,e4,e5,cv];simp[rI,c5]
 rw[ao c5] at e5;simp only[aj,al,oneOf,QM,WP,↓ab,hn,h0,e1,e2,e3,e4,e5,cv];simp[rI,c1,c2,c3,c4,c5]
theorem LW {s:au}{v:bw}{L:a2 Lk}(h:aU s 5 v L.length (wE L)){i:b7}(hi:i<L.length):aN af s 9 (bP (aX 5 v i) 3)=some (.string ⟨L[i].name.toArray⟩):=by
 rw[h.gp (P:=af) uL hi (j:=3) (by omega),rH hi 3 (by decide)];rfl
theorem Se (F:b7->Prop)(s:au)(cs:a2 bw)(o:O)(ho:dV F s cs o)(iW:Small o)(m:bq)(hm:m<=20000000)(hL:(df o).1.length<=1000)(gm:Fits (df o).1 o.bytes m):
  Runs af dR 15 [.agg cs.toArray,.int .i64 m] s (rK s (Cd o m)):=by
 have iz:=ho.len;obtain⟨QQ,eK⟩:∃QQ:bw->au->Prop,QQ=rK s (Cd o m):=⟨_,rfl⟩
 rw[<-eK];refine Runs.enter 55 Tryz.func15 rfl rfl rfl rfl ?_;intro f hn hf;have h0:f.get 0= .agg cs.toArray:=hf 0;have h1:f.get 1= .int .i64 m:=hf 1;clear hf;have UK:=cD;simp only[aj,QM,↓ab,hn,h0];refine aA ?_;intro s1 eJ aY gG;have n1:=aY.next;simp only[aj,ak,ad,QM,WP,cm,↓ab,hn,iz,az.fi eJ iz];refine(xu F s1 cs o (ho.keeps aY) iW).mono ?_;obtain⟨R,hR⟩:∃R,R=df o:=⟨_,rfl⟩
 have hD:Cd o m=if R.2≠0 then([],R.2) else if¬∀l∈R.1,l.name∈rI then([],11) else mX R.1 o.bytes m:=by unfold Cd;rw[<-hR]
 rw[<-hR] at gm hL|-
 obtain⟨L,e⟩:=R;dsimp only at hD gm hL;rintro _ s2 ⟨y,rfl,hy,ko,k2⟩;dsimp only at hy|-
 have n2:=k2.next;have aR:aw s.next s s2:=aY.trans (k2.weaken n1);have x0:aH (.tuple #[y,.int .i64 e]) 0=some y:=rfl;have x1:aH (.tuple #[y,.int .i64 e]) 1=some (.int .i64 e):=rfl;have bad:∀(f:aZ) (t:au) (z:bq),Cd o m=([],z)->aw s.next s t->f.n=55->f.get 4= .slice none 0 0->f.get 5= .int .i64 z->L9 af Tryz.f15.results.toList QQ .ret f t:=by
  intro f t z e aF hn h4 h5;simp only[aj,al,oneOf,QM,↓ab,hn,h4,h5,ek];rw[eK,e];exact⟨_,rfl,⟨.nil,aM.nil _,aF⟩⟩
 by_cases c0:e=0;rotate_left
 ·simp only[aj,ak,QM,WP,↓ab,hn,x0,x1,ca,ao c0];exact bad _ _ e (by rw[hD,a0 c0]) aR (by simp only[ag,hn]) (by simp only[aa,↓ab,WP]) (by simp only[aa,↓ab])
 rw[av (fun h=>h c0)] at hD;simp only[aj,ak,QM,WP,↓ab,hn,x0,x1,ca,an c0];refine Comes.de (fun q f t=>∃i:b7,q=L.length-i/\i<=L.length/\(∀l∈L.take i,l.name∈rI)/\t=s2/\f.n=55/\f.get 1= .int .i64 m/\f.get 2= .pointer (some ⟨s.next,0,some 6⟩)/\f.get 6=y/\f.get 8= .int .i64 (i:b7))
  ⟨0,rfl,by omega,by simp,rfl,by simp only[aa,ag,↓ab,WP,hn,h1,cc];rfl⟩ ?_
 clear hn h0 h1 f;rintro q f t ⟨i,rfl,hi,kE,rfl,hn,h1,h2,h6,h8⟩;have BN:=hy.aL;by_cases a7:i<L.length
 ·have d1:(i:bq)<(L.length:bq):=by omega
  have fk:=BN.indexAddr (P:=af) (k:= .i64) (x:=(i:bq)) UK kr (by omega) (by omega);rw[bk] at fk;obtain⟨-,q1,-⟩:=aeN BN a7;have eF:=LW BN a7;simp only[aj,ak,ad,QM,WP,↓ab,hn,h6,h8,BN.aQ UK,a8 d1,fk,q1,eF];refine(Sd _ L[i].name).mono ?_;rintro _ t2 ⟨rfl,rfl⟩;by_cases c1:L[i].name∈rI
  ·rw[an c1];simp(disch:=omega)only[aj,QM,WP,↓ab,hn,h8,aB];refine ar (L.length-(i+1)) (by omega) ⟨i+1,rfl,by omega,fun a ha=> ?_,rfl,by simp only[ag,hn],by simp only[aa,↓ab,WP,h1],by simp only[aa,↓ab,WP,h2],by simp only[aa,↓ab,WP,h6],by simp only[aa,↓ab];rfl⟩;rw[a1 a7] at ha;rcases ck.1 ha with ha|ha
   ·exact kE a ha
   rw[bt.1 ha];exact c1
  rw[ao c1];simp only[aj,QM,↓ab,hn];exact bad _ _ 11 (by rw[hD,a0 (fun h=>c1 (h _ (cA a7)))]) aR (by simp only[ag,hn]) (by simp only[aa,↓ab,WP]) (by simp only[aa,↓ab])
 obtain rfl:i=L.length:=by omega
 have d1:¬((L.length:b7):bq)<((L.length:b7):bq):=by omega
 rw[cx] at kE;rw[av (fun h=>h kE)] at hD;obtain⟨bv,tu,nj,m3⟩:∃bv,cs.getD 2 undef=bv/\aU s 1 bv o.bytes.length (ofBytes o.bytes)/\o.bytes.length<=100000000:=by
  cases o with
  |mk k n b l d=>obtain⟨bv,lv,dv,lc,dc,rfl,h1,-⟩:=ho.parts;exact⟨bv,rfl,h1,by cases iW with|mk hb=>exact hb⟩
 have aco:=eJ.keeps k2;have l2:aN af t 22 (.pointer (some ⟨s.next,2,some 6⟩))=some bv:=by
  have:=aco.load (P:=af) gJ (off:=2) (c:=6) (by omega) (by omega);rw[this,tu]
 simp only[aj,ak,ad,QM,WP,↓ab,hn,h2,h6,h8,BN.aQ UK,ax d1,M3,l2];refine(rC (lib:=dR) rfl t bv o.bytes (nj.keeps aR) (by omega)).mono ?_;intro v0 t0 Sa;have k0:=Sa.stay;have JE:=BN.keeps k0;obtain⟨b0,mI⟩:∃b,b=o.bytes:=⟨_,rfl⟩
 rw[<-mI] at Sa hD gm;have nt0:=k0.next;have eP:aw s.next s t0:=aR.trans (k0.weaken aR.next);have nt4:=eP.next;simp only[aj,QM,↓ab,hn];refine Comes.de (fun q f u=>∃(i:b7) (v:bw) (c:a2 bl),q=L.length-i/\i<=L.length/\mX L b0 m=mX (L.drop i) c m/\Fits (L.drop i) c m/\Own u 1 v c.length (ofBytes c)/\aM s.next v/\aw t0.next t0 u/\f.n=55/\f.get 1= .int .i64 m/\f.get 6=y/\f.get 9=v/\f.get 10= .int .i64 (i:b7))
  ⟨0,v0,b0,rfl,by omega,rfl,gm,Sa.own,fun j hj=>by have:=Sa.fresh j hj;have:=aR.next;omega,aw.refl _ _,by simp only[aa,ag,↓ab,WP,hn,h1,h6,cc];rfl⟩ ?_
 clear hn h1 h2 h6 h8 f;rintro q f u ⟨i,v,c,rfl,hi,hU,hF,hv,xp,aF,hn,h1,h6,h9,cJ⟩;have nu:=aF.next;have hyu:=JE.keeps aF;by_cases a7:i<L.length;rotate_left
 ·obtain rfl:i=L.length:=by omega
  rw[eg] at hU;simp only[aj,al,oneOf,ad,QM,WP,↓ab,hn,h6,h9,cJ,hyu.aQ UK,ax d1,ek];rw[eK,hD,hU];exact⟨v,rfl,⟨hv,xp,eP.trans (aF.weaken nt4)⟩⟩
 have d2:(i:bq)<(L.length:bq):=by omega
 have fk:=hyu.indexAddr (P:=af) (k:= .i64) (x:=(i:bq)) UK kr (by omega) (by omega);rw[bk] at fk;have eF:=hyu.fZ (P:=af) Et kr a7;rw[Eo a7] at eF;obtain⟨l,hl⟩:∃l,l=L[i]:=⟨_,rfl⟩
 have zx:L.drop i=l::L.drop (i+1):=by rw[c7 a7,hl]
 rw[<-hl] at eF;rw[zx] at hU hF;obtain⟨L4,ig⟩:=hF;simp only[aj,ak,ad,QM,WP,↓ab,hn,h1,h6,h9,cJ,hyu.aQ UK,a8 d2,fk,eF];refine(Sb u l v c m hv.aL L4 hm).mono ?_;obtain⟨R,hR⟩:∃R,R=fX l c m:=⟨_,rfl⟩
 simp only[mX] at hU;rw[<-hR] at hU ig|-
 rintro _ u2 ⟨w,rfl,hw⟩;have k5:=hw.stay;have z0:aH (.tuple #[w,.int .i64 R.2]) 0=some w:=rfl;have z1:aH (.tuple #[w,.int .i64 R.2]) 1=some (.int .i64 R.2):=rfl;have oR:aw t0.next t0 u2:=aF.trans (k5.weaken nu);by_cases c2:R.2=0;rotate_left
 ·rw[a0 c2] at hU;simp only[aj,ak,QM,WP,↓ab,hn,z0,z1,ca,ao c2];exact bad _ _ R.2 (by rw[hD,hU]) (eP.trans (oR.weaken nt4)) (by simp only[ag,hn]) (by simp only[aa,↓ab,WP]) (by simp only[aa,↓ab])
 rw[av (fun h=>h c2)] at hU;simp(disch:=omega)only[aj,ak,QM,WP,↓ab,hn,cJ,z0,z1,ca,an c2,aB];exact ar (L.length-(i+1)) (by omega) ⟨i+1,w,R.1,rfl,by omega,hU,ig c2,hw.own,fun j hj=>by have:=hw.fresh j hj;omega,oR,by simp only[ag,hn],by simp only[aa,↓ab,WP,h1],by simp only[aa,↓ab,WP,h6],by simp only[aa,↓ab,WP],by simp only[aa,↓ab];rfl⟩
theorem PZ:∀(L:a2 Lk) (i:b7) (h:i<L.length),((wE L).drop (i*5)).take 5=L[i].cells
 |[],i,h=>by simp at h
 |t::r,0,h=>by simp[wE,Lk.cells]
 |t::r,i+1,h=>by
  have e:(wE (t::r)).drop ((i+1)*5)=(wE r).drop (i*5):=by
   rw[show(i+1)*5=i*5+5 by omega];simp[wE,Lk.cells]
  rw[e,PZ r i (by simpa using h)];rfl
theorem acp {s:au}{z n:b7}{v:bw}{l:a2 bw}(h:aU s z v n l):v.cells.toList=[v]:=by cases h<;>rfl
theorem VV (s:au)(l:Lk)(j:b7)(y:bw)(T:a2 (a2 bl))(hj:az s j [y])(hy:aU s 1 y T.length (D9 T))(hT:T.length<=1000):
  Runs af dR 42 [eN l,.pointer (some ⟨j,0,some 2⟩)] s fun v s' =>v= .bool (decide (l.name∈T))/\aw s.next s s' :=by
 refine Runs.enter 8 Tryz.func42 rfl rfl rfl rfl ?_;intro f hn hf;have h0:f.get 0=eN l:=hf 0;have h1:f.get 1= .pointer (some ⟨j,0,some 2⟩):=hf 1;clear hf;simp only[aj,QM,↓ab,hn,h0];refine aA ?_;intro s1 ht aF vR;have ht:az s1 s.next l.cells:=ht;have hd:l.cells.length+1=6:=rfl;have Gx:=hy.keeps aF;have l0:=(hj.keeps aF).load (P:=af) (e:=27) (by kernel_rfl) (off:=0) (c:=2) rfl (by simp);have p3:aN af s1 9 (.pointer (some ⟨s.next,3,some 6⟩))=some (.string ⟨l.name.toArray⟩):=ht.load uL (off:=3) (c:=6) rfl (by simp[Lk.cells]);simp only[aj,ak,ad,QM,WP,↓ab,hn,h1,hd,l0,Nw,p3];refine(wA (lib:=dR) rfl rfl s1 y l.name T Gx (by omega)).mono ?_;rintro _ s3 ⟨rfl,rfl⟩;simp only[aj,al,oneOf,QM,↓ab,hn,Tryz.results42];exact aF
theorem Ov (s:au)(x:bw)(L:a2 Lk)(j:b7)(y:bw)(T:a2 (a2 bl))(hx:aU s 5 x L.length (wE L))(hL:L.length<=1000)(hj:az s j [y])(hy:aU s 1 y T.length (D9 T))(hT:T.length<=1000):
  Runs af dR 77 [x,.func (.func 42) #[] #[.pointer (some ⟨j,0,some 2⟩)]] s fun v s' =>(∃r:bq,v= .int .i64 r/\(0<=r↔∃l∈L,l.name∈T))/\aw s.next s s' :=by
 refine Runs.enter 19 Tryz.func77 rfl rfl rfl rfl ?_;intro f hn hf;have h0:f.get 0=x:=hf 0;have h1:f.get 1= .func (.func 42) #[] #[.pointer (some ⟨j,0,some 2⟩)]:=hf 1;clear hf;have UK:=c8;simp only[aj,ad,QM,WP,↓ab,hn,h0,hx.aQ UK];refine Comes.de (fun z f s' =>∃(i:b7),z=L.length-i/\i<=L.length/\(∀l∈L.take i,l.name∉T)/\aw s.next s s' /\f.n=19/\f.get 0=x/\f.get 1= .func (.func 42) #[] #[.pointer (some ⟨j,0,some 2⟩)]/\f.get 7= .int .i64 L.length/\f.get 8= .int .i64 i)
  ⟨0,rfl,by omega,by simp,aw.refl _ _,by simp only[aa,ag,↓ab,WP,hn,h0,h1,cc];rfl⟩ ?_
 clear hn h0 h1 f;rintro z f s2 ⟨i,rfl,hi,L6,aF,hn,h0,h1,h7,h8⟩;by_cases a7:i<L.length
 ·have c1:(i:bq)<(L.length:bq):=by omega
  have kA:=hx.keeps aF;have jv:=kA.indexAddr (k:= .i64) (x:=(i:bq)) UK gl (by omega) (by omega);rw[bk] at jv;have eF:=kA.fZ (P:=af) qh gl a7;rw[PZ L i a7] at eF;simp only[aj,ak,ad,QM,WP,↓ab,hn,h0,h1,h7,h8,a8 c1,jv,eF];have O7:L.take (i+1)=L.take i++[L[i]]:=by rw[a1 a7]
  refine(VV s2 L[i] j y T (hj.keeps aF) (hy.keeps aF) hT).mono ?_;rintro _ s3 ⟨rfl,bA⟩;have fN:=aF.trans (bA.weaken aF.next);by_cases c2:L[i].name∈T
  ·rw[an c2];simp only[aj,QM,WP,↓ab,hn];simp only[aj,al,oneOf,QM,↓ab,hn,en];exact⟨⟨(i:bq),rfl,fun _=>⟨L[i],cA _,c2⟩,fun _=>by omega⟩,fN⟩
  rw[ao c2];simp(disch:=omega)only[aj,QM,WP,↓ab,hn,h8,aB];refine ar (L.length-(i+1)) (by omega) ⟨i+1,rfl,by omega,by rw[O7];intro t h;rcases ck.mp h with h|h;exact L6 t h;rw[bt.mp h];exact c2,fN,by simp only[ag,hn],by simp only[aa,↓ab,WP,h0],by simp only[aa,↓ab,WP,h1],by simp only[aa,↓ab,WP,h7],by simp only[aa,↓ab];rfl⟩
 obtain rfl:i=L.length:=by omega
 have c1:¬(L.length:bq)<(L.length:bq):=by omega
 rw[cL (cd _)] at L6;simp only[aj,al,oneOf,QM,↓ab,hn,h7,h8,ax c1,en];exact⟨⟨-1,rfl,fun h=>by omega,fun⟨l,h1,h2⟩=>cg h2 (L6 l h1)⟩,aF⟩
theorem Sf (s:au)(x:bw)(L:a2 Lk)(j:b7)(y:bw)(T:a2 (a2 bl))(hx:aU s 5 x L.length (wE L))(hL:L.length<=1000)(hj:az s j [y])(hy:aU s 1 y T.length (D9 T))(hT:T.length<=1000):
  Runs af dR 41 [x,.func (.func 42) #[] #[.pointer (some ⟨j,0,some 2⟩)]] s fun v s' =>v= .bool (decide (∃l∈L,l.name∈T))/\aw s.next s s' :=by
 refine Runs.enter 9 Tryz.func41 rfl rfl rfl rfl ?_;intro f hn hf;have h0:f.get 0=x:=hf 0;have h1:f.get 1= .func (.func 42) #[] #[.pointer (some ⟨j,0,some 2⟩)]:=hf 1;clear hf;simp only[aj,ak,ad,QM,WP,↓ab,hn,h0,h1];refine(Ov s x L j y T hx hL hj hy hT).mono ?_;rintro _ s2 ⟨⟨r,rfl,hr⟩,aF⟩;by_cases c1:0<=r
 ·rw[an (hr.1 c1)];simp only[aj,al,oneOf,QM,↓ab,hn,a8 c1,eo];exact aF
 rw[ao (fun h=>c1 (hr.2 h))];simp only[aj,al,oneOf,QM,↓ab,hn,ax c1,eo];exact aF
theorem Sg (F:b7->Prop)(s:au)(cs:a2 bw)(o:O)(ho:dV F s cs o)(iW:Small o)(y:bw)(T:a2 (a2 bl))(hy:aU s 1 y T.length (D9 T))(hT:T.length<=1000)(hl:(df o).1.length<=1000):
  Runs af dR 19 [.agg cs.toArray,y] s fun v s' =>v= .bool (decide (∃l∈(df o).1,l.name∈T))/\aw s.next s s' :=by
 have iz:=ho.len;refine Runs.enter 15 Tryz.func19 rfl rfl rfl rfl ?_;intro f hn hf;have h0:f.get 0= .agg cs.toArray:=hf 0;have h1:f.get 1=y:=hf 1;clear hf;simp only[aj,QM,↓ab,hn,h0];refine aA ?_;intro s1 eJ aY gG;have xF:y.cells.toList=[y]:=acp hy;simp only[aj,QM,WP,↓ab,hn,h1];refine aA ?_;intro s2 dK aR jD;rw[xF] at dK;have n1:=aY.next;have dA:aw s.next s s2:=aY.trans (aR.weaken n1);have la:aN af s2 26 (.pointer (some ⟨s.next,0,some (cs.length+1)⟩))=some (.agg cs.toArray):=az.bd (P:=af) Bi (by rw[iz];exact kn) (eJ.keeps aR) rfl;simp only[aj,ak,ad,QM,WP,cm,↓ab,hn,la,xF,b8,cX];refine(uR F s2 cs o (ho.keeps dA) iW).mono ?_;rintro _ s3 ⟨x,rfl,hx,hxF,bA⟩;have x0:∀a b,aH (.tuple #[a,b]) 0=some a:=fun _ _=>rfl
 have x1:∀a b,aH (.tuple #[a,b]) 1=some b:=fun _ _=>rfl
 simp only[aj,ak,ad,QM,WP,↓ab,hn,x0,x1,yT];refine(Sf s3 x _ s1.next y T hx.aL hl ((dK.keeps bA)) (hy.keeps (dA.trans (bA.weaken dA.next))) hT).mono ?_;rintro _ s4 ⟨rfl,eP⟩;simp only[aj,al,oneOf,QM,↓ab,hn,Tryz.results19];exact(dA.trans (bA.weaken dA.next)).trans (eP.weaken (by have:=dA.next;have:=bA.next;omega))
end Go.Proofs.YtdfjfncifneocaaGreat
namespace Go.Proofs.YtdfjfncifneocaaGreat
open Go.Cl
def sj (l:a2 bl)(p:b7)(t:a2 bl):Prop:=p+t.length<=l.length/\(l.drop p).take t.length=t
instance (l:a2 bl) (p:b7) (t:a2 bl):Decidable (sj l p t):=by unfold sj;infer_instance
end Go.Proofs.YtdfjfncifneocaaGreat
namespace Go.Proofs.YtdfjfncifneocaaGreat
open Go.Cl Go.Cl.Pr Go.Cl.Ch
theorem Sh {P:Program}{eS eI:TypeId}(hS:bU P eS=some false)(hI:bU P eI=some false){s:au}{v:bw}{L:a2 Lk}(h:aU s 5 v L.length (wE L)){i:b7}(hi:i<L.length):
  aN P s eI (bP (aX 5 v i) 0)=some (.int .i64 L[i].p)/\aN P s eI (bP (aX 5 v i) 1)=some (.int .i64 L[i].co)/\aN P s eI (bP (aX 5 v i) 2)=some (.int .i64 L[i].cl)/\aN P s eS (bP (aX 5 v i) 3)=some (.string ⟨L[i].name.toArray⟩)/\aN P s eI (bP (aX 5 v i) 4)=some (.int .i64 L[i].early):=by
 refine⟨?_,?_,?_,?_,?_⟩
 ·rw[h.gp (P:=P) hI hi (j:=0) (by omega),rH hi 0 (by decide)];rfl
 ·rw[h.gp (P:=P) hI hi (j:=1) (by omega),rH hi 1 (by decide)];rfl
 ·rw[h.gp (P:=P) hI hi (j:=2) (by omega),rH hi 2 (by decide)];rfl
 ·rw[h.gp (P:=P) hS hi (j:=3) (by omega),rH hi 3 (by decide)];rfl
 rw[h.gp (P:=P) hI hi (j:=4) (by omega),rH hi 4 (by decide)];rfl
theorem acq (l:Lk):bI (eN l) (eN l)=true:=by simp[bI,fc,cw,Lk.cells]
end Go.Proofs.YtdfjfncifneocaaGreat
namespace Go.Proofs.YtdfjfncifneocaaGreat
open Go.Cl Go.Lib
theorem Si {lib:aD}(hl:lib.at 28=none)(yf:lib.at 56=none)(nS:lib.at 39=none)(F:b7->Prop)(s:au)(k:a2 bl)(cs:a2 bw)(o:O)(ho:dV F s cs o)(iW:Small o):
  Runs af lib 28 [.string ⟨k.toArray⟩,.agg cs.toArray] s (air s k o):=by
 have iz:=ho.len;refine Runs.enter 9 Tryz.func28 rfl hl rfl rfl ?_;intro f hn hf;have h0:f.get 0= .string ⟨k.toArray⟩:=hf 0;have h1:f.get 1= .agg cs.toArray:=hf 1;clear hf;simp only[aj,QM,↓ab,hn,h1];refine aA ?_;intro s1 eJ aY gG;simp only[aj,QM,cm,↓ab,hn,iz,zE,Xb];refine aA ?_;intro s2 dK aR jD;have dA:aw s.next s s2:=aY.trans (aR.weaken (by omega));have la:aN af s2 26 (.pointer (some ⟨s.next,0,some 6⟩))=some (.agg cs.toArray):=az.bd Bi (by rw[iz];exact kn) (eJ.keeps aR) (by rw[iz]);have hd7:Hj.length+1=7:=rfl;simp only[aj,ak,ad,QM,WP,↓ab,hn,h0,la,hd7];refine(TO yf nS _ o (cd _) F s2 cs (ho.keeps dA) iW).mono ?_;rintro _ s3 ⟨gY,rfl,wM,bA⟩;have Na:=wM.len;obtain⟨es,vY⟩:∃es,es=ea ⟨k.toArray⟩::gY:=⟨_,rfl⟩
 have IF:es.length=6:=by rw[vY];simp[Na]
 have D5:es.all aT=true:=by rw[vY,et,wM.ok];rfl
 have TL:=bE k Na;rw[<-vY] at TL;simp only[aj,ae,QM,WP,↓ab,hn,TL];refine aG Bj (by decide) (dK.keeps bA) rfl rfl IF D5 ?_;intro s4 ly uF oo;have ly:az s4 s1.next es:=ly;have l4:aN af s4 63 (.pointer (some ⟨s1.next,0,some 7⟩))=some (.agg es.toArray):=az.bd agE (by rw[IF];exact Bj) ly (by rw[IF]);simp only[aj,al,oneOf,QM,WP,↓ab,hn,l4,a4,Tryz.results28];have gZ:=aY.next;have mf:=aR.next;refine⟨gY,by rw[vY],(wM.turns (u:= .pointer (some ⟨s1.next,0,none⟩)) (bG.aK uF oo) (fun j hj e=> ?_)).mono (fun j hj=>by omega),(dA.trans (bA.weaken dA.next)).trans ⟨by omega,fun j hj=>oo j (by omega)⟩⟩;have e:some s1.next=some j:=e;injection e with e;omega
end Go.Proofs.YtdfjfncifneocaaGreat
namespace Go.Proofs.YtdfjfncifneocaaGreat
open Go.Cl Go.Cl.Pr Go.Cl.Ch
theorem Ow {o:O}(h:(df o).2≠0):(df o).1=[]:=by
 unfold df at h|-
 split
 ·rfl
 split
 ·rfl
 rename_i h1 h2;rw[av h1,av h2] at h;split
 ·rfl
 rename_i L hL;rw[hL] at h;exact cg rfl h
theorem agm {s:au}{v:bw}{n:b7}{l:a2 bw}(h:aU s 5 v n l){k:b7}(hk:k<n):ay af 58 (aX 5 v k) 0=some (bP (aX 5 v k) 0)/\ay af 58 (aX 5 v k) 1=some (bP (aX 5 v k) 3)/\ay af 58 (aX 5 v k) 2=some (bP (aX 5 v k) 4)/\
  ay af 56 (bP (aX 5 v k) 0) 0=some (bP (aX 5 v k) 0)/\ay af 56 (bP (aX 5 v k) 0) 1=some (bP (aX 5 v k) 1)/\ay af 56 (bP (aX 5 v k) 0) 2=some (bP (aX 5 v k) 2):=by
 obtain⟨i,off,c,e1,_⟩:=h.cells hk;rw[e1];refine⟨?_,?_,?_,?_,?_,?_⟩
 ·unfold ay;rw[dg];simp[bP,KE]
 ·unfold ay;rw[dg];simp[bP,xk]
 ·unfold ay;rw[dg];simp[bP,aV]
 ·unfold ay;rw[dk];simp[bP,aV]
 ·unfold ay;rw[dk];simp[bP,aV]
 unfold ay;rw[dk];simp[bP,aV]
theorem bLr (a b c:bq):da af 66 [(0,.int .i64 a),(1,.int .i64 b),(2,.int .i64 c)]=some (i3 a b c):=by kernel_rfl
theorem ak9 (l:Lk):da af 68 [(0,i3 l.p l.co l.cl),(1,.string ⟨l.name.toArray⟩),(2,.int .i64 l.early)]=some (eN l):=by kernel_rfl
theorem LX (s:au)(v:bw)(L:a2 Lk)(hv:aU s 5 v L.length (wE L))(hT:L.length<=1000):
  Runs af dR 17 [v] s fun y s' =>Own s' 5 y L.length (wE L)/\aM s.next y/\aw s.next s s' :=by
 refine Runs.enter 45 Tryz.func17 rfl rfl rfl rfl ?_;intro f hn hf;have h0:f.get 0=v:=hf 0;clear hf;have UK:=cD;have UR:=c8;have IU:b6 af 68=some (eN ⟨0,0,0,[],0⟩):=by kernel_rfl
 have vS:cr (eN ⟨0,0,0,[],0⟩)=true:=by kernel_rfl
 have Us:dX af 68=some 48:=by kernel_rfl
 simp only[aj,QM,↓ab,hn];refine Comes.de (fun z f s6=>∃(i:b7) (y:bw),z=L.length-i/\i<=L.length/\Own s6 5 y i (wE (L.take i))/\aM s.next y/\aw s.next s s6/\f.n=45/\f.get 0=v/\f.get 3=y/\f.get 4= .int .i64 (i:b7))
  ⟨0,.slice none 0 0,rfl,by omega,by rw[List.take_zero];exact .nil,aM.nil _,aw.refl _ _,by simp only[aa,ag,↓ab,WP,hn,h0,cc];rfl⟩ ?_
 clear hn h0 f;rintro z f s6 ⟨i,y,rfl,hi,hy,ko,cU,hn,h0,h3,h4⟩;have Wc:=hv.keeps cU;have Ku:=cU.next;by_cases a7:i<L.length
 ·have d1:(i:bq)<(L.length:bq):=by omega
  simp only[aj,ad,QM,WP,↓ab,hn,h0,h4,Wc.aQ UR,a8 d1];obtain⟨A,hA⟩:∃A:b7->Bool,A=fun j=>decide (j<s6.next):=⟨_,rfl⟩
  have gu:∀j,A j=true->j<s6.next:=by
   intro j h;rw[hA] at h;exact ds h
  have oO:∀j,j<s6.next->A j=true:=fun j h=>by rw[hA];exact an h
  refine LB.cN.dx A gu 0 1 (by kernel_rfl) (by kernel_rfl) ?_;have dI:=aw.spare s6 1;have QN:(spare s6 1).next=s6.next+1:=bu _ _;have hv7:=Wc.keeps dI;have jv:=hv7.indexAddr (P:=af) (k:= .i64) (x:=(i:bq)) UR gl (by omega) (by omega);rw[bk] at jv;obtain⟨q0,q1,q2,q3,q4,q5⟩:=agm hv7 a7;obtain⟨qN,nS,iG,U6,X2⟩:=Sh (P:=af) uL aP hv7 a7;simp only[aj,bg,bn,ae,QM,WP,↓ab,hn,h0,h3,h4,hv.self,hy.self,kl,jv,q0,q1,q2,q3,q4,q5,LA.z9 Wc oO a7,qN,nS,iG,U6,X2,bLr,ak9,Cp,acq,gn (cs:=L[i].cells.toArray) UK kr IU vS rfl rfl (by decide)];refine LB.bR (base:=s6.next) (by rfl) (by omega) (cd _) ?_;intro bs s7 nj fM iX uK xi;have VW:aw s6.next s6 s7:=dI.trans ⟨iX.next,fun j hj=>iX.get j (by omega)⟩;have aqs:=VW.next;simp only[aj,bn,ad,QM,WP,↓ab,hn];refine LB.eY UK UK (.inl ⟨_,rfl⟩) kr Us IU rfl (hy.keeps VW) nj.aL.src rfl (by decide) rfl (by omega) (by omega) (base:=s.next) ko (by omega) (fun h=>cg rfl h) (fun j hj=>by have:=gu j hj;omega) ?_;intro y' s8 hy8 hF8 ala oh;have e8:wE (L.take (i+1))=wE (L.take i)++L[i].cells:=by
   rw[a1 a7,xo];simp[wE]
  simp(disch:=omega)only[aj,bg,bn,ed,QM,WP,↓ab,hn,h4,hy8.self,aB];refine ar (L.length-(i+1)) (by omega) ⟨i+1,y',rfl,by omega,by rw[e8];exact hy8,hF8,(cU.trans (VW.weaken Ku)).trans (ala.keeps ko (by omega)),by simp only[ag,hn],by simp only[aa,↓ab,WP,h0],by simp only[aa,↓ab,WP],by simp only[aa,↓ab];rfl⟩
 obtain rfl:i=L.length:=by omega
 rw[cx] at hy;have d1:¬((L.length:b7):bq)<((L.length:b7):bq):=by omega
 simp only[aj,al,oneOf,ad,QM,WP,↓ab,hn,h0,h3,h4,Wc.aQ UR,ax d1,Tryz.results17];exact⟨hy,ko,cU⟩
theorem agn (l:Lk):dB af .neq 68 (eN l) (eN l)=some (.bool false):=by
 have h:zF af 68 l.cells.toArray l.cells.toArray=dd l.cells l.cells:=by kernel_rfl
 have h2:dd l.cells l.cells=some true:=by simp[Lk.cells,dd,vp]
 rw[h2] at h;show(match zF af 68 l.cells.toArray l.cells.toArray with
   |some b=>some (Value.bool (!b))
   |none=>none)=_
 rw[h];rfl
theorem LY (s:au)(x y:bw)(L:a2 Lk)(hx:aU s 5 x L.length (wE L))(hy:aU s 5 y L.length (wE L))(hL:L.length<=1000):
  Runs af dR 16 [x,y] s fun v s' =>v= .bool true/\s' =s:=by
 refine Runs.enter 26 Tryz.func16 rfl rfl rfl rfl ?_;intro f hn hf;have h0:f.get 0=x:=hf 0;have h1:f.get 1=y:=hf 1;clear hf;have UR:=cD;simp only[aj,ak,ad,QM,WP,↓ab,hn,h0,h1,hx.aQ UR,hy.aQ UR];refine Comes.de (fun z f t=>∃i:b7,z=L.length-i/\i<=L.length/\t=s/\f.n=26/\f.get 0=x/\f.get 1=y/\f.get 5= .int .i64 (i:b7))
  ⟨0,rfl,by omega,rfl,by simp only[aa,ag,↓ab,WP,hn,h0,h1,cc];rfl⟩ ?_
 clear hn h0 h1 f;rintro z f t ⟨i,rfl,hi,rfl,hn,h0,h1,h5⟩;by_cases a7:i<L.length;rotate_left
 ·obtain rfl:i=L.length:=by omega
  have d1:¬((L.length:b7):bq)<((L.length:b7):bq):=by omega
  simp only[aj,al,oneOf,ad,QM,WP,↓ab,hn,h0,h5,hx.aQ UR,ax d1,Tryz.results16]
 have d1:(i:bq)<(L.length:bq):=by omega
 have fk:=hx.indexAddr (P:=af) (k:= .i64) (x:=(i:bq)) UR kr (by omega) (by omega);have ZU:=hy.indexAddr (P:=af) (k:= .i64) (x:=(i:bq)) UR kr (by omega) (by omega);rw[bk] at fk ZU;have hlx:=hx.fZ (P:=af) Et kr a7;have hly:=hy.fZ (P:=af) Et kr a7;rw[Eo a7] at hlx hly;have fV:bI (eN L[i]) (eN L[i])=true:=by simp[bI,fc,cw,Lk.cells]
 simp(disch:=omega)only[aj,ad,QM,WP,↓ab,hn,h0,h1,h5,hx.aQ UR,a8 d1,fk,ZU,hlx,hly,agn,aB,hx.self,hy.self,fV];exact ar (L.length-(i+1)) (by omega) ⟨i+1,rfl,by omega,rfl,by simp only[ag,hn],by simp only[aa,↓ab,WP,h0],by simp only[aa,↓ab,WP,h1],by simp only[aa,↓ab];rfl⟩
theorem Yz {L:a2 Lk}{T:a2 (a2 bl)}{i:b7}(hi:i<L.length)(h:∀l∈L.take i,l.name∉T)(h2:L[i].name∉T):∀l∈L.take (i+1),l.name∉T:=by
 intro l hl;rw[a1 hi] at hl;rcases ck.1 hl with hl|hl
 ·exact h l hl
 rw[bt.1 hl];exact h2
theorem VX (F:b7->Prop)(s:au)(cs:a2 bw)(o:O)(ho:dV F s cs o)(iW:Small o)(y:bw)(T:a2 (a2 bl))(hy:aU s 1 y T.length (D9 T))(hT:T.length<=1000)(hl:(df o).1.length<=1000):
  Runs af dR 20 [.agg cs.toArray,y] s fun v s' =>v= .bool (decide (∃l∈(df o).1,l.name∈T))/\aw s.next s s' :=by
 have iz:=ho.len;obtain⟨QQ,eK⟩:∃QQ:bw->au->Prop,QQ=fun v s' =>v= .bool (decide (∃l∈(df o).1,l.name∈T))/\aw s.next s s' :=⟨_,rfl⟩
 rw[<-eK];refine Runs.enter 40 Tryz.func20 rfl rfl rfl rfl ?_;intro f hn hf;have h0:f.get 0= .agg cs.toArray:=hf 0;have h1:f.get 1=y:=hf 1;clear hf;have UR:=cD;have UT:=Tryz.underlying27;simp only[aj,QM,↓ab,hn,h0];refine aA ?_;intro s1 eJ aY gG;simp only[aj,ak,ad,QM,WP,cm,↓ab,hn,iz,az.fi eJ iz];refine(xu F s1 cs o (ho.keeps aY) iW).mono ?_;have fF:(df o).2≠0->(df o).1=[]:=Ow;obtain⟨R,hR⟩:∃R,R=df o:=⟨_,rfl⟩
 rw[<-hR] at hl fF eK|-
 obtain⟨L,e⟩:=R;dsimp only at hl fF eK;rintro _ s2 ⟨x,rfl,hx,hxF,k2⟩;dsimp only at hx|-
 have aR:aw s.next s s2:=aY.trans (k2.weaken aY.next);have r6:=hx.aL;have nh:=hy.keeps aR;have x0:aH (.tuple #[x,.int .i64 e]) 0=some x:=rfl;have x1:aH (.tuple #[x,.int .i64 e]) 1=some (.int .i64 e):=rfl;simp only[aj,QM,WP,↓ab,hn,x0,x1];refine Comes.de (fun z f t=>∃i:b7,z=L.length-i/\i<=L.length/\(∀l∈L.take i,l.name∉T)/\t=s2/\f.n=40/\f.get 1=y/\f.get 5=x/\f.get 6= .int .i64 e/\f.get 7= .int .i64 (i:b7))
  ⟨0,rfl,by omega,by simp,rfl,by simp only[aa,ag,↓ab,WP,hn,h1,cc];rfl⟩ ?_
 clear hn h0 h1 f;rintro z f t ⟨i,rfl,hi,BX,rfl,hn,h1,h5,h6,h7⟩;by_cases a7:i<L.length;rotate_left
 ·obtain rfl:i=L.length:=by omega
  have d1:¬((L.length:b7):bq)<((L.length:b7):bq):=by omega
  rw[cx] at BX;simp only[aj,ak,al,oneOf,ad,QM,WP,↓ab,undef,hn,h5,h7,r6.aQ UR,ax d1,ep];rw[eK];exact⟨by rw[ao];rintro ⟨l,a,b⟩;exact BX l a b,aR⟩
 have d1:(i:bq)<(L.length:bq):=by omega
 have e0:e=0:=Classical.byContradiction fun h=>by rw[fF h] at a7;simp at a7
 have fk:=r6.indexAddr (P:=af) (k:= .i64) (x:=(i:bq)) UR kr (by omega) (by omega);rw[bk] at fk;obtain⟨-,q1,-⟩:=aeN r6 a7;have eF:=LW r6 a7;simp only[aj,ak,ad,QM,WP,↓ab,hn,h5,h6,h7,r6.aQ UR,a8 d1,a8 e0];refine Comes.bD (fun z f t2=>∃j:b7,z=T.length-j/\j<=T.length/\L[i].name∉T.take j/\t2=t/\f.n=40/\f.get 1=y/\f.get 5=x/\f.get 6= .int .i64 e/\f.get 7= .int .i64 (i:b7)/\f.get 8= .int .i64 (j:b7))
  (fun z f t2=>(z= .ret/\L[i].name∈T/\t2=t/\f.n=40/\f.get 4= .bool true)\/(z= .exit 2/\L[i].name∉T/\t2=t/\f.n=40/\f.get 1=y/\f.get 5=x/\f.get 6= .int .i64 e/\f.get 7= .int .i64 (i:b7)))
  ⟨0,rfl,by omega,by simp,rfl,by simp only[aa,ag,↓ab,WP,hn,h1,h5,h6,h7,cc];rfl⟩ ?_ ?_
 ·clear hn h1 h5 h6 h7 f;rintro Q hQ z f _ ⟨j,rfl,hj,hnj,rfl,hn,h1,h5,h6,h7,h8⟩;by_cases NV:j<T.length;rotate_left
  ·obtain rfl:j=T.length:=by omega
   have d2:¬((T.length:b7):bq)<((T.length:b7):bq):=by omega
   rw[cx] at hnj;simp only[aj,ad,QM,WP,↓ab,hn,h1,h8,nh.aQ UT,ax d2];exact hQ _ _ _ (.inr ⟨rfl,hnj,rfl,by simp only[aa,ag,↓ab,WP,hn,h1,h5,h6,h7,cp]⟩)
  have d2:(j:bq)<(T.length:bq):=by omega
  have hjx:=nh.indexAddr (P:=af) (k:= .i64) (x:=(j:bq)) UT xk (by omega) (by omega);rw[bk] at hjx;have hlj:=nh.cu (P:=af) uL NV;rw[Hn NV] at hlj;have heq:=fJ (P:=af) (t:=9) L[i].name T[j];by_cases c2:L[i].name=T[j]
  ·rw[an c2] at heq;simp only[aj,ad,QM,WP,↓ab,hn,h1,h5,h7,h8,nh.aQ UT,a8 d2,fk,q1,eF,hjx,hlj,heq,r6.self,nh.self,kl];exact hQ _ _ _ (.inl ⟨rfl,by rw[c2];exact cA _,rfl,by simp only[aa,ag,↓ab,hn,cp]⟩)
  rw[ao c2] at heq;simp(disch:=omega)only[aj,ad,QM,WP,↓ab,hn,h1,h5,h7,h8,nh.aQ UT,a8 d2,fk,q1,eF,hjx,hlj,heq,aB,r6.self,nh.self,kl];refine ar (T.length-(j+1)) (by omega) ⟨j+1,rfl,by omega,?_,rfl,by simp only[ag,hn],by simp only[aa,↓ab,WP,h1],by simp only[aa,↓ab,WP,h5],by simp only[aa,↓ab,WP,h6],by simp only[aa,↓ab,WP,h7],by simp only[aa,↓ab];rfl⟩;rw[a1 NV];intro h;rcases ck.1 h with h|h
  ·exact hnj h
  exact c2 (bt.1 h)
 clear hn h1 h5 h6 h7 f;rintro z f _ (⟨rfl,tm,rfl,hn,h4⟩|⟨rfl,ald,rfl,hn,h1,h5,h6,h7⟩)
 ·simp only[aj,al,oneOf,QM,↓ab,hn,h4,ep];rw[eK];exact⟨by rw[an ⟨L[i],cA _,tm⟩],aR⟩
 simp(disch:=omega)only[aj,QM,↓ab,hn,h7,aB];exact ar (L.length-(i+1)) (by omega) ⟨i+1,rfl,by omega,Yz a7 BX ald,rfl,by simp only[ag,hn],by simp only[aa,↓ab,WP,h1],by simp only[aa,↓ab,WP,h5],by simp only[aa,↓ab,WP,h6],by simp only[aa,↓ab];rfl⟩
end Go.Proofs.YtdfjfncifneocaaGreat
namespace Go.Proofs.YtdfjfncifneocaaGreat
open Go.Cl Go.Lib
theorem Sj (F2:b7->Prop)(s:au)(k:a2 bl)(re:a2 bw)(o:O)(hre:dV F2 s re o)(iW:Small o)(Jv:o.kind≠0):
  Runs af dR 96 [.slice none 0 0,.agg (.string ⟨k.toArray⟩::re).toArray] s fun v s' =>∃r',Own s' 6 v 1 (.string ⟨k.toArray⟩::r')/\aM s.next v/\dV (fun j=>s.next<=j/\aI v≠some j) s' r' o/\aw s.next s s' :=by
 have qe:=hre.len;have UE:=dt;refine Runs.enter 66 Tryz.func96 rfl rfl rfl rfl ?_;intro f hn hf;have h0:f.get 0= .slice none 0 0:=hf 0;have h1:f.get 1= .agg (.string ⟨k.toArray⟩::re).toArray:=hf 1;clear hf;simp only[aj,ak,QM,↓ab,hn,h1];refine aA ?_;intro s1 eJ aY gG;have eJ:az s1 s.next (.string ⟨k.toArray⟩::re):=eJ;obtain⟨q0,-⟩:=dV.rL hre;have l10:aN af s1 3 (.pointer (some ⟨s.next,1,some 7⟩))=some (.int .i64 o.kind):=by
  have:=eJ.load (P:=af) aP (off:=1) (c:=7) (by simp[qe]) (by simp[qe]);rw[this,<-q0];rfl
 have n1:=aY.next;have nl:Cl.aQ af s1 24 (.slice none 0 0)=some (.int .i64 ((0:b7):bq)):=(aU.nil (s:=s1) (z:=6)).aQ UE;simp only[aj,QM,WP,cm,↓ab,hn,b8,qe,F4,oi,l10,ax Jv];refine Comes.de (fun z f t=>z=0/\t=s1/\f.n=66/\f.get 0= .slice none 0 0/\f.get 3= .pointer (some ⟨s.next,0,some 7⟩)/\f.get 5= .slice none 0 0/\f.get 6= .bool false/\f.get 7= .int .i64 0)
  ⟨rfl,rfl,by simp only[aa,ag,↓ab,WP,hn,h0,cp]⟩ ?_
 clear hn h0 h1 f;rintro _ f t ⟨rfl,rfl,hn,h0,h3,h5,h6,h7⟩;have d1:¬(0:bq)<((0:b7):bq):=by omega
 simp only[aj,ad,QM,WP,↓ab,hn,h0,h6,h7,nl,ax d1];obtain⟨A,hA⟩:∃A:b7->Bool,A=fun j=>decide (j<t.next):=⟨_,rfl⟩
 have gu:∀j,A j=true->j<t.next:=by
  intro j h;rw[hA] at h;exact ds h
 refine LB.cN.dx A gu 1 1 (by kernel_rfl) (by kernel_rfl) ?_;have dI:=aw.spare t 1;have QN:(spare t 1).next=t.next+1:=bu _ _;have htb:=eJ.keeps dI;have iw:∀k,LA.di A (some (.pointer (some ⟨s.next,k,some 7⟩)))=true:=fun k=>LA.bN (A:=A) (i:=s.next) (by rw[hA];exact an eJ.lt)
 have lk:aN af (spare t 1) 9 (.pointer (some ⟨s.next,0,some 7⟩))=some (.string ⟨k.toArray⟩):=by
  have:=htb.load (P:=af) yP (off:=0) (c:=7) (by simp[qe]) (by simp);rw[this];rfl
 have lo:aN af (spare t 1) 26 (.pointer (some ⟨s.next,1,some 7⟩))=some (.agg re.toArray):=by
  have:=az.qc (P:=af) Bi kn htb (off:=1) (c:=7) (by simp[qe]) (by simp[qe]);rw[this,List.drop_succ_cons,er,cL (by omega)]
 have tF:=hre.keeps (aY.trans (dI.weaken n1));have sn:bI (.slice none 0 0) (.slice none 0 0)=true:=mi _ _ _;simp only[aj,ak,bg,bn,ev,ad,ae,QM,WP,↓ab,hn,h3,h5,II,F4,iw,lk,lo,sn,tF.self];refine(TO rfl rfl _ o (cd _) F2 (spare t 1) _ tF iW).mono ?_;rintro _ s7 ⟨IH,rfl,rD,iX⟩;have JC:=iX.next;refine⟨fun _=>LA.aw.qI gu (iX.weaken (by omega)),?_⟩;have uH:=rD.len;obtain⟨es,vY⟩:∃es,es=ea ⟨k.toArray⟩::IH:=⟨_,rfl⟩
 have IF:es.length=6:=by rw[vY];simp[uH]
 have xh:bI (.agg es.toArray) (.agg es.toArray)=true:=by
  have:=rD.self;rw[vY]
  match IH,uH,this with
  |[a,b,c,d,e],_,this=>
   simp[bI,fc] at this|-
   exact⟨by simp[cw],this⟩
 have TL:=bE k uH;rw[<-vY] at TL;simp only[aj,bn,ae,QM,↓ab,hn,TL,xh,gn (cs:=es.toArray) UE Bj zE Xb rfl IF (by decide)];refine LB.bR (base:=t.next) IF (by omega) (cd _) ?_;intro bs s8 nj fM Xc F3 yR;have D5:es.all aT=true:=by rw[vY,et,rD.ok];rfl
 simp only[aj,bn,ad,QM,WP,↓ab,hn];refine LB.eY UE UE (.inl ⟨_,rfl⟩) Bj byE zE rfl Own.nil nj.aL.src IF (by decide) D5 (by omega) (by omega) (base:=s8.next) (aM.nil _) (by omega) (fun h=>cg rfl h) (fun j hj=>by have:=gu j hj;omega) ?_;intro w s9 hw hF9 hT9 oh;have O3:=rD.aK F3 yR (by omega);have ho9:=O3.W7.turns hT9 (fun j hj e=>by cases e);have k89:=hT9.keeps (aM.nil s8.next) (cd _);simp only[aj,bg,bn,ed,oneOf,QM,↓ab,aj,al,oneOf,QM,↓ab,hn,hw.self,Tryz.results96];exact⟨IH,by rw[<-vY];exact hw,fun j hj=>by have:=hF9 j hj;omega,ho9.mono (fun j hj=>⟨by have:=hj.1;have:=aY.next;omega,fun e=>by have:=hF9 j e;have:=hj.2;omega⟩),⟨by have:=k89.next;omega,fun j hj=>by rw[k89.get j (by omega),yR j (by omega),iX.get j (by omega),dI.get j (by omega),aY.get j hj]⟩⟩
theorem Sk (s:au)(x:bw)(k:a2 bl)(o:O)(r:a2 bw)(F:b7->Prop)(hx:aU s 6 x 1 (.string ⟨k.toArray⟩::r))(hr:dV F s r o)(hk:k.length<=9223372036854775807)(iW:Small o)(Jv:o.kind≠0):
  Runs af dR 55 [x] s (su s (.mk 7 0 [] [] [(k,o)])):=by
 have UE:=dt;have qe:=hr.len;refine Runs.enter 21 Tryz.func55 rfl rfl rfl rfl ?_;intro f hn hf;have h0:f.get 0=x:=hf 0;clear hf;simp only[aj,↓ab,zO,Ac];refine aA ?_;intro s1 eJ aY gG;have qB:fC.length+1=6:=rfl;simp only[aj,ae,QM,↓ab,hn,qB,bO1,zO,Ac];refine aA ?_;intro s2 dK aR jD;simp only[aj,QM,WP,↓ab,hn,qB];refine aG kn (by decide) dK rfl rfl rfl rfl ?_;intro s3 jE Ga QZ;have jE:az s3 s1.next [.int .i64 7,.int .i64 0,.slice none 0 0,.slice none 0 0,.slice none 0 0]:=jE;have VY:aw s1.next s1 s3:=aR.trans ⟨by omega,fun j hj=>QZ j (by omega)⟩;have iT:aw s.next s s3:=aY.trans (VY.weaken (by omega));have n1:=aY.next;have vP:=eJ.keeps VY;simp only[aj,QM,↓ab,hn];refine Comes.de (fun z f t=>∃w:bw,az t s1.next [.int .i64 7,.int .i64 0,.slice none 0 0,.slice none 0 0,w]/\aw s1.next s1 t/\((z=1/\w= .slice none 0 0/\t=s3/\f.get 4= .int .i64 ((0:b7):bq))\/(z=0/\f.get 4= .int .i64 ((1:b7):bq)/\∃r',aU t 6 w 1 (.string ⟨k.toArray⟩::r')/\dV (fun j=>s2.next<=j) t r' o/\gq (fun j=>s2.next<=j) w))/\f.n=21/\f.get 0=x/\f.get 2= .pointer (some ⟨s.next,0,some 6⟩)/\f.get 3= .pointer (some ⟨s1.next,0,some 6⟩))
  ⟨_,jE,VY,.inl ⟨rfl,rfl,rfl,by simp only[aa,↓ab];rfl⟩,by simp only[aa,ag,↓ab,WP,hn,h0,cp]⟩ ?_
 clear hn h0 f;rintro z f t ⟨w,htw,aF,⟨rfl,rfl,rfl,h4⟩|⟨rfl,h4,r',hw,C0,xg⟩,hn,h0,h2,h3⟩
 ·have EY:=hx.keeps iT;have d1:((0:b7):bq)<((1:b7):bq):=by omega
  simp only[aj,ad,QM,WP,↓ab,hn,h0,h4,EY.aQ UE,a8 d1];obtain⟨A,hA⟩:∃A:b7->Bool,A=fun j=>decide (j<t.next):=⟨_,rfl⟩
  have gu:∀j,A j=true->j<t.next:=by
   intro j h;rw[hA] at h;exact ds h
  have oO:∀j,j<t.next->A j=true:=fun j h=>by rw[hA];exact an h
  refine LB.cN.dx A gu 1 0 (by kernel_rfl) (by kernel_rfl) ?_;have dI:=aw.spare t 0;have nsp:(spare t 0).next=t.next:=bu _ _;have htO:=jE.keeps dI;have hxT:=EY.keeps dI;have fk:=hxT.indexAddr (P:=af) (k:= .i64) (x:=((0:b7):bq)) UE Bj (by omega) (by omega);rw[bk] at fk;have Ie:=hxT.fZ (P:=af) agE Bj (k:=0) (by omega);rw[Nat.zero_mul,er,cL (by simp[qe])] at Ie;have hro:=hr.keeps (iT.trans (dI.weaken iT.next));have alg:bI (.agg (ea ⟨k.toArray⟩::r).toArray) (.agg (ea ⟨k.toArray⟩::r).toArray)=true:=by
   have:=hr.self
   match r,qe,this with
   |[a,b,c,d,e],_,this=>
    simp[bI,fc] at this|-
    exact⟨by simp[cw],this⟩
  have TQ:∀k,LA.di A (some (.pointer (some ⟨s1.next,k,some 6⟩)))=true:=fun k=>LA.bN (A:=A) (i:=s1.next) (oO _ jE.lt)
  have l18:aN af (spare t 0) 24 (.pointer (some ⟨s1.next,4,some 6⟩))=some (.slice none 0 0):=htO.load yQ (off:=4) (c:=6) rfl (by simp);have sn:bI (.slice none 0 0) (.slice none 0 0)=true:=mi _ _ _;simp only[aj,ak,bg,bn,ev,ad,QM,WP,↓ab,hn,h0,h3,h4,BU,TQ,l18,sn,hxT.self,fk,Ie,alg,LA.gh EY oO (show 0<1 by omega)];refine(Sj F (spare t 0) k r o hro iW Jv).mono ?_;rintro w' t4 ⟨r',Pg,ago,hr4,k4⟩;refine⟨fun _=>LA.aw.qI gu (k4.weaken (by omega)),?_⟩;have alh:=htO.keeps k4;refine LB.fu D2 (by decide) alh (off:=4) (c:=6) rfl (vs:=[w']) Pg.aL.sZ rfl (by simp) (by simp[Pg.aL.aT]) (fun h=>cg rfl h) ?_;intro t5 py Ae pz;have py:az t5 s1.next [.int .i64 7,.int .i64 0,.slice none 0 0,.slice none 0 0,w']:=py;have n3:=VY.next;have n4:=k4.next;simp only[aj,bn,ed,QM,WP,↓ab,hn,h4];exact ar 0 (by omega) ⟨w',py,((VY.trans (dI.weaken n3)).trans (k4.weaken (by omega))).trans ⟨by omega,fun j hj=>pz j (by omega)⟩,.inr ⟨rfl,by simp only[aa,↓ab];rfl,r',(Pg.aK Ae pz (fun e=>by have:=ago _ e;omega)).aL,(hr4.mono (fun j hj=>by have:=hj.1;omega)).aK Ae pz (by omega),gq.Kp (fun j hj=>by have:=ago j hj;omega)⟩,by simp only[aa,ag,↓ab,WP,hn,h0,h2,h3,cp]⟩
 have d1:¬((1:b7):bq)<((1:b7):bq):=by omega
 have EY:=hx.keeps (aY.trans (aF.weaken n1));have ali:lu (fun j=>s2.next<=j) t (.string ⟨k.toArray⟩::r') (k,o):=⟨r',rfl,C0,hk⟩;have rows:bX lu 6 (fun j=>s2.next<=j) t [(k,o)] (.string ⟨k.toArray⟩::r'):=by
  have:=bX.nil.snoc (cs:= .string ⟨k.toArray⟩::r') (by rw[b8,C0.len]) ali
  simpa using this
 have Gr:dV (fun j=>s2.next<=j) t [.int .i64 7,.int .i64 0,.slice none 0 0,.slice none 0 0,w] (.mk 7 0 [] [] [(k,o)]):=dV.whole .nil .nil hw trivial trivial xg bX.nil rows;simp only[aj,ad,QM,WP,↓ab,hn,h0,h2,h3,h4,EY.aQ UE,ax d1,az.fi htw rfl];refine aG kn (by decide) (eJ.keeps aF) rfl rfl rfl Gr.ok ?_;intro s7 xO uK xi;simp only[aj,al,oneOf,QM,WP,↓ab,hn,h2,az.fi xO rfl,a4,Tryz.results55];exact su.put Gr (fun j hj=>⟨by omega,by omega⟩) uK xi (aY.trans (aF.weaken n1)) (cd _)
theorem LZ (s:au)(y:bw)(b:a2 bl)(hy:aU s 1 y b.length (ofBytes b))(hb:b.length<=4294967296)(x:bw)(k:a2 bl)(o:O)(r:a2 bw)(F:b7->Prop)(hx:aU s 6 x 1 (.string ⟨k.toArray⟩::r))(hr:dV F s r o)(hk:k.length<=9223372036854775807)(iW:Small o)(Jv:o.kind≠0):
  Runs af dR 27 [y,x] s (su s (.mk 8 0 b [] [(k,o)])):=by
 refine Runs.enter 13 Tryz.func27 rfl rfl rfl rfl ?_;intro f hn hf;have h0:f.get 0=y:=hf 0;have h1:f.get 1=x:=hf 1;clear hf;simp only[aj,↓ab,zO,Ac];refine aA ?_;intro s1 eJ aY gG;have qB:fC.length+1=6:=rfl;simp only[aj,ak,ad,QM,WP,↓ab,hn,h1,qB];refine(Sk s1 x k o r F (hx.keeps aY) (hr.keeps aY) hk iW Jv).mono ?_;rintro _ s2 ⟨gY,rfl,iV,aR⟩;obtain⟨bv,lv,dv,lc,dc,rfl,dr,iG,wi,fb,fl,fd,rl,rd⟩:=iV.W7.parts;simp only[aj,QM,↓ab,hn,zO,Ac];refine aA ?_;intro s3 jE bA Ga;simp only[aj,QM,WP,↓ab,hn,qB];refine aG kn (by decide) jE rfl rfl rfl iV.ok ?_;intro s4 ly uF oo;have ly:az s4 s2.next [.int .i64 7,.int .i64 0,bv,lv,dv]:=ly;have acr:aw s2.next s2 s4:=bA.trans ⟨by omega,fun j hj=>oo j (by omega)⟩;have alj:aw s.next s s4:=(aY.trans (aR.weaken aY.next)).trans (acr.weaken (by have:=aY.next;have:=aR.next;omega));have aqz:=ly.lt;simp only[aj,QM,↓ab,hn,oi];refine sq aV (by decide) ly (off:=0) (c:=6) rfl (vs:=[.int .i64 8]) rfl rfl (by simp) rfl ?_;intro s5 py Ae pz;have py:az s5 s2.next [.int .i64 8,.int .i64 0,bv,lv,dv]:=py;have gZ:=aY.next;have mf:=aR.next;have aqA:=acr.next;have acs:aw s2.next s4 s5:=⟨by omega,fun j hj=>pz j (by omega)⟩;have alk:aw s.next s s5:=alj.trans (acs.weaken (by omega));simp only[aj,ak,ad,QM,WP,↓ab,hn,h0];refine(rC (lib:=dR) rfl s5 y b (hy.keeps alk) hb).mono ?_;rintro w s6 ⟨hw,xg,cU⟩;have gF:=hw.aL.aT;have Ku:=cU.next;simp only[aj,QM,WP,↓ab,hn,M3];refine sq iA (by decide) (py.keeps cU) (off:=2) (c:=6) rfl (vs:=[w]) hw.aL.sZ rfl (by simp) (by simp[gF]) ?_;intro s7 xO uK xi;have xO:az s7 s2.next [.int .i64 8,.int .i64 0,w,lv,dv]:=xO;have Sw:=acs.next;have VZ:aw s2.next s2 s7:=((acr.trans acs).trans (cU.weaken (by omega))).trans ⟨by omega,fun j hj=>xi j (by omega)⟩;have agp:aw s1.next s1 s7:=aR.trans (VZ.weaken mf);have hw7:Own s7 1 w b.length (ofBytes b):=hw.aK uK xi (fun e=>by have:=xg _ e;omega);have hG:∀j,s1.next<=j/\j<s2.next->s1.next<=j:=fun j hj=>hj.1
 have rD:dV (fun j=>s1.next<=j) s7 [.int .i64 8,.int .i64 0,w,lv,dv] (.mk 8 0 b [] [(k,o)]):=dV.whole hw7.aL (iG.keeps VZ) (wi.keeps VZ) (gq.Kp (fun j hj=>by have:=xg j hj;omega)) (fl.mono hG) (fd.mono hG) ((rl.mono dQ hG).keeps dQ VZ) ((rd.mono km hG).keeps km VZ);simp only[aj,QM,WP,↓ab,hn,az.fi xO rfl];refine aG kn (by decide) (eJ.keeps agp) rfl rfl rfl rD.ok ?_;intro s8 xj F3 yR;simp only[aj,al,oneOf,QM,WP,↓ab,hn,az.fi xj rfl,a4,Tryz.results27];exact su.put rD (fun j hj=>⟨by omega,by omega⟩) F3 yR (aY.trans (agp.weaken gZ)) (cd _)
end Go.Proofs.YtdfjfncifneocaaGreat
namespace Go.Cl
theorem V0 {P:Program}{t e:TypeId}(hu:P.underlying t=some (.slice e))(he:P.underlying e=some (.int .u8)){s:au}{x:bw}{n:b7}{l:a2 bw}(h:Own s 1 x (n+1) l):
  ∃s',ir P s t t x=some (x,s')/\Own s' 1 x (n+1) l/\s'.next=s.next/\∀j,aI x≠some j->s'.heap.get j=s.heap.get j:=by
 cases h with
 |of i n low l hi hb hl hlen=>
  refine⟨s.put i (.eE ⟨l,low,true,1⟩),?_,.of i _ low l (by simpa [au.put] using hi) (by rw[au.cC _ _ _ (by omega)]) hl hlen,rfl,fun j hj=>au.bo _ _ _ _ (fun e=>hj (by rw[e];rfl))⟩;unfold ir;rw[hu];simp[hb,Cy,he,hl]
end Go.Cl
namespace Go.Proofs.YtdfjfncifneocaaGreat
open Go.Cl Go.Cl.Pr Go.Cl.Ch Go.Lib
def awO:O:= .mk 8 0 [52,49,62] [] [(fh,Ug sA)]
theorem H7:df awO=([⟨1,1,1,sA,1⟩],0):=by rfl
theorem YA:Cd awO 9=([65],0):=by rfl
theorem Ox (s:au):Runs af dR 9 [] s fun v s' =>v= .bool true/\aw s.next s s' :=by
 refine Runs.enter 20 Tryz.func9 rfl rfl rfl rfl ?_;intro f hn _;simp only[aj,ae,QM,↓ab,hn,aaV aC cO rU];refine bc (by rfl) ?_;intro x s1 hx hxF h1;obtain⟨s2,x9,kA,m2,g2⟩:=V0 (P:=af) aC cM hx;have h2:aw s.next s s2:=h1.trans ⟨by have:=h1.next;omega,fun j hj=>g2 j (fun e=>by have:=hxF j e;omega)⟩;have n2:=h2.next;have lh:sA.length<=4294967296:=by decide
 simp only[aj,ak,ad,QM,↓ab,hn,x9];refine(NG (lib:=dR) rfl s2 sA lh).mono ?_;rintro _ s3 ⟨c1,rfl,o1,h3⟩;have n3:=h3.next;simp only[aj,ak,ad,QM,↓ab,hn];refine(Si (lib:=dR) rfl rfl rfl _ s3 fh c1 _ o1 (.mk (by decide) (by decide) (by decide) (fun e h=>by cases h) (fun e h=>by cases h) (fun e h=>by cases h))).mono ?_;rintro _ s4 ⟨p,rfl,e1,h4⟩;have n4:=h4.next;have q1:=e1.len;simp only[aj,ae,QM,↓ab,hn,gn (cs:=(.string ⟨fh.toArray⟩::p).toArray) dt Bj zE Xb rfl (by simp[q1]) (by decide)];refine bc (by simp[q1]) ?_;intro z s5 hz hzF h5;have n5:=h5.next;have k25:aw s2.next s2 s5:=(h3.trans (h4.weaken n3)).trans (h5.weaken (by omega));have hsN:Small (Ug sA):= .mk (by decide) (by decide) (by decide) (fun e h=>by cases h) (fun e h=>by cases h) (fun e h=>by cases h);simp only[aj,ak,ad,QM,WP,↓ab,hn];refine(LZ s5 x [52,49,62] ((kA.keeps k25).aL) (by decide) z fh (Ug sA) p _ hz.aL (e1.keeps h5) (by decide) hsN (by decide)).mono ?_;rintro _ s6 ⟨cs,rfl,o6,h6⟩;have o6:dV (fun j=>s5.next<=j) s6 cs awO:=o6;have n6:=h6.next;simp only[aj,ak,ad,QM,↓ab,hn];refine(zo _ s6 cs awO o6 (.mk (by decide) (by decide) (by decide) (fun e h=>by rw[bt.1 h];decide) (fun e h=>by cases h) (fun e h=>by rw[bt.1 h];exact hsN)) 9 (by decide) (by rw[H7];decide) (by rw[H7];exact⟨by decide,fun _=>trivial⟩)).mono ?_;rw[YA];rintro _ s7 ⟨w,rfl,hw⟩;have k7:=hw.stay;have x0:∀q,aH (.tuple #[w,q]) 0=some w:=fun _=>rfl
 have x1:∀q,aH (.tuple #[w,q]) 1=some q:=fun _=>rfl
 have Ul:=hw.own.aL.str (P:=af) aC Tryz.underlying9 cM;have heq:=fJ (P:=af) (t:=9) [65] [65];simp only[aj,ak,al,oneOf,QM,WP,↓ab,hn,x0,x1,Ul,heq,Tryz.results9];exact(((h2.trans (k25.weaken n2)).trans (h6.weaken (by omega)))).trans (k7.weaken (by omega))
end Go.Proofs.YtdfjfncifneocaaGreat