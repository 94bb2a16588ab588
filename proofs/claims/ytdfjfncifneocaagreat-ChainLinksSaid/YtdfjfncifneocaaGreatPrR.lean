import Derived.Test.YtdfjfncifneocaaGreatNfL
open _root_ renaming reduceIte->ab,eq_false->an,Nat->ao,if_neg->av,UInt8->ax,decide_eq_false->a0,List->bk,Int->bl,if_pos->bq,decide_eq_true->bs,eq_true->bz,decide_not->dA,of_decide_eq_true->dI,Except->ed,and_self->et
open Go.Proofs.Tryz renaming prog->af,underlying22->aC,results65->ch,results191->ck,underlying3->cx,results37->cA,underlying112->cM,underlying5->cT,results169->cX,results130->c5,results150->c8,results103->dk,results129->ds,results148->eb,results101->ec,results36->ek
open List renaming getD_eq_getElem?_getD->bt,length_take->cc,length_drop->cd,take_of_length_le->cD,length_cons->dP,replicate->ee,drop_zero->eg
open Int renaming toNat_natCast->bw,tmod_eq_emod_of_nonneg->dc
open Go renaming Value->b7
open Nat renaming reduceAdd->cg,le_refl->cB,lt_of_lt_of_le->cL,mul_one->c6,testBit_two_pow->dv,mod_eq_of_lt->dT,zero_le->ea,sub_zero->en,le_trans->eo,sub_self->er,mod_le->ev
open BitVec renaming ofInt->cp,ofInt_natCast->dt,toNat_ofNat->dw
open Go.IntKind renaming u8->cv,i64->c7
open Nat renaming reduceLT->QM,reduceEqDiff->WP
set_option maxHeartbeats 16000000
set_option linter.unusedSimpArgs false
set_option linter.unusedVariables false
set_option maxRecDepth 100000
namespace Go.Cl.Bt
theorem eZ.late {jx ic:ao}{s t t' :au}{j:ao}(h:eZ jx ic s t)(hj:s.next<=j)(hn:t'.next=t.next)(hs:∀i,i≠j->t'.heap.get i=t.heap.get i):eZ jx ic s t' :=⟨by have:=h.next;omega,fun i hi h1 h2=>(hs i (by omega)).trans (h.get i hi h1 h2)⟩
theorem eZ.kept {jx ic:ao}{s t t' :au}(h:eZ jx ic s t)(k:aw t.next t t'):eZ jx ic s t' :=⟨by have:=h.next;have:=k.next;omega,fun i hi h1 h2=>(k.get i (by have:=h.next;omega)).trans (h.get i hi h1 h2)⟩
theorem eZ.EO {jx ic:ao}{s t t' :au}{y:b7}(h:eZ jx ic s t)(k:bG y t t')(hy:aM s.next y):eZ jx ic s t' :=⟨by have:=h.next;have:=k.next;omega,fun i hi h1 h2=>(k.get i (by have:=h.next;omega) (fun e=>by have:=hy i e;omega)).trans (h.get i hi h1 h2)⟩
end Go.Cl.Bt
namespace Go.Proofs.YtdfjfncifneocaaGreat
open Go.Cl Go.Cl.Rw Go.Cl.Sto Go.Cl.Fx Go.Cl.Nf Go.Cl.Bt
theorem Rs.low {base:ao}{t t' :au}{jr jx ic:ao}{D P:bk ax}{p:ao}{M:bl}{o:b7}(h:Rs base t jr jx ic D p P M o){B:ao}(hn:t.next<=t'.next)(hg:∀i,i<B->t'.heap.get i=t.heap.get i)(b1:base<=B)(b2:jr<B)(b3:jx<B)(b4:ic<B)(b5:∀i,aI o=some i->i<B):Rs base t' jr jx ic D p P M o:=by
 obtain⟨q5,now,left,Ft,h7⟩:=h.bit;obtain⟨bb,c1,c2,c3,c4⟩:=Ft.c;have aF:aw base t t' :=⟨hn,fun i hi=>hg i (by omega)⟩;exact⟨⟨q5,now,left,⟨⟨bb,gX c1 hn (hg ic b4),c2.stay aF,c3,c4⟩,gX Ft.t hn (hg jx b3),Ft.e,Ft.l8,Ft.r,Ft.now,Ft.lx,Ft.lc,Ft.ne⟩,h7⟩,gX h.t hn (hg jr b2),EV h.own hn (fun i hi _=>hg i (b5 i hi)),h.fresh,h.nr,h.nx,h.nc,h.rx,h.rc,h.lr⟩
theorem nL:da af 219 []=some (.agg (bC [] (.slice none 0 0)).toArray):=by kernel_rfl
abbrev ZI:b7:= .agg (bC [] (.slice none 0 0)).toArray
def akv (base jr jx ic:ao)(D P:bk ax)(M:bl)(o:b7)(s:au)(v:b7)(s' :au):ed ao ((bk ao×bk ao)×ao)->Prop
 | .ok ((a,b),q)=>∃sa sb,v= .tuple #[.agg (bC a sa).toArray,.agg (bC b sb).toArray,.int .i64 0]/\Rs base s' jr jx ic D q P M o/\eZ jx ic s s' /\Own s' 1 sa (dp a 15).length (bm (dp a 15))/\Own s' 1 sb (dp b 15).length (bm (dp b 15))/\aM s.next sa/\aM s.next sb/\a.length<=300/\b.length<=300
 | .error e=>0<e/\v= .tuple #[ZI,ZI,.int .i64 (e:ao)]/\eZ jx ic s s'
theorem VB {lib:aD}(hL:Jm lib)(base:ao)(s:au)(jr jx ic:ao)(D P:bk ax)(p N:ao)(M:bl)(o:b7)(h:Rs base s jr jx ic D p P M o)(hb:base<=s.next)(hlen:D.length<=4000000)(hN:8*D.length+1<N):
  Runs af lib 191 [lZ jr] s fun v s' =>akv base jr jx ic D P M o s v s' (zj N D p):=by
 have a7:=h.bit.lt;have Yj:=h.t.lt;have r8:∀i,aI o=some i->i<s.next:=fun i hi=>h.own.ei i hi
 refine Runs.enter 109 Tryz.func191 rfl (hL _ rfl) rfl rfl ?_;intro f hn hf;have h0:f.get 0=lZ jr:=hf 0;clear hf;simp only[aj,↓ab,pM,pN];refine aA ?_;intro s1 vK aY gG;obtain⟨j2,ZF⟩:∃j,j=s.next:=⟨_,rfl⟩
 rw[<-ZF] at vK;simp only[aj,QM,cg,↓ab,hn,<-ZF,aq,pM,pN];refine aA ?_;intro s2 kP aR jD;obtain⟨j3,hj3⟩:∃j,j=s1.next:=⟨_,rfl⟩
 rw[<-hj3] at kP;have fe:=vK.keeps aR;have vj:s.next<=j2:=by omega
 have vk:s.next<=j3:=by omega
 have og:aw s.next s s2:=aY.trans (aR.weaken (by omega));have kR:eZ jx ic s s2:=⟨og.next,fun i hi _ _=>og.get i hi⟩;have iq:=h.keeps hb og;have hT:∀{t t' :au} {j:ao} {cs:bk b7},az t j cs->s.next<=j->eZ jx ic t t' ->az t' j cs:=fun h1 h2 k=>gX h1 k.next (k.get _ h1.lt (by omega) (by omega))
 have hO:∀{t t' :au} {y:b7} {n:ao} {L:bk b7},Own t 1 y n L->aM s.next y->eZ jx ic t t' ->Own t' 1 y n L:=fun h1 h2 k=>EV h1 k.next (fun i hi hl=>k.get i hl (by have:=h2 i hi;omega) (by have:=h2 i hi;omega))
 have Yk:∀{t t' :au} {q:ao},Rs base t jr jx ic D q P M o->t.next<=t'.next->(∀i,i<s.next->t'.heap.get i=t.heap.get i)->Rs base t' jr jx ic D q P M o:=fun h1 h2 h3=>h1.low h2 h3 hb Yj a7.1 a7.2.1 r8
 unfold zj;simp only[aj,ak,ad,QM,WP,cg,↓ab,hn,h0,<-hj3,aq];refine(RT hL base s2 jr jx ic D P p M o iq (by omega) hlen).mono ?_;intro v s3 hH;cases hh:rR D p with
 |error e=>
  rw[hh] at hH;obtain⟨he,⟨a,b,c,rfl⟩,dg⟩:=hH;have c0:¬(e:bl)=0:=by omega
  simp only[aj,ak,ae,QM,WP,↓ab,hn,Lx,Vy,Vz,VA,an c0,nL];refine aG bB (by decide) (hT fe vj dg) (aq _ _) rfl (aq _ _) (cG _ rfl) ?_;intro u1 Am Ca BF;have JY:az u1 j3 (bC [] (.slice none 0 0)):=az.aK (hT kP vk dg) Ca BF (by omega);simp only[aj,QM,WP,↓ab,hn];refine aG bB (by decide) JY (aq _ _) rfl (aq _ _) (cG _ rfl) ?_;intro u2 rT Bp Cb;have Aw:az u1 j2 (bC [] (.slice none 0 0)):=Am;have Fs:=Aw.aK Bp Cb (by omega);have la:=Fs.bd (P:=af) dy (by rw[aq];exact bB) (c:=18) (by rw[aq]);have E5:az u2 j3 (bC [] (.slice none 0 0)):=rT;have lb:=E5.bd (P:=af) dy (by rw[aq];exact bB) (c:=18) (by rw[aq]);have RU:=eZ.late (eZ.late (kR.trans dg) vj Ca BF) vk Bp Cb;simp only[aj,al,oneOf,QM,WP,↓ab,hn,a4,la,lb,ck];exact⟨he,rfl,RU⟩
 |ok c=>
 obtain⟨n,d,k⟩:=c;rw[hh] at hH;obtain⟨rfl,uU,jT⟩:=hH;dsimp only;have fe:=hT fe vj jT;have kP:=hT kP vk jT;have jT:=kR.trans jT;have afK:=fe.lt;have apY:=kP.lt;have n3:s.next<=s3.next:=jT.next;have hbn:n<=286/\257<=n/\1<=d/\d<=30/\k<=19:=by
  unfold rR at hh;cases g1:dW D p 5 with
  |error e=>rw[g1] at hh;cases hh
  |ok n1=>
   rw[g1] at hh;dsimp only at hh;split at hh
   ·cases hh
   cases g2:dW D (p+5) 5 with
   |error e=>rw[g2] at hh;cases hh
   |ok d1=>
    rw[g2] at hh;dsimp only at hh;split at hh
    ·cases hh
    cases g3:dW D (p+10) 4 with
    |error e=>rw[g3] at hh;cases hh
    |ok k1=>
     rw[g3] at hh;injection hh with hh;injection hh with a1 hh;injection hh with a2 a3
     have:=(oe g3).2;have:=cY D (p+10) 4;have:(2:ao)^4=16:=by decide
     omega
 have abB:∀t:au,dq af t 134 (.int .i64 19) (.int .i64 19)=a6 t (ee 19 (.int .i64 0)) 19 1:=fun t=>rm (n:=19) dS aV qf sy (by decide) (by decide)
 simp only[aj,ak,QM,WP,↓ab,hn,Lx,Vy,Vz,VA,abB];refine bc (by rw[List.length_replicate,c6]) ?_;intro yc s4 xF Jh k4;rw[rG] at xF;have n4:=k4.next;have Ji:∀i,aI yc=some i->s3.next<=i:=Jh
 have Jh:aM s.next yc:=fun i hi=>by have:=Jh i hi;omega
 simp only[aj,ae,QM,↓ab,hn,Vj];refine bc (by rfl) ?_;intro yo s5 uJ N2 k5;have n5:=k5.next;have abE:∀i,aI yo=some i->aI yc≠some i:=fun i hi e=>by have:=xF.ei i e;have:=N2 i hi;omega
 have abG:∀i,aI yo=some i->s3.next<=i:=fun i hi=>by have:=N2 i hi;omega
 have N2:aM s.next yo:=fun i hi=>by have:=N2 i hi;omega
 have ajW:order.length=19:=rfl;have qk:=uJ.aL.ra (P:=af) (k:= .i64) (y:=((k:ao):bl)) dS aV (by omega) (by omega);rw[bw] at qk;have kt:eZ jx ic s3 s5:=(eZ.kept (eZ.refl jx ic s3) k4).kept k5;have RM:=xF.keeps k5;have fe:=hT fe vj kt;have kP:=hT kP vk kt;have U2:Rs base s5 jr jx ic D (p+14) P M o:=Yk uU (by omega) (fun i hi=>by rw[k5.get i (by omega),k4.get i (by omega)]);have vT:=jT.trans kt;have afU:∀t,Own t 1 yo 19 (bm order)->aU t 1 (jC 1 yo 0 k) k (bm (order.take k)):=fun t h=>by
  have:=h.aL.cut (lo:=0) (hi:=k) (by omega) (by omega);rw[c6,c6,pK,pJ,eg,en] at this;exact this
 have oK:=(afU s5 uJ).aQ (P:=af) dS (s2:=s5);obtain⟨R1,nH⟩:∃R1,R1=zi D (order.take k) (p+14) (ee 19 0):=⟨_,rfl⟩
 rw[<-nH];clear kt kR iq uU aY aR og vK xF N2 jT k4 k5;simp only[aj,ad,ai,QM,WP,↓ab,hn,qk,oK];refine Comes.bD (fun z f t=>∃(i q:ao) (oL:bk ao),z=k-i/\i<=k/\zi D ((order.take k).drop i) q oL=R1/\oL.length=19/\(∀j,oL.getD j 0<=7)/\Rs base t jr jx ic D q P M o/\Own t 1 yc 19 (bm oL)/\Own t 1 yo 19 (bm order)/\az t j2 (bC [] (.slice none 0 0))/\az t j3 (bC [] (.slice none 0 0))/\eZ jx ic s t/\s3.next<=t.next/\f.n=109/\f.get 0=lZ jr/\f.get 2= .pointer (some ⟨j2,0,some 18⟩)/\f.get 3= .pointer (some ⟨j3,0,some 18⟩)/\f.get 5= .int .i64 (n:ao)/\f.get 6= .int .i64 (d:ao)/\f.get 9=yc/\f.get 33=jC 1 yo 0 k/\f.get 34= .int .i64 (k:ao)/\f.get 35= .int .i64 (i:ao))
  (fun z f t=>f.n=109/\f.get 2= .pointer (some ⟨j2,0,some 18⟩)/\f.get 3= .pointer (some ⟨j3,0,some 18⟩)/\az t j2 (bC [] (.slice none 0 0))/\az t j3 (bC [] (.slice none 0 0))/\eZ jx ic s t/\((z= .ret/\∃e,R1= .error e/\0<e/\f.get 4= .int .i64 (e:ao))\/(z= .exit 0/\∃(q:ao) (oL:bk ao),R1= .ok (oL,q)/\oL.length=19/\(∀j,oL.getD j 0<=7)/\Rs base t jr jx ic D q P M o/\Own t 1 yc 19 (bm oL)/\s3.next<=t.next/\f.get 0=lZ jr/\f.get 5= .int .i64 (n:ao)/\f.get 6= .int .i64 (d:ao)/\f.get 9=yc)))
  ⟨0,p+14,_,rfl,by omega,nH.symm,by simp,fun j=>by rw[bt,List.getElem?_replicate];split<;>simp,U2,RM,uJ,fe,kP,vT,by omega,by simp only[aa,ag,↓ab,WP,hn,h0,true_and];rfl⟩ ?_ ?_
 ·clear hn h0 f U2 RM uJ fe kP vT oK qk;rintro Q hQ z f t ⟨i,q,oL,rfl,hi,iU,SB,rD,hR,xF,uJ,fe,kP,dg,xL,hn,h0,h2,h3,h5,h6,h9,tG,rV,Md⟩;have zC:base<=t.next:=by omega
  by_cases tm:i<k;rotate_left
  ·obtain rfl:i=k:=by omega
   have d1:¬((i:ao):bl)<((i:ao):bl):=by omega
   rw[List.drop_of_length_le (by rw[cc];omega),zi] at iU;simp only[aj,QM,↓ab,hn,rV,Md,an d1];exact hQ _ _ _ ⟨by simp only[ag,hn],by simp only[aa,↓ab,WP,h2],by simp only[aa,↓ab,WP,h3],fe,kP,dg,.inr ⟨rfl,q,oL,iU.symm,SB,rD,hR,xF,xL,by simp only[aa,↓ab,WP,h0,h5,h6,h9,et]⟩⟩
  have d1:((i:ao):bl)<((k:ao):bl):=by omega
  have O7:(order.take k).drop i=order.getD i 0::(order.take k).drop (i+1):=by
   rw[List.drop_eq_getElem_cons (by rw[cc];omega)]
   congr 1
   rw[List.getElem_take,bt,List.getElem?_eq_getElem (by omega)];rfl
  rw[O7,zi] at iU;have PG:order.getD i 0<19:=by
   have key:∀i,i<19->order.getD i 0<19:=by decide
   exact key i (by omega)
  have kD:=afU t uJ;have jK:=kD.indexAddr (P:=af) (k:= .i64) (x:=(i:bl)) dS aV (by omega) (by omega);rw[bw] at jK;have k1:=kD.cu (P:=af) aP tm;have ekt:(order.take k).getD i 0=order.getD i 0:=by rw[bt,List.getElem?_take_of_lt tm,bt]
  rw[fm (by rw[cc];omega),ekt] at k1;have r0:=hR.t.load (P:=af) gC (off:=0) (c:=4) rfl (by simp);simp only[aj,ak,ad,QM,WP,↓ab,hn,h0,h9,tG,rV,Md,bz d1,jK,k1,lG,r0];refine(fU hL base t jx ic D q 3 hR.bit zC (by omega) hlen).mono ?_;intro v t2 hN;have Gr:∀(k' :eZ jx ic t t2),Own t2 1 yc 19 (bm oL)/\Own t2 1 yo 19 (bm order)/\az t2 j2 (bC [] (.slice none 0 0))/\az t2 j3 (bC [] (.slice none 0 0)):=fun k' =>⟨hO xF Jh k',hO uJ (fun i hi=>by have:=abG i hi;omega) k',hT fe vj k',hT kP vk k'⟩
  have afV:aI yc≠some j2:=fun e=>by have:=Ji _ e;omega
  have afW:aI yc≠some j3:=fun e=>by have:=Ji _ e;omega
  by_cases c1:q+3<=8*D.length;rotate_left
  ·rw[dO c1] at hN iU;obtain⟨-,rfl,kR⟩:=hN;obtain⟨Gq,Yb,ab3,ab4⟩:=Gr kR;have xJ:=Gq.aL.indexAddr (P:=af) (k:= .i64) (x:=((order.getD i 0:ao):bl)) dS aV (by omega) (by omega);rw[bw] at xJ;simp only[aj,QM,WP,↓ab,hn,cQ,cR,xJ];refine cI aV Gq PG rfl ?_;intro t3 VC pF;have N0:=(dg.trans kR).EO pF Jh;have akw:=ab3.turns pF afV;have akx:=ab4.turns pF afW;simp only[aj,ak,ae,QM,WP,↓ab,hn,h2,an (show¬(2:bl)=0 by decide),nL];refine aG bB (by decide) akw (aq _ _) rfl (aq _ _) (cG _ rfl) ?_;intro u1 Am Ca BF;have JY:az u1 j3 (bC [] (.slice none 0 0)):=akx.aK Ca BF (by omega);simp only[aj,QM,WP,↓ab,hn,h3];refine aG bB (by decide) JY (aq _ _) rfl (aq _ _) (cG _ rfl) ?_;intro u2 rT Bp Cb;have Aw:az u1 j2 (bC [] (.slice none 0 0)):=Am;simp only[aj,QM,↓ab,hn];exact hQ _ _ _ ⟨by simp only[ag,hn],by simp only[aa,↓ab,WP,h2],by simp only[aa,↓ab,WP,h3],Aw.aK Bp Cb (by omega),rT,eZ.late (eZ.late N0 vj Ca BF) vk Bp Cb,.inl ⟨rfl,2,iU.symm,by decide,by simp only[aa,↓ab];rfl⟩⟩
  rw[dn c1] at hN iU;obtain⟨rfl,kQ,kR⟩:=hN;obtain⟨Gq,Yb,ab3,ab4⟩:=Gr kR;have iq:=hR.bits kQ kR;have xJ:=Gq.aL.indexAddr (P:=af) (k:= .i64) (x:=((order.getD i 0:ao):bl)) dS aV (by omega) (by omega);rw[bw] at xJ;have hv7:=cY D q 3;simp only[aj,QM,WP,↓ab,hn,cQ,cR,xJ];refine cI aV Gq PG rfl ?_;intro t3 VC pF;rw[rF] at VC;have N0:=(dg.trans kR).EO pF Jh;simp(disch:=omega)only[aj,ak,QM,WP,↓ab,hn,Md,aB];have n23:=kR.next;have n33:=pF.next;exact ar (k-(i+1)) (by omega) ⟨i+1,q+3,oL.set (order.getD i 0) (bY D q 3),rfl,by omega,iU,by simpa using SB,fun j=>by
   rw[bt,List.getElem?_set];split
   ·split
    ·show bY D q 3<=7;omega
    exact ea _
   rw[<-bt];exact rD j,Yk iq n33 (fun i hi=>pF.get i (by omega) (fun e=>by have:=Ji i e;omega)),VC,Yb.turns pF abE,ab3.turns pF afV,ab4.turns pF afW,N0,by omega,by simp only[ag,hn],by simp only[aa,↓ab,WP,h0],by simp only[aa,↓ab,WP,h2],by simp only[aa,↓ab,WP,h3],by simp only[aa,↓ab,WP,h5],by simp only[aa,↓ab,WP,h6],by simp only[aa,↓ab,WP,h9],by simp only[aa,↓ab,WP,tG],by simp only[aa,↓ab,WP,rV],by simp only[aa,↓ab];rfl⟩
 clear hn h0 f U2 RM uJ fe kP vT oK qk;rintro z f t ⟨hn,h2,h3,fe,kP,dg,(⟨rfl,e,hRe,he,h4⟩|⟨rfl,q,oL,zl,SB,rD,hR,xF,xL,h0,h5,h6,h9⟩)⟩
 ·have la:=fe.bd (P:=af) dy (by rw[aq];exact bB) (c:=18) (by rw[aq]);have lb:=kP.bd (P:=af) dy (by rw[aq];exact bB) (c:=18) (by rw[aq]);simp only[aj,al,oneOf,QM,↓ab,hn,h2,h3,h4,a4,la,lb,ck];rw[hRe];exact⟨he,rfl,dg⟩
 rw[zl];dsimp only;have mA:sI oL:=fun j=>eo (rD j) (by omega)
 simp only[aj,ak,ad,QM,↓ab,hn,h9];refine(vi hL t yc oL (by rw[SB];exact xF.aL) (by omega) mA).mono ?_;rintro _ t1 ⟨sc,rfl,hsc,Yl,k1⟩;have n1:=k1.next;have akz:Rs base t1 jr jx ic D q P M o:=Yk hR n1 (fun i hi=>k1.get i (by omega));have kt1:eZ jx ic t t1:=eZ.kept (eZ.refl jx ic t) k1;have fe:=hT fe vj kt1;have kP:=hT kP vk kt1;have mZ:=dg.trans kt1;simp only[aj,QM,WP,↓ab,hn,cQ,cR,pM,pN];refine aA ?_;intro t2 j6 aR jD;obtain⟨jc,ZC⟩:∃j,j=t1.next:=⟨_,rfl⟩
 rw[<-ZC] at j6;simp only[aj,QM,WP,cg,↓ab,hn,<-ZC,aq];refine aG bB (by decide) j6 (aq _ _) rfl (aq _ _) (cG _ hsc.aL.aT) ?_;intro t3 qO oX iT;have qO:az t3 jc (bC oL sc):=qO;have uU:Rs base t3 jr jx ic D q P M o:=Yk akz (by omega) (fun i hi=>by rw[iT i (by omega),aR.get i (by omega)]);have fe:=(fe.keeps aR).aK oX iT (by have:=fe.lt;omega);have kP:=(kP.keeps aR).aK oX iT (by have:=kP.lt;omega);have afX:=(hsc.keeps aR).aK oX iT (fun e=>by have:=hsc.ei _ e;omega);have jT:=eZ.late (mZ.kept aR) (j:=jc) (by omega) oX iT;have n3' :t3.next=t1.next+1:=by omega
 by_cases cm:na oL;rotate_left
 ·rw[av cm];simp only[aj,ae,QM,WP,↓ab,hn,h2,an cm,nL];refine aG bB (by decide) (fe) (aq _ _) rfl (aq _ _) (cG _ rfl) ?_;intro u1 Am Ca BF;have JY:az u1 j3 (bC [] (.slice none 0 0)):=az.aK (kP) Ca BF (by omega);simp only[aj,QM,WP,↓ab,hn,h3];refine aG bB (by decide) JY (aq _ _) rfl (aq _ _) (cG _ rfl) ?_;intro u2 rT Bp Cb;have Aw:az u1 j2 (bC [] (.slice none 0 0)):=Am;have Fs:=Aw.aK Bp Cb (by omega);have la:=Fs.bd (P:=af) dy (by rw[aq];exact bB) (c:=18) (by rw[aq]);have E5:az u2 j3 (bC [] (.slice none 0 0)):=rT;have lb:=E5.bd (P:=af) dy (by rw[aq];exact bB) (c:=18) (by rw[aq]);have RU:=eZ.late (eZ.late (jT) vj Ca BF) vk Bp Cb;simp only[aj,al,oneOf,QM,WP,↓ab,hn,h2,h3,a4,la,lb,ck];exact⟨by decide,rfl,RU⟩
 rw[bq cm];have EZ:=qO.bd (P:=af) dy (by rw[aq];exact bB) (c:=18) (by rw[aq]);have eM:((n:ao):bl)+((d:ao):bl)=((n+d:ao):bl):=by omega
 simp(disch:=omega)only[aj,ak,ad,QM,WP,↓ab,hn,h0,h5,h6,bz cm,EZ,aB,eM];have akB:Of jr jx ic o t3 (.agg (bC oL sc).toArray) oL:=⟨sc,rfl,⟨afX.aL,fun i hi=>⟨afX.ei i hi,by have:=Yl i hi;omega,by have:=Yl i hi;omega⟩⟩,fun i hi=>⟨by have:=Yl i hi;omega,fun e=>by have:=r8 i e;have:=Yl i hi;omega⟩⟩;refine(Jr hL base t3 jr jx ic D P q M o uU (by omega) hlen _ oL akB SB (n+d) N (by omega) hN).mono ?_;intro v t4 hLn;cases hlx:ku D oL (n+d) N q [] with
 |error e=>
  rw[hlx] at hLn;obtain⟨he,⟨w,rfl⟩,pQ⟩:=hLn;have c0:¬(e:bl)=0:=by omega
  simp only[aj,ak,ae,QM,WP,↓ab,hn,h2,cQ,cR,an c0,nL];refine aG bB (by decide) (hT fe vj pQ) (aq _ _) rfl (aq _ _) (cG _ rfl) ?_;intro u1 Am Ca BF;have JY:az u1 j3 (bC [] (.slice none 0 0)):=az.aK (hT kP vk pQ) Ca BF (by omega);simp only[aj,QM,WP,↓ab,hn,h3];refine aG bB (by decide) JY (aq _ _) rfl (aq _ _) (cG _ rfl) ?_;intro u2 rT Bp Cb;have Aw:az u1 j2 (bC [] (.slice none 0 0)):=Am;have Fs:=Aw.aK Bp Cb (by omega);have la:=Fs.bd (P:=af) dy (by rw[aq];exact bB) (c:=18) (by rw[aq]);have E5:az u2 j3 (bC [] (.slice none 0 0)):=rT;have lb:=E5.bd (P:=af) dy (by rw[aq];exact bB) (c:=18) (by rw[aq]);have RU:=eZ.late (eZ.late (jT.trans pQ) vj Ca BF) vk Bp Cb;simp only[aj,al,oneOf,QM,WP,↓ab,hn,h2,h3,a4,la,lb,ck];exact⟨he,rfl,RU⟩
 |ok lq=>
 obtain⟨l,q'⟩:=lq;rw[hlx] at hLn;obtain⟨yl,rfl,tD,Jj,rO,pQ,rM,YI⟩:=hLn;dsimp only;have fe:=hT fe vj pQ;have kP:=hT kP vk pQ;have n4' :t3.next<=t4.next:=pQ.next;have pQ:=jT.trans pQ;have Vm:∀i,aI yl=some i->t3.next<=i:=Jj
 have am5:j2<t3.next:=by omega
 have am6:j3<t3.next:=by omega
 have ids:∀lo hi i,aI (jC 1 yl lo hi)=some i->aI yl=some i:=fun lo hi i h=>HS h
 have q1:=tD.aL.ra (P:=af) (k:= .i64) (y:=((n:ao):bl)) dS aV (by omega) (by omega);rw[bw] at q1;have la:(l.take n).length=n:=by rw[cc];omega
 have lb:(l.drop n).length=l.length-n:=by rw[cd]
 have akC:∀t,Own t 1 yl l.length (bm l)->aU t 1 (jC 1 yl 0 n) (l.take n).length (bm (l.take n)):=fun t h=>by
  have:=h.aL.cut (lo:=0) (hi:=n) (by omega) (by omega);rw[c6,c6,pK,pJ,eg,en] at this;rw[la];exact this
 have IB:∀t,Own t 1 yl l.length (bm l)->aU t 1 (jC 1 yl n l.length) (l.drop n).length (bm (l.drop n)):=fun t h=>by
  have:=h.aL.cut (lo:=n) (hi:=l.length) (by omega) (cB _);rw[c6,c6,pK,pJ,cD (by rw[cd];omega)] at this;rw[lb];exact this
 simp only[aj,ak,ad,ai,QM,WP,↓ab,hn,h5,cQ,cR,q1];refine(vi hL t4 _ (l.take n) (akC t4 tD) (by omega) (HQ rM _)).mono ?_;rintro _ t5 ⟨sa,rfl,vV,Jo,k5⟩;have n5' :=k5.next;have Vn:=tD.keeps k5;have kt5:eZ jx ic t4 t5:=eZ.kept (eZ.refl jx ic t4) k5;have fe:=hT fe vj kt5;have kP:=hT kP vk kt5;have vT:=pQ.trans kt5;have U2:Rs base t5 jr jx ic D q' P M o:=Yk rO n5' (fun i hi=>k5.get i (by omega));simp only[aj,QM,WP,↓ab,hn,cQ,cR,pM,pN];refine aA ?_;intro t6 XQ cU aeE;obtain⟨ja,SC⟩:∃j,j=t5.next:=⟨_,rfl⟩
 rw[<-SC] at XQ;simp only[aj,QM,WP,cg,↓ab,hn,<-SC,aq];refine aG bB (by decide) XQ (aq _ _) rfl (aq _ _) (cG _ vV.aL.aT) ?_;intro t7 hc7 JC zy;have hc7:az t7 ja (bC (l.take n) sa):=hc7;have hR7:Rs base t7 jr jx ic D q' P M o:=Yk U2 (by omega) (fun i hi=>by rw[zy i (by omega),cU.get i (by omega)]);have fe:=(fe.keeps cU).aK JC zy (by omega);have kP:=(kP.keeps cU).aK JC zy (by omega);have abV:=(vV.keeps cU).aK JC zy (fun e=>by have:=vV.ei _ e;omega);have ab5:=(Vn.keeps cU).aK JC zy (fun e=>by have:=Vn.ei _ e;omega);have to7:=eZ.late (vT.kept cU) (j:=ja) (by omega) JC zy;have q2:=ab5.aL.qZ (P:=af) (k:= .i64) (x:=((n:ao):bl)) dS aV (by omega) (by omega);rw[bw] at q2;simp only[aj,ak,ad,ai,QM,WP,↓ab,hn,h5,q2];refine(vi hL t7 _ (l.drop n) (IB t7 ab5) (by omega) (HR rM _)).mono ?_;rintro _ t8 ⟨sb,rfl,vq,Jp,k8⟩;have n8' :=k8.next;have afZ:=ab5.keeps k8;have af0:=abV.keeps k8;have NW:=hc7.keeps k8;have kt8:eZ jx ic t7 t8:=eZ.kept (eZ.refl jx ic t7) k8;have fe:=hT fe vj kt8;have kP:=hT kP vk kt8;have to8:=to7.trans kt8;have hR8:Rs base t8 jr jx ic D q' P M o:=Yk hR7 n8' (fun i hi=>k8.get i (by omega));simp only[aj,QM,WP,↓ab,hn,cQ,cR,pM,pN];refine aA ?_;intro t9 hd9 ot akF;obtain⟨jb,B3⟩:∃j,j=t8.next:=⟨_,rfl⟩
 rw[<-B3] at hd9;simp only[aj,QM,WP,cg,↓ab,hn,<-B3,aq];refine aG bB (by decide) hd9 (aq _ _) rfl (aq _ _) (cG _ vq.aL.aT) ?_;intro t10 VD Ge LH;have VD:az t10 jb (bC (l.drop n) sb):=VD;have akG:Rs base t10 jr jx ic D q' P M o:=Yk hR8 (by omega) (fun i hi=>by rw[LH i (by omega),ot.get i (by omega)]);have fe:=(fe.keeps ot).aK Ge LH (by omega);have kP:=(kP.keeps ot).aK Ge LH (by omega);have Vu:=(NW.keeps ot).aK Ge LH (by omega);have HY:=(af0.keeps ot).aK Ge LH (fun e=>by have:=af0.ei _ e;omega);have VE:=(vq.keeps ot).aK Ge LH (fun e=>by have:=vq.ei _ e;omega);have ZJ:=(afZ.keeps ot).aK Ge LH (fun e=>by have:=afZ.ei _ e;omega);have Ym:=eZ.late (to8.kept ot) (j:=jb) (by omega) Ge LH;have Vl:256<l.length:=by omega
 have ia:=ZJ.aL.indexAddr (P:=af) (k:= .i64) (x:=(256:bl)) dS aV (by omega) (by omega);rw[show(256:bl).toNat=256 from rfl] at ia;have ka:=ZJ.aL.cu (P:=af) aP Vl;rw[fm Vl] at ka;by_cases ca:na (l.take n);rotate_left
 ·rw[av (fun h=>ca h.1)];simp only[aj,ak,ae,QM,WP,↓ab,undef,hn,h2,an ca,nL];refine aG bB (by decide) (fe) (aq _ _) rfl (aq _ _) (cG _ rfl) ?_;intro u1 Am Ca BF;have JY:az u1 j3 (bC [] (.slice none 0 0)):=az.aK (kP) Ca BF (by omega);simp only[aj,QM,WP,↓ab,hn,h3];refine aG bB (by decide) JY (aq _ _) rfl (aq _ _) (cG _ rfl) ?_;intro u2 rT Bp Cb;have Aw:az u1 j2 (bC [] (.slice none 0 0)):=Am;have Fs:=Aw.aK Bp Cb (by omega);have la:=Fs.bd (P:=af) dy (by rw[aq];exact bB) (c:=18) (by rw[aq]);have E5:az u2 j3 (bC [] (.slice none 0 0)):=rT;have lb:=E5.bd (P:=af) dy (by rw[aq];exact bB) (c:=18) (by rw[aq]);have RU:=eZ.late (eZ.late (Ym) vj Ca BF) vk Bp Cb;simp only[aj,al,oneOf,QM,WP,↓ab,hn,h2,h3,a4,la,lb,ck];exact⟨by decide,rfl,RU⟩
 by_cases cb:na (l.drop n);rotate_left
 ·rw[av (fun h=>cb h.2.1)];simp only[aj,ak,ae,QM,WP,↓ab,undef,hn,h2,bz ca,an cb,nL];refine aG bB (by decide) (fe) (aq _ _) rfl (aq _ _) (cG _ rfl) ?_;intro u1 Am Ca BF;have JY:az u1 j3 (bC [] (.slice none 0 0)):=az.aK (kP) Ca BF (by omega);simp only[aj,QM,WP,↓ab,hn,h3];refine aG bB (by decide) JY (aq _ _) rfl (aq _ _) (cG _ rfl) ?_;intro u2 rT Bp Cb;have Aw:az u1 j2 (bC [] (.slice none 0 0)):=Am;have Fs:=Aw.aK Bp Cb (by omega);have la:=Fs.bd (P:=af) dy (by rw[aq];exact bB) (c:=18) (by rw[aq]);have E5:az u2 j3 (bC [] (.slice none 0 0)):=rT;have lb:=E5.bd (P:=af) dy (by rw[aq];exact bB) (c:=18) (by rw[aq]);have RU:=eZ.late (eZ.late (Ym) vj Ca BF) vk Bp Cb;simp only[aj,al,oneOf,QM,WP,↓ab,hn,h2,h3,a4,la,lb,ck];exact⟨by decide,rfl,RU⟩
 by_cases cz:l.getD 256 0=0
 ·have d1:((l.getD 256 0:ao):bl)=0:=by omega
  rw[av (fun h=>h.2.2 cz)];simp only[aj,ak,ae,QM,WP,↓ab,undef,hn,h2,bz ca,bz cb,ia,ka,bz d1,nL];refine aG bB (by decide) (fe) (aq _ _) rfl (aq _ _) (cG _ rfl) ?_;intro u1 Am Ca BF;have JY:az u1 j3 (bC [] (.slice none 0 0)):=az.aK (kP) Ca BF (by omega);simp only[aj,QM,WP,↓ab,hn,h3];refine aG bB (by decide) JY (aq _ _) rfl (aq _ _) (cG _ rfl) ?_;intro u2 rT Bp Cb;have Aw:az u1 j2 (bC [] (.slice none 0 0)):=Am;have Fs:=Aw.aK Bp Cb (by omega);have la:=Fs.bd (P:=af) dy (by rw[aq];exact bB) (c:=18) (by rw[aq]);have E5:az u2 j3 (bC [] (.slice none 0 0)):=rT;have lb:=E5.bd (P:=af) dy (by rw[aq];exact bB) (c:=18) (by rw[aq]);have RU:=eZ.late (eZ.late (Ym) vj Ca BF) vk Bp Cb;simp only[aj,al,oneOf,QM,WP,↓ab,hn,h2,h3,a4,la,lb,ck];exact⟨by decide,rfl,RU⟩
 have d1:¬((l.getD 256 0:ao):bl)=0:=by omega
 rw[bq ⟨ca,cb,cz⟩];simp only[aj,ak,QM,WP,↓ab,undef,hn,bz ca,bz cb,ia,ka,an d1];obtain⟨A,hA⟩:∃A:ao->Bool,A=fun j=>decide (j<t10.next/\j≠j2/\j≠j3):=⟨_,rfl⟩
 have gu:∀j,A j=true->j<t10.next:=by
  intro j h;rw[hA] at h;exact(dI h).1
 have hA0:A j2=false:=by rw[hA];exact a0 (fun h=>h.2.1 rfl)
 have BR:A j3=false:=by rw[hA];exact a0 (fun h=>h.2.2 rfl)
 have js:=aw.spare t10 0;have Fo:(spare t10 0).next=t10.next+0:=bu _ _;have akH:=Vu.lt;have akI:=VD.lt;have l2:∀k,LA.di A (some (.pointer (some ⟨ja,k,some 18⟩)))=true:=fun k=>LA.bN (A:=A) (i:=ja) (by rw[hA];exact bs ⟨akH,by omega,by omega⟩)
 have l4:∀k,LA.di A (some (.pointer (some ⟨jb,k,some 18⟩)))=true:=fun k=>LA.bN (A:=A) (i:=jb) (by rw[hA];exact bs ⟨akI,by omega,by omega⟩)
 have hcq:=(Vu.keeps js).bd (P:=af) dy (by rw[aq];exact bB) (c:=18) (by rw[aq]);have Qh:=(VD.keeps js).bd (P:=af) dy (by rw[aq];exact bB) (c:=18) (by rw[aq]);refine LB.cN.dx A gu 2 0 (by kernel_rfl) (by kernel_rfl) ?_;simp only[aj,bg,bn,QM,WP,↓ab,hn,h2,hcq,Qh,l2,l4,ky _ HY.aL,ky _ VE.aL];refine LB.bS bB (by decide) (fe.keeps js) (aq _ _) rfl (aq _ _) (cG _ vV.aL.aT) (fun _=>hA0) ?_;intro u1 Am Ca BF;have abZ:=((VD.keeps js).aK Ca BF (by omega)).bd (P:=af) dy (by rw[aq];exact bB) (c:=18) (by rw[aq])
 try simp only[aj,bn,Nat.add_one_sub_one,QM,WP,↓ab,hn,h3]
 refine LB.bS bB (by decide) ((kP.keeps js).aK Ca BF (by omega)) (aq _ _) rfl (aq _ _) (cG _ vq.aL.aT) (fun _=>BR) ?_;intro u2 rT Bp Cb;have akJ:az u2 j2 (bC (l.take n) sa):=Am.aK Bp Cb (by omega);have akK:az u2 j3 (bC (l.drop n) sb):=rT;have lca:=akJ.bd (P:=af) dy (by rw[aq];exact bB) (c:=18) (by rw[aq]);have lcb:=akK.bd (P:=af) dy (by rw[aq];exact bB) (c:=18) (by rw[aq]);simp only[aj,bg,bn,er,oneOf,QM,WP,↓ab,aj,al,oneOf,QM,WP,↓ab,hn,h2,h3,a4,lca,lcb,ck];have RU:eZ jx ic s u2:=eZ.late (eZ.late (Ym.kept js) vj Ca BF) vk Bp Cb;have hRu:Rs base u2 jr jx ic D q' P M o:=Yk akG (by omega) (fun i hi=>by rw[Cb i (by omega),BF i (by omega),js.get i (by omega)]);have fin:∀(y:b7) (K:bk ao),Own t10 1 y (dp K 15).length (bm (dp K 15))->(∀i,aI y=some i->t3.next<=i)->Own u2 1 y (dp K 15).length (bm (dp K 15)):=fun y K h1 h2=>
  ((h1.keeps js).aK Ca BF (fun e=>by have:=h2 _ e;omega)).aK Bp Cb (fun e=>by have:=h2 _ e;omega)
 exact⟨sa,sb,rfl,hRu,RU,fin sa _ HY (fun i hi=>by have:=Jo i hi;omega),fin sb _ VE (fun i hi=>by have:=Jp i hi;omega),fun i hi=>by have:=Jo i hi;omega,fun i hi=>by have:=Jp i hi;omega,by omega,by omega⟩
theorem Jn.from {base jr jx ic:ao}{D:bk ax}{M:bl}{o:b7}{s t t' :au}{v:b7}{B:ed ao (ao×bk ax)}(h:Jn base jr jx ic D M o t v t' B)(k:vJ jr jx ic o s o t)(hs:aw base s t):Jn base jr jx ic D M o s v t' B:=by
 cases B with
 |error e=>exact⟨h.1,h.2.1,hs.trans h.2.2⟩
 |ok y=>
  obtain⟨h1,o',h2,h3⟩:=h;exact⟨h1,o',h2,k.trans h3⟩
def akL (base jr jx ic:ao)(D:bk ax)(M:bl)(o:b7)(s:au)(v:b7)(s' :au):ed ao (ao×ao×bk ax)->Prop
 | .ok (last,q,P')=>v= .tuple #[.bool (decide (((last:ao):bl)=1)),.int .i64 0]/\∃o',Rs base s' jr jx ic D q P' M o' /\vJ jr jx ic o s o' s'
 | .error e=>0<e/\(∃b,v= .tuple #[.bool b,.int .i64 (e:ao)])/\aw base s s'
theorem Oi {lib:aD}(hL:Jm lib)(base:ao)(s:au)(jr jx ic:ao)(D P:bk ax)(p m N:ao)(M:bl)(hM:m=M.toNat)(o:b7)(h:Rs base s jr jx ic D p P M o)(hb:base<=s.next)(hlen:D.length<=4000000)(zD:P.length<=m)(hm:m<=100000000)(hN:8*D.length+1<N):
  Runs af lib 150 [lZ jr] s fun v s' =>akL base jr jx ic D M o s v s' (mU N D m p P):=by
 have a7:=h.bit.lt;have Yj:=h.t.lt;have r8:∀i,aI o=some i->i<s.next:=fun i hi=>h.own.ei i hi
 have eG:∀o' t,vJ jr jx ic o s o' t->aw base s t:=fun o' t k=>k.stay h.lr a7.2.2.1 a7.2.2.2.1 h.fresh hb
 refine Runs.enter 65 Tryz.func150 rfl (hL _ rfl) rfl rfl ?_;intro f hn hf;have h0:f.get 0=lZ jr:=hf 0;clear hf;have r0:=h.t.load (P:=af) gC (off:=0) (c:=4) rfl (by simp);have ne2:¬(2:bl)=0:=by decide
 rw[Vo];simp only[aj,ak,ad,QM,WP,↓ab,hn,h0,lG,r0];refine(fU hL base s jx ic D p 1 h.bit hb (by omega) hlen).mono ?_;intro v s1 hN1;by_cases c1:p+1<=8*D.length;rotate_left
 ·rw[dO c1] at hN1;rw[jH c1,RH,nK];obtain⟨-,rfl,dg⟩:=hN1;simp only[aj,ak,al,oneOf,QM,WP,↓ab,hn,cQ,cR,an ne2,c8];exact⟨by decide,⟨_,rfl⟩,eG _ _ (qH dg)⟩
 rw[dn c1] at hN1;rw[jG c1,kx c1];obtain⟨rfl,ua,mZ⟩:=hN1;have nH:=h.bits ua mZ;have fp:base<=s1.next:=by have:=mZ.next;omega
 have r0:=nH.t.load (P:=af) gC (off:=0) (c:=4) rfl (by simp);generalize bY D p 1=last;simp only[aj,ak,ad,QM,WP,↓ab,hn,h0,cQ,cR,lG,r0];refine(fU hL base s1 jx ic D (p+1) 2 ua fp (by omega) hlen).mono ?_;intro v s2 hN2;by_cases c2:p+1+2<=8*D.length;rotate_left
 ·rw[dO c2] at hN2;rw[jH c2,nK];obtain⟨-,rfl,dg⟩:=hN2;simp only[aj,ak,al,oneOf,QM,WP,↓ab,hn,cQ,cR,an ne2,c8];exact⟨by decide,⟨_,rfl⟩,eG _ _ (qH (mZ.trans dg))⟩
 rw[dn c2] at hN2;rw[jG c2,kx c2,iS];obtain⟨rfl,kQ,kR⟩:=hN2;have kR:=mZ.trans kR;have iq:=h.bits kQ kR;have dr:base<=s2.next:=by have:=kR.next;omega
 have k2:vJ jr jx ic o s o s2:=qH kR;have st2:=eG _ _ k2;have n2:=kR.next;have ap6:p+1+2<=8*D.length:=kQ.le;generalize bY D (p+1) 2=kind;obtain⟨B,hB⟩:∃B,B=kv N D m kind (p+1+2) P:=⟨_,rfl⟩
 rw[<-hB];simp only[aj,ak,QM,WP,↓ab,hn,cQ,cR];refine EP (fun f' t' =>f'.n=65/\f'.get 4= .int .i64 (last:ao)/\∃v,f'.get 5=v/\Jn base jr jx ic D M o s v t' B) ?_ ?_;rotate_left
 ·clear hn h0 f;rintro f t ⟨hn,h4,v,h5,hO⟩;cases B with
  |error e=>
   obtain⟨he,rfl,aF⟩:=hO;simp only[aj,al,oneOf,QM,WP,↓ab,hn,h4,h5,c8];rw[nK];exact⟨he,⟨_,rfl⟩,aF⟩
  |ok y=>
   obtain⟨q,P'⟩:=y;obtain⟨rfl,o',hR,dg⟩:=hO;simp only[aj,al,oneOf,QM,WP,↓ab,hn,h4,h5,c8];rw[iS];exact⟨rfl,o',hR,dg⟩
 intro Q' pR;by_cases Vq:kind=0
 ·have d0:((kind:ao):bl)=0:=by omega
  simp only[aj,ak,ad,QM,WP,↓ab,hn,h0,bz d0];refine(Lw hL base s2 jr jx ic D P (p+1+2) m M hM o iq dr hlen zD hm).mono ?_;intro v t hO;simp only[aj,QM,↓ab,hn];refine pR _ _ ⟨by simp only[ag,hn],by simp only[aa,↓ab,WP],v,by simp only[aa,↓ab],?_⟩;rw[hB];unfold kv;rw[bq Vq];exact hO.from k2 st2
 have d0:¬((kind:ao):bl)=0:=by omega
 by_cases Ye:kind=1
 ·have d1:((kind:ao):bl)=1:=by omega
  simp only[aj,ak,ad,QM,WP,↓ab,hn,an d0,bz d1];refine(Oc hL s2).mono ?_;rintro _ t ⟨sa,sb,rfl,vV,vq,Jo,Jp,k3⟩;have n3:=k3.next;simp only[aj,QM,WP,↓ab,hn,cQ,cR,pM,pN];refine aA ?_;intro t1 iy aY gG;obtain⟨ja,SC⟩:∃j,j=t.next:=⟨_,rfl⟩
  rw[<-SC] at iy;simp only[aj,QM,cg,↓ab,hn,<-SC,aq,pM,pN];refine aA ?_;intro t2 wi aR jD;obtain⟨jb,B3⟩:∃j,j=t1.next:=⟨_,rfl⟩
  rw[<-B3] at wi;simp only[aj,QM,WP,cg,↓ab,hn,<-B3,aq];refine aG bB (by decide) (iy.keeps aR) (aq _ _) rfl (aq _ _) (cG _ vV.aL.aT) ?_;intro t3 qO oX iT;have qO:az t3 ja (bC iQ sa):=qO;simp only[aj,QM,WP,↓ab,hn];refine aG bB (by decide) (wi.aK oX iT (by omega)) (aq _ _) rfl (aq _ _) (cG _ vq.aL.aT) ?_;intro t4 Ah tw qi;have Ah:az t4 jb (bC lX sb):=Ah;have Gj:=qO.aK tw qi (by omega);have lca:=Gj.bd (P:=af) dy (by rw[aq];exact bB) (c:=18) (by rw[aq]);have lcb:=Ah.bd (P:=af) dy (by rw[aq];exact bB) (c:=18) (by rw[aq]);have kk:aw s2.next s2 t4:=(((k3.trans (aY.weaken n3)).trans (aR.weaken (by omega))).trans (aw.aK oX iT (by omega))).trans (aw.aK tw qi (by omega));have rO:=iq.keeps dr kk;have k4:=k2.kept kk;have fin:∀(y:b7) (K:bk ao),Own t 1 y (dp K 15).length (bm (dp K 15))->aM s2.next y->Of jr jx ic o t4 (.agg (bC K y).toArray) K:=fun y K h1 h2=>by
   have h3:=(((h1.keeps aY).keeps aR).aK oX iT (fun e=>by have:=h1.ei _ e;omega)).aK tw qi (fun e=>by have:=h1.ei _ e;omega);exact⟨y,rfl,⟨h3.aL,fun i hi=>⟨h3.ei i hi,by have:=h2 i hi;omega,by have:=h2 i hi;omega⟩⟩,fun i hi=>⟨by have:=h2 i hi;omega,fun e=>by have:=r8 i e;have:=h2 i hi;omega⟩⟩
  simp only[aj,ak,ad,QM,WP,↓ab,hn,h0,lca,lcb];refine(E4 hL base t4 jr jx ic D P (p+1+2) m N M hM o rO (by have:=kk.next;omega) hlen zD hm (by omega) _ _ iQ lX (fin sa _ vV Jo) (fin sb _ vq Jp) (by rw[show iQ.length=288 from qd];decide) (by decide)).mono ?_;intro v t5 hO;simp only[aj,QM,↓ab,hn];refine pR _ _ ⟨by simp only[ag,hn],by simp only[aa,↓ab,WP],v,by simp only[aa,↓ab],?_⟩;rw[hB];unfold kv;rw[av Vq,bq Ye];exact hO.from k4 (eG _ _ k4)
 have d1:¬((kind:ao):bl)=1:=by omega
 by_cases ck2:kind=2;rotate_left
 ·have d2:¬((kind:ao):bl)=2:=by omega
  simp only[aj,QM,WP,↓ab,hn,an d0,an d1,an d2];refine pR _ _ ⟨by simp only[ag,hn],by simp only[aa,↓ab,WP],_,by simp only[aa,↓ab];rfl,?_⟩;rw[hB];unfold kv;rw[av Vq,av Ye,av ck2];exact⟨by decide,rfl,st2⟩
 have d2:((kind:ao):bl)=2:=by omega
 simp only[aj,QM,WP,↓ab,hn,an d0,an d1,bz d2,pM,pN];refine aA ?_;intro t1 iy aY gG;obtain⟨ja,SC⟩:∃j,j=s2.next:=⟨_,rfl⟩
 rw[<-SC] at iy;simp only[aj,QM,cg,↓ab,hn,<-SC,aq,pM,pN];refine aA ?_;intro t2 wi aR jD;obtain⟨jb,B3⟩:∃j,j=t1.next:=⟨_,rfl⟩
 rw[<-B3] at wi;have kk:aw s2.next s2 t2:=aY.trans (aR.weaken (by omega));have hRt:=iq.keeps dr kk;have kt:=k2.kept kk;have zC:base<=t2.next:=by have:=kk.next;omega
 have j6:=iy.keeps aR;simp only[aj,ak,ad,QM,WP,cg,↓ab,hn,h0,<-B3,aq];refine(VB hL base t2 jr jx ic D P (p+1+2) N M o hRt zC hlen hN).mono ?_;intro v t3 hD;cases Sq:zj N D (p+1+2) with
 |error e=>
  rw[Sq] at hD;obtain⟨he,rfl,jT⟩:=hD;have c0:¬(e:bl)=0:=by omega
  simp only[aj,QM,WP,↓ab,hn,Ly,LD,LF];refine aG bB (by decide) (gX j6 jT.next (jT.get ja j6.lt (by omega) (by omega))) (aq _ _) rfl (aq _ _) (cG _ rfl) ?_;intro t4 Gj tw qi;simp only[aj,QM,WP,↓ab,hn];refine aG bB (by decide) ((gX wi jT.next (jT.get jb wi.lt (by omega) (by omega))).aK tw qi (by omega)) (aq _ _) rfl (aq _ _) (cG _ rfl) ?_;intro t5 U9 Sw oE;simp only[aj,QM,↓ab,hn,an c0];refine pR _ _ ⟨by simp only[ag,hn],by simp only[aa,↓ab,WP],_,by simp only[aa,↓ab,WP];rfl,?_⟩;rw[hB];unfold kv;rw[av Vq,av Ye,bq ck2,Sq];have s3:=eG _ _ (kt.trans (qH jT));exact⟨he,rfl,(s3.trans (aw.aK tw qi (by omega))).trans (aw.aK Sw oE (by omega))⟩
 |ok y=>
 obtain⟨⟨a,b⟩,q⟩:=y;rw[Sq] at hD;obtain⟨sa,sb,rfl,uU,jT,vV,vq,Jo,Jp,hla,Xa⟩:=hD;simp only[aj,QM,WP,↓ab,hn,Ly,LD,LF];refine aG bB (by decide) (gX j6 jT.next (jT.get ja j6.lt (by omega) (by omega))) (aq _ _) rfl (aq _ _) (cG _ vV.aL.aT) ?_;intro t4 Gj tw qi;have Gj:az t4 ja (bC a sa):=Gj;simp only[aj,QM,WP,↓ab,hn];refine aG bB (by decide) ((gX wi jT.next (jT.get jb wi.lt (by omega) (by omega))).aK tw qi (by omega)) (aq _ _) rfl (aq _ _) (cG _ vq.aL.aT) ?_;intro t5 hd5 Sw oE;have hd5:az t5 jb (bC b sb):=hd5;have U9:=Gj.aK Sw oE (by omega);have lca:=U9.bd (P:=af) dy (by rw[aq];exact bB) (c:=18) (by rw[aq]);have lcb:=hd5.bd (P:=af) dy (by rw[aq];exact bB) (c:=18) (by rw[aq]);have n3:=jT.next;have hg5:∀i,i<s2.next->t5.heap.get i=t3.heap.get i:=fun i hi=>by rw[oE i (by omega),qi i (by omega)]
 have U2:Rs base t5 jr jx ic D q P M o:=uU.low (B:=s2.next) (by omega) hg5 dr (by omega) (by omega) (by omega) (fun i hi=>by have:=r8 i hi;omega);have k5:vJ jr jx ic o s o t5:=by
  have k3:=kt.trans (qH (jr:=jr) (o:=o) jT);exact⟨by have:=k3.next;omega,fun i hi g1 g2 g3 g4=>by rw[hg5 i (by omega)];exact k3.get i hi g1 g2 g3 g4,.inl rfl⟩
 have fin:∀(y:b7) (K:bk ao),Own t3 1 y (dp K 15).length (bm (dp K 15))->aM t2.next y->Of jr jx ic o t5 (.agg (bC K y).toArray) K:=fun y K h1 h2=>by
  have h3:=(h1.aK tw qi (fun e=>by have:=h2 _ e;omega)).aK Sw oE (fun e=>by have:=h2 _ e;omega);exact⟨y,rfl,⟨h3.aL,fun i hi=>⟨h3.ei i hi,by have:=h2 i hi;omega,by have:=h2 i hi;omega⟩⟩,fun i hi=>⟨by have:=h2 i hi;omega,fun e=>by have:=r8 i e;have:=h2 i hi;omega⟩⟩
 simp only[aj,ak,ad,QM,WP,↓ab,hn,h0,lca,lcb];refine(E4 hL base t5 jr jx ic D P q m N M hM o U2 (by omega) hlen zD hm (by omega) _ _ a b (fin sa _ vV Jo) (fin sb _ vq Jp) hla (by omega)).mono ?_;intro v t6 hO;simp only[aj,QM,↓ab,hn];refine pR _ _ ⟨by simp only[ag,hn],by simp only[aa,↓ab,WP],v,by simp only[aa,↓ab],?_⟩;rw[hB];unfold kv;rw[av Vq,av Ye,bq ck2,Sq];exact hO.from k5 (eG _ _ k5)
theorem Yn (jx:ao)(M:bl):da af 180 [(0,rQ jx),(1,.int .i64 M)]=some (.agg #[rQ jx,.int .i64 M,.slice none 0 0]):=by
 unfold da;rw[Tryz.underlying180]
 have hz:b6 af 180=some (.agg #[.pointer none,.int .i64 0,.slice none 0 0]):=by kernel_rfl
 rw[hz];have c1:(rQ jx).cells.toList=[rQ jx]:=rfl;have c2:(Value.int .i64 M).cells.toList=[.int .i64 M]:=rfl;simp only[iu,placeOf,c1,c2];simp[Cu,aV,iA,cr,iD,bJ,setAt]
theorem LI {lib:aD}(hL:Jm lib)(s:au)(x:b7)(D:bk ax)(N:ao)(hx:aU s 1 x D.length (ofBytes D))(hlen:D.length<=4000000)(M:bl)(hM:M<=100000000)(hN:8*D.length+1<N):
  Runs af lib 102 [x,.int .i64 M] s fun v s' =>abL s v s' (zk N D M.toNat):=by
 obtain⟨m,hm⟩:∃m,m=M.toNat:=⟨_,rfl⟩
 rw[<-hm];refine Runs.enter 36 Tryz.func102 rfl (hL _ rfl) rfl rfl ?_;intro f hn hf;have h0:f.get 0=x:=hf 0;have h1:f.get 1= .int .i64 M:=hf 1;clear hf;simp only[aj,ak,ad,QM,WP,↓ab,hn,h0];refine(U8 (hL _ rfl) (hL _ rfl) s.next s x D hx.low (cB _)).mono ?_;rintro _ s1 ⟨jx,ic,rfl,hB,k1⟩;have a7:=hB.lt;have n1:=k1.next;simp only[aj,ae,QM,WP,↓ab,hn,h1,Yn];refine aA ?_;intro s2 fe aR jD;obtain⟨jr,hjr⟩:∃j,j=s1.next:=⟨_,rfl⟩
 rw[<-hjr] at fe;have iq:Rs s.next s2 jr jx ic D 0 [] M (.slice none 0 0):=⟨hB.keeps n1 aR,fe,.nil,aM.nil _,(fun e=>by cases e),(fun e=>by cases e),(fun e=>by cases e),by omega,by omega,by omega⟩;have k2:aw s.next s s2:=k1.trans (aR.weaken n1);obtain⟨R,hR⟩:∃R,R=zk N D m:=⟨_,rfl⟩
 rw[<-hR];simp only[aj,QM,cg,↓ab,hn,<-hjr,dP,List.length_nil];refine Comes.bD (fun z f t=>∃(p:ao) (P:bk ax) (o:b7),mV N D m z p P=R/\8*D.length<p+z/\P.length<=m/\Rs s.next t jr jx ic D p P M o/\aw s.next s t/\s.next<=t.next/\f.n=36/\f.get 7=lZ jr)
  (fun z f t=>z= .ret/\f.n=36/\∃a b c,f.get 4=a/\f.get 5=b/\f.get 6=c/\abL s (.tuple #[a,b,c]) t R)
  (k:=N) ⟨0,[],_,hR.symm,by omega,ea _,iq,k2,k2.next,by simp only[aa,ag,↓ab,hn,et]⟩ ?_ ?_
 rotate_left
 ·clear hn h0 h1 f;rintro z f t ⟨rfl,hn,a,b,c,h4,h5,h6,hO⟩;simp only[aj,al,oneOf,QM,↓ab,hn,h4,h5,h6,Tryz.results102];exact hO
 clear hn h0 h1 f iq hB k1 fe aR hR;rintro Q hQ z f t ⟨p,P,o,hz,hpz,zD,Gf,aF,xL,hn,h7⟩;have BS:=Gf.bit.le;obtain⟨k,rfl⟩:∃k,z=k+1:=⟨z-1,by omega⟩
 rw[mV] at hz;simp only[aj,ak,ad,QM,↓ab,hn,h7];refine(Oi hL s.next t jr jx ic D P p m N M hm o Gf xL hlen zD (by omega) hN).mono ?_;intro v t1 Em;cases PL:mU N D m p P with
 |error e=>
  rw[PL] at Em hz;obtain⟨he,⟨b,rfl⟩,aY⟩:=Em;have c0:¬(e:bl)=0:=by omega
  simp only[aj,ak,QM,WP,↓ab,hn,cQ,cR,an c0];exact hQ _ _ _ ⟨rfl,by simp only[ag,hn],_,_,_,by simp only[aa,↓ab,WP];rfl,by simp only[aa,↓ab,WP];rfl,by simp only[aa,↓ab];rfl,by rw[<-hz];exact⟨rfl,aF.trans aY⟩⟩
 |ok y=>
 obtain⟨last,q,P'⟩:=y;rw[PL] at Em hz;obtain⟨rfl,o',nH,dg⟩:=Em;dsimp only at hz;have hle:=As PL zD;have L3:=HU PL zD;have aY:=aF.trans (dg.stay Gf.lr Gf.bit.lt.2.2.1 Gf.bit.lt.2.2.2.1 Gf.fresh xL);have gZ:s.next<=t1.next:=aY.next;by_cases cl:last=1;rotate_left
 ·have d1:¬((last:ao):bl)=1:=by omega
  rw[av cl] at hz;simp only[aj,ak,QM,WP,↓ab,hn,cQ,cR,an d1];exact ar k (by omega) ⟨q,P',o',hz,by omega,hle.2.1,nH,aY,gZ,by simp only[aa,ag,↓ab,WP,hn,h7,et]⟩
 have d1:((last:ao):bl)=1:=by omega
 rw[bq cl] at hz;simp only[aj,ak,QM,WP,↓ab,hn,cQ,cR,bz d1];obtain⟨A,hA⟩:∃A:ao->Bool,A=fun j=>decide (j<t1.next):=⟨_,rfl⟩
 have gu:∀j,A j=true->j<t1.next:=by
  intro j h;rw[hA] at h;exact dI h
 have oO:∀j,j<t1.next->A j=true:=fun j h=>by rw[hA];exact bs h
 have js:=aw.spare t1 0;have Fo:(spare t1 0).next=t1.next+0:=bu _ _;have zl:=nH.keeps gZ js;obtain⟨pc,now,left,RS,h7l⟩:=zl.bit;have he:=RS.e;have lr:∀k,LA.di A (some (.pointer (some ⟨jr,k,some 4⟩)))=true:=fun k=>LA.bN (A:=A) (i:=jr) (oO _ nH.t.lt)
 have lx:∀k,LA.di A (some (.pointer (some ⟨jx,k,some 4⟩)))=true:=fun k=>LA.bN (A:=A) (i:=jx) (oO _ nH.bit.lt.1)
 have r0:=zl.t.load (P:=af) gC (off:=0) (c:=4) rfl (by simp);have r2:=zl.t.load (P:=af) gJ (off:=2) (c:=4) rfl (by simp);have g0:=RS.t.load (P:=af) ED (off:=0) (c:=4) rfl (by simp);refine LB.cN.dx A gu 1 0 (by kernel_rfl) (by kernel_rfl) ?_;simp only[aj,ak,bg,bn,er,ad,QM,WP,↓ab,hn,h7,lG,BD,u9,r0,r2,g0,lr,lx,nH.own.self];refine(Cr (hL _ rfl) s.next (spare t1 0) ic D pc RS.c).mono ?_;rintro _ t2 ⟨rfl,dK⟩;rw[dK];clear dK t2
 refine⟨fun _=>LA.dz.refl _ _,?_⟩
 try simp only[aj,↓ab,aj,↓ab]
 have ep:pc=(q+7)/8:=by omega
 exact hQ _ _ _ ⟨rfl,by simp only[ag,hn],_,_,_,by simp only[aa,↓ab,WP];rfl,by simp only[aa,↓ab,WP];rfl,by simp only[aa,↓ab];rfl,by rw[<-hz];exact⟨o',by rw[ep],zl.own,zl.fresh,aY.trans (js.weaken gZ)⟩⟩
end Go.Proofs.YtdfjfncifneocaaGreat
namespace Go.Cl.Nf
open Go.Cl.Fx Go.Cl.Sto
theorem mw {D:bk ax}{p n e:ao}(h:dW D p n= .error e):0<e:=by
 unfold dW at h;split at h<;>cases h
 decide
theorem oT {D:bk ax}{C:bk ao}{p e:ao}(h:sym D C p= .error e):0<e:=by
 rcases Lf h with h|h<;>omega
theorem PW {M b:ao}:∀{n:ao} {P:bk ax} {e:ao},rep M b n P= .error e->0<e
 |0,P,e,h=>by cases h
 |n+1,P,e,h=>by
  unfold rep at h;split at h
  ·cases h;decide
  exact PW h
theorem LJ {D:bk ax}{M:ao}:∀{k a:ao} {P:bk ax} {e:ao},tz D M k a P= .error e->0<e
 |0,a,P,e,h=>by cases h
 |k+1,a,P,e,h=>by
  unfold tz at h
  repeat' split at h
  all_goals first|(cases h<;>decide)|exact LJ h
theorem LK {D:bk ax}{M p:ao}{P:bk ax}{e:ao}(h:gB D M p P= .error e):0<e:=by
 unfold gB at h
 repeat' split at h
 all_goals first|(cases h<;>first|decide|exact mw ‹_›|exact oT ‹_›)|exact LJ h
theorem RV {D:bk ax}{M:ao}{B:bk ao}{s p:ao}{P:bk ax}{e:ao}(h:vg D M B s p P= .error e):0<e:=by
 unfold vg at h
 repeat' split at h
 all_goals first|(cases h<;>first|decide|exact mw ‹_›|exact oT ‹_›|exact PW ‹_›)
theorem E6 {D:bk ax}{M:ao}{A B:bk ao}:∀{k p:ao} {P:bk ax} {e:ao},iP D M A B k p P= .error e->0<e
 |0,p,P,e,h=>by cases h;decide
 |k+1,p,P,e,h=>by
  unfold iP at h
  repeat' split at h
  all_goals first|(cases h<;>first|decide|exact oT ‹_›|exact RV ‹_›)|exact E6 h
theorem RW {D:bk ax}{p e:ao}(h:rR D p= .error e):0<e:=by
 unfold rR at h
 repeat' split at h
 all_goals first|(cases h<;>first|decide|exact mw ‹_›|exact oT ‹_›)
theorem LL {D:bk ax}:∀{r:bk ao} {p:ao} {o:bk ao} {e:ao},zi D r p o= .error e->0<e
 |[],p,o,e,h=>by cases h
 |i::r,p,o,e,h=>by
  unfold zi at h;split at h
  ·cases h;exact mw ‹_›
  exact LL h
theorem Oj {D:bk ax}{s p:ao}{l:bk ao}{e:ao}(h:oA D s p l= .error e):0<e:=by
 unfold oA at h
 repeat' split at h
 all_goals first|(cases h<;>first|decide|exact mw ‹_›|exact oT ‹_›)
theorem H0 {D:bk ax}{C:bk ao}{many:ao}:∀{k p:ao} {l:bk ao} {e:ao},ku D C many k p l= .error e->0<e
 |0,p,l,e,h=>by cases h;decide
 |k+1,p,l,e,h=>by
  unfold ku at h
  repeat' split at h
  all_goals first|(cases h<;>first|decide|exact oT ‹_›|exact Oj ‹_›)|exact H0 h
theorem VF {N:ao}{D:bk ax}{p e:ao}(h:zj N D p= .error e):0<e:=by
 unfold zj at h
 repeat' split at h
 all_goals first|(cases h<;>first|decide|exact mw ‹_›|exact oT ‹_›|exact RW ‹_›|exact LL ‹_›|exact H0 ‹_›)
theorem RX {N:ao}{D:bk ax}{M kind p:ao}{P:bk ax}{e:ao}(h:kv N D M kind p P= .error e):0<e:=by
 unfold kv at h
 repeat' split at h
 all_goals first|(cases h<;>first|decide|exact mw ‹_›|exact oT ‹_›|exact VF ‹_›)|exact LK h|exact E6 h
theorem Ol {N:ao}{D:bk ax}{M p:ao}{P:bk ax}{e:ao}(h:mU N D M p P= .error e):0<e:=by
 unfold mU at h
 repeat' split at h
 all_goals first|(cases h<;>first|decide|exact mw ‹_›|exact oT ‹_›|exact RX ‹_›)
theorem BG {N:ao}{D:bk ax}{M:ao}:∀{k p:ao} {P:bk ax} {e:ao},mV N D M k p P= .error e->0<e
 |0,p,P,e,h=>by cases h;decide
 |k+1,p,P,e,h=>by
  unfold mV at h
  repeat' split at h
  all_goals first|(cases h<;>first|decide|exact Ol ‹_›)|exact BG h
theorem H2 {N:ao}{D:bk ax}{M e:ao}(h:zk N D M= .error e):0<e:=BG h
def LM (a b:ao):Prop:=a%16≠8\/7<a/16\/(a*256+b)%31≠0\/b/32%2≠0
instance (a b:ao):Decidable (LM a b):=by unfold LM;infer_instance
def ti (N:ao)(D:bk ax)(M:ao):ed ao (ao×bk ax):=
 if D.length<2 then .error 2
 else if LM (D.getD 0 0).toNat (D.getD 1 0).toNat then .error 4
 else match zk N (D.drop 2) M with
  | .error e=> .error e
  | .ok (q,P)=>if D.length<2+(q+7)/8+4 then .error 2 else if jM ((D.drop (2+(q+7)/8)).take 4)=KN P then .ok (2+(q+7)/8+4,P) else .error 10
theorem VG {N:ao}{D:bk ax}{M n:ao}{P:bk ax}(h:ti N D M= .ok (n,P)):P.length<=M:=by
 unfold ti at h
 repeat' split at h
 all_goals first|(cases h;done)|(cases h;exact(EI ‹_›).2)
def af3 (s:au)(v:b7)(s' :au):ed ao (ao×bk ax)->Prop
 | .ok (n,P)=>∃o,v= .tuple #[o,.int .i64 (n:ao),.int .i64 0]/\Own s' 1 o P.length (ofBytes P)/\aM s.next o/\aw s.next s s'
 | .error e=>v= .tuple #[.slice none 0 0,.int .i64 0,.int .i64 (e:ao)]/\aw s.next s s'
theorem Yo {k:IntKind}{n m:ao}(hn:n<2^k.bits)(hm:m<2^k.bits):(cp k.bits (n:bl)&&&cp k.bits (m:bl)).toNat=n&&&m:=by
 rw[BitVec.toNat_and,dt,dt,dw,dw,dT hn,dT hm]
theorem Ud (n:ao):n&&&15=n%16:=Nat.and_two_pow_sub_one_eq_mod n 4
theorem ZK (n:ao):n&&&32=n/32%2*32:=by
 have hb:n.testBit 5=decide (n/2^5%2=1):=Nat.testBit_eq_decide_div_mod_eq;rw[show(2:ao)^5=32 from rfl] at hb;apply Nat.eq_of_testBit_eq;intro i;rw[Nat.testBit_and,show(32:ao)=2^5 from rfl,dv,show(2:ao)^5=32 from rfl];rcases Nat.mod_two_eq_zero_or_one (n/32) with h|h<;>rw[h] at hb|-
 ·rw[Nat.zero_mul,Nat.zero_testBit];by_cases c:5=i
  ·subst c;rw[hb];rfl
  rw[a0 c,Bool.and_false]
 rw[Nat.one_mul,show(32:ao)=2^5 from rfl,dv];by_cases c:5=i
 ·subst c;rw[hb];rfl
 rw[a0 c,Bool.and_false]
theorem ab6 {n:ao}(h:n<65536):c7.wrap (((cp c7.bits (n:bl)&&&cp c7.bits 15).toNat:ao):bl)=((n%16:ao):bl):=by
 rw[show(15:bl)=((15:ao):bl) from rfl,Yo (cL h (by decide)) (by decide),Ud,aB (by omega)]
theorem ab7 {n:ao}(h:n<65536):c7.wrap (((cp c7.bits (n:bl)&&&cp c7.bits 32).toNat:ao):bl)=((n/32%2*32:ao):bl):=by
 rw[show(32:bl)=((32:ao):bl) from rfl,Yo (cL h (by decide)) (by decide),ZK,aB (by omega)]
theorem PX {n:ao}(h:n<256):cv.wrap (n:bl)=(n:bl):=by
 have e1:cv.bits=8:=rfl;have e2:cv.signed=false:=rfl;simp only[IntKind.wrap,e1,e2,Bool.false_and];simp;omega
theorem E7 {n:ao}(h:n<256):cv.wrap (((cp cv.bits (n:bl)&&&cp cv.bits 15).toNat:ao):bl)=((n%16:ao):bl):=by
 rw[show(15:bl)=((15:ao):bl) from rfl,Yo (cL h (by decide)) (by decide),Ud,PX (by omega)]
theorem VH {n:ao}(h:n<256):cv.wrap (((cp cv.bits (n:bl)&&&cp cv.bits 32).toNat:ao):bl)=((n/32%2*32:ao):bl):=by
 rw[show(32:bl)=((32:ao):bl) from rfl,Yo (cL h (by decide)) (by decide),ZK,PX (by omega)]
end Go.Cl.Nf
namespace Go.Proofs.YtdfjfncifneocaaGreat
open Go.Cl
theorem ab8 {lib:aD}(hl:lib.at 103=none)(base:ao)(s:au)(i:ao)(b:b7)(l:bk ax)(p:ao)(k:bl)(hc:K6 base s i b l p)(hb:base<=s.next):
  Runs af lib 103 [iM i,.int .i64 k] s fun v s' =>v= .bool (decide (0<=k/\k<=l.length))/\K6 base s' i b l (if 0<=k/\k<=l.length then k.toNat else p)/\bG (iM i) s s' :=by
 refine Runs.enter 24 Tryz.func103 rfl hl rfl rfl ?_;intro f hn hf;have h0:f.get 0=iM i:=hf 0;have h1:f.get 1= .int .i64 k:=hf 1;clear hf;obtain⟨ht,m3,hi,hp⟩:=id hc;have l0:=ht.load (P:=af) gJ (off:=0) (c:=3) rfl (by simp);by_cases c1:k<0
 ·simp only[aj,ak,al,oneOf,QM,WP,↓ab,hn,h0,h1,gx cM,c1,dk];rw[av (by omega)];exact⟨by rw[a0 (by omega)],hc,cB _,fun _ _ _=>rfl⟩
 by_cases c2:(l.length:bl)<k
 ·simp only[aj,ak,al,oneOf,ad,QM,WP,↓ab,hn,h0,h1,gx cM,c1,c2,K7,l0,m3.aL.aQ aC,dk];rw[av (by omega)];exact⟨by rw[a0 (by omega)],hc,cB _,fun _ _ _=>rfl⟩
 simp only[aj,ak,ad,QM,WP,↓ab,hn,h0,h1,gx cM,c1,c2,K7,HE,l0,m3.aL.aQ aC];refine ba aV ht rfl (by simp) rfl ?_;intro s1 eJ gZ aY;simp only[aj,al,oneOf,QM,↓ab,hn,dk];rw[bq (by omega)];refine⟨by rw[bs (by omega)],⟨?_,m3.stay (aw.aK gZ aY hi),hi,by omega⟩,bG.aK gZ aY⟩;have:((k.toNat:ao):bl)=k:=by omega
 rw[this];exact eJ
theorem VI {lib:aD}(hl:lib.at 103=none)(base:ao)(s:au)(i:ao)(l:bk ax)(p:ao)(k:bl)(hc:lB base s i l p)(hb:base<=s.next):
  Runs af lib 103 [iM i,.int .i64 k] s fun v s' =>v= .bool (decide (0<=k/\k<=l.length))/\lB base s' i l (if 0<=k/\k<=l.length then k.toNat else p)/\bG (iM i) s s' :=by
 obtain⟨b,hc⟩:=hc;refine(ab8 hl base s i b l p k hc hb).mono ?_;rintro v s' ⟨h1,h2,h3⟩;exact⟨h1,⟨b,h2⟩,h3⟩
theorem xI {lib:aD}(hl:lib.at 36=none)(s:au)(x:b7)(l:bk ax)(hx:aU s 1 x l.length (ofBytes l))(hlen:l.length<=4294967296):
  Runs af lib 36 [x] s fun v s' =>gz s v s' l:=by
 refine Runs.enter 8 Tryz.func36 rfl hl rfl rfl ?_;intro f hn hf;have h0:f.get 0=x:=hf 0;clear hf;simp only[aj,QM,WP,↓ab,hn,h0,hx.yI aC];refine qW (fun h=> ?_) (fun h=> ?_)
 ·obtain⟨h1,_,_⟩:=hx.isNil h;have:l=[]:=List.eq_nil_of_length_eq_zero h1;subst this;simp only[aj,al,oneOf,QM,↓ab,hn,ek];exact⟨.nil,aM.nil _,aw.refl _ _⟩
 simp only[aj,ae,MM aC cO rU rfl rfl];refine bc (by rfl) ?_;intro b s1 hb hF aF;simp only[aj,ad,QM,WP,↓ab,hn,h0];refine gb aC aC (.inl ⟨_,rfl⟩) cO sm rU rfl hb (hx.keeps aF).src (by simp[eW]) (by decide) (pn _) (by omega) (by omega) hF aF.next ?_;intro b' s2 jL zw fN _ _;simp only[aj,al,oneOf,QM,↓ab,hn,ek];exact⟨by simpa using jL,zw,aF.trans fN⟩
def nM (l:bk ax)(p:ao)(k:bl):bk ax:=if 0<=k/\k<=(l.length-p:ao) then(l.drop p).take k.toNat else []
def Js (base:ao)(s:au)(i:ao)(b:b7)(l:bk ax)(p:ao)(k:bl)(v:b7)(s' :au):Prop:=
 ∃B,v= .tuple #[B,.bool (decide (0<=k/\k<=(l.length-p:ao)))]/\Own s' 1 B (nM l p k).length (ofBytes (nM l p k))/\aM s.next B/\K6 base s' i b l (if 0<=k/\k<=(l.length-p:ao) then p+k.toNat else p)/\bG (iM i) s s'
theorem Yp {lib:aD}(hl:lib.at 148=none)(qN:lib.at 186=none)(nS:lib.at 209=none)(iG:lib.at 105=none)(U6:lib.at 36=none)(base:ao)(s:au)(i:ao)(b:b7)(l:bk ax)(p:ao)(k:bl)(hc:K6 base s i b l p)(hb:base<=s.next)(hlen:l.length<=4294967296):
  Runs af lib 148 [iM i,.int .i64 k] s (Js base s i b l p k):=by
 refine Runs.enter 44 Tryz.func148 rfl hl rfl rfl ?_;intro f hn hf;have h0:f.get 0=iM i:=hf 0;have h1:f.get 1= .int .i64 k:=hf 1;clear hf;have fail:∀(f:aZ),f.n=44->f.get 4= .slice none 0 0->f.get 5= .bool false->¬(0<=k/\k<=(l.length-p:ao))->L9 af (Tryz.f148).results.toList (Js base s i b l p k) .ret f s:=by
  intro f hn h4 h5 hk;simp only[aj,al,oneOf,QM,↓ab,hn,h4,h5,eb];unfold Js nM;rw[av hk,av hk,a0 hk];exact⟨_,rfl,.nil,aM.nil _,hc,cB _,fun _ _ _=>rfl⟩
 by_cases c1:k<0
 ·simp only[aj,ak,QM,WP,↓ab,hn,h0,h1,gx cM,c1];exact fail _ (by simp only[ag,hn]) (by simp only[aa,↓ab,WP]) (by simp only[aa,↓ab]) (by omega)
 simp only[aj,ak,ad,QM,WP,↓ab,hn,h0,h1,gx cM,c1];refine(Ez qN nS iG base s i l p ⟨b,hc⟩ hlen).mono ?_;rintro _ s1 ⟨rfl,hs⟩;subst hs;by_cases c2:((l.length-p:ao):bl)<k
 ·simp only[aj,ak,QM,WP,↓ab,hn,c2];exact fail _ (by simp only[ag,hn]) (by simp only[aa,↓ab,WP]) (by simp only[aa,↓ab]) (by omega)
 obtain⟨ht,m3,hi,hp⟩:=id hc;have l0:=ht.load (P:=af) gJ (off:=0) (c:=3) rfl (by simp);have l1:=ht.load (P:=af) aP (off:=1) (c:=3) rfl (by simp);simp only[aj,ak,QM,WP,↓ab,hn,c2];refine cN.MV (by kernel_rfl) ?_;have hk:((p:bl)+k).toNat=p+k.toNat:=by omega
 have kD:=m3.aL.IB (lo:=p) (hi:=p+k.toNat) (by omega) (by omega);rw[show p+k.toNat-p=k.toNat by omega] at kD;simp(disch:=omega)only[aj,ak,ad,ai,QM,WP,↓ab,hn,h0,h1,K7,HE,l0,l1,m3.aL.self,aB,m3.aL.G9 aC cO,hk];refine(xI U6 s1 _ _ kD (by rw[cc,cd];omega)).mono ?_;rintro B s2 ⟨hB,hBF,aF⟩;have dK:=ht.keeps aF;have l1' :=dK.load (P:=af) aP (off:=1) (c:=3) rfl (by simp);simp(disch:=omega)only[aj,ak,QM,WP,↓ab,hn,h0,h1,HE,l1',aB,hB.self];refine ba aV dK rfl (by simp) rfl ?_;intro s3 jE oX bA;simp(disch:=omega)only[aj,al,oneOf,QM,WP,↓ab,hn,eb];unfold Js nM;rw[bq (by omega),bq (by omega),bs (by omega)];have cE:aI B≠some i:=fun e=>by have:=hBF i e;have:=ht.lt;omega
 refine⟨B,rfl,hB.aK oX bA cE,hBF,⟨?_,m3.stay ((aF.weaken hb).trans (aw.aK oX bA hi)),hi,by omega⟩,⟨by have:=aF.next;omega,fun j hj gD=> ?_⟩⟩
 ·have:((p+k.toNat:ao):bl)=(p:bl)+k:=by omega
  rw[this];exact jE
 rw[bA j (fun e=>gD (by rw[e];rfl)),aF.get j hj]
theorem LN {lib:aD}(hl:lib.at 118=none)(s:au)(x:b7)(l:bk ax)(hx:aU s 1 x l.length (ofBytes l))(hlen:l.length<=7):
  Runs af lib 118 [x] s fun v s' =>v= .int .i64 (jM l)/\s' =s:=by
 refine Runs.enter 20 Tryz.func118 rfl hl rfl rfl ?_;intro f hn hf;have h0:f.get 0=x:=hf 0;clear hf;simp only[aj,QM,↓ab,hn];refine Comes.de (fun q f s' =>∃i:ao,q=l.length-i/\i<=l.length/\f.n=20/\f.get 0=x/\f.get 3= .int .i64 (jM (l.take i))/\f.get 4= .int .i64 i/\s' =s) ⟨0,rfl,by omega,by simp only[ag,hn],by simp only[aa,↓ab,WP,h0],by simp only[aa,↓ab,WP];rfl,by simp only[aa,↓ab];rfl,rfl⟩ ?_;clear hn h0 f;rintro q f s ⟨i,rfl,hi,hn,h0,h3,h4,rfl⟩;by_cases c:i<l.length
 ·have iW:jM (l.take i)<4503599627370496:=Bl (by rw[cc];omega);have OI:=(l.getD i 0).toNat_lt;have gM:jM (l.take i)*256+(l.getD i 0).toNat=jM (l.take (i+1)):=by rw[oW c,xl]
  simp(disch:=omega)only[aj,ad,QM,WP,↓ab,hn,h0,h3,h4,c,hx.aQ aC,KH,aB,hx.indexAddr aC cO,hx.cu gQ,aW,a9 cT cx,kd,Pc,gM];refine ar (l.length-(i+1)) (by omega) ⟨i+1,rfl,by omega,by simp only[ag,hn],by simp only[aa,↓ab,WP,h0],by simp only[aa,↓ab,WP],by simp only[aa,↓ab];rfl,rfl⟩
 simp only[aj,al,oneOf,ad,QM,WP,↓ab,hn,h0,h3,h4,c,hx.aQ aC,Tryz.results118];rw[cD (by omega)]
def ab9 (base:ao)(s:au)(i:ao)(l:bk ax)(p:ao)(k:bl)(v:b7)(s' :au):Prop:=
 v= .tuple #[.int .i64 (if 1<=k/\k<=7 then jM (nM l p k) else 0),.bool (decide (1<=k/\k<=7/\k<=(l.length-p:ao)))]/\lB base s' i l (if 1<=k/\k<=7/\k<=(l.length-p:ao) then p+k.toNat else p)/\bG (iM i) s s'
def Jt (base:ao)(s:au)(i:ao)(b:b7)(l:bk ax)(p:ao)(k:bl)(v:b7)(s' :au):Prop:=
 v= .tuple #[.int .i64 (if 1<=k/\k<=7 then jM (nM l p k) else 0),.bool (decide (1<=k/\k<=7/\k<=(l.length-p:ao)))]/\K6 base s' i b l (if 1<=k/\k<=7/\k<=(l.length-p:ao) then p+k.toNat else p)/\bG (iM i) s s'
theorem aca {lib:aD}(hl:lib.at 101=none)(a7:lib.at 148=none)(qN:lib.at 186=none)(nS:lib.at 209=none)(iG:lib.at 105=none)(U6:lib.at 36=none)(base:ao)(s:au)(i:ao)(b:b7)(l:bk ax)(p:ao)(k:bl)(hc:K6 base s i b l p)(hb:base<=s.next)(hlen:l.length<=4294967296):
  Runs af lib 101 [iM i,.int .i64 k] s (Jt base s i b l p k):=by
 refine Runs.enter 37 Tryz.func101 rfl hl rfl rfl ?_;intro f hn hf;have h0:f.get 0=iM i:=hf 0;have h1:f.get 1= .int .i64 k:=hf 1;clear hf;have fail:∀(f:aZ),f.n=37->f.get 4= .int .i64 0->f.get 5= .bool false->¬(1<=k/\k<=7)->L9 af (Tryz.f101).results.toList (Jt base s i b l p k) .ret f s:=by
  intro f hn h4 h5 hk;simp only[aj,al,oneOf,QM,↓ab,hn,h4,h5,ec];unfold Jt;rw[av hk,av (fun h=>hk ⟨h.1,h.2.1⟩),a0 (fun h=>hk ⟨h.1,h.2.1⟩)];exact⟨rfl,hc,cB _,fun _ _ _=>rfl⟩
 by_cases c1:k<1
 ·simp only[aj,ak,QM,WP,↓ab,hn,h1,c1];exact fail _ (by simp only[ag,hn]) (by simp only[aa,↓ab,WP]) (by simp only[aa,↓ab]) (by omega)
 by_cases c2:7<k
 ·simp only[aj,ak,QM,WP,↓ab,hn,h1,c1,c2];exact fail _ (by simp only[ag,hn]) (by simp only[aa,↓ab,WP]) (by simp only[aa,↓ab]) (by omega)
 simp only[aj,ak,ad,QM,WP,↓ab,hn,h0,h1,c1,c2];refine(Yp a7 qN nS iG U6 base s i b l p k hc hb hlen).mono ?_;rintro _ s1 ⟨B,rfl,hB,hBF,iy,eJ⟩;obtain⟨L,hL⟩:∃L,L=nM l p k:=⟨_,rfl⟩
 have hL7:L.length<=7:=by rw[hL];unfold nM;split<;>simp;omega
 rw[<-hL] at hB;simp only[aj,ad,QM,WP,↓ab,hn,aH,List.getElem?_toArray,List.getElem?_cons_zero,List.getElem?_cons_succ,hB.aL.aQ aC];refine Comes.de (fun q f s' =>∃j:ao,q=L.length-j/\j<=L.length/\f.n=37/\f.get 7= .bool (decide (0<=k/\k<=(l.length-p:ao)))/\f.get 8= .int .i64 (jM (L.take j))/\f.get 23=B/\f.get 24= .int .i64 L.length/\f.get 25= .int .i64 j/\s' =s1) ⟨0,rfl,by omega,by simp only[ag,hn],by simp only[aa,↓ab,WP],by simp only[aa,↓ab,WP];rfl,by simp only[aa,↓ab,WP],by simp only[aa,↓ab,WP],by simp only[aa,↓ab];rfl,rfl⟩ ?_;clear hn h0 h1 f;rintro q f s1 ⟨j,rfl,hj,hn,h7,h8,Wu,h24,h25,rfl⟩;by_cases c:j<L.length
 ·have iW:jM (L.take j)<4503599627370496:=Bl (by rw[cc];omega);have OI:=(L.getD j 0).toNat_lt;have gM:jM (L.take j)*256+(L.getD j 0).toNat=jM (L.take (j+1)):=by rw[oW c,xl]
  simp(disch:=omega)only[aj,QM,WP,↓ab,hn,h8,Wu,h24,h25,c,KH,aB,hB.aL.indexAddr aC cO,hB.aL.cu gQ,aW,a9 cT cx,kd,Pc,gM];refine ar (L.length-(j+1)) (by omega) ⟨j+1,rfl,by omega,by simp only[ag,hn],by simp only[aa,↓ab,WP,h7],by simp only[aa,↓ab,WP],by simp only[aa,↓ab,WP,Wu],by simp only[aa,↓ab,WP,h24],by simp only[aa,↓ab];rfl,rfl⟩
 simp only[aj,al,oneOf,QM,WP,↓ab,hn,h7,h8,h24,h25,c,ec];rw[cD (by omega)];have e1:(0<=k/\k<=(l.length-p:ao))↔(1<=k/\k<=7/\k<=(l.length-p:ao)):=by omega
 refine⟨?_,?_,eJ⟩
 ·rw[bq (by omega),hL,decide_eq_decide.mpr e1]
 simp only[e1] at iy;exact iy
theorem LO {lib:aD}(hl:lib.at 101=none)(a7:lib.at 148=none)(qN:lib.at 186=none)(nS:lib.at 209=none)(iG:lib.at 105=none)(U6:lib.at 36=none)(base:ao)(s:au)(i:ao)(l:bk ax)(p:ao)(k:bl)(hc:lB base s i l p)(hb:base<=s.next)(hlen:l.length<=4294967296):
  Runs af lib 101 [iM i,.int .i64 k] s (ab9 base s i l p k):=by
 obtain⟨b,hc⟩:=hc;refine(aca hl a7 qN nS iG U6 base s i b l p k hc hb hlen).mono ?_;rintro v s' ⟨h1,h2,h3⟩;exact⟨h1,⟨b,h2⟩,h3⟩
end Go.Proofs.YtdfjfncifneocaaGreat
namespace Go.Proofs.YtdfjfncifneocaaGreat
open Go.Cl Go.Cl.Rw Go.Cl.Sto Go.Cl.Fx Go.Cl.Nf Go.Cl.Bt
theorem H3 (n:ao):((n:bl)).tmod 31=((n%31:ao):bl):=by rw[dc (by omega)];omega
theorem Yq {D:bk ax}(h:2<=D.length):jM (nM D 0 2)=(D.getD 0 0).toNat*256+(D.getD 1 0).toNat:=by
 match D,h with
 |a::b::r,_=>
  have:nM (a::b::r) 0 2=[a,b]:=by
   unfold nM;rw[bq (by simp only[dP];omega)];rfl
  rw[this];simp[jM]
theorem ZM {s:au}{x:b7}{D:bk ax}(hx:aU s 1 x D.length (ofBytes D))(h:2<=D.length):aU s 1 (jC 1 x 2 D.length) (D.drop 2).length (ofBytes (D.drop 2)):=by
 have k:=hx.IB (lo:=2) (hi:=D.length) h (cB _);rw[cD (by rw[cd];exact cB _)] at k;exact k
theorem af4 (P:Program)(t:TypeId)(k' :IntKind)(n:ao){k:ao}(h:k<8):dB P .shr t (.int .u8 (n:bl)) (.int k' (k:ao))=some (.int .u8 ((n/2^k:ao):bl)):=by
 rw[mL P t .u8 _ _ k' (by omega)];have e:min ((k:ao):bl).toNat cv.bits=k:=by
  have:cv.bits=8:=rfl;rw[this,bw];omega
 rw[e,T6]
theorem akO:Jm dR:=by
 have h:(nfp.all fun g=>(dR.at g).isNone)=true:=by rfl
 intro g hg;have:=List.all_eq_true.1 h g (by simpa using hg);exact Option.isNone_iff_eq_none.1 this
theorem RY (s:au)(x:b7)(D:bk ax)(N:ao)(hx:aU s 1 x D.length (ofBytes D))(EE:D.length<=4000000)(M:bl)(hM:M<=100000000)(hN:8*D.length+1<N):
  Runs af dR 65 [x,.int .i64 M] s fun v s' =>af3 s v s' (ti N D M.toNat):=by
 refine Runs.enter 78 Tryz.func65 rfl rfl rfl rfl ?_;intro f hn hf;have h0:f.get 0=x:=hf 0;have h1:f.get 1= .int .i64 M:=hf 1;clear hf;simp only[aj,ak,ad,QM,WP,↓ab,hn,h0];refine(I1 rfl s.next s x D hx.low (cB _)).mono ?_;rintro _ s1 ⟨rfl,iy,k1,n1⟩;obtain⟨ic,uP⟩:∃i,i=s.next:=⟨_,rfl⟩
 have iy:lB s.next s1 ic D 0:=by rw[uP];exact iy
 rw[<-uP];have V5:aM s.next (iM ic):=dN (by omega);simp only[aj,ak,ad,QM,↓ab,hn];refine(LO rfl rfl rfl rfl rfl rfl s.next s1 ic D 0 2 iy (by omega) (by omega)).mono ?_;rintro v s2 ⟨hv,j6,kR⟩;have k2:aw s.next s s2:=k1.trans (kR.keeps V5 (by omega));have kA:=hx.keeps k2;obtain⟨R,hR⟩:∃R,R=ti N D M.toNat:=⟨_,rfl⟩
 rw[<-hR];unfold ti at hR;by_cases c1:D.length<2
 ·rw[bq c1] at hR;rw[a0 (by omega)] at hv;subst hv;simp only[aj,al,oneOf,QM,WP,↓ab,hn,cQ,cR,ch];rw[hR];exact⟨rfl,k2⟩
 rw[av c1] at hR;rw[bq (by decide),Yq (by omega),bs (by omega)] at hv;generalize (if(1:bl)<=2/\(2:bl)<=7/\(2:bl)<=((D.length-0:ao):bl) then 0+(2:bl).toNat else 0)=p2 at j6;have a8:=(D.getD 0 0).toNat_lt;have b8:=(D.getD 1 0).toNat_lt;generalize (D.getD 0 0).toNat=a at hv a8 hR;generalize (D.getD 1 0).toNat=b at hv b8 hR;subst hv;obtain⟨w,hw⟩:∃w,w=a*256+b:=⟨_,rfl⟩
 rw[<-hw];have s8:dB af .shr 3 (.int .i64 (w:ao)) (.int .u64 8)=some (.int .i64 (a:ao)):=by
  have k:=aew af 3 .u64 w (k:=8) (by decide);rw[show w/2^8=a by omega] at k;exact k
 have zz:dB af .shr 3 (.int .i64 (w:ao)) (.int .u64 12)=some (.int .i64 ((a/16:ao):bl)):=by
  have k:=aew af 3 .u64 w (k:=12) (by decide);rw[show w/2^12=a/16 by omega] at k;exact k
 have n15:=ab6 (n:=a) (by omega);have n32:=ab7 (n:=w) (by omega);rw[show w/32%2=b/32%2 by omega] at n32;by_cases b1:a%16=8;rotate_left
 ·have g1:¬((a%16:ao):bl)=8:=by omega
  rw[bq (.inl b1)] at hR;simp only[aj,ak,al,oneOf,QM,WP,↓ab,undef,hn,cQ,cR,s8,fY,n15,an g1,ch];rw[hR];exact⟨rfl,k2⟩
 have g1:((a%16:ao):bl)=8:=by omega
 by_cases b2:7<a/16
 ·have g2:((a/16:ao):bl)>7:=by omega
  rw[bq (.inr (.inl b2))] at hR;simp only[aj,ak,al,oneOf,QM,WP,↓ab,undef,hn,cQ,cR,s8,zz,fY,n15,g1,bz g2,ch];rw[hR];exact⟨rfl,k2⟩
 have g2:¬((a/16:ao):bl)>7:=by omega
 by_cases b3:w%31=0;rotate_left
 ·have g3:¬((w%31:ao):bl)=0:=by omega
  rw[bq (.inr (.inr (.inl (by rw[<-hw];exact b3))))] at hR;simp(disch:=omega)only[aj,ak,al,oneOf,QM,WP,↓ab,undef,hn,cQ,cR,s8,zz,fY,n15,g1,an g2,dZ,H3,an g3,ch];rw[hR];exact⟨rfl,k2⟩
 have g3:((w%31:ao):bl)=0:=by omega
 by_cases b4:b/32%2=0;rotate_left
 ·have g4:¬((b/32%2*32:ao):bl)=0:=by omega
  rw[bq (.inr (.inr (.inr b4)))] at hR;simp(disch:=omega)only[aj,ak,al,oneOf,QM,WP,↓ab,hn,cQ,cR,s8,zz,fY,n15,n32,g1,an g2,dZ,H3,g3,an g4,ch];rw[hR];exact⟨rfl,k2⟩
 have g4:((b/32%2*32:ao):bl)=0:=by omega
 rw[av (by unfold LM;omega)] at hR;simp(disch:=omega)only[aj,ak,ad,ai,QM,WP,↓ab,hn,h0,cQ,cR,s8,zz,fY,n15,n32,g1,an g2,dZ,H3,g3,g4,kA.qZ aC cO];have kD:=ZM kA (by omega);refine(xI rfl s2 _ (D.drop 2) kD (by rw[cd];omega)).mono ?_;rintro y s3 ⟨hy,ko,k3⟩;have k3' :aw s.next s s3:=k2.trans (k3.weaken k2.next);simp only[aj,ak,ad,QM,WP,↓ab,hn,h1];refine(LI akO s3 y (D.drop 2) N hy.aL (by rw[cd];omega) M hM (by rw[cd];omega)).mono ?_;intro v s4 hB;cases hi:zk N (D.drop 2) M.toNat with
 |error e=>
  rw[hi] at hB hR;obtain⟨rfl,k4⟩:=hB;have he:=H2 hi;have g5:¬((e:ao):bl)=0:=by omega
  simp only[aj,ak,al,oneOf,QM,WP,↓ab,hn,KJ,KK,KL,an g5,ch];rw[hR];exact⟨rfl,k3'.trans (k4.weaken k3'.next)⟩
 |ok r=>
 obtain⟨q,P⟩:=r;rw[hi] at hB;obtain⟨o,rfl,ho,hoF,k4⟩:=hB;have k4' :aw s.next s s4:=k3'.trans (k4.weaken k3'.next);have Gj:lB s.next s4 ic D p2:=(j6.keeps k2.next k3).keeps k3'.next k4;have hle:=EI hi;rw[cd] at hle;obtain⟨n,Fo⟩:∃n,n=(q+7)/8:=⟨_,rfl⟩
 rw[hi] at hR;dsimp only at hR;rw[<-Fo] at hR|-
 have n4:=k4'.next;have e2:(2:bl)+(n:ao)=((2+n:ao):bl):=by omega
 have cE:aI o≠some ic:=fun e=>by have:=hoF _ e;have:=j6.choose_spec.1.lt;have:=k3.next;omega
 simp(disch:=omega)only[aj,ak,ad,QM,WP,↓ab,hn,KJ,KK,KL,aB,e2];refine(VI rfl s.next s4 ic D p2 _ Gj n4).mono ?_;rintro _ s5 ⟨rfl,U9,vT⟩;rw[bq (by omega),bw] at U9;have ho5:=ho.turns vT (fun i hi e=>cE (hi.trans e.symm));have k5:aw s.next s s5:=k4'.trans (vT.keeps V5 n4);simp only[aj,ak,ad,QM,WP,↓ab,hn];refine(LO rfl rfl rfl rfl rfl rfl s.next s5 ic D (2+n) 4 U9 k5.next (by omega)).mono ?_;rintro v s6 ⟨hv,XQ,Ct⟩;have ho6:=ho5.turns Ct (fun i hi e=>cE (hi.trans e.symm));have k6:aw s.next s s6:=k5.trans (Ct.keeps V5 k5.next);by_cases c2:D.length<2+n+4
 ·rw[bq c2] at hR;rw[a0 (by omega)] at hv;subst hv;simp only[aj,al,oneOf,QM,WP,↓ab,hn,cQ,cR,ch];rw[hR];exact⟨rfl,k6⟩
 rw[av c2] at hR;have O7:nM D (2+n) 4=(D.drop (2+n)).take 4:=by
  unfold nM;rw[bq (by omega)];rfl
 rw[bq (by decide),O7,bs (by omega)] at hv;rw[bq (by omega),show(4:bl).toNat=4 from rfl] at XQ;have FK:((D.drop (2+n)).take 4).length<=4:=by rw[cc];omega
 have m3:=Ei ((D.drop (2+n)).take 4) _ rfl;have m3:jM ((D.drop (2+n)).take 4)<4294967296:=cL m3 (eo (Nat.pow_le_pow_right (by decide) FK) (by decide:256^4<=4294967296));generalize jM ((D.drop (2+n)).take 4)=g at m3 hv hR;subst hv;have hal:=Nu P;obtain⟨xa,xn,xc,Z4⟩:=aU.aaS ho6.aL;simp(disch:=omega)only[aj,ae,QM,WP,↓ab,hn,cQ,cR,a9 cx Tryz.underlying117,nY,Z4,Xv];refine bc rfl ?_;intro yy s7 hyy ap8 k7;rw[<-Z4] at hyy;have rD:=ho6.keeps k7;simp(disch:=omega)only[aj,ak,ad,QM,↓ab,hn,<-Z4];refine(Q1 rfl rfl s7 yy o P hyy.aL rD.aL (by have:=hle.2;omega)).mono ?_;rintro _ s8 ⟨rfl,rfl⟩;have k8:aw s.next s s8:=k6.trans (k7.weaken k6.next);have NW:=XQ.keeps k6.next k7;by_cases c3:g=KN P;rotate_left
 ·have g6:¬((g:ao):bl)=((KN P:ao):bl):=by omega
  rw[av c3] at hR;simp(disch:=omega)only[aj,ak,al,oneOf,QM,WP,↓ab,hn,an g6,ch];rw[hR];exact⟨rfl,k8⟩
 have g6:((g:ao):bl)=((KN P:ao):bl):=by omega
 rw[bq c3] at hR;simp only[aj,ak,ad,QM,WP,↓ab,hn,g6];refine(Cr rfl s.next s8 ic D (2+n+4) NW).mono ?_;rintro _ s9 ⟨rfl,rfl⟩;simp only[aj,al,oneOf,QM,WP,↓ab,hn,ch];rw[hR];exact⟨o,rfl,rD,fun i hi=>by have:=hoF i hi;have:=k3'.next;omega,k8⟩
end Go.Proofs.YtdfjfncifneocaaGreat
namespace Go.Cl.Lz
theorem VJ (b:bk ax)(most:ao):∀(k p:ao) (T:bk (bk ax)) (L out:bk ax),out.length<=most->(dec b most k p T L out).2.length<=most:=by
 intro k
 induction k with
 |zero=>intro p T L out h;simpa [dec] using h
 |succ k ih=>
  intro p T L out h;rw[dec];split
  ·simp
  split
  ·exact h
  split
  ·exact ih _ _ _ _ h
  split
  ·simp
  split
  ·simp
  exact ih _ _ _ _ (by rw[List.length_append];omega)
theorem Om (b:bk ax)(most:ao):(y4 b most).2.length<=most:=VJ b most _ _ _ _ _ (ea _)
end Go.Cl.Lz
namespace Go.Cl.Ch
open Go.Cl.Pr Go.Cl.Hx Go.Cl.B85
def fuelZ:ao:=2000000
theorem LP:fuelZ=2000000:=rfl
attribute [irreducible] fuelZ
def af6:ed ao (ao×bk ax)->bk ax×bl
 | .ok r=>(r.2,0)
 | .error e=>([],((e:ao):bl))
def RZ (b:bk ax)(most:bl):bk ax×bl:=af6 (Nf.ti (8*b.length+fuelZ) b most.toNat)
def Wv (b:bk ax)(most:bl):bk ax×bl:=((Lz.y4 b most.toNat).2,(((Lz.y4 b most.toNat).1:ao):bl))
def jQ (l:Lk)(r:bk ax×bl):bk ax×bl:=if r.2≠0 then([],r.2) else ks l.p l.co l.cl r.1
def oB (m:bl):bl:=if m<0 then 0 else m
theorem E8 (b:bk ax)(most:bl):(RZ b most).1.length<=most.toNat:=by
 unfold RZ;cases h:Nf.ti (8*b.length+fuelZ) b most.toNat with
 |error e=>simp[af6]
 |ok r=>obtain⟨n,P⟩:=r;exact Nf.VG h
theorem E9 (b:bk ax)(most:bl):(Wv b most).1.length<=most.toNat:=Lz.Om b _
end Go.Cl.Ch
namespace Go.Proofs.YtdfjfncifneocaaGreat
open Go.Cl Go.Cl.Pr Go.Cl.Ch Go.Cl.Hx Go.Cl.B85 Go.Cl.Uh
def fX (l:Lk)(b:bk ax)(most:bl):bk ax×bl:=
 if l.name=nC then jQ l (RZ b most) else if l.name=Ak then jQ l (Wv b most)
 else if l.name=sA then Bu (oB most) b (-1) [] else if l.name=Q4 then sE (oB most) b [] []
 else Runs.dec most b []
theorem mv.LQ {s s' :au}{l:bk ax}{bad:bl}{v:b7}(h:mv s.next s l bad v s'):rK s (l,bad) v s' :=by
 obtain⟨B,rfl,h1,h2,h3⟩:=h;exact⟨B,rfl,⟨h1,h2,h3⟩⟩
theorem VK (s:au)(l:Lk)(x:b7)(b:bk ax)(most:bl)(hx:aU s 1 x b.length (ofBytes b))(hb:b.length<=4000000)(hm:most<=20000000):
  Runs af dR 37 [eN l,x,.int .i64 most] s (rK s (fX l b most)):=by
 obtain⟨QQ,eK⟩:∃QQ:b7->au->Prop,QQ=rK s (fX l b most):=⟨_,rfl⟩
 rw[<-eK];refine Runs.enter 56 Tryz.func37 rfl rfl rfl rfl ?_;intro f hn hf;have h0:f.get 0=eN l:=hf 0;have h1:f.get 1=x:=hf 1;have h2:f.get 2= .int .i64 most:=hf 2;clear hf;simp only[aj,QM,↓ab,hn,h0];refine aA ?_;intro s1 ht aF vR;have ht:az s1 s.next l.cells:=ht;have hd:l.cells.length+1=6:=rfl;have kU:=hx.keeps aF;have n1:=aF.next;have p3:aN af s1 9 (.pointer (some ⟨s.next,3,some 6⟩))=some (.string ⟨l.name.toArray⟩):=ht.load uL (off:=3) (c:=6) rfl (by simp[Lk.cells]);have la:∀t,aw s1.next s1 t->aN af t 56 (.pointer (some ⟨s.next,0,some 6⟩))=some (i3 l.p l.co l.cl):=fun t h=>by
  have:=az.qc (P:=af) TX KE (ht.keeps h) (off:=0) (c:=6) rfl (by simp[Lk.cells]);rw[this];rfl
 have e1:=fJ (P:=af) (t:=9) l.name nC;have e2:=fJ (P:=af) (t:=9) l.name Ak;have e3:=fJ (P:=af) (t:=9) l.name sA;have e4:=fJ (P:=af) (t:=9) l.name Q4;rw[show nC.toArray= #[70,108,97,116,101,68,101,99,111,100,101] from rfl] at e1;rw[show Ak.toArray= #[76,90,87,68,101,99,111,100,101] from rfl] at e2;rw[show sA.toArray= #[65,83,67,73,73,72,101,120,68,101,99,111,100,101] from rfl] at e3;rw[show Q4.toArray= #[65,83,67,73,73,56,53,68,101,99,111,100,101] from rfl] at e4;by_cases c1:l.name=nC
 ·rw[bs c1] at e1;have eu:fX l b most=jQ l (RZ b most):=by unfold fX;rw[bq c1]
  have Sz:=E8 b most;simp only[aj,ak,ad,QM,WP,↓ab,hn,h1,h2,hd,Nw,p3,e1];have r:=RY s1 x b (8*b.length+fuelZ) kU (by omega) most (by omega) (by rw[LP];omega);refine r.mono ?_;intro v s2 hv;have hv:∃w n,v= .tuple #[w,.int .i64 n,.int .i64 (RZ b most).2]/\gz s1 w s2 (RZ b most).1:=by
   unfold RZ;cases h:Nf.ti (8*b.length+fuelZ) b most.toNat with
   |error e=>rw[h] at hv;obtain⟨rfl,k⟩:=hv;exact⟨_,_,rfl,⟨.nil,aM.nil _,k⟩⟩
   |ok r=>rw[h] at hv;obtain⟨o,rfl,ho,hF,k⟩:=hv;exact⟨_,_,rfl,⟨ho,hF,k⟩⟩
  obtain⟨w,n,rfl,hw⟩:=hv;generalize RZ b most=r at Sz hw eu;have x0:aH (.tuple #[w,.int .i64 n,.int .i64 r.2]) 0=some w:=rfl;have x1:aH (.tuple #[w,.int .i64 n,.int .i64 r.2]) 1=some (.int .i64 n):=rfl;have x2:aH (.tuple #[w,.int .i64 n,.int .i64 r.2]) 2=some (.int .i64 r.2):=rfl;have hk:aw s.next s s2:=aF.trans (hw.stay.weaken n1);by_cases c9:r.2=0;rotate_left
  ·have e9:jQ l r=([],r.2):=by unfold jQ;rw[bq c9]
   simp only[aj,ak,al,oneOf,QM,WP,↓ab,hn,x0,x1,x2,dA,a0 c9,cA];rw[eK,eu,e9];exact⟨_,rfl,⟨.nil,aM.nil _,hk⟩⟩
  have e9:jQ l r=ks l.p l.co l.cl r.1:=by unfold jQ;rw[av (fun h=>h c9)]
  simp only[aj,ak,ad,QM,WP,↓ab,hn,x0,x1,x2,dA,bs c9,IQ,la _ hw.stay];refine(Bn (lib:=dR) aeD rfl s2 l.p l.co l.cl w r.1 hw.own.aL (by omega)).mono ?_;rintro _ s3 ⟨z,rfl,hz⟩;have y0:∀q,aH (.tuple #[z,q]) 0=some z:=fun _=>rfl
  have y1:∀q,aH (.tuple #[z,q]) 1=some q:=fun _=>rfl
  simp only[aj,al,oneOf,QM,WP,↓ab,hn,y0,y1,cA];rw[eK,eu,e9];exact⟨z,rfl,hz.behind hk⟩
 rw[a0 c1] at e1;by_cases c2:l.name=Ak
 ·rw[bs c2] at e2;have eu:fX l b most=jQ l (Wv b most):=by unfold fX;rw[av c1,bq c2]
  have Sz:=E9 b most;simp only[aj,ak,ad,QM,WP,↓ab,hn,h1,h2,hd,Nw,p3,e1,e2];refine(NT (lib:=dR) rfl rfl rfl rfl rfl rfl s1 x b most kU hb (.inl hm)).mono ?_;intro v s2 hv;obtain⟨w,rfl,hw⟩:∃w,v= .tuple #[w,.int .i64 (Wv b most).2]/\gz s1 w s2 (Wv b most).1:=mv.LQ hv
  generalize Wv b most=r at Sz hw eu;have x0:aH (.tuple #[w,.int .i64 r.2]) 0=some w:=rfl;have x1:aH (.tuple #[w,.int .i64 r.2]) 1=some (.int .i64 r.2):=rfl;have hk:aw s.next s s2:=aF.trans (hw.stay.weaken n1);by_cases c9:r.2=0;rotate_left
  ·have e9:jQ l r=([],r.2):=by unfold jQ;rw[bq c9]
   simp only[aj,ak,al,oneOf,QM,WP,↓ab,hn,x0,x1,dA,a0 c9,cA];rw[eK,eu,e9];exact⟨_,rfl,⟨.nil,aM.nil _,hk⟩⟩
  have e9:jQ l r=ks l.p l.co l.cl r.1:=by unfold jQ;rw[av (fun h=>h c9)]
  simp only[aj,ak,ad,QM,WP,↓ab,hn,x0,x1,dA,bs c9,IQ,la _ hw.stay];refine(Bn (lib:=dR) aeD rfl s2 l.p l.co l.cl w r.1 hw.own.aL (by omega)).mono ?_;rintro _ s3 ⟨z,rfl,hz⟩;have y0:∀q,aH (.tuple #[z,q]) 0=some z:=fun _=>rfl
  have y1:∀q,aH (.tuple #[z,q]) 1=some q:=fun _=>rfl
  simp only[aj,al,oneOf,QM,WP,↓ab,hn,y0,y1,cA];rw[eK,eu,e9];exact⟨z,rfl,hz.behind hk⟩
 rw[a0 c2] at e2;by_cases c3:l.name=sA
 ·rw[bs c3] at e3;have eu:fX l b most=Bu (oB most) b (-1) []:=by unfold fX;rw[av c1,av c2,bq c3]
  simp only[aj,ak,ad,QM,WP,↓ab,hn,h1,h2,hd,Nw,p3,e1,e2,e3];refine(Rv (lib:=dR) rfl rfl rfl rfl rfl rfl rfl rfl rfl rfl rfl rfl s1 x b most (oB most) rfl kU (by omega) (by omega)).mono ?_;intro v s2 hv;obtain⟨w,rfl,hw⟩:=mv.LQ hv;have x0:∀z,aH (.tuple #[w,z]) 0=some w:=fun _=>rfl
  have x1:∀z,aH (.tuple #[w,z]) 1=some z:=fun _=>rfl
  simp only[aj,al,oneOf,QM,WP,↓ab,hn,x0,x1,cA];rw[eK,eu];exact⟨w,rfl,hw.behind aF⟩
 rw[a0 c3] at e3;by_cases c4:l.name=Q4
 ·rw[bs c4] at e4;have eu:fX l b most=sE (oB most) b [] []:=by unfold fX;rw[av c1,av c2,av c3,bq c4]
  simp only[aj,ak,ad,QM,WP,↓ab,hn,h1,h2,hd,Nw,p3,e1,e2,e3,e4];refine(NU (lib:=dR) rfl rfl rfl rfl rfl rfl rfl rfl rfl rfl rfl rfl rfl s1 x b most (oB most) rfl kU (by omega) (by omega)).mono ?_;intro v s2 hv;obtain⟨w,rfl,hw⟩:=mv.LQ hv;have x0:∀z,aH (.tuple #[w,z]) 0=some w:=fun _=>rfl
  have x1:∀z,aH (.tuple #[w,z]) 1=some z:=fun _=>rfl
  simp only[aj,al,oneOf,QM,WP,↓ab,hn,x0,x1,cA];rw[eK,eu];exact⟨w,rfl,hw.behind aF⟩
 rw[a0 c4] at e4;have eu:fX l b most=Runs.dec most b []:=by unfold fX;rw[av c1,av c2,av c3,av c4]
 simp only[aj,ak,ad,QM,WP,↓ab,hn,h1,h2,hd,Nw,p3,e1,e2,e3,e4];refine(Ld (lib:=dR) rfl s1 x b most kU (by omega)).mono ?_;intro v s2 hv;obtain⟨w,rfl,hw⟩:=mv.LQ hv;have x0:∀z,aH (.tuple #[w,z]) 0=some w:=fun _=>rfl
 have x1:∀z,aH (.tuple #[w,z]) 1=some z:=fun _=>rfl
 simp only[aj,al,oneOf,QM,WP,↓ab,hn,x0,x1,cA];rw[eK,eu];exact⟨w,rfl,hw.behind aF⟩
end Go.Proofs.YtdfjfncifneocaaGreat
namespace Go.Proofs.YtdfjfncifneocaaGreat
open Go.Cl Go.Cl.Pr
structure VL (lib:aD):Prop where
 may:lib.at 50=none
 akQ:lib.at 129=none
 TZ:lib.at 130=none
 af7:lib.at 169=none
 Y7:lib.at 199=none
 copy:lib.at 39=none
theorem LR {lib:aD}(L:VL lib)(s:au)(a b c:bl)(ha:0<=a/\a<=255)(hb:0<=b/\b<=255)(hc:0<=c/\c<=255):Runs af lib 169 [.int .i64 a,.int .i64 b,.int .i64 c] s fun v s' =>v= .int .i64 (fD a b c)/\s' =s:=by
 obtain⟨QQ,eK⟩:∃QQ:b7->au->Prop,QQ=fun v s' =>v= .int .i64 (fD a b c)/\s' =s:=⟨_,rfl⟩
 rw[<-eK];refine Runs.enter 39 Tryz.func169 rfl L.af7 rfl rfl ?_;intro f hn hf;have h0:f.get 0= .int .i64 a:=hf 0;have h1:f.get 1= .int .i64 b:=hf 1;have h2:f.get 2= .int .i64 c:=hf 2;clear hf;simp(disch:=omega)only[aj,ak,ad,QM,WP,↓ab,hn,h0,h1,h2,aB];refine(Ai L.Y7 _ (a+b-c) a (by omega) (by omega)).mono ?_;rintro _ _ ⟨rfl,rfl⟩;simp only[aj,ak,ad,QM,WP,↓ab,hn,h1];refine(Ai L.Y7 _ (a+b-c) b (by omega) (by omega)).mono ?_;rintro _ _ ⟨rfl,rfl⟩;simp only[aj,ak,ad,QM,WP,↓ab,hn,h2];refine(Ai L.Y7 _ (a+b-c) c (by omega) (by omega)).mono ?_;rintro _ _ ⟨rfl,rfl⟩;by_cases c1:mR (a+b-c) a<=mR (a+b-c) b
 ·by_cases c2:mR (a+b-c) a<=mR (a+b-c) c
  ·have e:fD a b c=a:=by unfold fD;rw[bq ⟨c1,c2⟩]
   simp only[aj,ak,al,oneOf,QM,WP,↓ab,hn,h0,bz c1,bz c2,cX];rw[eK];exact⟨by rw[e],rfl⟩
  by_cases c3:mR (a+b-c) b<=mR (a+b-c) c
  ·have e:fD a b c=b:=by unfold fD;rw[av (fun h=>c2 h.2),bq c3]
   simp only[aj,ak,al,oneOf,QM,WP,↓ab,hn,h1,bz c1,an c2,bz c3,cX];rw[eK];exact⟨by rw[e],rfl⟩
  have e:fD a b c=c:=by unfold fD;rw[av (fun h=>c2 h.2),av c3]
  simp only[aj,ak,al,oneOf,QM,WP,↓ab,hn,h2,bz c1,an c2,an c3,cX];rw[eK];exact⟨by rw[e],rfl⟩
 by_cases c3:mR (a+b-c) b<=mR (a+b-c) c
 ·have e:fD a b c=b:=by unfold fD;rw[av (fun h=>c1 h.1),bq c3]
  simp only[aj,ak,al,oneOf,QM,WP,↓ab,undef,hn,h1,an c1,bz c3,cX];rw[eK];exact⟨by rw[e],rfl⟩
 have e:fD a b c=c:=by unfold fD;rw[av (fun h=>c1 h.1),av c3]
 simp only[aj,ak,al,oneOf,QM,WP,↓ab,undef,hn,h2,an c1,an c3,cX];rw[eK];exact⟨by rw[e],rfl⟩
theorem LS {lib:aD}(L:VL lib)(s:au)(t a b c:bl)(ha:0<=a/\a<=255)(hb:0<=b/\b<=255)(hc:0<=c/\c<=255):Runs af lib 130 [.int .i64 t,.int .i64 a,.int .i64 b,.int .i64 c] s fun v s' =>v= .int .i64 (il t a b c)/\s' =s:=by
 obtain⟨QQ,eK⟩:∃QQ:b7->au->Prop,QQ=fun v s' =>v= .int .i64 (il t a b c)/\s' =s:=⟨_,rfl⟩
 rw[<-eK];refine Runs.enter 28 Tryz.func130 rfl L.TZ rfl rfl ?_;intro f hn hf;have h0:f.get 0= .int .i64 t:=hf 0;have h1:f.get 1= .int .i64 a:=hf 1;have h2:f.get 2= .int .i64 b:=hf 2;have h3:f.get 3= .int .i64 c:=hf 3;clear hf;by_cases c1:t=1
 ·have e:il t a b c=a:=by unfold il;rw[bq c1]
  simp(disch:=omega)only[aj,al,oneOf,QM,WP,↓ab,hn,h0,h1,bz c1,c5];rw[eK];exact⟨by rw[e],rfl⟩
 by_cases c2:t=2
 ·have e:il t a b c=b:=by unfold il;rw[av c1,bq c2]
  simp(disch:=omega)only[aj,al,oneOf,QM,WP,↓ab,hn,h0,h2,an c1,bz c2,c5];rw[eK];exact⟨by rw[e],rfl⟩
 by_cases c3:t=3
 ·have e:il t a b c=(a+b)/2:=by unfold il;rw[av c1,av c2,bq c3]
  have eh:(a+b).tdiv 2=(a+b)/2:=Int.tdiv_eq_ediv_of_nonneg (by omega);simp(disch:=omega)only[aj,al,oneOf,QM,WP,↓ab,hn,h0,h1,h2,an c1,an c2,bz c3,aB,gA,eh,c5];rw[eK];exact⟨by rw[e],rfl⟩
 by_cases c4:t=4
 ·have e:il t a b c=fD a b c:=by unfold il;rw[av c1,av c2,av c3,bq c4]
  simp(disch:=omega)only[aj,ak,ad,QM,WP,↓ab,hn,h0,h1,h2,h3,an c1,an c2,an c3,bz c4];refine(LR L s a b c ha hb hc).mono ?_;rintro _ _ ⟨rfl,rfl⟩;simp(disch:=omega)only[aj,al,oneOf,QM,↓ab,hn,c5];rw[eK];exact⟨by rw[e],rfl⟩
 have e:il t a b c=0:=by unfold il;rw[av c1,av c2,av c3,av c4]
 simp(disch:=omega)only[aj,al,oneOf,QM,WP,↓ab,hn,h0,an c1,an c2,an c3,an c4,c5];rw[eK];exact⟨by rw[e],rfl⟩
def af8 (s:au)(a b c:bl)(v:b7)(s' :au):Prop:=v= .tuple #[.int .i64 a,.int .i64 b,.int .i64 c]/\aw s.next s s'
theorem On {lib:aD}(L:VL lib)(s:au)(p:bl)(c m n:ao)(x:b7)(l:bk ax)(hx:aU s 1 x l.length (ofBytes l))(hl:l.length<=200000000)(i:ao)(hi:i<=l.length)(zR:n=c*m)(gZ:1<=n)(mf:n<=16384)(hc:1<=c)(XA:c<=n):
  Runs af lib 129 [i3 p c m,x,.int .i64 i] s (af8 s (lz l n c i) (iL l n i) (fg l n c i)):=by
 refine Runs.enter 61 Tryz.func129 rfl L.akQ rfl rfl ?_;intro f hn hf;have h0:f.get 0=i3 p c m:=hf 0;have h1:f.get 1=x:=hf 1;have h2:f.get 2= .int .i64 i:=hf 2;clear hf;have Ah:[Value.int .i64 p,.int .i64 (c:bl),.int .i64 (m:bl)].length+1=4:=rfl;have hmul:c7.wrap ((c:bl)*(m:bl))=(n:bl):=by
  have e:(c:bl)*(m:bl)=(n:bl):=by rw[zR];exact(Int.natCast_mul c m).symm
  rw[e,aB (by omega)]
 have yZ:=ev i n;have hml:=Nat.mod_lt i (show n>0 by omega);obtain⟨j,hj⟩:∃j,j=i%n:=⟨_,rfl⟩
 rw[<-hj] at yZ hml;have R0:((i:ao):bl).tmod (n:bl)=(j:bl):=by rw[hj,dc (by omega)];rfl
 have WR:¬(n:bl)=0:=by omega
 simp only[aj,QM,↓ab,hn,h0];refine aA ?_;intro s1 ht aF vR;have ht:az s1 s.next (l3 p c m):=ht;have p1:aN af s1 3 (.pointer (some ⟨s.next,1,some 4⟩))=some (.int .i64 c):=ht.load aP (off:=1) (c:=4) rfl (by simp);have p2:aN af s1 3 (.pointer (some ⟨s.next,2,some 4⟩))=some (.int .i64 m):=ht.load aP (off:=2) (c:=4) rfl (by simp);have kU:=hx.keeps aF;simp only[aj,ak,QM,WP,↓ab,hn,h2,Ah,F6,Nk,p1,p2,hmul,dZ,WR,R0];generalize hK:oD af lib (Code.seq (Code.seq (Code.region _ _ _) _) (Code.seq _ _)) _=K;have eF:∀q:ao,q<l.length->bK af 22 x (.int .i64 q)=some (aX 1 x q)/\aN af s1 5 (aX 1 x q)=some (.int .u8 ((l.getD q 0).toNat:ao)):=fun q hq=>by
  have fk:=kU.indexAddr (P:=af) (k:= .i64) (x:=(q:bl)) aC cO (by omega) (by omega);rw[bw] at fk;have hl:=kU.cu (P:=af) gQ hq;rw[aW hq] at hl;exact⟨fk,hl⟩
 have go:∀f,f.n=61->f.get 1=x->f.get 2= .int .i64 i->f.get 3= .pointer (some ⟨s.next,0,some 4⟩)->f.get 9= .int .i64 n->f.get 10= .int .i64 (lz l n c i)->f.get 11= .int .i64 0->f.get 12= .int .i64 0->K .normal f s1:=by
  clear hn h0 h1 h2 f;subst hK;intro f hn h1 h2 h3 h9 cJ eC oF;by_cases tm:n<=i;rotate_left
  ·have tO:¬(n:bl)<=(i:bl):=by omega
   have e1:iL l n i=0:=by unfold iL;rw[av tm]
   have e2:fg l n c i=0:=by unfold fg;rw[av (fun h=>tm h.1)]
   simp only[aj,QM,WP,↓ab,hn,h2,h9,cJ,eC,oF,an tO];simp only[aj,al,oneOf,QM,WP,↓ab,hn,ds];exact⟨by rw[e1,e2],aF⟩
  have tO:(n:bl)<=(i:bl):=by omega
  obtain⟨g1,g2⟩:=eF (i-n) (by omega);have w8:=rE (l.getD (i-n) 0);have eA:((((l.getD (i-n) 0).toNat:ao):bl))=iL l n i:=by unfold iL;rw[bq tm]
  rw[eA] at g2 w8;have e1:(i:bl)-(n:bl)=((i-n:ao):bl):=by omega
  by_cases Yr:c<=j;rotate_left
  ·have acb:¬(c:bl)<=(j:bl):=by omega
   have e2:fg l n c i=0:=by unfold fg;rw[av (fun h=>Yr (by rw[hj];exact h.2))]
   simp(disch:=omega)only[aj,QM,WP,↓ab,hn,h1,h2,h3,h9,cJ,oF,bz tO,aB,e1,g1,g2,a9 cT cx,F6,p1,dZ,R0,an acb];simp(disch:=omega)only[aj,al,oneOf,QM,WP,↓ab,hn,ds];exact⟨by rw[e2],aF⟩
  have acb:(c:bl)<=(j:bl):=by omega
  obtain⟨g3,g4⟩:=eF (i-n-c) (by omega);have w9:=rE (l.getD (i-n-c) 0);have eB:((((l.getD (i-n-c) 0).toNat:ao):bl))=fg l n c i:=by unfold fg;rw[bq ⟨tm,by rw[<-hj];exact Yr⟩]
  rw[eB] at g4 w9;have uP:c<=i-n:=by
   have h1:(i-n)%n=i%n:=(Nat.mod_eq_sub_mod tm).symm;have h2:=ev (i-n) n;omega
  have e2:((i-n:ao):bl)-(c:bl)=((i-n-c:ao):bl):=by omega
  simp(disch:=omega)only[aj,QM,WP,↓ab,hn,h1,h2,h3,h9,cJ,bz tO,aB,e1,e2,g1,g2,g3,g4,a9 cT cx,F6,p1,dZ,R0,bz acb];simp(disch:=omega)only[aj,al,oneOf,QM,WP,↓ab,hn,ds];exact⟨rfl,aF⟩
 by_cases Yr:c<=j;rotate_left
 ·have e0:lz l n c i=0:=by unfold lz;rw[av (by rw[<-hj];exact Yr)]
  simp only[aj,an Yr];exact go _ (by simp only[ag,hn]) (by simp only[aa,↓ab,WP,h1]) (by simp only[aa,↓ab,WP,h2]) (by simp only[aa,↓ab,WP]) (by simp only[aa,↓ab,WP]) (by simp only[aa,↓ab,WP,e0]) (by simp only[aa,↓ab,WP]) (by simp only[aa,↓ab,WP])
 obtain⟨g1,g2⟩:=eF (i-c) (by omega);have w8:=rE (l.getD (i-c) 0);have eB:((((l.getD (i-c) 0).toNat:ao):bl))=lz l n c i:=by unfold lz;rw[bq (by rw[<-hj];exact Yr)]
 rw[eB] at g2 w8;have e1:(i:bl)-(c:bl)=((i-c:ao):bl):=by omega
 simp(disch:=omega)only[aj,QM,WP,↓ab,hn,h1,h2,bz Yr,aB,F6,p1,e1,g1,g2,a9 cT cx];exact go _ (by simp only[ag,hn]) (by simp only[aa,↓ab,WP,h1]) (by simp only[aa,↓ab,WP,h2]) (by simp only[aa,↓ab,WP]) (by simp only[aa,↓ab,WP]) (by simp only[aa,↓ab]) (by simp only[aa,↓ab,WP]) (by simp only[aa,↓ab,WP])
end Go.Proofs.YtdfjfncifneocaaGreat