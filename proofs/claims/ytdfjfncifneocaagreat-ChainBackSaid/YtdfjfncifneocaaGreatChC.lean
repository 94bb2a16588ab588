/-
 What was written is read: the plain law of inflate.
-/
import Derived.Test.YtdfjfncifneocaaGreatJnP
open _root_ renaming reduceIte->ab,UInt8->ao,if_pos->a4,if_neg->a5,List->a7,decide_eq_true->bb,decide_eq_false->bl,eq_false->bo,Nat->bq,Int->dE,decide_not->dO,of_decide_eq_true->dT,eq_true->dY,absurd->eh
open List renaming length_append->af,getD_eq_getElem?_getD->a6,append_assoc->a9,length_drop->bg,length_take->b7,nil_append->cm,drop_drop->cv,drop_eq_nil_of_le->c5,drop_append_of_le_length->c6,getElem?_eq_getElem->c8,length_cons->dd,drop_of_length_le->dt,drop_append->dX,take_zero->eb,length->eg
open Go.Proofs.Tryz renaming prog->an,results65->bk,results37->cg,results150->c7,results87->ed
open Nat renaming add_one_sub_one->av,sub_self->bz,reduceAdd->b5,add_zero->cx,reduceLeDiff->cz,reduceSub->cA,le_refl->cB,mod_eq_of_lt->dc,zero_add->ds,ble_eq->dv,beq->dH,ble->ea,beq_eq->ec,le_of_lt->ee
open UInt8 renaming toNat_ofNat'->bs,ofNat->cp
open Go renaming Value->cR
open Nat renaming reduceLT->QS,reduceEqDiff->Qx
set_option maxHeartbeats 16000000
set_option linter.unusedSimpArgs false
set_option linter.unusedVariables false
set_option maxRecDepth 100000
namespace Go.Cl.Nf
open Go.Cl.Sto Go.Cl.Fx Go.Cl.Rw
theorem RF {D:a7 ao}{C:a7 bq}{p w q:bq}(my:w<=15)(hD:p+w<=8*D.length)(hq:q<C.length)(hw:C.getD q 0=w)(hc:fst C w+(C.take q).count w=hi D p w)(TH:∀k,1<=k->k<w->¬yh D C p k):∀m n,n+m+1=w->Bl D C p (15-n) n= .ok (q,p+w)
 |0,n,h=>by
  obtain⟨h1,h2⟩:=XJ (D:=D) (p:=p) hq hw hc
  rw[show 15-n=(15-(n+1))+1 by omega]
  unfold Bl
  rw[show n+1=w by omega,a4 hD,a4 h1,h2]
 |m+1,n,h=>by
  rw[show 15-n=(15-(n+1))+1 by omega]
  unfold Bl
  rw[a4 (by omega),a5 (TH (n+1) (by omega) (by omega))]
  exact RF my hD hq hw hc TH m (n+1) (by omega)
theorem X8 {D:a7 ao}{C:a7 bq}{p w q:bq}(h1:1<=w)(my:w<=15)(hD:p+w<=8*D.length)(hq:q<C.length)(hw:C.getD q 0=w)(hc:fst C w+(C.take q).count w=hi D p w)(TH:∀k,1<=k->k<w->¬yh D C p k):sym D C p= .ok (q,p+w):=
 RF my hD hq hw hc TH (w-1) 0 (by omega)
theorem vo:er.length=288:=by simp[er]
theorem HZ {s:bq}(h:s<288):er.getD s 0=(gS s).2:=by simp[er,a6,List.getElem?_map,List.getElem?_range h]
def JS:bq->Bool
 |0=>true
 |s+1=>decide (fst er (gS s).2+(er.take s).count (gS s).2=(gS s).1)&&JS s
theorem EF:∀{m:bq},JS m=true->∀s,s<m->fst er (gS s).2+(er.take s).count (gS s).2=(gS s).1
 |m+1,h,s,hs=>by
  simp only[JS,Bool.and_eq_true,decide_eq_true_eq] at h
  by_cases e:s=m
  ·subst e;exact h.1
  ·exact EF h.2 s (by omega)
theorem EG {s:bq}(h:s<288):fst er (gS s).2+(er.take s).count (gS s).2=(gS s).1:=EF (m:=288) (by decide+kernel) s h
theorem H2 {i:bq}(h:i<32):fW.getD i 0=5:=by
 have key:∀i,i<32->fW.getD i 0=5:=by decide
 exact key i h
theorem MQ {i:bq}(h:i<32):fst fW 5+(fW.take i).count 5=i:=by
 have key:∀i,i<32->fst fW 5+(fW.take i).count 5=i:=by decide+kernel
 exact key i h
theorem EH {p:a7 ao×bq}(h:ni p){s:bq}(hs:s<288){D:a7 ao}{nb:bq}(hD:Pre (jA p s) (D,nb))(Fz:nb<=8*D.length):sym D er p.2= .ok (s,(jA p s).2):=by
 have hc:=aa3 hs
 have hw:=xJ s
 have hle:(jA p s).2<=nb:=hD.le
 rw[qk] at hle|-
 have e:=wj h (gS s).1 (gS s).2 hD (cB _)
 rw[bz,Nat.pow_zero,Nat.div_one,dc hc] at e
 refine X8 (by omega) (by omega) (by omega) (by rw[vo];exact hs) (HZ hs) (by rw[EG hs,e]) (fun k h1 hk Tl=> ?_)
 obtain⟨k1,k2,k3⟩:=JL Tl
 rw[vo] at k1
 rw[HZ k1] at k2
 have k4:=EG k1
 rw[k2,k3,wj h (gS s).1 (gS s).2 hD (ee hk)] at k4
 have:=XD hs k1 (ee hk) k2 k4.symm
 rw[this] at k2
 omega
theorem abj {p:a7 ao×bq}(h:ni p){q:bq}(hq:q<32){D:a7 ao}{nb:bq}(hD:Pre (ia p q 5) (D,nb))(Fz:nb<=8*D.length):sym D fW p.2= .ok (q,p.2+5):=by
 have hle:(ia p q 5).2<=nb:=hD.le
 rw[lF] at hle
 have e5:hi D p.2 5=q:=by
  rw[wj h q 5 hD (cB _)]
  simp
  omega
 refine X8 (by omega) (by omega) (by omega) (by have:fW.length=32:=rfl;omega) (H2 hq) (by rw[MQ hq,e5]) (fun k h1 hk Tl=> ?_)
 obtain⟨k1,k2,-⟩:=JL Tl
 rw[H2 k1] at k2
 omega
theorem MR {l:a7 ao}{a:bq}(h:a<l.length):l.take (a+1)=l.take a++[l.getD a 0]:=by
 rw[List.take_add_one,c8 h,a6,c8 h];rfl
theorem MS {l:a7 ao}{M d:bq}(hM:l.length<=M)(uR:1<=d):∀m a,(∀i,i<m->l.getD (a+i-d) 0=l.getD (a+i) 0)->a+m<=l.length->d<=a->rep M d m (l.take a)= .ok (l.take (a+m))
 |0,a,_,_,_=>rfl
 |m+1,a,h,ha,hd=>by
  have hl:(l.take a).length=a:=by rw[b7];omega
  have h0:=h 0 (by omega)
  rw[cx] at h0
  unfold rep
  rw[hl,a5 (by omega)]
  have e:(l.take a).getD (a-d) 0=l.getD a 0:=by
   rw[<-h0,a6,List.getElem?_take_of_lt (by omega),a6]
  rw[e,<-MR (by omega),MS hM uR m (a+1) (fun i hi=>by
   have:=h (i+1) (by omega)
   rw[show a+1+i=a+(i+1) by omega];exact this) (by omega) (by omega),show a+1+m=a+(m+1) by omega]
theorem T9 {l:a7 ao}{M a n d:bq}(hM:l.length<=M)(h3:3<=n)(hn:n<=258)(uR:1<=d)(hd:d<=64)(Fv:d<=a)(TP:a+n<=l.length)(abk:∀i,i<n->l.getD (a+i-d) 0=l.getD (a+i) 0){p:a7 ao×bq}(h:ni p){D:a7 ao}{nb:bq}(hD:Pre (mF p n d) (D,nb))(Fz:nb<=8*D.length):
  sym D er p.2= .ok ((cq n).1,(jA p (cq n).1).2)/\257<=(cq n).1/\rZ D M fW (cq n).1 (jA p (cq n).1).2 (l.take a)= .ok ((mF p n d).2,l.take (a+n)):=by
 have V6:=zi h3 hn
 have an4:=Dy uR hd
 have lV:=XE h3 hn
 have hdb:=XF uR hd
 obtain⟨f1,g1⟩:=qz h (cq n).1
 obtain⟨f2,g2⟩:=uv f1 (cq n).2.1 (cq n).2.2
 obtain⟨f3,g3,-⟩:=lO (n:=(eL d).1) 5 f2
 obtain⟨f4,g4⟩:=uv f3 (eL d).2.1 (eL d).2.2
 have hPS:Pre (gE (ia (gE (jA p (cq n).1) (cq n).2.1 (cq n).2.2) (eL d).1 5) (eL d).2.1 (eL d).2.2) (D,nb):=hD
 have P3:=g4.trans hPS
 have P2:=g3.trans P3
 have P1:=g2.trans P2
 have z2:(gE (jA p (cq n).1) (cq n).2.1 (cq n).2.2).2<=nb:=P2.le
 have z4:(gE (ia (gE (jA p (cq n).1) (cq n).2.1 (cq n).2.2) (eL d).1 5) (eL d).2.1 (eL d).2.2).2<=nb:=hPS.le
 have y2:(gE (jA p (cq n).1) (cq n).2.1 (cq n).2.2).2=(jA p (cq n).1).2+(cq n).2.2:=tA ..
 have y3:(ia (gE (jA p (cq n).1) (cq n).2.1 (cq n).2.2) (eL d).1 5).2=(gE (jA p (cq n).1) (cq n).2.1 (cq n).2.2).2+5:=lF ..
 have y4:(gE (ia (gE (jA p (cq n).1) (cq n).2.1 (cq n).2.2) (eL d).1 5) (eL d).2.1 (eL d).2.2).2=(ia (gE (jA p (cq n).1) (cq n).2.1 (cq n).2.2) (eL d).1 5).2+(eL d).2.2:=tA ..
 have x1:=HQ f1 (cq n).2.1 (cq n).2.2 P2
 have x2:=HQ f3 (eL d).2.1 (eL d).2.2 hPS
 rw[dc V6.2.2.2] at x1
 rw[dc an4.2.2.2] at x2
 have hl:(l.take a).length=a:=by rw[b7];omega
 refine⟨EH h (by omega) P1 Fz,V6.2.1,?_⟩
 have s2:=abj f2 (q:=(eL d).1) (by omega) P3 Fz
 unfold rZ
 rw[a5 (by omega),lV.2,eN (by omega),x1]
 dsimp only
 rw[<-y2,s2]
 dsimp only
 rw[a5 (by omega),hdb.2,<-y3,eN (by omega),x2]
 dsimp only
 rw[hdb.1,lV.1,hl,a5 (by omega),MS hM uR n a abk TP Fv]
 dsimp only
 rw[<-y4]
 rfl
theorem EI {l:a7 ao}{M:bq}(hM:l.length<=M){D:a7 ao}{nb:bq}(hD:Pre (sm l) (D,nb))(Fz:nb<=8*D.length):∀(k a:bq) (p:a7 ao×bq),l.length<a+k->a<=l.length->ni p->uC l a p=uC l 0 j9->kR D M er fW k p.2 (l.take a)= .ok ((sm l).2,l)
 |0,a,p,h,ha,_,_=>by omega
 |k+1,a,p,h,ha,hp,Hl=>by
  have Jp:sm l=jA (uC l 0 j9) 256:=Bx l
  unfold kR
  by_cases bd:a<l.length
  rotate_left
  ·obtain rfl:a=l.length:=by omega
   rw[ql l p (cB _)] at Hl
   have an5:Pre (jA p 256) (D,nb):=by rw[Hl,<-Jp];exact hD
   rw[EH hp (by decide) an5 Fz]
   dsimp only
   rw[a4 rfl,List.take_length,Jp,Hl]
  have hgt:=qj l a
  have hle:=Dz l bd
  rw[uc l p bd] at Hl
  obtain⟨hpS,atC⟩:=Es l a hp
  obtain⟨hfA,aji⟩:=zH l l.length (jB l a) (jd l a p) (by omega) hpS
  rw[Hl] at hfA aji
  have hPS:Pre (jd l a p) (D,nb):=aji.trans (by rw[Jp] at hD;exact(qz hfA 256).2.trans hD)
  have ih:=EI hM hD Fz k (jB l a) (jd l a p) (by omega) hle hpS Hl
  by_cases c3:(db l a (nq a)).1<3
  ·have eA:jB l a=a+1:=by unfold jB;rw[a4 c3]
   have eP:jd l a p=jA p (l.getD a 0).toNat:=by unfold jd;rw[a4 c3]
   rw[eP] at hPS ih
   rw[eA] at ih
   have hc:=(l.getD a 0).toNat_lt
   have hl:(l.take a).length=a:=by rw[b7];omega
   rw[EH hp (by omega) hPS Fz]
   dsimp only
   rw[a5 (by omega),a4 (by omega),hl,a5 (by omega),show cp (l.getD a 0).toNat=l.getD a 0 from UInt8.ofNat_toNat,<-MR bd]
   exact ih
  ·have SX:=DA c3
   have eA:jB l a=a+(db l a (nq a)).1:=by unfold jB;rw[a5 c3]
   have eP:jd l a p=mF p (db l a (nq a)).1 (db l a (nq a)).2:=by unfold jd;rw[a5 c3]
   rw[eA] at hle ih
   rw[eP] at hPS ih
   have abk:=adL l a (db l a (nq a)).2
   rw[<-SX.2.2.2.2.2] at abk
   obtain⟨s1,s2,s3⟩:=T9 hM SX.1 SX.2.1 SX.2.2.1 SX.2.2.2.1 SX.2.2.2.2.1 hle abk hp hPS Fz
   rw[s1]
   dsimp only
   rw[a5 (by omega),a5 (by omega),s3]
   exact ih
theorem PI {l T:a7 ao}{i:bq}(h:i<8*l.length):bit (l++T) i=bit l i:=aa5 l T h
theorem EJ (l T:a7 ao):Pre (sm l) (fixed l++T,8*(fixed l++T).length):=by
 have h:=(Jb l).1.1
 have h:(sm l).2<=8*(fixed l).length:=h
 refine⟨by show(sm l).2<=8*(fixed l++T).length;rw[af];omega,fun i hi=> ?_⟩
 exact PI (by omega)
theorem H3 (l:a7 ao):Pre j9 (sm l):=by
 rw[Bx]
 obtain⟨h1,h2⟩:=zH l l.length 0 j9 (by omega) Et
 exact h2.trans (qz h1 256).2
theorem EK (l T:a7 ao):cj (fixed l++T) 0 1=1/\cj (fixed l++T) 1 2=1:=by
 have h:=(H3 l).trans (EJ l T)
 have b0:=h.bits 0 (by decide)
 have b1:=h.bits 1 (by decide)
 have b2:=h.bits 2 (by decide)
 have c0:bit j9.1 0=1:=by decide
 have c1:bit j9.1 1=1:=by decide
 have c2:bit j9.1 2=0:=by decide
 rw[c0] at b0
 rw[c1] at b1
 rw[c2] at b2
 have b0:bit (fixed l++T) 0=1:=b0
 have b1:bit (fixed l++T) 1=1:=b1
 have b2:bit (fixed l++T) 2=0:=b2
 constructor
 ·simp only[cj,cx];rw[b0]
 ·simp only[cj,cx];rw[b1,show 1+1=2 from rfl,b2]
theorem PJ (l:a7 ao):((sm l).2+7)/8=(fixed l).length:=by
 have h:=(Jb l).1
 have h1:(sm l).2<=8*(fixed l).length:=h.1
 have h2:8*(fixed l).length<(sm l).2+8:=h.2
 omega
theorem PK (N:bq)(l T:a7 ao){M:bq}(hM:l.length<=M)(hN:l.length+1<=N):vl N (fixed l++T) M= .ok ((sm l).2,l):=by
 obtain⟨k,rfl⟩:∃k,N=k+1:=⟨N-1,by omega⟩
 have gq:=EJ l T
 have h3:j9.2=3:=xK.2
 have hle:j9.2<=8*(fixed l++T).length:=((H3 l).trans gq).le
 obtain⟨b1,b2⟩:=EK l T
 have hc:=EI hM gq (cB _) (k+1) 0 j9 (by omega) (by omega) Et rfl
 rw[eb,h3] at hc
 have hb:gJ (k+1) (fixed l++T) M 0 []= .ok (1,(sm l).2,l):=by
  unfold gJ
  rw[eN (by omega),b1]
  dsimp only
  rw[ds,eN (by omega),b2]
  dsimp only
  unfold mo
  rw[a5 (by decide),a4 rfl,hc]
 unfold vl kS
 rw[hb]
 dsimp only
 rw[a4 rfl]
theorem kl {D X:a7 ao}{a:bq}(h:D.drop a=X)(j:bq):D.getD (a+j) 0=X.getD j 0:=by
 rw[a6,<-List.getElem?_drop,h,a6]
theorem H4 {D T:a7 ao}{M:bq}:∀(x:a7 ao) (a:bq) (P:a7 ao),D.drop a=x++T->P.length+x.length<=M->wm D M x.length a P= .ok (8*(a+x.length),P++x)
 |[],a,P,_,_=>by simp[wm]
 |c::x,a,P,h,hM=>by
  have ha:a<D.length:=by
   have:=congrArg eg h
   simp at this;omega
  have e:D.getD a 0=c:=by have:=kl h 0;rw[cx] at this;rw[this];rfl
  have hd:D.drop (a+1)=x++T:=by rw[<-cv,h];rfl
  rw[dd] at hM|-
  unfold wm
  rw[a4 ha,a5 (by omega),e,H4 x (a+1) (P++[c]) hd (by rw[af,List.length_singleton];omega),a9,show a+1+x.length=a+(x.length+1) by omega]
  rfl
theorem uw (N:bq){D x T:a7 ao}{M a last:bq}{P:a7 ao}(h:D.drop a=FP x.length last++(x++T))(hl:last<2)(hx:x.length<=65535)(hM:P.length+x.length<=M):gJ N D M (8*a) P= .ok (last,8*(a+5+x.length),P++x):=by
 have d0:=kl h 0
 have d1:=kl h 1
 have d2:=kl h 2
 have d3:=kl h 3
 have d4:=kl h 4
 rw[cx] at d0
 have e0:D.getD a 0=cp last:=d0
 have e1:D.getD (a+1) 0=cp x.length:=d1
 have e2:D.getD (a+1+1) 0=cp (x.length/256):=d2
 have e3:D.getD (a+1+2) 0=cp (255-x.length%256):=d3
 have e4:D.getD (a+1+2+1) 0=cp (255-x.length/256%256):=d4
 have hlen:a+5+x.length<=D.length:=by
  have:=congrArg eg h
  rw[bg,af,af,iH] at this
  omega
 have b1v:cj D (8*a) 1=last:=by rw[ahl,e0,bs];omega
 have b2v:cj D (8*a+1) 2=0:=by rw[V1,e0,bs];omega
 have hd5:D.drop (a+1+4)=x++T:=by rw[show a+1+4=a+5 by omega,<-cv,h];rfl
 have ha:(8*a+1+2+7)/8=a+1:=by omega
 have n1:cj D (8*(a+1)) 16=x.length:=by
  rw[V0,e1,e2,bs,bs];omega
 have n2:cj D (8*(a+1)+16) 16=65535-x.length:=by
  rw[show 8*(a+1)+16=8*(a+1+2) by omega,V0,e3,e4,bs,bs];omega
 have hs:=H4 x (a+1+4) P hd5 hM
 unfold gJ
 rw[eN (by omega),b1v]
 dsimp only
 rw[eN (by omega),b2v]
 dsimp only
 unfold mo
 rw[a4 rfl]
 unfold o7
 rw[show 8*a+3=8*a+1+2 by omega,ha,a4 (by omega),n1,n2,a4 (by omega),hs]
theorem EL (N:bq){D T:a7 ao}{M:bq}:∀(k:bq) (l:a7 ao) (a:bq) (P:a7 ao),D.drop a=uB l++T->l.length<k->P.length+l.length<=M->kS N D M k (8*a) P= .ok (8*(a+(uB l).length),P++l)
 |0,l,a,P,_,h,_=>by omega
 |k+1,l,a,P,hD,h,hM=>by
  unfold kS
  by_cases c:l.length<=65535
  ·rw[tx c] at hD|-
   rw[a9] at hD
   rw[uw N hD (by omega) c hM]
   dsimp only
   rw[a4 rfl,af,iH]
   rw[show a+5+l.length=a+(5+l.length) by omega]
  ·rw[tz c] at hD
   have hl:(l.take 65535).length=65535:=by rw[b7];omega
   have hD2:D.drop a=FP (l.take 65535).length 0++(l.take 65535++(uB (l.drop 65535)++T)):=by
    rw[hD,hl];simp only[a9]
   rw[uw N hD2 (by omega) (by omega) (by omega)]
   dsimp only
   rw[a5 (by decide),hl]
   have To:D.drop (a+5+65535)=uB (l.drop 65535)++T:=by
    rw[<-cv,<-cv,hD2]
    show(((l.take 65535)++(uB (l.drop 65535)++T))).drop 65535=_
    rw[c6 (by omega),dt (by omega),cm]
   rw[EL N k (l.drop 65535) (a+5+65535) (P++l.take 65535) To (by rw[bg];omega) (by rw[af,hl,bg];omega),a9,List.take_append_drop,tz c]
   rw[af,af,iH,hl]
   rw[show a+5+65535+(uB (l.drop 65535)).length=a+(5+65535+(uB (l.drop 65535)).length) by omega]
theorem X9 (N:bq)(l T:a7 ao){M:bq}(hM:l.length<=M)(hN:l.length<N):vl N (uB l++T) M= .ok (8*(uB l).length,l):=by
 have:=EL N (D:=uB l++T) (T:=T) N l 0 [] rfl hN (by simpa using hM)
 rw[Nat.mul_zero,ds,cm] at this
 exact this
end Go.Cl.Nf
namespace Go.Cl.Nf
open Go.Cl.Sto Go.Cl.Fx
def MT (N:bq)(D:a7 ao)(m:bq):Prop:=∃H:bq->a7 ao->Prop,H 0 []/\∀p P,H p P->cj D (p+1) 2≠2/\∀a q P',gJ N D m p P= .ok (a,q,P')->a≠1->H q P'
theorem MU {N:bq}{D:a7 ao}{M p:bq}{P:a7 ao}{a q:bq}{P' :a7 ao}(h:gJ N D M p P= .ok (a,q,P')):a=cj D p 1:=by
 unfold gJ at h
 by_cases c:p+1<=8*D.length
 ·rw[eN c] at h
  dsimp only at h
  split at h
  ·cases h
  ·split at h
   ·cases h
   ·injection h with h;injection h with h _;exact h.symm
 ·rw[mn c] at h
  cases h
theorem Ua (N:bq)(l T:a7 ao){M:bq}(hM:l.length<=M):MT N (uB l++T) M:=by
 refine⟨fun p P=>∃(x:a7 ao) (a:bq),p=8*a/\(uB l++T).drop a=uB x++T/\P.length+x.length<=M,⟨l,0,rfl,rfl,by simpa using hM⟩,?_⟩
 rintro p P ⟨x,a,rfl,hD,hx⟩
 generalize uB l++T=D at hD|-
 by_cases c:x.length<=65535
 ·rw[tx c,a9] at hD
  have d0:=kl hD 0
  rw[cx] at d0
  have e0:D.getD a 0=cp 1:=d0
  refine⟨by rw[V1,e0];decide,fun a' q P' hb ha=> ?_⟩
  rw[uw N hD (by omega) c hx] at hb
  injection hb with hb;injection hb with h1 _;exact eh h1.symm ha
 ·rw[tz c] at hD
  have hl:(x.take 65535).length=65535:=by rw[b7];omega
  have hD2:D.drop a=FP (x.take 65535).length 0++(x.take 65535++(uB (x.drop 65535)++T)):=by
   rw[hD,hl];simp only[a9]
  have d0:=kl hD2 0
  rw[cx] at d0
  have e0:D.getD a 0=cp 0:=d0
  refine⟨by rw[V1,e0];decide,fun a' q P' hb ha=> ?_⟩
  rw[uw N hD2 (by omega) (by omega) (by omega)] at hb
  injection hb with hb;injection hb with _ hb;injection hb with h2 h3
  have To:D.drop (a+5+65535)=uB (x.drop 65535)++T:=by
   rw[<-cv,<-cv,hD2]
   show(((x.take 65535)++(uB (x.drop 65535)++T))).drop 65535=_
   rw[c6 (by omega),dt (by omega),cm]
  exact⟨x.drop 65535,a+5+65535,by rw[<-h2,hl],To,by rw[<-h3,af,hl,bg];omega⟩
theorem MV (N:bq)(l T:a7 ao){M:bq}(hM:l.length<=M):MT N (kh l++T) M:=by
 unfold kh
 split
 ·exact Ua N l T hM
 ·have h:=EK l T
  exact⟨fun p _=>p=0,rfl,fun p P hp=>by subst hp;exact⟨by rw[ds,h.2];decide,fun a q P' hb ha=>eh ((MU hb).trans h.1) ha⟩⟩
end Go.Cl.Nf
namespace Go.Proofs.YtdfjfncifneocaaGreat
open Go.Cl Go.Cl.Rw Go.Cl.Sto Go.Cl.Fx Go.Cl.Nf Go.Cl.Bt
theorem Ub {lib:aA}(hL:Po lib)(base:bq)(s:aq)(jr jx ic:bq)(D P:a7 ao)(p m N:bq)(M:dE)(hM:m=M.toNat)(o:cR)(h:Rs base s jr jx ic D p P M o)(hb:base<=s.next)(hlen:D.length<=4000000)(oB:cj D (p+1) 2≠2)(PB:P.length<=m)(hm:m<=100000000)(hN:8*D.length+1<N):
  Runs an lib 150 [su jr] s fun v s' =>an0 base jr jx ic D M o s v s' (gJ N D m p P):=by
 have bd:=h.bit.lt
 have anX:=h.t.lt
 have Bp:∀i,aI o=some i->i<s.next:=fun i hi=>h.own.iD i hi
 have dU:∀o' t,uF jr jx ic o s o' t->ar base s t:=fun o' t k=>k.stay h.lr bd.2.2.1 bd.2.2.2.1 h.fresh hb
 refine Runs.enter 65 Tryz.func150 rfl (hL _ rfl) rfl rfl ?_
 intro f hn hf
 have h0:f.get 0=su jr:=hf 0
 clear hf
 have r0:=h.t.load (P:=an) jP (off:=0) (c:=4) rfl (by simp)
 have ne2:¬(2:dE)=0:=by decide
 rw[aeP]
 simp only[aj,ak,aa,QS,Qx,↓ab,hn,h0,qA,r0]
 refine(oh hL base s jx ic D p 1 h.bit hb (by omega) hlen).mono ?_
 intro v s1 hN1
 by_cases c1:p+1<=8*D.length
 rotate_left
 ·rw[mn c1] at hN1
  rw[yl c1,TW,nD]
  obtain⟨-,rfl,fk⟩:=hN1
  simp only[aj,ak,al,oneOf,QS,Qx,↓ab,hn,dF,dG,bo ne2,c7]
  exact⟨by decide,⟨_,rfl⟩,dU _ _ (rF fk)⟩
 rw[eN c1] at hN1
 rw[yk c1,yj c1]
 obtain⟨rfl,EZ,FT⟩:=hN1
 have pH:=h.bits EZ FT
 have gL:base<=s1.next:=by have:=FT.next;omega
 have r0:=pH.t.load (P:=an) jP (off:=0) (c:=4) rfl (by simp)
 generalize cj D p 1=last
 simp only[aj,ak,aa,QS,Qx,↓ab,hn,h0,dF,dG,qA,r0]
 refine(oh hL base s1 jx ic D (p+1) 2 EZ gL (by omega) hlen).mono ?_
 intro v s2 hN2
 by_cases c2:p+1+2<=8*D.length
 rotate_left
 ·rw[mn c2] at hN2
  rw[yl c2,nD]
  obtain⟨-,rfl,fk⟩:=hN2
  simp only[aj,ak,al,oneOf,QS,Qx,↓ab,hn,dF,dG,bo ne2,c7]
  exact⟨by decide,⟨_,rfl⟩,dU _ _ (rF (FT.trans fk))⟩
 rw[eN c2] at hN2
 rw[yk c2,yj c2,kT]
 obtain⟨rfl,Y1,Bz⟩:=hN2
 have Bz:=FT.trans Bz
 have iu:=h.bits Y1 Bz
 have dI:base<=s2.next:=by have:=Bz.next;omega
 have k2:uF jr jx ic o s o s2:=rF Bz
 have st2:=dU _ _ k2
 have n2:=Bz.next
 have atF:p+1+2<=8*D.length:=Y1.le
 generalize cj D (p+1) 2=kind at oB|-
 obtain⟨B,hB⟩:∃B,B=mo N D m kind (p+1+2) P:=⟨_,rfl⟩
 rw[<-hB]
 simp only[aj,ak,QS,Qx,↓ab,hn,dF,dG]
 refine XO (fun f' t' =>f'.n=65/\f'.get 4= .int .i64 (last:bq)/\∃v,f'.get 5=v/\JO base jr jx ic D M o s v t' B) ?_ ?_
 rotate_left
 ·clear hn h0 f
  rintro f t ⟨hn,h4,v,h5,hO⟩
  cases B with
  |error e=>
   obtain⟨he,rfl,aE⟩:=hO
   simp only[aj,al,oneOf,QS,Qx,↓ab,hn,h4,h5,c7]
   rw[nD]
   exact⟨he,⟨_,rfl⟩,aE⟩
  |ok y=>
   obtain⟨q,P'⟩:=y
   obtain⟨rfl,o',hR,fk⟩:=hO
   simp only[aj,al,oneOf,QS,Qx,↓ab,hn,h4,h5,c7]
   rw[kT]
   exact⟨rfl,o',hR,fk⟩
 intro Q' V7
 by_cases ck0:kind=0
 ·have d0:((kind:bq):dE)=0:=by omega
  simp only[aj,ak,aa,QS,Qx,↓ab,hn,h0,dY d0]
  refine(MJ hL base s2 jr jx ic D P (p+1+2) m M hM o iu dI hlen PB hm).mono ?_
  intro v t hO
  simp only[aj,QS,↓ab,hn]
  refine V7 _ _ ⟨by simp only[ag,hn],by simp only[ad,↓ab,Qx],v,by simp only[ad,↓ab],?_⟩
  rw[hB]
  unfold mo
  rw[a4 ck0]
  exact hO.from k2 st2
 have d0:¬((kind:bq):dE)=0:=by omega
 by_cases ck1:kind=1
 ·have d1:((kind:bq):dE)=1:=by omega
  simp only[aj,ak,aa,QS,Qx,↓ab,hn,bo d0,dY d1]
  refine(Px hL s2).mono ?_
  rintro _ t ⟨sa,sb,rfl,hsa,YP,aa8,aa9,k3⟩
  have n3:=k3.next
  simp only[aj,QS,Qx,↓ab,hn,dF,dG,AY,AZ]
  refine aw ?_
  intro t1 iK bn iV
  obtain⟨ja,hja⟩:∃j,j=t.next:=⟨_,rfl⟩
  rw[<-hja] at iK
  simp only[aj,QS,b5,↓ab,hn,<-hja,az,AY,AZ]
  refine aw ?_
  intro t2 vC aR m8
  obtain⟨jb,Rg⟩:∃j,j=t1.next:=⟨_,rfl⟩
  rw[<-Rg] at vC
  simp only[aj,QS,Qx,b5,↓ab,hn,<-Rg,az]
  refine aB dM (by decide) (iK.keeps aR) (az _ _) rfl (az _ _) (kU _ hsa.aG.aL) ?_
  intro t3 yP mQ fB
  have yP:ax t3 ja (cw er sa):=yP
  simp only[aj,QS,Qx,↓ab,hn]
  refine aB dM (by decide) (vC.aK mQ fB (by omega)) (az _ _) rfl (az _ _) (kU _ YP.aG.aL) ?_
  intro t4 Dr vY vh
  have Dr:ax t4 jb (cw fW sb):=Dr
  have TC:=yP.aK vY vh (by omega)
  have lca:=TC.bF (P:=an) jm (by rw[az];exact dM) (c:=18) (by rw[az])
  have lcb:=Dr.bF (P:=an) jm (by rw[az];exact dM) (c:=18) (by rw[az])
  have kk:ar s2.next s2 t4:=(((k3.trans (bn.weaken n3)).trans (aR.weaken (by omega))).trans (ar.aK mQ fB (by omega))).trans (ar.aK vY vh (by omega))
  have yE:=iu.keeps dI kk
  have k4:=k2.kept kk
  have fin:∀(y:cR) (K:a7 bq),Own t 1 y (dq K 15).length (gN (dq K 15))->aF s2.next y->abd jr jx ic o t4 (.agg (cw K y).toArray) K:=fun y K h1 h2=>by
   have h3:=(((h1.keeps bn).keeps aR).aK mQ fB (fun e=>by have:=h1.iD _ e;omega)).aK vY vh (fun e=>by have:=h1.iD _ e;omega)
   exact⟨y,rfl,⟨h3.aG,fun i hi=>⟨h3.iD i hi,by have:=h2 i hi;omega,by have:=h2 i hi;omega⟩⟩,fun i hi=>⟨by have:=h2 i hi;omega,fun e=>by have:=Bp i e;have:=h2 i hi;omega⟩⟩
  simp only[aj,ak,aa,QS,Qx,↓ab,hn,h0,lca,lcb]
  refine(PE hL base t4 jr jx ic D P (p+1+2) m N M hM o yE (by have:=kk.next;omega) hlen PB hm (by omega) _ _ er fW (fin sa _ hsa aa8) (fin sb _ YP aa9) (by rw[show er.length=288 from AB];decide) (by decide)).mono ?_
  intro v t5 hO
  simp only[aj,QS,↓ab,hn]
  refine V7 _ _ ⟨by simp only[ag,hn],by simp only[ad,↓ab,Qx],v,by simp only[ad,↓ab],?_⟩
  rw[hB]
  unfold mo
  rw[a5 ck0,a4 ck1]
  exact hO.from k4 (dU _ _ k4)
 have d1:¬((kind:bq):dE)=1:=by omega
 by_cases ck2:kind=2
 rotate_left
 ·have d2:¬((kind:bq):dE)=2:=by omega
  simp only[aj,QS,Qx,↓ab,hn,bo d0,bo d1,bo d2]
  refine V7 _ _ ⟨by simp only[ag,hn],by simp only[ad,↓ab,Qx],_,by simp only[ad,↓ab];rfl,?_⟩
  rw[hB]
  unfold mo
  rw[a5 ck0,a5 ck1,a5 ck2]
  exact⟨by decide,rfl,st2⟩
 exact eh ck2 oB
theorem PL {lib:aA}(hL:Po lib)(s:aq)(x:cR)(D:a7 ao)(N:bq)(hx:aN s 1 x D.length (ofBytes D))(hlen:D.length<=4000000)(M:dE)(hnd:MT N D M.toNat)(hM:M<=100000000)(hN:8*D.length+1<N):
  Runs an lib 102 [x,.int .i64 M] s fun v s' =>aiU s v s' (vl N D M.toNat):=by
 obtain⟨m,hm⟩:∃m,m=M.toNat:=⟨_,rfl⟩
 rw[<-hm] at hnd|-
 obtain⟨H,H0,Hs⟩:=hnd
 refine Runs.enter 36 Tryz.func102 rfl (hL _ rfl) rfl rfl ?_
 intro f hn hf
 have h0:f.get 0=x:=hf 0
 have h1:f.get 1= .int .i64 M:=hf 1
 clear hf
 simp only[aj,ak,aa,QS,Qx,↓ab,hn,h0]
 refine(XA (hL _ rfl) (hL _ rfl) s.next s x D hx.low (cB _)).mono ?_
 rintro _ s1 ⟨jx,ic,rfl,hB,k1⟩
 have bd:=hB.lt
 have n1:=k1.next
 simp only[aj,ae,QS,Qx,↓ab,hn,h1,abf]
 refine aw ?_
 intro s2 gx aR m8
 obtain⟨jr,hjr⟩:∃j,j=s1.next:=⟨_,rfl⟩
 rw[<-hjr] at gx
 have iu:Rs s.next s2 jr jx ic D 0 [] M (.slice none 0 0):=⟨hB.keeps n1 aR,gx,.nil,aF.nil _,(fun e=>by cases e),(fun e=>by cases e),(fun e=>by cases e),by omega,by omega,by omega⟩
 have k2:ar s.next s s2:=k1.trans (aR.weaken n1)
 obtain⟨R,hR⟩:∃R,R=vl N D m:=⟨_,rfl⟩
 rw[<-hR]
 simp only[aj,QS,b5,↓ab,hn,<-hjr,dd,List.length_nil]
 refine Comes.bQ (fun z f t=>∃(p:bq) (P:a7 ao) (o:cR),H p P/\kS N D m z p P=R/\8*D.length<p+z/\P.length<=m/\Rs s.next t jr jx ic D p P M o/\ar s.next s t/\s.next<=t.next/\f.n=36/\f.get 7=su jr)
  (fun z f t=>z= .ret/\f.n=36/\∃a b c,f.get 4=a/\f.get 5=b/\f.get 6=c/\aiU s (.tuple #[a,b,c]) t R)
  (k:=N) ⟨0,[],_,H0,hR.symm,by omega,Nat.zero_le _,iu,k2,k2.next,by simp only[ad,ag,↓ab,hn,and_self]⟩ ?_ ?_
 rotate_left
 ·clear hn h0 h1 f
  rintro z f t ⟨rfl,hn,a,b,c,h4,h5,h6,hO⟩
  simp only[aj,al,oneOf,QS,↓ab,hn,h4,h5,h6,Tryz.results102]
  exact hO
 clear hn h0 h1 f iu hB k1 gx aR hR
 rintro Q hQ z f t ⟨p,P,o,hH,hz,hpz,PB,T3,aE,B4,hn,h7⟩
 have hpD:=T3.bit.le
 obtain⟨k,rfl⟩:∃k,z=k+1:=⟨z-1,by omega⟩
 rw[kS] at hz
 simp only[aj,ak,aa,QS,↓ab,hn,h7]
 refine(Ub hL s.next t jr jx ic D P p m N M hm o T3 B4 hlen (Hs p P hH).1 PB (by omega) hN).mono ?_
 intro v t1 Ln
 cases hbx:gJ N D m p P with
 |error e=>
  rw[hbx] at Ln hz
  obtain⟨he,⟨b,rfl⟩,bn⟩:=Ln
  have c0:¬(e:dE)=0:=by omega
  simp only[aj,ak,QS,Qx,↓ab,hn,dF,dG,bo c0]
  exact hQ _ _ _ ⟨rfl,by simp only[ag,hn],_,_,_,by simp only[ad,↓ab,Qx];rfl,by simp only[ad,↓ab,Qx];rfl,by simp only[ad,↓ab];rfl,by rw[<-hz];exact⟨rfl,aE.trans bn⟩⟩
 |ok y=>
 obtain⟨last,q,P'⟩:=y
 rw[hbx] at Ln hz
 obtain⟨rfl,o',pH,fk⟩:=Ln
 dsimp only at hz
 have hle:=HR hbx PB
 have Ku:=TY hbx PB
 have bn:=aE.trans (fk.stay T3.lr T3.bit.lt.2.2.1 T3.bit.lt.2.2.2.1 T3.fresh B4)
 have g8:s.next<=t1.next:=bn.next
 by_cases cl:last=1
 rotate_left
 ·have d1:¬((last:bq):dE)=1:=by omega
  rw[a5 cl] at hz
  simp only[aj,ak,QS,Qx,↓ab,hn,dF,dG,bo d1]
  exact ay k (by omega) ⟨q,P',o',(Hs p P hH).2 _ _ _ hbx cl,hz,by omega,hle.2.1,pH,bn,g8,by simp only[ad,ag,↓ab,Qx,hn,h7,and_self]⟩
 have d1:((last:bq):dE)=1:=by omega
 rw[a4 cl] at hz
 simp only[aj,ak,QS,Qx,↓ab,hn,dF,dG,dY d1]
 obtain⟨A,hA⟩:∃A:bq->Bool,A=fun j=>decide (j<t1.next):=⟨_,rfl⟩
 have iU:∀j,A j=true->j<t1.next:=by
  intro j h
  rw[hA] at h
  exact dT h
 have vM:∀j,j<t1.next->A j=true:=fun j h=>by rw[hA];exact bb h
 have pk:=ar.spare t1 0
 have Uy:(spare t1 0).next=t1.next+0:=bU _ _
 have JP:=pH.keeps g8 pk
 obtain⟨pc,now,left,T4,h7l⟩:=JP.bit
 have he:=T4.e
 have lr:∀k,LA.ej A (some (.pointer (some ⟨jr,k,some 4⟩)))=true:=fun k=>LA.cr (A:=A) (i:=jr) (vM _ pH.t.lt)
 have lx:∀k,LA.ej A (some (.pointer (some ⟨jx,k,some 4⟩)))=true:=fun k=>LA.cr (A:=A) (i:=jx) (vM _ pH.bit.lt.1)
 have r0:=JP.t.load (P:=an) jP (off:=0) (c:=4) rfl (by simp)
 have r2:=JP.t.load (P:=an) fU (off:=2) (c:=4) rfl (by simp)
 have g0:=T4.t.load (P:=an) En (off:=0) (c:=4) rfl (by simp)
 refine LB.cX.fi A iU 1 0 (by kernel_rfl) (by kernel_rfl) ?_
 simp only[aj,ak,bH,bI,bz,aa,QS,Qx,↓ab,hn,h7,qA,AW,tT,r0,r2,g0,lr,lx,pH.own.self]
 refine(BG (hL _ rfl) s.next (spare t1 0) ic D pc T4.c).mono ?_
 rintro _ t2 ⟨rfl,dD⟩
 rw[dD];clear dD t2
 refine⟨fun _=>LA.dP.refl _ _,?_⟩
 try simp only[aj,↓ab,aj,↓ab]
 have ep:pc=(q+7)/8:=by omega
 exact hQ _ _ _ ⟨rfl,by simp only[ag,hn],_,_,_,by simp only[ad,↓ab,Qx];rfl,by simp only[ad,↓ab,Qx];rfl,by simp only[ad,↓ab];rfl,by rw[<-hz];exact⟨o',by rw[ep],JP.own,JP.fresh,bn.trans (pk.weaken g8)⟩⟩
theorem Ya (s:aq)(x:cR)(D:a7 ao)(N:bq)(hx:aN s 1 x D.length (ofBytes D))(hDl:D.length<=4000000)(M:dE)(hnd:MT N (D.drop 2) M.toNat)(hM:M<=100000000)(hN:8*D.length+1<N):
  Runs an df 65 [x,.int .i64 M] s fun v s' =>an1 s v s' (vn N D M.toNat):=by
 refine Runs.enter 78 Tryz.func65 rfl rfl rfl rfl ?_
 intro f hn hf
 have h0:f.get 0=x:=hf 0
 have h1:f.get 1= .int .i64 M:=hf 1
 clear hf
 simp only[aj,ak,aa,QS,Qx,↓ab,hn,h0]
 refine(JD rfl s.next s x D hx.low (cB _)).mono ?_
 rintro _ s1 ⟨rfl,iK,k1,n1⟩
 obtain⟨ic,E3⟩:∃i,i=s.next:=⟨_,rfl⟩
 have iK:jG s.next s1 ic D 0:=by rw[E3];exact iK
 rw[<-E3]
 have YM:aF s.next (gm ic):=da (by omega)
 simp only[aj,ak,aa,QS,↓ab,hn]
 refine(MO rfl rfl rfl rfl rfl rfl s.next s1 ic D 0 2 iK (by omega) (by omega)).mono ?_
 rintro v s2 ⟨hv,kY,Bz⟩
 have k2:ar s.next s s2:=k1.trans (Bz.keeps YM (by omega))
 have ko:=hx.keeps k2
 obtain⟨R,hR⟩:∃R,R=vn N D M.toNat:=⟨_,rfl⟩
 rw[<-hR]
 unfold vn at hR
 by_cases c1:D.length<2
 ·rw[a4 c1] at hR
  rw[bl (by omega)] at hv
  subst hv
  simp only[aj,al,oneOf,QS,Qx,↓ab,hn,dF,dG,bk]
  rw[hR]
  exact⟨rfl,k2⟩
 rw[a5 c1] at hR
 rw[a4 (by decide),abh (by omega),bb (by omega)] at hv
 generalize (if(1:dE)<=2/\(2:dE)<=7/\(2:dE)<=((D.length-0:bq):dE) then 0+(2:dE).toNat else 0)=p2 at kY
 have a8:=(D.getD 0 0).toNat_lt
 have b8:=(D.getD 1 0).toNat_lt
 generalize (D.getD 0 0).toNat=a at hv a8 hR
 generalize (D.getD 1 0).toNat=b at hv b8 hR
 subst hv
 obtain⟨w,hw⟩:∃w,w=a*256+b:=⟨_,rfl⟩
 rw[<-hw]
 have s8:cQ an .shr 3 (.int .i64 (w:bq)) (.int .u64 8)=some (.int .i64 (a:bq)):=by
  have k:=Z2 an 3 .u64 w (k:=8) (by decide)
  rw[show w/2^8=a by omega] at k
  exact k
 have yF:cQ an .shr 3 (.int .i64 (w:bq)) (.int .u64 12)=some (.int .i64 ((a/16:bq):dE)):=by
  have k:=Z2 an 3 .u64 w (k:=12) (by decide)
  rw[show w/2^12=a/16 by omega] at k
  exact k
 have n15:=ae2 (n:=a) (by omega)
 have n32:=ae3 (n:=w) (by omega)
 rw[show w/32%2=b/32%2 by omega] at n32
 by_cases b1:a%16=8
 rotate_left
 ·have g1:¬((a%16:bq):dE)=8:=by omega
  rw[a4 (.inl b1)] at hR
  simp only[aj,ak,al,oneOf,QS,Qx,↓ab,undef,hn,dF,dG,s8,fh,n15,bo g1,bk]
  rw[hR]
  exact⟨rfl,k2⟩
 have g1:((a%16:bq):dE)=8:=by omega
 by_cases b2:7<a/16
 ·have g2:((a/16:bq):dE)>7:=by omega
  rw[a4 (.inr (.inl b2))] at hR
  simp only[aj,ak,al,oneOf,QS,Qx,↓ab,undef,hn,dF,dG,s8,yF,fh,n15,g1,dY g2,bk]
  rw[hR]
  exact⟨rfl,k2⟩
 have g2:¬((a/16:bq):dE)>7:=by omega
 by_cases b3:w%31=0
 rotate_left
 ·have g3:¬((w%31:bq):dE)=0:=by omega
  rw[a4 (.inr (.inr (.inl (by rw[<-hw];exact b3))))] at hR
  simp(disch:=omega)only[aj,ak,al,oneOf,QS,Qx,↓ab,undef,hn,dF,dG,s8,yF,fh,n15,g1,bo g2,fg,X4,bo g3,bk]
  rw[hR]
  exact⟨rfl,k2⟩
 have g3:((w%31:bq):dE)=0:=by omega
 by_cases b4:b/32%2=0
 rotate_left
 ·have g4:¬((b/32%2*32:bq):dE)=0:=by omega
  rw[a4 (.inr (.inr (.inr b4)))] at hR
  simp(disch:=omega)only[aj,ak,al,oneOf,QS,Qx,↓ab,hn,dF,dG,s8,yF,fh,n15,n32,g1,bo g2,fg,X4,g3,bo g4,bk]
  rw[hR]
  exact⟨rfl,k2⟩
 have g4:((b/32%2*32:bq):dE)=0:=by omega
 rw[a5 (by unfold MN;omega)] at hR
 simp(disch:=omega)only[aj,ak,aa,ai,QS,Qx,↓ab,hn,h0,dF,dG,s8,yF,fh,n15,n32,g1,bo g2,fg,X4,g3,g4,ko.ff Tryz.underlying22 bK]
 have dx:=ajg ko (by omega)
 refine(wu rfl s2 _ (D.drop 2) dx (by rw[bg];omega)).mono ?_
 rintro y s3 ⟨hy,kN,k3⟩
 have k3' :ar s.next s s3:=k2.trans (k3.weaken k2.next)
 simp only[aj,ak,aa,QS,Qx,↓ab,hn,h1]
 refine(PL an3 s3 y (D.drop 2) N hy.aG (by rw[bg];omega) M hnd hM (by rw[bg];omega)).mono ?_
 intro v s4 hB
 cases hi:vl N (D.drop 2) M.toNat with
 |error e=>
  rw[hi] at hB hR
  obtain⟨rfl,k4⟩:=hB
  have he:=T8 hi
  have g5:¬((e:bq):dE)=0:=by omega
  simp only[aj,ak,al,oneOf,QS,Qx,↓ab,hn,QM,QN,QO,bo g5,bk]
  rw[hR]
  exact⟨rfl,k3'.trans (k4.weaken k3'.next)⟩
 |ok r=>
 obtain⟨q,P⟩:=r
 rw[hi] at hB
 obtain⟨o,rfl,ho,hoF,k4⟩:=hB
 have k4' :ar s.next s s4:=k3'.trans (k4.weaken k3'.next)
 have TC:jG s.next s4 ic D p2:=(kY.keeps k2.next k3).keeps k3'.next k4
 have hle:=Mw hi
 rw[bg] at hle
 obtain⟨n,Uy⟩:∃n,n=(q+7)/8:=⟨_,rfl⟩
 rw[hi] at hR
 dsimp only at hR
 rw[<-Uy] at hR|-
 have n4:=k4'.next
 have e2:(2:dE)+(n:bq)=((2+n:bq):dE):=by omega
 have cH:aI o≠some ic:=fun e=>by have:=hoF _ e;have:=kY.choose_spec.1.lt;have:=k3.next;omega
 simp(disch:=omega)only[aj,ak,aa,QS,Qx,↓ab,hn,QM,QN,QO,aD,e2]
 refine(X3 rfl s.next s4 ic D p2 _ TC n4).mono ?_
 rintro _ s5 ⟨rfl,hc5,to5⟩
 rw[a4 (by omega),Int.toNat_natCast] at hc5
 have ho5:=ho.turns to5 (fun i hi e=>cH (hi.trans e.symm))
 have k5:ar s.next s s5:=k4'.trans (to5.keeps YM n4)
 simp only[aj,ak,aa,QS,Qx,↓ab,hn]
 refine(MO rfl rfl rfl rfl rfl rfl s.next s5 ic D (2+n) 4 hc5 k5.next (by omega)).mono ?_
 rintro v s6 ⟨hv,hc6,RC⟩
 have YZ:=ho5.turns RC (fun i hi e=>cH (hi.trans e.symm))
 have k6:ar s.next s s6:=k5.trans (RC.keeps YM k5.next)
 by_cases c2:D.length<2+n+4
 ·rw[a4 c2] at hR
  rw[bl (by omega)] at hv
  subst hv
  simp only[aj,al,oneOf,QS,Qx,↓ab,hn,dF,dG,bk]
  rw[hR]
  exact⟨rfl,k6⟩
 rw[a5 c2] at hR
 have SC:lP D (2+n) 4=(D.drop (2+n)).take 4:=by
  unfold lP
  rw[a4 (by omega)]
  rfl
 rw[a4 (by decide),SC,bb (by omega)] at hv
 rw[a4 (by omega),show(4:dE).toNat=4 from rfl] at hc6
 have R7:((D.drop (2+n)).take 4).length<=4:=by rw[b7];omega
 have oH:=Lf ((D.drop (2+n)).take 4) _ rfl
 have oH:j8 ((D.drop (2+n)).take 4)<4294967296:=Nat.lt_of_lt_of_le oH (Nat.le_trans (Nat.pow_le_pow_right (by decide) R7) (by decide:256^4<=4294967296))
 generalize j8 ((D.drop (2+n)).take 4)=g at oH hv hR
 subst hv
 have Vh:=Wb P
 obtain⟨xa,xn,xc,YL⟩:=aN.zm YZ.aG
 simp(disch:=omega)only[aj,ae,QS,Qx,↓ab,hn,dF,dG,bL Tryz.underlying3 Tryz.underlying117,xM,YL,QU]
 refine aQ rfl ?_
 intro yy s7 hyy atI k7
 rw[<-YL] at hyy
 have Bj:=YZ.keeps k7
 simp(disch:=omega)only[aj,ak,aa,QS,↓ab,hn,<-YL]
 refine(Hm rfl rfl s7 yy o P hyy.aG Bj.aG (by have:=hle.2;omega)).mono ?_
 rintro _ s8 ⟨rfl,rfl⟩
 have k8:ar s.next s s8:=k6.trans (k7.weaken k6.next)
 have hc8:=hc6.keeps k6.next k7
 by_cases c3:g=Bg P
 rotate_left
 ·have g6:¬((g:bq):dE)=((Bg P:bq):dE):=by omega
  rw[a5 c3] at hR
  simp(disch:=omega)only[aj,ak,al,oneOf,QS,Qx,↓ab,hn,bo g6,bk]
  rw[hR]
  exact⟨rfl,k8⟩
 have g6:((g:bq):dE)=((Bg P:bq):dE):=by omega
 rw[a4 c3] at hR
 simp only[aj,ak,aa,QS,Qx,↓ab,hn,g6]
 refine(BG rfl s.next s8 ic D (2+n+4) hc8).mono ?_
 rintro _ s9 ⟨rfl,rfl⟩
 simp only[aj,al,oneOf,QS,Qx,↓ab,hn,bk]
 rw[hR]
 exact⟨o,rfl,Bj,fun i hi=>by have:=hoF i hi;have:=k3'.next;omega,k8⟩
end Go.Proofs.YtdfjfncifneocaaGreat
namespace Go.Proofs.YtdfjfncifneocaaGreat
open Go.Cl Go.Cl.Pr Go.Cl.Ch Go.Cl.Hx Go.Cl.B85 Go.Cl.Uh
def NoD (l:Lk)(b:a7 ao)(m:dE):Prop:=l.name=iI->Nf.MT (8*b.length+fuelZ) (b.drop 2) m.toNat
theorem abl (s:aq)(l:Lk)(x:cR)(b:a7 ao)(most:dE)(hx:aN s 1 x b.length (ofBytes b))(hb:b.length<=4000000)(hm:most<=20000000)(J8:NoD l b most):
  Runs an df 37 [fE l,x,.int .i64 most] s (vg s (fM l b most)):=by
 obtain⟨QQ,fw⟩:∃QQ:cR->aq->Prop,QQ=vg s (fM l b most):=⟨_,rfl⟩
 rw[<-fw]
 refine Runs.enter 56 Tryz.func37 rfl rfl rfl rfl ?_
 intro f hn hf
 have h0:f.get 0=fE l:=hf 0
 have h1:f.get 1=x:=hf 1
 have h2:f.get 2= .int .i64 most:=hf 2
 clear hf
 simp only[aj,QS,↓ab,hn,h0]
 refine aw ?_
 intro s1 ht aE xG
 have ht:ax s1 s.next l.cells:=ht
 have hd:l.cells.length+1=6:=rfl
 have nk:=hx.keeps aE
 have n1:=aE.next
 have p3:aJ an s1 9 (.pointer (some ⟨s.next,3,some 6⟩))=some (.string ⟨l.name.toArray⟩):=ht.load tp (off:=3) (c:=6) rfl (by simp[Lk.cells])
 have la:∀t,ar s1.next s1 t->aJ an t 56 (.pointer (some ⟨s.next,0,some 6⟩))=some (i3 l.p l.co l.cl):=fun t h=>by
  have:=ax.uj (P:=an) Ay rW (ht.keeps h) (off:=0) (c:=6) rfl (by simp[Lk.cells])
  rw[this];rfl
 have e1:=kJ (P:=an) (t:=9) l.name iI
 have e2:=kJ (P:=an) (t:=9) l.name DZ
 have e3:=kJ (P:=an) (t:=9) l.name ss
 have e4:=kJ (P:=an) (t:=9) l.name Kc
 rw[show iI.toArray= #[70,108,97,116,101,68,101,99,111,100,101] from rfl] at e1
 rw[show DZ.toArray= #[76,90,87,68,101,99,111,100,101] from rfl] at e2
 rw[show ss.toArray= #[65,83,67,73,73,72,101,120,68,101,99,111,100,101] from rfl] at e3
 rw[show Kc.toArray= #[65,83,67,73,73,56,53,68,101,99,111,100,101] from rfl] at e4
 by_cases c1:l.name=iI
 ·rw[bb c1] at e1
  have eu:fM l b most=lg l (UI b most):=by unfold fM;rw[a4 c1]
  have hmo:=X6 b most
  simp only[aj,ak,aa,QS,Qx,↓ab,hn,h1,h2,hd,zu,p3,e1]
  have r:=Ya s1 x b (8*b.length+fuelZ) nk (by omega) most (J8 c1) (by omega) (by rw[MP];omega)
  refine r.mono ?_
  intro v s2 hv
  have hv:∃w n,v= .tuple #[w,.int .i64 n,.int .i64 (UI b most).2]/\cM s1 w s2 (UI b most).1:=by
   unfold UI
   cases h:Nf.vn (8*b.length+fuelZ) b most.toNat with
   |error e=>rw[h] at hv;obtain⟨rfl,k⟩:=hv;exact⟨_,_,rfl,⟨.nil,aF.nil _,k⟩⟩
   |ok r=>rw[h] at hv;obtain⟨o,rfl,ho,hF,k⟩:=hv;exact⟨_,_,rfl,⟨ho,hF,k⟩⟩
  obtain⟨w,n,rfl,hw⟩:=hv
  generalize UI b most=r at hmo hw eu
  have x0:ba (.tuple #[w,.int .i64 n,.int .i64 r.2]) 0=some w:=rfl
  have x1:ba (.tuple #[w,.int .i64 n,.int .i64 r.2]) 1=some (.int .i64 n):=rfl
  have x2:ba (.tuple #[w,.int .i64 n,.int .i64 r.2]) 2=some (.int .i64 r.2):=rfl
  have hk:ar s.next s s2:=aE.trans (hw.stay.weaken n1)
  by_cases c9:r.2=0
  rotate_left
  ·have e9:lg l r=([],r.2):=by unfold lg;rw[a4 c9]
   simp only[aj,ak,al,oneOf,QS,Qx,↓ab,hn,x0,x1,x2,dO,bl c9,cg]
   rw[fw,eu,e9]
   exact⟨_,rfl,⟨.nil,aF.nil _,hk⟩⟩
  have e9:lg l r=jF l.p l.co l.cl r.1:=by unfold lg;rw[a5 (fun h=>h c9)]
  simp only[aj,ak,aa,QS,Qx,↓ab,hn,x0,x1,x2,dO,bb c9,tJ,la _ hw.stay]
  refine(AP (lib:=df) aey rfl s2 l.p l.co l.cl w r.1 hw.own.aG (by omega)).mono ?_
  rintro _ s3 ⟨z,rfl,hz⟩
  have y0:∀q,ba (.tuple #[z,q]) 0=some z:=fun _=>rfl
  have y1:∀q,ba (.tuple #[z,q]) 1=some q:=fun _=>rfl
  simp only[aj,al,oneOf,QS,Qx,↓ab,hn,y0,y1,cg]
  rw[fw,eu,e9]
  exact⟨z,rfl,hz.behind hk⟩
 rw[bl c1] at e1
 by_cases c2:l.name=DZ
 ·rw[bb c2] at e2
  have eu:fM l b most=lg l (Y6 b most):=by unfold fM;rw[a5 c1,a4 c2]
  have hmo:=X7 b most
  simp only[aj,ak,aa,QS,Qx,↓ab,hn,h1,h2,hd,zu,p3,e1,e2]
  refine(Ph (lib:=df) rfl rfl rfl rfl rfl rfl s1 x b most nk hb (.inl hm)).mono ?_
  intro v s2 hv
  obtain⟨w,rfl,hw⟩:∃w,v= .tuple #[w,.int .i64 (Y6 b most).2]/\cM s1 w s2 (Y6 b most).1:=tQ.abi hv
  generalize Y6 b most=r at hmo hw eu
  have x0:ba (.tuple #[w,.int .i64 r.2]) 0=some w:=rfl
  have x1:ba (.tuple #[w,.int .i64 r.2]) 1=some (.int .i64 r.2):=rfl
  have hk:ar s.next s s2:=aE.trans (hw.stay.weaken n1)
  by_cases c9:r.2=0
  rotate_left
  ·have e9:lg l r=([],r.2):=by unfold lg;rw[a4 c9]
   simp only[aj,ak,al,oneOf,QS,Qx,↓ab,hn,x0,x1,dO,bl c9,cg]
   rw[fw,eu,e9]
   exact⟨_,rfl,⟨.nil,aF.nil _,hk⟩⟩
  have e9:lg l r=jF l.p l.co l.cl r.1:=by unfold lg;rw[a5 (fun h=>h c9)]
  simp only[aj,ak,aa,QS,Qx,↓ab,hn,x0,x1,dO,bb c9,tJ,la _ hw.stay]
  refine(AP (lib:=df) aey rfl s2 l.p l.co l.cl w r.1 hw.own.aG (by omega)).mono ?_
  rintro _ s3 ⟨z,rfl,hz⟩
  have y0:∀q,ba (.tuple #[z,q]) 0=some z:=fun _=>rfl
  have y1:∀q,ba (.tuple #[z,q]) 1=some q:=fun _=>rfl
  simp only[aj,al,oneOf,QS,Qx,↓ab,hn,y0,y1,cg]
  rw[fw,eu,e9]
  exact⟨z,rfl,hz.behind hk⟩
 rw[bl c2] at e2
 by_cases c3:l.name=ss
 ·rw[bb c3] at e3
  have eu:fM l b most=Ga (pK most) b (-1) []:=by unfold fM;rw[a5 c1,a5 c2,a4 c3]
  simp only[aj,ak,aa,QS,Qx,↓ab,hn,h1,h2,hd,zu,p3,e1,e2,e3]
  refine(TM (lib:=df) rfl rfl rfl rfl rfl rfl rfl rfl rfl rfl rfl rfl s1 x b most (pK most) rfl nk (by omega) (by omega)).mono ?_
  intro v s2 hv
  obtain⟨w,rfl,hw⟩:=tQ.abi hv
  have x0:∀z,ba (.tuple #[w,z]) 0=some w:=fun _=>rfl
  have x1:∀z,ba (.tuple #[w,z]) 1=some z:=fun _=>rfl
  simp only[aj,al,oneOf,QS,Qx,↓ab,hn,x0,x1,cg]
  rw[fw,eu]
  exact⟨w,rfl,hw.behind aE⟩
 rw[bl c3] at e3
 by_cases c4:l.name=Kc
 ·rw[bb c4] at e4
  have eu:fM l b most=sy (pK most) b [] []:=by unfold fM;rw[a5 c1,a5 c2,a5 c3,a4 c4]
  simp only[aj,ak,aa,QS,Qx,↓ab,hn,h1,h2,hd,zu,p3,e1,e2,e3,e4]
  refine(Pk (lib:=df) rfl rfl rfl rfl rfl rfl rfl rfl rfl rfl rfl rfl rfl s1 x b most (pK most) rfl nk (by omega) (by omega)).mono ?_
  intro v s2 hv
  obtain⟨w,rfl,hw⟩:=tQ.abi hv
  have x0:∀z,ba (.tuple #[w,z]) 0=some w:=fun _=>rfl
  have x1:∀z,ba (.tuple #[w,z]) 1=some z:=fun _=>rfl
  simp only[aj,al,oneOf,QS,Qx,↓ab,hn,x0,x1,cg]
  rw[fw,eu]
  exact⟨w,rfl,hw.behind aE⟩
 rw[bl c4] at e4
 have eu:fM l b most=Runs.dec most b []:=by unfold fM;rw[a5 c1,a5 c2,a5 c3,a5 c4]
 simp only[aj,ak,aa,QS,Qx,↓ab,hn,h1,h2,hd,zu,p3,e1,e2,e3,e4]
 refine(Mq (lib:=df) rfl s1 x b most nk (by omega)).mono ?_
 intro v s2 hv
 obtain⟨w,rfl,hw⟩:=tQ.abi hv
 have x0:∀z,ba (.tuple #[w,z]) 0=some w:=fun _=>rfl
 have x1:∀z,ba (.tuple #[w,z]) 1=some z:=fun _=>rfl
 simp only[aj,al,oneOf,QS,Qx,↓ab,hn,x0,x1,cg]
 rw[fw,eu]
 exact⟨w,rfl,hw.behind aE⟩
end Go.Proofs.YtdfjfncifneocaaGreat
namespace Go.Cl
theorem H5 {P:Program}{s:aq}{t e:TypeId}{z:bq}{zv:cR}{a b:Array cR}(hu:P.underlying t=some (.slice e))(cf:aX P e=some z)(hz:bV P e=some zv)(ph:bN zv=true)(oK:dH zv.cells.toList.length z=true)(ha:a.toList.length=z)(hb:b.toList.length=z)(hz6:z<=1000):aO P s t 2 [(0,.agg a),(1,.agg b)]=aZ s (a.toList++b.toList) 2 z:=by
 unfold aO;rw[hu]
 have VU:zv.cells.toList.length=z:=by simpa [ec] using oK
 obtain⟨u,YO⟩:∃u,u=zv.cells.toList:=⟨_,rfl⟩
 have hr:bB zv.cells.toList 2=u++u:=by rw[<-YO];simp[bB]
 have U3:u.length=z:=by rw[YO];exact VU
 have Je:(ea (2*z) 65536&&bN zv&&dH zv.cells.toList.length z)=true:=by rw[ph,oK];simp[dv];omega
 have e1:setAt (u++u) (0*z) a.toList=some (a.toList++u):=by
  rw[jy _ _ _ (by simp only[af];omega),Nat.zero_mul,eb,cm,ds,dX,c5 (by omega),cm,ha,U3,bz,List.drop_zero]
 have e2:setAt (a.toList++u) (1*z) b.toList=some (a.toList++b.toList):=by
  rw[jy _ _ _ (by simp only[af];omega),Nat.one_mul,List.take_append_of_le_length (by omega),List.take_of_length_le (by omega),c5 (by simp only[af];omega),List.append_nil]
 have c1:(dH a.toList.length z&&ea (0*z+z) (u++u).length)=true:=by simp[dv,ha,U3]
 have c2:(dH b.toList.length z&&ea (1*z+z) (a.toList++u).length)=true:=by
  rw[hb,af,ha,U3];simp[dv]<;>omega
 simp only[cf,hz,Je,hr,fG,bS,e1,e2,c1,c2,if_true]
theorem Uc {P:Program}{s:aq}{t e:TypeId}{z:bq}{zv:cR}{a b c d:Array cR}(hu:P.underlying t=some (.slice e))(cf:aX P e=some z)(hz:bV P e=some zv)(ph:bN zv=true)(oK:dH zv.cells.toList.length z=true)(ha:a.toList.length=z)(hb:b.toList.length=z)(hc:c.toList.length=z)(hd:d.toList.length=z)(hz6:z<=1000):aO P s t 4 [(0,.agg a),(1,.agg b),(2,.agg c),(3,.agg d)]=aZ s (a.toList++b.toList++c.toList++d.toList) 4 z:=by
 unfold aO;rw[hu]
 have VU:zv.cells.toList.length=z:=by simpa [ec] using oK
 obtain⟨u,YO⟩:∃u,u=zv.cells.toList:=⟨_,rfl⟩
 have hr:bB zv.cells.toList 4=u++(u++(u++u)):=by rw[<-YO];simp[bB]
 have U3:u.length=z:=by rw[YO];exact VU
 have Je:(ea (4*z) 65536&&bN zv&&dH zv.cells.toList.length z)=true:=by rw[ph,oK];simp[dv];omega
 have st:∀(p m q:a7 cR) (k:bq),p.length=k->m.length=z->∀w:a7 cR,w.length=z->setAt (p++(m++q)) k w=some (p++(w++q)):=by
  intro p m q k hp hm w hw
  subst hp
  rw[jy _ _ _ (by simp only[af];omega),List.take_left,hw,<-hm,dX,c5 (by omega),cm,Nat.add_sub_cancel_left,List.drop_left,a9]
 have e1:setAt (u++(u++(u++u))) (0*z) a.toList=some (a.toList++(u++(u++u))):=by
  have:=st [] u (u++(u++u)) (0*z) (by simp) U3 a.toList ha
  simpa using this
 have e2:setAt (a.toList++(u++(u++u))) (1*z) b.toList=some (a.toList++(b.toList++(u++u))):=st a.toList u (u++u) (1*z) (by omega) U3 b.toList hb
 have e3:setAt (a.toList++(b.toList++(u++u))) (2*z) c.toList=some (a.toList++(b.toList++(c.toList++u))):=by
  have:=st (a.toList++b.toList) u u (2*z) (by rw[af];omega) U3 c.toList hc
  simpa using this
 have e4:setAt (a.toList++(b.toList++(c.toList++u))) (3*z) d.toList=some (a.toList++(b.toList++(c.toList++d.toList))):=by
  have:=st (a.toList++(b.toList++c.toList)) u [] (3*z) (by rw[af,af];omega) U3 d.toList hd
  simpa using this
 have cc:∀(w L:a7 cR) (k:bq),w.length=z->k*z+z<=L.length->(dH w.length z&&ea (k*z+z) L.length)=true:=by
  intro w L k h1 h2
  rw[Bool.and_eq_true,ec,dv];exact⟨h1,h2⟩
 have c1:=cc a.toList (u++(u++(u++u))) 0 ha (by simp only[af];omega)
 have c2:=cc b.toList (a.toList++(u++(u++u))) 1 hb (by simp only[af];omega)
 have c3:=cc c.toList (a.toList++(b.toList++(u++u))) 2 hc (by simp only[af];omega)
 have c4:=cc d.toList (a.toList++(b.toList++(c.toList++u))) 3 hd (by simp only[af];omega)
 simp only[cf,hz,Je,hr,fG,bS,e1,e2,e3,e4,c1,c2,c3,c4,if_true,a9]
theorem aU.one {F:bq->Prop}{s:aq}{a:a7 ao×O}{ca:a7 cR}(la:ca.length=6)(ha:dz F s ca a):aU dz 6 F s [a] ca:=by
 have:=aU.nil.snoc la ha
 simpa using this
theorem aU.two {F:bq->Prop}{s:aq}{a b:a7 ao×O}{ca cb:a7 cR}(la:ca.length=6)(ha:dz F s ca a)(lb:cb.length=6)(hb:dz F s cb b):aU dz 6 F s [a,b] (ca++cb):=by
 have:=(aU.nil.snoc la ha).snoc lb hb
 simpa using this
theorem aU.four {F:bq->Prop}{s:aq}{a b c d:a7 ao×O}{ca cb cc cd:a7 cR}(la:ca.length=6)(ha:dz F s ca a)(lb:cb.length=6)(hb:dz F s cb b)(lc:cc.length=6)(hc:dz F s cc c)(ld:cd.length=6)(hd:dz F s cd d):aU dz 6 F s [a,b,c,d] (ca++cb++cc++cd):=by
 have:=(((aU.nil.snoc la ha).snoc lb hb).snoc lc hc).snoc ld hd
 simpa using this
end Go.Cl
namespace Go.Cl.Ch
def r9:a7 ao:=[66,105,116,115,80,101,114,67,111,109,112,111,110,101,110,116]
def jQ:a7 ao:=[67,111,108,111,114,115]
def gO:a7 ao:=[67,111,108,117,109,110,115]
def sd:a7 ao:=[80,114,101,100,105,99,116,111,114]
def bh:a7 ao:=[70,105,108,116,101,114]
def cG:a7 ao:=[68,101,99,111,100,101,80,97,114,109,115]
def abm (n:dE):O:= .mk 2 n [] [] []
def mu (b:a7 ao):O:= .mk 5 0 b [] []
def uG (l:Lk):a7 (a7 ao×O):=[(r9,abm 8),(jQ,abm l.co),(gO,abm l.cl),(sd,abm l.p)]
def eO (l:Lk):O:=if l.p=1 then O.none else .mk 7 0 [] [] (cV [] (uG l))
theorem EM (l:Lk):∀e∈uG l,Small e.2:=by
 intro e he
 simp only[uG,List.mem_cons,List.not_mem_nil,or_false] at he
 rcases he with rfl|rfl|rfl|rfl<;>exact Small.bare 2 _
end Go.Cl.Ch
namespace Go.Proofs.YtdfjfncifneocaaGreat
open Go.Cl Go.Cl.Pr Go.Cl.Ch
theorem acQ:aay df:=by constructor<;>rfl
theorem Ud (s:aq)(l:Lk):Runs an df 87 [fE l] s (lK s (eO l)):=by
 obtain⟨QQ,fw⟩:∃QQ:cR->aq->Prop,QQ=lK s (eO l):=⟨_,rfl⟩
 rw[<-fw]
 refine Runs.enter 27 Tryz.func87 rfl rfl rfl rfl ?_
 intro f hn hf
 have h0:f.get 0=fE l:=hf 0
 clear hf
 simp only[aj,QS,↓ab,hn,h0]
 refine aw ?_
 intro s1 ht aE xG
 have ht:ax s1 s.next l.cells:=ht
 have hd:l.cells.length+1=6:=rfl
 simp only[aj,QS,↓ab,hn,hd,zO,wD]
 refine aw ?_
 intro s2 dD aR m8
 have mh:de.length+1=6:=rfl
 have SC:=ht.keeps aR
 have k02:ar s.next s s2:=aE.trans (aR.weaken aE.next)
 have n1:=aE.next
 have n2:=aR.next
 have p0:∀t,ar s2.next s2 t->aJ an t 3 (.pointer (some ⟨s.next,0,some 6⟩))=some (.int .i64 l.p):=fun t h=>(SC.keeps h).load bu (off:=0) (c:=6) rfl (by simp[Lk.cells])
 have p1:∀t,ar s2.next s2 t->aJ an t 3 (.pointer (some ⟨s.next,1,some 6⟩))=some (.int .i64 l.co):=fun t h=>(SC.keeps h).load bu (off:=1) (c:=6) rfl (by simp[Lk.cells])
 have p2:∀t,ar s2.next s2 t->aJ an t 3 (.pointer (some ⟨s.next,2,some 6⟩))=some (.int .i64 l.cl):=fun t h=>(SC.keeps h).load bu (off:=2) (c:=6) rfl (by simp[Lk.cells])
 by_cases c1:l.p=1
 ·simp only[aj,ak,aa,QS,Qx,↓ab,hn,mh,tJ,mZ,p0 _ (ar.refl _ _),dY c1]
  refine(DX (lib:=df) rfl s2).mono ?_
  rintro _ s3 ⟨cs,rfl,ho,bC⟩
  simp only[aj,QS,Qx,↓ab,hn]
  refine aB iL (by decide) (dD.keeps bC) rfl rfl (by simpa using ho.len) ho.ok ?_
  intro s4 gv sl oD
  have gv:ax s4 s1.next cs:=gv
  simp only[aj,al,oneOf,QS,Qx,↓ab,hn,ax.gl gv ho.len,aV,ed]
  rw[fw]
  unfold eO
  rw[a4 c1]
  exact lK.put (F:=fun j=>s2.next<=j) ho (fun j hj=>⟨by omega,by omega⟩) sl oD (k02.trans (bC.weaken (by omega))) (by omega)
 simp only[aj,QS,Qx,↓ab,hn,mh,tJ,mZ,p0 _ (ar.refl _ _),bo c1]
 obtain⟨A,hA⟩:∃A:bq->Bool,A=fun j=>decide (j<s2.next):=⟨_,rfl⟩
 have iU:∀j,A j=true->j<s2.next:=by
  intro j h
  rw[hA] at h
  exact dT h
 have vM:∀j,j<s2.next->A j=true:=fun j h=>by rw[hA];exact bb h
 refine LB.cX.fi A iU 9 1 (by kernel_rfl) (by kernel_rfl) ?_
 have dC:=ar.spare s2 1
 have UD:(spare s2 1).next=s2.next+1:=bU _ _
 have oI:∀k,LA.ej A (some (.pointer (some ⟨s.next,k,some 6⟩)))=true:=fun k=>LA.cr (A:=A) (i:=s.next) (vM _ (by omega))
 have RT:=dC
 simp only[aj,ak,bI,av,aa,QS,Qx,↓ab,hn]
 refine(BE (lib:=df) rfl _ 8).mono ?_
 rintro _ a0 ⟨ca0,rfl,oa0,ka0⟩
 have ma0:=ka0.next
 have Ka0:ar s2.next s2 a0:=dC.trans (ka0.weaken (by omega))
 refine⟨fun _=>LA.ar.yC iU (ka0.weaken (by omega)),?_⟩
 try simp only[aj,ak,bH,bI,bz,av,cA,oneOf,aa,ae,ai,QS,cz,Qx,b5,↓ab,hn,h0,oa0.self]
 refine(jD (lib:=df) rfl rfl rfl _ a0 r9 ca0 _ oa0 (Small.bare 2 _)).mono ?_
 rintro _ b0 ⟨qb0,rfl,eb0,kb0⟩
 have mb0:=kb0.next
 have gb0:=eb0.len
 have Kb0:ar s2.next s2 b0:=Ka0.trans (kb0.weaken (by omega))
 refine⟨fun _=>LA.ar.yC iU (kb0.weaken (by omega)),?_⟩
 try simp only[aj,ak,bH,bI,av,aa,QS,Qx,↓ab,hn,tJ,Bb,FK,oI,p1 _ Kb0]
 refine(BE (lib:=df) rfl _ l.co).mono ?_
 rintro _ a1 ⟨ca1,rfl,oa1,ka1⟩
 have ma1:=ka1.next
 have Ka1:ar s2.next s2 a1:=Kb0.trans (ka1.weaken (by omega))
 refine⟨fun _=>LA.ar.yC iU (ka1.weaken (by omega)),?_⟩
 try simp only[aj,ak,bH,bI,bz,av,cA,oneOf,aa,ae,ai,QS,cz,Qx,b5,↓ab,hn,h0,oa1.self]
 refine(jD (lib:=df) rfl rfl rfl _ a1 jQ ca1 _ oa1 (Small.bare 2 _)).mono ?_
 rintro _ b1 ⟨qb1,rfl,eb1,kb1⟩
 have mb1:=kb1.next
 have gb1:=eb1.len
 have Kb1:ar s2.next s2 b1:=Ka1.trans (kb1.weaken (by omega))
 refine⟨fun _=>LA.ar.yC iU (kb1.weaken (by omega)),?_⟩
 try simp only[aj,ak,bH,bI,av,aa,QS,Qx,↓ab,hn,tJ,mZ,oI,p2 _ Kb1]
 refine(BE (lib:=df) rfl _ l.cl).mono ?_
 rintro _ a2 ⟨ca2,rfl,oa2,ka2⟩
 have ma2:=ka2.next
 have Ka2:ar s2.next s2 a2:=Kb1.trans (ka2.weaken (by omega))
 refine⟨fun _=>LA.ar.yC iU (ka2.weaken (by omega)),?_⟩
 try simp only[aj,ak,bH,bI,bz,av,cA,oneOf,aa,ae,ai,QS,cz,Qx,b5,↓ab,hn,h0,oa2.self]
 refine(jD (lib:=df) rfl rfl rfl _ a2 gO ca2 _ oa2 (Small.bare 2 _)).mono ?_
 rintro _ b2 ⟨qb2,rfl,eb2,kb2⟩
 have mb2:=kb2.next
 have gb2:=eb2.len
 have Kb2:ar s2.next s2 b2:=Ka2.trans (kb2.weaken (by omega))
 refine⟨fun _=>LA.ar.yC iU (kb2.weaken (by omega)),?_⟩
 try simp only[aj,ak,bH,bI,av,aa,ae,QS,Qx,↓ab,hn,oI,p0 _ Kb2]
 refine(BE (lib:=df) rfl _ l.p).mono ?_
 rintro _ a3 ⟨ca3,rfl,oa3,ka3⟩
 have ma3:=ka3.next
 have Ka3:ar s2.next s2 a3:=Kb2.trans (ka3.weaken (by omega))
 refine⟨fun _=>LA.ar.yC iU (ka3.weaken (by omega)),?_⟩
 try simp only[aj,ak,bH,bI,bz,av,cA,oneOf,aa,ae,ai,QS,cz,Qx,b5,↓ab,hn,h0,oa3.self]
 refine(jD (lib:=df) rfl rfl rfl _ a3 sd ca3 _ oa3 (Small.bare 2 _)).mono ?_
 rintro _ b3 ⟨qb3,rfl,eb3,kb3⟩
 have mb3:=kb3.next
 have gb3:=eb3.len
 have Kb3:ar s2.next s2 b3:=Ka3.trans (kb3.weaken (by omega))
 refine⟨fun _=>LA.ar.yC iU (kb3.weaken (by omega)),?_⟩
 have sE:∀(k:a7 ao) (cs:a7 cR),cs.length=5->(Value.string ⟨k.toArray⟩::cs).length=6:=fun k cs h=>by rw[dd,h]
 simp only[ak,Uc (a:=(.string ⟨r9.toArray⟩::qb0).toArray) (b:=(.string ⟨jQ.toArray⟩::qb1).toArray) (c:=(.string ⟨gO.toArray⟩::qb2).toArray) (d:=(.string ⟨sd.toArray⟩::qb3).toArray) Tryz.underlying24 qq zE Td rfl (sE r9 qb0 gb0) (sE jQ qb1 gb1) (sE gO qb2 gb2) (sE sd qb3 gb3) (by decide)]
 refine LB.cZ (base:=s2.next) (by simp[gb0,gb1,gb2,gb3]) (by omega) (cB _) ?_
 intro x t hx gz bC Dw FN
 have mk:∀(k:a7 ao) (q:a7 cR) (o:O) (b:bq) (u:aq),dy (fun j=>b<=j) u q o->s2.next+1<=b->ar u.next u b3->k.length<=9223372036854775807->dz (fun _=>True) t (.string ⟨k.toArray⟩::q) (k,o):=fun k q o b u ho hb hu hk=>⟨q,rfl,((ho.keeps hu).turns (u:= .pointer (some ⟨s2.next,0,none⟩)) (bt.aK Dw FN) (fun j hj e=>by
  have e:some s2.next=some j:=e
  injection e with e;omega)).mono (fun _ _=>trivial),hk⟩
 have r4:=aU.four (F:=fun _=>True) (s:=t) (sE r9 qb0 gb0) (mk r9 qb0 _ _ _ eb0 (by omega) (ka1.trans (kb1.weaken (by omega))|>.trans (ka2.weaken (by omega))|>.trans (kb2.weaken (by omega))|>.trans (ka3.weaken (by omega))|>.trans (kb3.weaken (by omega))) (by decide)) (sE jQ qb1 gb1) (mk jQ qb1 _ _ _ eb1 (by omega) (ka2.trans (kb2.weaken (by omega))|>.trans (ka3.weaken (by omega))|>.trans (kb3.weaken (by omega))) (by decide)) (sE gO qb2 gb2) (mk gO qb2 _ _ _ eb2 (by omega) (ka3.trans (kb3.weaken (by omega))) (by decide)) (sE sd qb3 gb3) (mk sd qb3 _ _ _ eb3 (by omega) (ar.refl _ _) (by decide))
 simp only[aj,ak,bI,bz,aa,QS,Qx,↓ab,hn]
 refine(LX (lib:=df) acQ (fun _=>True) t x (uG l) _ hx.aG r4 (by simp[uG]) (EM l)).mono ?_
 rintro _ u ⟨cs,rfl,ho,k5⟩
 have K3:ar s2.next s2 t:=Kb3.trans bC
 have m5:=k5.next
 refine⟨fun _=>LA.ar.yC iU (k5.weaken (by have:=K3.next;omega)),?_⟩
 have m3:=K3.next
 have htu:=dD.keeps (K3.trans (k5.weaken m3))
 try simp only[aj,ak,bH,bI,bz,av,cA,oneOf,aa,ae,ai,QS,cz,Qx,b5,↓ab,hn,h0,mh]
 refine LB.ct iL (by decide) htu rfl rfl (by simpa using ho.len) ho.ok (fun h=>eh rfl h) ?_
 intro s4 gv sl oD
 have gv:ax s4 s1.next cs:=gv
 simp only[aj,al,oneOf,QS,Qx,↓ab,aj,bI,cA,oneOf,QS,Qx,↓ab,hn,ax.gl gv ho.len,aV,ed]
 rw[fw]
 unfold eO
 rw[a5 c1]
 exact lK.put (F:=fun j=>t.next<=j) ho (fun j hj=>⟨by omega,by omega⟩) sl oD (k02.trans ((K3.trans (k5.weaken m3)).weaken (by omega))) (by omega)
end Go.Proofs.YtdfjfncifneocaaGreat
