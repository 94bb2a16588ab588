import Derived.Test.YtgpmffbleaphkaaGreatChB
open Go.Proofs.Tryz renaming prog->Se,underlying22->Sf,results79->Sv,underlying154->Sx,underlying151->Sy,underlying152->SD,results119->SE,results78->SF,underlying5->SI,underlying3->SK,results61->SQ,results86->SS,underlying131->Tn,underlying23->To,results109->Tu,results108->Tv,results118->Tx,results149->Ty,results148->Tz
open List renaming getD_eq_getElem?_getD->Sg,length_drop->Sk,length_append->St,replicate->Sw,getElem?_append_left->Sz,drop_append_of_le_length->SB,getElem?_append_right->SH,getElem?_drop->SM,append_assoc->SP,take_of_length_le->SR,length_replicate->SU,take_append_of_le_length->SV,drop_eq_getElem_cons->S4,getElem?_take_of_lt->S7,getElem?_eq_getElem->S8,length_take->Ta,nil_append->Tf,length_nil->Tg,length_pos_iff->Tk,getElem_mem->Tr,mem_range->TC,length->TJ
open _root_ renaming Nat->Sh,List->Si,UInt8->Sj,if_neg->Sl,eq_true->Sm,decide_eq_false->Sn,decide_eq_true->So,Int->Sp,if_pos->Ss,absurd->SL,of_decide_eq_true->SO,reduceIte->S0,decide_not->Td,Bool->Tt
open Go renaming Value->Sq,Program->S5,TypeId->Tm,IntKind->TB
open Int renaming toNat_natCast->Sr,ofNat->Tq
open Nat renaming reduceEqDiff->Su,le_refl->SA,reduceLT->SJ,succ_mul->SY,le_trans->SZ,add_sub_cancel->S2,mul_one->S6,le_mul_of_pos_right->S9,mod_eq_of_lt->Tb,add_sub_cancel_left->Tc,add_zero->Te,mul_le_mul_right->Ti,ble->Tj,lt_of_lt_of_le->Tl,mul_comm->Tp,div_eq_of_lt->Ts,mul_add_div->Tw,mul_le_mul->TD,add_assoc->TF,beq->TG,sub_self->TH,zero_mul->TI,ble_eq->TK,blt_eq->TL
open BitVec renaming ofInt->SC,ofInt_natCast->SW,toNat_ofNat->S3
open Go.IntKind renaming u8->SG,i64->SN
open UInt8 renaming ofNat->SX
open Go.Code renaming seq->S1,region->Th
set_option maxHeartbeats 16000000
set_option linter.unusedSimpArgs false
set_option linter.unusedVariables false
set_option maxRecDepth 100000
namespace Go.Cl
theorem aE.kX {F:Sh->Prop}{s:J}{a:Si Sq}{o:O}(h:aE F s a o):a.getD 0 undef=I o.a9/\a.getD 1 undef=I o.mB:=by
 cases o with
 |au k n b l d=>obtain⟨a,b,c,d,e,rfl,-⟩:=h.ea;exact⟨rfl,rfl⟩
theorem ae.ql {s a:J}{i b c:Sh}{d:Si Sq}(h:ae s i d)(e:s.Y<=a.Y)(f:∀j,j<s.Y->j≠b->j≠c->a.i.N j=s.i.N j)(g:i≠b)(k:i≠c):ae a i d:=by
 have⟨l,z,m,n⟩:=h.bl;exact⟨Tl h.n e,l,z,by simp only[J.t,f _ h.n g k];exact m,n⟩
end Go.Cl
namespace Go.Cl.Ch
open Go.Cl.Pr
def sY:Si Sj:=[69,97,114,108,121,67,104,97,110,103,101]
def e9 (o:O)(k:Si Sj)(d:Sp):Sp×Tt:=if(cV o k).a9=0 then(d,true) else((cV o k).mB,decide ((cV o k).a9=2))
def mL (n p:O):bz:=⟨(e9 p sX 1).1,(e9 p sV 1).1,(e9 p sW 1).1,n.cj,(e9 p sY 1).1⟩
def AJ (p:O):Tt:=(e9 p sX 1).2&&(e9 p sV 1).2&&(e9 p sW 1).2&&(e9 p sY 1).2
def o7 (n p:O):Tt:=(AJ p&&decide (ij (mL n p).dd (mL n p).fV (mL n p).fW))&&decide ((mL n p).o4=1)&&(decide ((mL n p).dd=1)||(e9 p sU 8).2&&decide ((e9 p sU 8).1=8))
def jj (n p:O):bz×Tt:=if n.a9≠5\/p.a9≠0/\p.a9≠7 then(⟨0,0,0,[],0⟩,false) else(mL n p,o7 n p)
end Go.Cl.Ch
namespace Go.Proofs.YtgpmffbleaphkaaGreat
open Go.Cl Go.Cl.Pr Go.Cl.Ch
theorem AK (F:Sh->Prop)(s:J)(a:Si Sq)(o:O)(b:aE F s a o)(c:bd o)(k:Si Sj):Runs Se aw 107 [.agg a.toArray,.string ⟨k.toArray⟩] s (ei s (cV o k)):=OJ F s a o b c k
theorem Ie (F:Sh->Prop)(s:J)(f:Si Sq)(o:O)(l:aE F s f o)(r:bd o)(k:Si Sj)(g:Sp):
  Runs Se aw 109 [.agg f.toArray,.string ⟨k.toArray⟩,I g] s fun v t=>v= .tuple #[I (e9 o k g).1,.bool (e9 o k g).2]/\ad s.Y s t:=by
 have m:=l.aG;refine Runs.iY 21 Tryz.func109 rfl fun P b u w x=> ?_
 have y:bX.length+1=6:=rfl;refine aq b u (aK fun z A h Q=> ?_);refine aW b w m (ah.L A m) ((AK F z f o (l.C h) r k).b ?_);rintro _ i ⟨B,rfl,a,n⟩;have R:=h.Y;have S:=n.Y;refine aR b @b8 @cy (aK fun T D E U=> ?_);refine aq b y (bh aL ai D rfl rfl a.aG a.K fun j d W G=> ?_);have d:ae j i.Y B:=d;have p:=((h.d n).a (E.q Z)).a ⟨Z,fun H X=>G H Z⟩;have⟨K,L⟩:=aE.kX a;have q:aD Se j 3 (ab i.Y 0 6)=some (I (cV o k).a9):=by
  have:=d.B aB (a:=0) (c:=6) (by rw[a.aG]) (by rw[a.aG];omega);rw[this,K]
 have M:aD Se j 2 (ab i.Y 1 6)=some (I (cV o k).mB):=by
  have:=d.B lq (a:=1) (c:=6) (by rw[a.aG]) (by rw[a.aG];omega);rw[this,L]
 by_cases e:(cV o k).a9=0
 ·refine e8 b x @a6 q e @Tu ?_;exact⟨by unfold e9;rw[Ss e],p⟩
 refine pR b @a6 @eE q M @oI (Sn e) @Tu ?_;exact⟨by unfold e9;rw[Sl e],p⟩
theorem xN (T:Sh->Prop)(s:J)(H:Si Sq)(o:O)(U:aE T s H o)(WD:bd o)(k:Si Sj)(n:Sp)(b K a e:Sh)(f:Si Sq)(z:Tt)(WS:f.length=5)(WT:e<5)(WE:ae s b f)(WG:ae s K H)(WH:ae s a [.bool z])(B:b≠a):
  Runs Se aw 108 [ab b e 6,.string ⟨k.toArray⟩,I n,ab K 0 6,ab a 0 2] s fun WI D=>WI= .tuple #[]/\ae D b (f.set e (I (e9 o k n).1))/\ae D a [.bool (z&&(e9 o k n).2)]/\s.Y<=D.Y/\∀j,j<s.Y->j≠b->j≠a->D.i.N j=s.i.N j:=by
 refine Runs.dY 24 Tryz.func108 rfl rfl rfl rfl ?_;intro v p w;have W:v.N 0=ab b e 6:=w 0;have L:v.N 1= .string ⟨k.toArray⟩:=w 1;have M:v.N 2=I n:=w 2;have E:v.N 4=ab a 0 2:=w 4;have WJ:=ah.L WG (U.aG);refine bp p L M (w 3:v.N 3=ab K 0 6) WJ ?_;refine(Ie T s H o U WD k n).b ?_;rintro _ g ⟨rfl,F⟩;have P:=WH.C F;have WU:=F.Y;have⟨R,WK⟩:=aO (e9 o k n);rw[<-WK];have WL:bm (.tuple #[I R.1,.bool R.2]) 0=some (I R.1):=rfl;have WM:bm (.tuple #[I R.1,.bool R.2]) 1=some (.bool R.2):=rfl;refine aR p WL WM ?_;have⟨q,Q⟩:=aO (fun j=>decide (j<g.Y/\j≠b):Sh->Tt);have WN:∀j,q j=true->j<g.Y:=by
  intro j h;rw[Q] at h;exact(SO h).1
 have X:q b=false:=by rw[Q];exact Sn (fun h=>h.2 rfl)
 have WO:q a=true:=by rw[Q];exact So ⟨P.n,Ne.symm B⟩
 refine LB.kQ.hx q WN 1 0 cW cW ?_;have G:=ad.aS g 0;have WV:(aS g 0).Y=g.Y+0:=gg _ _;have Wy:∀k,LA.c4 q (some (ab a k 2))=true:=fun k=>LA.hT (A:=q) (i:=a) WO
 have Wz:=(P.C G).v AH 0 2 (.bool z);have WA:=(WE.C F).C G;have WB:=P.C G;have WC:∀(S:Tt) (d c:J),ae d b (eB f e [I R.1])->d.Y=(aS g 0).Y->(∀j,j≠b->d.i.N j=(aS g 0).i.N j)->ae c a [.bool S]->c.Y=d.Y->(∀j,j≠a->c.i.N j=d.i.N j)->ae c b (f.set e (I R.1))/\ae c a [.bool S]/\s.Y<=c.Y/\∀j,j<s.Y->j≠b->j≠a->c.i.N j=s.i.N j:=by
  intro S d c r t l x y u;have WQ:eB f e [I R.1]=f.set e (I R.1):=by
   unfold eB;rw[List.set_eq_take_append_cons_drop,Ss Z];simp
  rw[WQ] at r;refine⟨r.f y u B,x,Z,fun j WR L M=> ?_⟩;rw[u j M,l j L,G.N j Z,F.N j WR]
 cases z with
 |true=>
  refine bp p W E Wy Wz ?_;refine LB.gV (m:=1) aQ ai WA Z rfl rfl Z rfl (fun _=>X) ?_;intro d r t l;refine aq p E ?_;refine LB.gV (m:=1) oc ai (WB.f t l (Ne.symm B)) rfl rfl rfl ai rfl (fun h=>SL rfl h) ?_;intro c x y u;refine lo @Tv ?_;exact WC _ d c r t l x y u
 |false=>
  refine bp p W E Wy Wz ?_;refine LB.gV (m:=1) aQ ai WA Z rfl rfl Z rfl (fun _=>X) ?_;intro d r t l;refine aq p E ?_;refine LB.gV (m:=1) oc ai (WB.f t l (Ne.symm B)) rfl rfl rfl ai rfl (fun h=>SL rfl h) ?_;intro c x y u;refine lo @Tv ?_;exact WC _ d c r t l x y u
theorem QF (Yp H:Sh->Prop)(s:J)(W0 p:Si Sq)(n o:O)(W1:aE Yp s W0 n)(E:aE H s p o)(S:bd o):
  Runs Se aw 79 [.agg W0.toArray,.agg p.toArray] s fun Yq Yr=>Yq= .tuple #[da (jj n o).1,.bool (jj n o).2]/\ad s.Y s Yr:=by
 have Ys:=W1.aG;have Xq:=E.aG;refine Runs.gZ fun Zd z=> ?_
 refine Runs.cS 75 Tryz.func79 rfl fun F a Yt T=> ?_
 have WG:(⟨0,0,0,[],0⟩:bz).aJ.length+1=6:=rfl;have Xr:bK Se 99=some (da ⟨0,0,0,[],0⟩):=by kernel_rfl
 have Xs:cp (da ⟨0,0,0,[],0⟩)=true:=by kernel_rfl
 refine aq a Yt (aK fun u WH Xt Ze=> ?_);refine aR a T Ys (aK fun v WI W2 Zf=> ?_);refine aW a Xq Xr Xs (aK fun b U WJ Zg=> ?_);have U:ae b v.Y (⟨0,0,0,[],0⟩:bz).aJ:=U;have Zh:=Xt.Y;have Zi:=W2.Y;have Zj:=WJ.Y;have W3:=(Xt.d W2).a (WJ.q Z);have WH:=WH.C (W2.d WJ);have WI:=WI.C WJ;obtain⟨Yu,-⟩:=aE.kX W1;obtain⟨Yv,-⟩:=aE.kX E;have W4:aD Se b 3 (ab s.Y 0 6)=some (I n.a9):=by
  have:=WH.B aB (a:=0) (c:=6) Z Z;rw[this,Yu]
 have W5:aD Se b 3 (ab u.Y 0 6)=some (I o.a9):=by
  have:=WI.B aB (a:=0) (c:=6) Z Z;rw[this,Yv]
 have Xu:cP Se 99 []=some (da ⟨0,0,0,[],0⟩):=by kernel_rfl
 by_cases W:n.a9≠5\/o.a9≠0/\o.a9≠7
 ·have e:jj n o=(⟨0,0,0,[],0⟩,false):=by unfold jj;rw[Ss W]
  have Xv:∀d:J,ae d v.Y (da ⟨0,0,0,[],0⟩).cells.toList->d.Y=b.Y->(∀j,j≠v.Y->d.i.N j=b.i.N j)->aD Se d 99 (ab v.Y 0 6)=some (da ⟨0,0,0,[],0⟩)/\ad s.Y s d:=fun d T Xw WK=>⟨ae.y (a:=(⟨0,0,0,[],0⟩:bz).aJ) l9 fy T (c:=6) rfl,W3.a ⟨Z,fun j f=>WK j Z⟩⟩
  by_cases X:n.a9=5
  ·obtain⟨Yw,Yx⟩:o.a9≠0/\o.a9≠7:=W.elim (fun h=>SL X h) id;refine pT a WG @a6 W4 W5 Xu @eQ @Td X (Sn Yw) (Sn Yx) (bh fy ai U rfl rfl rfl rfl fun d Wy W6 W7=> ?_);have⟨W8,W9⟩:=Xv d Wy W6 W7;refine bS a W8 @Sv ?_;rw[z,e];exact⟨rfl,W9⟩
  refine kO a WG @a6 W4 Xu @eQ @Td (Sn X) (bh fy ai U rfl rfl rfl rfl fun d Wy W6 W7=> ?_);have⟨W8,W9⟩:=Xv d Wy W6 W7;refine bS a W8 @Sv ?_;rw[z,e];exact⟨rfl,W9⟩
 have X:n.a9=5:=Classical.byContradiction fun h=>W (.inl h)
 have Wz:o.a9=0\/o.a9=7:=Classical.byContradiction fun h=>W (.inr ⟨fun e=>h (.inl e),fun e=>h (.inr e)⟩)
 have e:jj n o=(mL n o,o7 n o):=by unfold jj;rw[Sl W]
 obtain⟨K,Yy,Yz⟩:∃K,W0.getD 2 undef=K/\az s 1 K n.cj.length (aM n.cj):=by
  cases n with
  |au L Zk Zl l Zm=>obtain⟨K,Zn,Zo,Zp,Zq,rfl,T,-⟩:=W1.ea;exact⟨K,rfl,T⟩
 have YA:aD Se b 22 (ab s.Y 2 6)=some K:=by
  have:=WH.B cJ (a:=2) (c:=6) Z Z;rw[this,Yy]
 have YB:=(Yz.C W3).wS Sf Tryz.underlying9 SI;refine gX a WG @a6 W4 X ?_;generalize YC:ja Se aw (S1 (Th 3 _ _) _) _=YD;have Xx:∀F:an,F.e=75->F.N 2=ab s.Y 0 6->F.N 3=ab u.Y 0 6->F.N 4=ab v.Y 0 6->YD .b2 F b:=by
  intro F a Xw WK g;subst YC;refine c1 a Xw @c8 YA YB (show cP Se 99 [(1,.string ⟨n.cj.toArray⟩)]=some (da ⟨0,0,0,n.cj,0⟩) by kernel_rfl) Xr Xs (aK fun d Wy Xy Zr=> ?_);refine aq a WG (bh fy ai (Wy:ae d b.Y (⟨0,0,0,[],0⟩:bz).aJ) rfl rfl rfl rfl fun q YE Zs YF=> ?_);have Zt:=Xy.Y;refine ax (show bK Se 4=some (.bool false) by kernel_rfl) (aK fun YG YH Xa Zu=> ?_);have Zv:=Xa.Y;refine ax a ?_;refine db oc (YH:ae YG q.Y [.bool false]) rfl ai rfl ?_;intro Xb YI YJ Xz;have Xc:=((Xy.a ⟨Z,fun j f=>YF j Z⟩).d Xa).a ⟨Z,fun j f=>Xz j Z⟩;have YK:ae Xb b.Y (⟨0,0,0,n.cj,0⟩:bz).aJ:=((YE:ae q b.Y (⟨0,0,0,n.cj,0⟩:bz).aJ).C Xa).f YJ Xz Z;have XW:=WI.C Xc;have YL:(Value.bool false).cells.toList.length+1=2:=rfl;have XX:=W3.d Xc;have YM:=U.C Xc;have YN:=(YI:ae Xb q.Y [.bool true]);obtain⟨k,Xd⟩:∃w,w=e9 o sX 1:=⟨_,rfl⟩
  obtain⟨x,Xe⟩:∃w,w=e9 o sV 1:=⟨_,rfl⟩
  obtain⟨M,Xf⟩:∃w,w=e9 o sW 1:=⟨_,rfl⟩
  obtain⟨Xg,Xh⟩:∃w,w=e9 o sY 1:=⟨_,rfl⟩
  obtain⟨y,XY⟩:∃w,w=e9 o sU 8:=⟨_,rfl⟩
  refine cl a WK YL @uv @o5 @n5 ((xN H Xb p o (E.C XX) S sX 1 b.Y u.Y q.Y 0 (⟨0,0,0,n.cj,0⟩:bz).aJ true rfl ai YK XW YN Z).b ?_);rintro _ WL ⟨rfl,WM,XZ,X0,Xi⟩;rw[<-Xd] at WM XZ;have X1:ae WL u.Y p:=XW.ql X0 Xi Z Z;have YO:=XX.a ⟨Z,fun j f=>Xi j Z Z Z⟩;have X2:=YO;have YP:ae WL v.Y _:=YM.ql X0 Xi Z Z;have YQ:=YP;have WM:ae WL b.Y (⟨k.1,0,0,n.cj,0⟩:bz).aJ:=WM;refine aR a @o5 @ry ((xN H WL p o (E.C X2) S sV 1 b.Y u.Y q.Y 1 (⟨k.1,0,0,n.cj,0⟩:bz).aJ (true&&k.2) rfl ai WM X1 XZ Z).b ?_);rintro _ WN ⟨rfl,WO,X3,X4,Xj⟩;rw[<-Xe] at WO X3;have X5:ae WN u.Y p:=X1.ql X4 Xj Z Z;have YR:=X2.a ⟨Z,fun j f=>Xj j Z Z Z⟩;have X6:=YR;have YS:ae WN v.Y _:=YQ.ql X4 Xj Z Z;have YT:=YS;have WO:ae WN b.Y (⟨k.1,x.1,0,n.cj,0⟩:bz).aJ:=WO;refine aR a @o5 @xC ((xN H WN p o (E.C X6) S sW 1 b.Y u.Y q.Y 2 (⟨k.1,x.1,0,n.cj,0⟩:bz).aJ ((true&&k.2)&&x.2) rfl ai WO X5 X3 Z).b ?_);rintro _ WQ ⟨rfl,WR,X7,X8,Xk⟩;rw[<-Xf] at WR X7;have X9:ae WQ u.Y p:=X5.ql X8 Xk Z Z;have YU:=X6.a ⟨Z,fun j f=>Xk j Z Z Z⟩;have Ya:=YU;have YV:ae WQ v.Y _:=YT.ql X8 Xk Z Z;have YW:=YV;have WR:ae WQ b.Y (⟨k.1,x.1,M.1,n.cj,0⟩:bz).aJ:=WR;refine aq a @uY ((xN H WQ p o (E.C Ya) S sY 1 b.Y u.Y q.Y 4 (⟨k.1,x.1,M.1,n.cj,0⟩:bz).aJ (((true&&k.2)&&x.2)&&M.2) rfl ai WR X9 X7 Z).b ?_);rintro _ P ⟨rfl,WS,Yb,Yc,Xl⟩;rw[<-Xh] at WS Yb;have YX:ae P u.Y p:=X9.ql Yc Xl Z Z;have YY:=Ya.a ⟨Z,fun j f=>Xl j Z Z Z⟩;have Yd:=YY;have YZ:ae P v.Y _:=YW.ql Yc Xl Z Z;have Y0:=YZ;have WS:ae P b.Y (⟨k.1,x.1,M.1,n.cj,Xg.1⟩:bz).aJ:=WS;have Y1:=ah.L YX Xq;refine aR a WK Y1 ((Ie H P p o (E.C Yd) S sU 8).b ?_);rintro _ B ⟨rfl,WT⟩;rw[<-XY];have Y2:bm (.tuple #[I y.1,.bool y.2]) 0=some (I y.1):=rfl;have Y3:bm (.tuple #[I y.1,.bool y.2]) 1=some (.bool y.2):=rfl;refine aR a Y2 Y3 ?_;have⟨WU,Ye⟩:=aO (((((true&&k.2)&&x.2)&&M.2)&&Xg.2));have⟨l,Yf⟩:=aO (⟨k.1,x.1,M.1,n.cj,Xg.1⟩:bz);have G:mL n o=l:=by unfold mL;rw[<-Xd,<-Xe,<-Xf,<-Xh,Yf]
  have m:o7 n o=((WU&&decide (ij l.dd l.fV l.fW))&&decide (l.o4=1)&&(decide (l.dd=1)||y.2&&decide (y.1=8))):=by
   unfold o7;rw[G,<-XY];unfold AJ;rw[<-Xd,<-Xe,<-Xf,<-Xh,Ye,Bool.true_and]
  have WV:ae P b.Y l.aJ:=by rw[Yf];exact WS
  have WW:ae P q.Y [.bool WU]:=by rw[Ye];exact Yb
  have WV:=WV.C WT;have WW:=WW.C WT;have Y4:=Y0.C WT;have Y5:=Yd.d WT;have⟨D,Xm⟩:=aO (fun j=>decide (j<B.Y):Sh->Tt);have Yg:∀j,D j=true->j<B.Y:=by
   intro j h;rw[Xm] at h;exact SO h
  have Y6:D b.Y=true:=by rw[Xm];exact So WV.n
  have Y7:D q.Y=true:=by rw[Xm];exact So WW.n
  refine LB.kQ.hx D Yg 1 0 cW cW ?_;have WX:=ad.aS B 0;have Zw:(aS B 0).Y=B.Y+0:=gg _ _;have Q:∀L,LA.c4 D (some (ab b.Y L 6))=true:=fun L=>LA.hT (A:=D) (i:=b.Y) Y6
  have Yh:∀L,LA.c4 D (some (ab q.Y L 2))=true:=fun L=>LA.hT (A:=D) (i:=q.Y) Y7
  have Xn:=WV.C WX;have Yi:=Y4.C WX;have Xo:=Y5.d WX;have Yj:bn (da l) (da l)=true:=by simp[bn,dF,b9,bz.aJ]
  have Yk:aD Se (aS B 0) 99 (ab b.Y 0 6)=some (da l):=ae.y (a:=l.aJ) l9 fy Xn (c:=6) rfl;have Yl:=(WW.C WX).v AH 0 2 (.bool WU);have Y8:aD Se (aS B 0) 97 (ab b.Y 0 6)=some (er l.dd l.fV l.fW):=by
   have:=ae.ka Ao xE Xn (a:=0) (c:=6) rfl (by simp[bz.aJ]);rw[this];rfl
  have Y9:bn (er l.dd l.fV l.fW) (er l.dd l.fV l.fW)=true:=by simp[bn,dF,b9]
  cases WU with
  |false=>
   refine eC a g Q Yh Yk Yl Yj (LB.eY fy ai Yi rfl rfl rfl rfl (fun h=>SL rfl h) fun WA r WB t=> ?_);have Za:=ae.y (a:=l.aJ) l9 fy r (c:=6) rfl;refine b0 a g Za @Sv ?_;rw[z,e,m,G];exact⟨aA,Xo.a ⟨Z,fun j f=>t j Z⟩⟩
  |true=>
   refine je a Q Yh Yk Yl Yj @o5 Y8 Y9 ((HG (aS B 0) l.dd l.fV l.fW).b ?_);rintro _ Ym ⟨rfl,WY⟩;refine⟨fun _=>LA.ar.R Yg (WY.q Z),?_⟩;have WC:=Yi.C WY;have Yn:=Xn.C WY;have WD:=Xo.d WY;have Zx:=Xo.Y;have WZ:aD Se Ym 3 (ab b.Y 4 6)=some (I l.o4):=Yn.B aB (a:=4) (c:=6) rfl (by simp[bz.aJ]);have Xp:aD Se Ym 3 (ab b.Y 0 6)=some (I l.dd):=Yn.B aB (a:=0) (c:=6) rfl (by simp[bz.aJ]);by_cases Yo:ij l.dd l.fV l.fW;rotate_left
   ·rw[Sn Yo] at m|-
    refine e6 a g (LB.eY fy ai WC rfl rfl rfl rfl (fun h=>SL rfl h) fun WA r WB t=> ?_);refine b0 a g (ae.y (a:=l.aJ) l9 fy r (c:=6) rfl) @Sv ?_;rw[z,e,m,G];exact⟨aA,WD.a ⟨Z,fun j f=>t j Z⟩⟩
   rw[So Yo] at m|-
   by_cases R:l.o4=1;rotate_left
   ·rw[Sn R] at m;refine ib a g Q @uY WZ R (LB.eY fy ai WC rfl rfl rfl rfl (fun h=>SL rfl h) fun WA r WB t=> ?_);refine b0 a g (ae.y (a:=l.aJ) l9 fy r (c:=6) rfl) @Sv ?_;rw[z,e,m,G];exact⟨aA,WD.a ⟨Z,fun j f=>t j Z⟩⟩
   rw[So R] at m;by_cases WE:l.dd=1
   ·rw[So WE] at m;refine jF a g Q @uY @o5 @n5 WZ Xp (Sm R) (Sm WE) (LB.eY fy ai WC rfl rfl rfl rfl (fun h=>SL rfl h) fun WA r WB t=> ?_);refine b0 a g (ae.y (a:=l.aJ) l9 fy r (c:=6) rfl) @Sv ?_;rw[z,e,m,G];exact⟨aA,WD.a ⟨Z,fun j f=>t j Z⟩⟩
   rw[Sn WE] at m;have⟨Zy,Zb⟩:=y;cases Zb with
   |false=>
    refine jF a g Q @uY @o5 @n5 WZ Xp (Sm R) WE (LB.eY fy ai WC rfl rfl rfl rfl (fun h=>SL rfl h) fun WA r WB t=> ?_);refine b0 a g (ae.y (a:=l.aJ) l9 fy r (c:=6) rfl) @Sv ?_;rw[z,e,m,G];exact⟨aA,WD.a ⟨Z,fun j f=>t j Z⟩⟩
   |true=>
    refine jF a g Q @uY @o5 @n5 WZ Xp (Sm R) WE (LB.eY fy ai WC rfl rfl rfl rfl (fun h=>SL rfl h) fun WA r WB t=> ?_);refine b0 a g (ae.y (a:=l.aJ) l9 fy r (c:=6) rfl) @Sv ?_;rw[z,e,m,G];exact⟨aA,WD.a ⟨Z,fun j f=>t j Z⟩⟩
 rcases Wz with Wz|Wz
 ·refine fR a W5 @eQ Wz ?_;exact Xx _ (V a) aa aa aa
 have Zc:decide ((7:Sp)=0)=false:=rfl;refine eC a @a6 W5 @eQ @Td Wz Zc ?_;exact Xx _ (V a) aa aa aa
end Go.Proofs.YtgpmffbleaphkaaGreat
namespace Go.Cl
theorem AL {P:S5}{s:J}{t e:Tm}{c d:TB}{b z:Sh}{a:Sq}(f:P.underlying t=some (.slice e))(g:bc P e=some z)(h:bK P e=some a)(i:e2 P e=some b)(j:cp a=true)(k:TG a.cells.toList.length z=true){n:Sh}(m:b*n<=4294967296)(o:n<=4294967296):
  iU P s t (.int c n) (.int d n)=cL s (cM a.cells.toList n) n z:=by
 show(match P.underlying t,Value.int c (Tq n),Value.int d (Tq n) with
 |some (.slice e),.int _ (.ofNat l),.int _ (.ofNat c)=>
  match bc P e,bK P e,e2 P e with
  |some e,some d,some p=>
   if Tj l c&&Tj c 4294967296&&Tj (p*c) 4294967296&&cp d&&TG d.cells.toList.length e then cL s (cM d.cells.toList l) l e else none
  |_,_,_=>none
 |_,_,_=>none)=_
 rw[f];simp only[g,h,i];have c:(Tj n n&&Tj n 4294967296&&Tj (b*n) 4294967296&&cp a&&TG a.cells.toList.length z)=true:=by
  simp only[Bool.and_eq_true,TK];exact⟨⟨⟨⟨SA _,o⟩,m⟩,j⟩,k⟩
 rw[Ss c]
theorem AM:∀n,(cM bX n).length=n*5
 |0=>by simp[cM]
 |n+1=>by simp only[cM,St,AM n];simp[bX];omega
theorem aU.AN (F:Sh->Prop)(s:J):∀n,aU aE 5 F s (Sw n O.ck) (cM bX n)
 |0=>aU.al
 |n+1=>by
  have h:=(aU.AN F s n).hB (show bX.length=5 from rfl) (aE.ck F s);have e:∀n,cM bX n++bX=bX++cM bX n:=by
   intro n
   induction n with
   |zero=>simp[cM]
   |succ n a=>simp only[cM,SP,a]
  rw[e] at h;rw[List.replicate_succ'];exact h
end Go.Cl
namespace Go.Cl.Ch
theorem sZ (q:O)(k:Si Sj)(a:bd q):bd (cV q k):=by
 unfold cV;split
 ·cases q with
  |au e n f L d=>
   cases a with
   |au g h i j l b=>
    show bd (oX d k);unfold oX;split
    ·rename_i m c;exact b _ (List.mem_of_find?_eq_some c)
    exact bd.ck
 exact bd.ck
def hF (o:O):Si O×Si O×Tt:=
 if(cV o jJ).a9=0 then([],[],true) else if(cV o jJ).a9=5 then([cV o jJ],[cV o kW],true)
 else if(cV o jJ).a9=6 then(if(cV o kW).a9=0 then((cV o jJ).aj,Sw (cV o jJ).aj.length O.ck,true) else((cV o jJ).aj,(cV o kW).aj,decide ((cV o kW).a9=6)&&decide ((cV o kW).aj.length=(cV o jJ).aj.length)))
 else([],[],false)
theorem Ig {o:O}(c:bd o):(∀x∈(hF o).1,bd x)/\(∀a∈(hF o).2.1,bd a)/\((hF o).2.2=true->(hF o).1.length=(hF o).2.1.length)/\(hF o).1.length<=100000:=by
 have a:=sZ o jJ c;have b:=sZ o kW c;unfold hF;generalize cV o jJ=f at a|-
 generalize cV o kW=p at b|-
 have c:∀x∈f.aj,bd x:=by cases a with|au _ _ _ _ h=>exact h
 have d:f.aj.length<=100000:=by cases a with|au _ h=>exact h
 split
 ·exact⟨aA,aA,fun _=>rfl,aA⟩
 split
 ·exact⟨by simpa using a,by simpa using b,fun _=>rfl,aA⟩
 split
 ·split
  ·exact⟨c,fun x a=>by rw[(List.mem_replicate.1 a).2];exact bd.ck,fun _=>aA,d⟩
  exact⟨c,(show∀x∈p.aj,bd x by cases b with|au _ _ _ _ h=>exact h),fun h=>by simp at h;exact h.2.symm,d⟩
 exact⟨aA,aA,fun _=>rfl,aA⟩
end Go.Cl.Ch
namespace Go.Proofs.YtgpmffbleaphkaaGreat
open Go.Cl Go.Cl.Pr Go.Cl.Ch
def QG (s:J)(p:Si O×Si O×Tt)(v:Sq)(a:J):Prop:=∃y z b c,v= .tuple #[y,z,.bool p.2.2]/\az a 5 y p.1.length b/\az a 5 z p.2.1.length c/\aU aE 5 (fun j=>s.Y<=j) a p.1 b/\aU aE 5 (fun j=>s.Y<=j) a p.2.1 c/\ad s.Y s a
theorem QH (WQ:Sh->Prop)(s:J)(S:Si Sq)(o:O)(T:aE WQ s S o)(WB:bd o):
  Runs Se aw 78 [.agg S.toArray] s (QG s (hF o)):=by
 have W8:=T.aG;refine Runs.gZ fun Yn x=> ?_
 refine Runs.dZ 48 Tryz.func78 rfl fun Yo d=> ?_
 have W9:bX.length+1=6:=rfl;have D:=To;refine ax d ?_;refine aK ?_;intro a Xa Xb Yp;have Yq:=Xb.Y;refine aq d W8 ?_;have⟨E,WR⟩:=aO (fun j=>decide (j<a.Y):Sh->Tt);have WS:∀j,E j=true->j<a.Y:=by
  intro j h;rw[WR] at h;exact SO h
 have Xc:∀j,a.Y<=j->E j=false:=fun j h=>by rw[WR];exact Sn Z
 refine LB.kQ.hx E WS 3 2 cW cW ?_;have Xd:=ad.aS a 2;have Yr:(aS a 2).Y=a.Y+2:=gg _ _;have Xe:∀k,LA.c4 E (some (ab s.Y k 6))=true:=fun k=>LA.hT (A:=E) (i:=s.Y) (show E s.Y=true by rw[WR];exact So Xa.n)
 have Xf:∀t,ad (aS a 2).Y (aS a 2) t->aD Se t 26 (ab s.Y 0 6)=some (.agg S.toArray):=fun t h=>ah.L ((Xa.C Xd).C h) W8
 have WT:ad s.Y s (aS a 2):=Xb.d Xd;refine aW d Xe (Xf _ (ad.p _ _)) T.m ?_;refine(AK WQ (aS a 2) S o (T.C WT) WB jJ).b ?_;rintro _ Xz ⟨F,rfl,WC,G⟩;have XW:=G.Y;refine⟨fun _=>LA.ar.R WS (G.q Z),?_⟩;refine aW d Xe (Xf _ G) T.m ?_;refine(AK WQ Xz S o (T.C (WT.d G)) WB kW).b ?_;rintro _ WD ⟨U,rfl,WE,p⟩;have XX:=p.Y;refine⟨fun _=>LA.ar.R WS (p.q Z),?_⟩;refine aq @b8 @cy ?_;refine LB.j7 Z ?_;intro Ys Xg WU WG;refine aW d @b8 @cy W9 ?_;refine LB.j7 Z ?_;intro Xh Xi WH W;refine aq d W9 ?_;refine LB.eY aL ai (Xg.f WH W Z) rfl rfl (by simpa using WC.aG) WC.K (fun _=>Xc _ Z) ?_;intro WV Xj WI X;refine ax d ?_;refine LB.eY aL ai (Xi.f WI X Z) rfl rfl (by simpa using WE.aG) WE.K (fun _=>Xc _ Z) ?_;intro g H WJ Wy;have WK:ae g a.Y F:=Xj.f WJ Wy Z;have H:ae g (a.Y+1) U:=H;have Xk:∀j,j≠a.Y->j≠a.Y+1->g.i.N j=WD.i.N j:=fun j Xl Xm=>by rw[Wy j Xm,X j Xl,W j Xm,WG j Xl]
 have Yt:g.Y=WD.Y:=Z;have v:aE (fun j=>s.Y<=j) g F (cV o jJ):=(((((WC.C p).f WU WG Z).f WH W Z).f WI X Z).f WJ Wy Z).b (fun j Xn=>Z);have w:aE (fun j=>s.Y<=j) g U (cV o kW):=((((WE.f WU WG Z).f WH W Z).f WI X Z).f WJ Wy Z).b (fun j Xn=>Z);have K:ad s.Y s g:=((WT.d G).a (p.q Z)).a ⟨Z,fun j Xn=>Xk j Z Z⟩;have Xo:=sZ o jJ WB;have XY:=sZ o kW WB;clear WC WE G p XW XX Xg WU WG Xi WH W Xj WI X WJ Wy Xk;obtain⟨b,Xp⟩:∃WW,WW=cV o jJ:=⟨_,rfl⟩
 obtain⟨f,Xq⟩:∃WW,WW=cV o kW:=⟨_,rfl⟩
 have L:hF o=if b.a9=0 then([],[],true) else if b.a9=5 then([b],[f],true) else if b.a9=6 then(if f.a9=0 then(b.aj,Sw b.aj.length O.ck,true) else(b.aj,f.aj,decide (f.a9=6)&&decide (f.aj.length=b.aj.length))) else([],[],false):=by unfold hF;rw[<-Xp,<-Xq]
 rw[<-Xp] at v Xo;rw[<-Xq] at w XY;have WL:=v.aG;have WM:=w.aG;obtain⟨XZ,-⟩:=aE.kX v;obtain⟨X0,-⟩:=aE.kX w;have M:aD Se g 3 (ab a.Y 0 6)=some (I b.a9):=by
  have:=WK.B (P:=Se) aB (a:=0) (c:=6) Z Z;rw[this,XZ]
 have WX:aD Se g 3 (ab (a.Y+1) 0 6)=some (I f.a9):=by
  have:=H.B (P:=Se) aB (a:=0) (c:=6) Z Z;rw[this,X0]
 by_cases e:b.a9=0
 ·refine eo d @a6 M (Sm e) SF ?_;rw[x,L,Ss e];exact⟨_,_,[],[],rfl,.al,.al,aU.al,aU.al,K⟩
 have⟨B,WY⟩:=aO (fun j=>decide (j<g.Y):Sh->Tt);have Xr:∀j,B j=true->j<g.Y:=by
  intro j h;rw[WY] at h;exact SO h
 have Xs:∀k,LA.c4 B (some (ab a.Y k 6))=true:=fun k=>LA.hT (A:=B) (i:=a.Y) (show B a.Y=true by rw[WY];exact So WK.n)
 have X1:∀k,LA.c4 B (some (ab (a.Y+1) k 6))=true:=fun k=>LA.hT (A:=B) (i:=a.Y+1) (show B (a.Y+1)=true by rw[WY];exact So H.n)
 by_cases l:b.a9=5
 ·refine bp d @a6 M e (Sm l) ?_;refine LB.kQ.hx B Xr 0 2 cW cW ?_;have r:=ad.aS g 2;have X2:(aS g 2).Y=g.Y+2:=gg _ _;have Yu:=v.C r;have Yv:=w.C r;simp(disch:=omega)only[d,aI,fi,dy,bC,SJ,Su,↓S0,Xs,ah.L (WK.C r) WL,v.m,gC (a:=F.toArray) D aL b8 cy rfl WL (by decide)];refine LB.fD (a:=g.Y) WL Z (SA _) ?_;intro WN WZ Wz Xt p X3 X4;have Q:ad g.Y g WZ:=r.a p;simp(disch:=omega)only[d,aI,fi,dy,bC,SJ,Su,↓S0,X1,ah.L (H.C Q) WM,w.m,gC (a:=U.toArray) D aL b8 cy rfl WM (by decide)];refine LB.fD (a:=g.Y) WM Z Z ?_;intro X5 Xu Xv Yw X6 X7 X8;have W0:ad g.Y g Xu:=Q.a X6;refine b0 d Wz.m Xv.m SF ?_;rw[x,L,Sl e,Ss l];exact⟨WN,X5,F,U,rfl,(Wz.f X7 X8 (by rw[Xt];intro WV;injection WV with WV;omega):ao Xu 5 WN 1 F).c,Xv.c,by simpa using aU.al.hB WL (v.C W0),by simpa using aU.al.hB WM (w.C W0),K.d W0⟩
 by_cases u:b.a9=6;rotate_left
 ·refine fS d @a6 M e l u SF ?_;rw[x,L,Sl e,Sl l,Sl u];exact⟨_,_,[],[],rfl,.al,.al,aU.al,aU.al,K⟩
 obtain⟨y,q,X9,m,W1⟩:∃y q,F.getD 3 undef=y/\az g 5 y b.aj.length q/\aU aE 5 (fun j=>s.Y<=j) g b.aj q:=by
  cases b with
  |au k Ya WD Yb Xh=>obtain⟨Yc,W2,Yd,W3,Ye,rfl,Yf,W4,Yg,Yh,Yi,Yj,W5,Yk⟩:=v.ea;exact⟨W2,W3,rfl,W4,W5⟩
 obtain⟨W6,Xw,Yl,WA,Xx⟩:∃y q,U.getD 3 undef=y/\az g 5 y f.aj.length q/\aU aE 5 (fun j=>s.Y<=j) g f.aj q:=by
  cases f with
  |au k Ya WD Yb Xh=>obtain⟨Yc,W2,Yd,W3,Ye,rfl,Yf,W4,Yg,Yh,Yi,Yj,W5,Yk⟩:=w.ea;exact⟨W2,W3,rfl,W4,W5⟩
 have W7:∀t,ad g.Y g t->aD Se t 23 (ab a.Y 3 6)=some y:=fun t h=>by
  have:=(WK.C h).B (P:=Se) ft (a:=3) (c:=6) Z Z;rw[this,X9]
 have Xy:∀t,ad g.Y g t->aD Se t 23 (ab (a.Y+1) 3 6)=some W6:=fun t h=>by
  have:=(H.C h).B (P:=Se) ft (a:=3) (c:=6) Z Z;rw[this,Yl]
 have Yx:b.aj.length<=100000:=by cases Xo with|au Yy Ym=>exact Ym
 by_cases R:f.a9=0
 ·refine c1 d @a6 M WX e l (Sm u) (Sm R) (LB.kQ.hx B Xr 0 1 cW cW ?_);have r:=ad.aS g 1;have X2:(aS g 1).Y=g.Y+1:=gg _ _;refine c1 d Xs @c7 (W7 _ r) m.m ((m.C r).g D) (LA.q9 m) ((fun t=>AL D aL b8 pZ cy rfl Z Z):∀t:J,iU Se t 23 (I (b.aj.length:Sh)) (I (b.aj.length:Sh))=cL t (cM bX b.aj.length) b.aj.length 5) ?_;refine LB.fD (a:=g.Y) (n:=b.aj.length) (z:=5) (AM _) Z (SA _) ?_;intro WN WZ Wz Xt p X3 X4;have Q:ad g.Y g WZ:=r.a p;refine b0 d Wz.m m.m SF ?_;rw[x,L,Sl e,Sl l,Ss u,Ss R];exact⟨y,WN,q,_,rfl,m.C Q,by rw[SU];exact Wz.c,W1.C cm Q,aU.AN _ _ _,K.d Q⟩
 by_cases WO:f.a9=6
 ·refine NH d @a6 @c7 M WX (W7 _ (ad.p _ _)) (Xy _ (ad.p _ _)) m.m WA.m (m.g D) (WA.g D) e l (Sm u) R (Sm WO) SF ?_;rw[x,L,Sl e,Sl l,Ss u,Sl R,So WO];exact⟨y,W6,q,Xw,aA,m,WA,W1,Xx,K⟩
 refine NF d @a6 @c7 M WX (W7 _ (ad.p _ _)) (Xy _ (ad.p _ _)) m.m WA.m e l (Sm u) R WO SF ?_;rw[x,L,Sl e,Sl l,Ss u,Sl R,Sn WO];exact⟨y,W6,q,Xw,rfl,m,WA,W1,Xx,K⟩
end Go.Proofs.YtgpmffbleaphkaaGreat
namespace Go.Cl.Ch
def gI:Si O->Si O->Option (Si bz)
 |n::a,p::P=>if(jj n p).2=true then(gI a P).map ((jj n p).1::·) else none
 |_,_=>some []
def fk (o:O):Si bz×Sp:=
 if o.a9≠8 then([],1) else if(hF o).2.2=false\/8<(hF o).1.length then([],4)
 else match gI (hF o).1 (hF o).2.1 with
  |none=>([],4)
  |some L=>(L,0)
end Go.Cl.Ch
namespace Go.Proofs.YtgpmffbleaphkaaGreat
open Go.Cl Go.Cl.Pr Go.Cl.Ch
def Ih (s:J)(p:Si bz×Sp)(v:Sq)(a:J):Prop:=∃y,v= .tuple #[y,I p.2]/\ao a 5 y p.1.length (kq p.1)/\ay s.Y y/\ad s.Y s a
theorem QI (WM:Sh->Prop)(B:J)(W:Si Sq)(o:O)(X:aE WM B W o)(WN:bd o):
  Runs Se aw 61 [.agg W.toArray] B (Ih B (fk o)):=by
 have Wy:=X.aG;refine Runs.gZ fun XY n=> ?_
 refine Runs.dZ 52 Tryz.func61 rfl fun f a=> ?_
 have D:=To;have Wz:=Tryz.underlying94;refine ax a (aK fun WO WQ E XZ=> ?_);have X0:=E.Y;obtain⟨Xb,-⟩:=aE.kX X;have WR:aD Se WO 3 (ab B.Y 0 6)=some (I o.a9):=by
  have:=WQ.B aB (a:=0) (c:=6) Z Z;rw[this,Xb]
 by_cases F:o.a9=8;rotate_left
 ·refine pR a Wy @a6 WR @eQ @Td (Sn F) SQ ?_;rw[n,(show fk o=([],1) by unfold fk;rw[Ss F])];exact⟨_,rfl,.al,ay.al _,E⟩
 refine c1 a Wy @a6 WR @eQ @Td (So F) (ah.L WQ Wy) ((QH WM WO W o (X.C E) WN).b ?_);have⟨R,p⟩:=aO (hF o);have e:fk o=if R.2.2=false\/8<R.1.length then(([],4):Si bz×Sp) else match gI R.1 R.2.1 with
  |none=>([],4)
  |some L=>(L,0):=by unfold fk;rw[Sl (fun h=>h F),<-p]
 have WS:(∀G∈R.1,bd G)/\(∀G∈R.2.1,bd G)/\(R.2.2=true->R.1.length=R.2.1.length)/\R.1.length<=100000:=by rw[p];exact Ig WN
 rw[<-p];rintro _ g ⟨y,z,Xc,Xd,rfl,H,WT,WU,WV,WW⟩;have⟨b,M,t⟩:=R;dsimp only at H WT WU WV e WS|-
 have⟨Xe,Xf,Xg,X1⟩:=WS;have X2:=WW.Y;have WA:bm (.tuple #[y,z,.bool t]) 0=some y:=rfl;have WB:bm (.tuple #[y,z,.bool t]) 1=some z:=rfl;have WC:bm (.tuple #[y,z,.bool t]) 2=some (.bool t):=rfl;have q:=E.d WW;cases t with
 |false=>
  refine oS a WA WB WC SQ ?_;rw[n,e,Ss (.inl rfl)];exact⟨_,rfl,.al,ay.al _,q⟩
 |true=>
 by_cases WX:8<b.length
 ·have Xh:((b.length:Sh):Sp)>8:=Z;refine oT a WA WB WC (H.g D) (Sm Xh) SQ ?_;rw[n,e,Ss (.inr WX)];exact⟨_,rfl,.al,ay.al _,q⟩
 rw[Sl (show¬(true=false\/8<b.length) from fun h=>h.elim (fun h=>by cases h) WX)] at e;have X3:b.length=M.length:=Xg rfl;have WD:bK Se 99=some (da ⟨0,0,0,[],0⟩):=by kernel_rfl
 have WY:cp (da ⟨0,0,0,[],0⟩)=true:=by kernel_rfl
 have Xi:(⟨0,0,0,[],0⟩:bz).aJ.length+1=6:=rfl;refine ib a WA WB WC (H.g D) (Z:¬((b.length:Sh):Sp)>8) ?_;refine aZ.w (fun r f t=>∃(i:Sh) (v:Sq) (L:Si bz),r=b.length-i/\i<=b.length/\L.length=i/\gI b M=(gI (b.drop i) (M.drop i)).map (L++·)/\ao t 5 v i (kq L)/\ay g.Y v/\ad g.Y g t/\f.e=52/\f.N 4=y/\f.N 5=z/\f.N 7=v/\f.N 28=I (b.length:Sh)/\f.N 29=I (i:Sh))
  (fun r f t=>(r= .bF/\gI b M=none/\ad g.Y g t/\f.e=52/\f.N 2=av/\f.N 3=I 4)\/(r= .bb 0/\∃v L,gI b M=some L/\L.length=b.length/\ao t 5 v b.length (kq L)/\ay g.Y v/\ad g.Y g t/\f.e=52/\f.N 7=v))
  ⟨0,av,[],rfl,Z,rfl,aA,.al,ay.al _,ad.p _ _,V a⟩ ?_ ?_
 ·clear a f;rintro X4 WZ r f t ⟨i,v,L,rfl,X5,W0,d,s,K,j,a⟩;have X6:=j.Y;by_cases u:i<b.length;rotate_left
  ·obtain rfl:i=b.length:=Z;rw[List.drop_length] at d;refine aq a (Z:¬((b.length:Sh):Sp)<((b.length:Sh):Sp)) ?_;exact WZ _ _ _ (.inr ⟨rfl,v,L,by rw[d];simp[gI],W0,s,K,j,V a⟩)
  have w:i<M.length:=Z;have P:=H.C j;have Q:=WT.C j;have W1:=P.r (k:= .i64) (x:=(i:Sp)) D aL Z Z;have W2:=Q.r (k:= .i64) (x:=(i:Sp)) D aL Z Z;rw[Sr] at W1 W2;have S:=(WU.C cm j).H i u;have T:=(WV.C cm j).H i w;rw[(S4 u:b.drop i=b[i]::b.drop (i+1)),(S4 w:M.drop i=M[i]::M.drop (i+1))] at d;simp only[gI] at d;have Xj:=Xe _ (Tr u);have W3:=Xf _ (Tr w);generalize b[i]=W4 at d S Xj;generalize M[i]=W5 at d T W3;refine aq a (Sm (Z:(i:Sp)<(b.length:Sp))) (LB.T 1 1 fun X7 Xk W6 _ A X8=> ?_);have W7:=(P.C A).dm bV aL u;have W8:=(Q.C A).dm bV aL w;generalize (Xc.drop (i*5)).take 5=Xl at W7 S;generalize (Xd.drop (i*5)).take 5=Xm at W8 T;refine jG a P.m Q.m W1 W2 W7 W8 (LA.iG P W6 u) (LA.iG Q W6 w) S.m T.m ?_;refine(QF _ _ (aS t 1) Xl Xm W4 W5 (S.C A) (T.C A) W3).b ?_;rintro _ X9 ⟨rfl,WE⟩;have Ya:=WE.Y;refine⟨fun _=>LA.ar.R Xk (WE.q Z),?_⟩;have⟨R,p⟩:=aO (jj W4 W5);rw[<-p] at d|-
  have⟨l,m⟩:=R;have Xn:bm (.tuple #[da l,.bool m]) 0=some (da l):=rfl;have Xo:bm (.tuple #[da l,.bool m]) 1=some (.bool m):=rfl;have Xp:bn (da l) (da l)=true:=by simp[bn,dF,b9,bz.aJ]
  have Xq:bn (.tuple #[da l,.bool m]) (.tuple #[da l,.bool m])=true:=by simp[bn,mn,oD,dF,b9,bz.aJ]
  refine ch a Xn Xo Xp Xq WD WY ?_;refine LB.j7 Z ?_;intro Xr WG Yb Xs;have WG:ae Xr t.Y (⟨0,0,0,[],0⟩:bz).aJ:=WG;refine aq a Xi ?_;refine LB.eY fy ai WG rfl rfl rfl rfl (fun h=>SL rfl h) ?_;intro WH WI Yc Xt;have WI:ae WH t.Y l.aJ:=WI;have WJ:ad t.Y t WH:=(A.d WE).a ⟨Z,fun U W9=>by rw[Xt U Z,Xs U Z]⟩;have Yd:=WJ.Y;have Xu:=s.C WJ;have Xa:=j.d WJ;cases m with
  |false=>
   dsimp only at d;rw[Sl ai] at d;refine ax a ?_;exact WZ _ _ _ (.inl ⟨rfl,by rw[d];rfl,Xa,V a⟩)
  |true=>
  dsimp only at d;rw[Ss rfl] at d;have Xv:aD Se WH 99 (ab t.Y 0 6)=some (da l):=ae.y (a:=l.aJ) l9 fy WI (c:=6) rfl;simp(disch:=omega)only[a,aI,bC,SJ,Su,↓S0,aI,fi,dy,Nat.reduceSub,bC,SJ,Su,↓S0,Xv,gC (a:=l.aJ.toArray) Wz fy WD WY rfl rfl (by decide)];refine du (by rfl) ?_;intro Ye Yf Xw Yg WK;have Yh:=WK.Y;refine ax a (hv Wz Wz (.inl ⟨_,rfl⟩) fy (show e2 Se 99=some 48 by kernel_rfl) WD rfl (Xu.C WK) Xw.c.X rfl ai rfl Z Z K Z fun Xx Yi Xy Xz XW _ _=> ?_);refine ax a ?_;refine aH (b.length-(i+1)) Z ⟨i+1,Xx,L++[l],rfl,Z,by simp[W0],?_,by rw[H6];simpa [kq] using Xy,Xz,(Xa.d WK).a XW,V a⟩;rw[d,Option.map_map]
  congr 1
  funext G
  simp
 rintro _ f Yj (⟨rfl,d,WL,a⟩|⟨rfl,v,L,d,XX,s,K,WL,a⟩)
 ·rw[d] at e;refine bO a SQ ?_;rw[n,e];exact⟨_,rfl,.al,ay.al _,q.d WL⟩
 rw[d] at e;refine bO a SQ ?_;rw[n,e];exact⟨v,rfl,by rw[<-XX] at s;exact s,fun U W9=>bq (K U W9) q.Y,q.d WL⟩
end Go.Proofs.YtgpmffbleaphkaaGreat
namespace Go.Cl.Pr
def rE (l:Si Sj)(h n i:Sh):Sj:=l.getD (i/n*(h+n)+h+i%n) 0
def kY (l:Si Sj)(h n r:Sh):Sp:=if h=1 then(((l.getD (r*(h+n)) 0).toNat:Sh):Sp) else 1
def dq (l:Si Sj)(h n c:Sh):Sh->Si Sj
 |0=>[]
 |m+1=>dq l h n c m++[ru ((((rE l h n m).toNat:Sh):Sp)+n4 (kY l h n (m/n)) (dq l h n c m) n c m)]
theorem lC (l:Si Sj)(h n c:Sh):∀m,(dq l h n c m).length=m
 |0=>rfl
 |m+1=>by rw[dq,St,lC l h n c m];rfl
theorem AO (l:Si Sj)(h n c:Sh):∀m k,k<=m->(dq l h n c m).take k=dq l h n c k
 |0,a,b=>by obtain rfl:a=0:=Z
            rfl
 |m+1,a,b=>by
  by_cases e:a=m+1
  ·subst e;exact SR (by rw[lC];exact SA _)
  rw[dq,SV (by rw[lC];omega)];exact AO l h n c m a Z
theorem QJ (l:Si Sj)(h n c:Sh){m k j:Sh}(a:k<=m)(b:j<k):(dq l h n c m).getD j 0=(dq l h n c k).getD j 0:=by
 rw[<-AO l h n c m k a,Sg,Sg,S7 b]
def lD (l:Si Sj)(h n q:Sh):Tt:=(List.range q).any fun r=>decide (4<kY l h n r)
def ik (p a b:Sp)(l:Si Sj):Si Sj×Sp:=
 if¬ij p a b then([],1) else if p=1 then(l,0)
 else if l.length%((if 10<=p then 1 else 0)+a.toNat*b.toNat)≠0 then([],4)
 else if lD l (if 10<=p then 1 else 0) (a.toNat*b.toNat) (l.length/((if 10<=p then 1 else 0)+a.toNat*b.toNat))=true then([],4)
 else(dq l (if 10<=p then 1 else 0) (a.toNat*b.toNat) a.toNat (l.length/((if 10<=p then 1 else 0)+a.toNat*b.toNat)*(a.toNat*b.toNat)),0)
theorem Ii {l:Si Sj}{h n q r:Sh}(a:r<q)(b:4<kY l h n r):lD l h n q=true:=by
 unfold lD;rw[List.any_eq_true];exact⟨r,TC.2 a,So b⟩
theorem Ij (l:Si Sj)(h n r:Sh):0<=kY l h n r/\kY l h n r<=255:=by
 unfold kY;split
 ·exact l2 _
 omega
def gl (l:Si Sj)(h n c r k:Sh):Si Sj:=(dq l h n c (r*n+k)).drop (r*n)++Sw (n-k) 0
theorem Ik {l:Si Sj}{h n c r k:Sh}(a:k<=n):(gl l h n c r k).length=n:=by
 unfold gl;rw[St,Sk,lC,SU];omega
theorem QK (l:Si Sj)(h n c r:Sh):gl l h n c r 0=Sw n 0:=by
 unfold gl;rw[List.drop_of_length_le (by rw[lC];omega),Tf,Nat.sub_zero]
theorem Il (l:Si Sj)(h n c r:Sh):gl l h n c r n=(dq l h n c ((r+1)*n)).drop (r*n):=by
 unfold gl;rw[TH,List.replicate_zero,List.append_nil,SY]
theorem QL {l:Si Sj}{h n c r k j:Sh}(a:j<k):(gl l h n c r k).getD j 0=(dq l h n c (r*n+k)).getD (r*n+j) 0:=by
 unfold gl;rw[Sg,Sz (by rw[Sk,lC];omega),SM,<-Sg]
theorem QM {l:Si Sj}{h n c r k:Sh}(a:k<n):(gl l h n c r k).set k (ru ((((rE l h n (r*n+k)).toNat:Sh):Sp)+n4 (kY l h n ((r*n+k)/n)) (dq l h n c (r*n+k)) n c (r*n+k)))=gl l h n c r (k+1):=by
 unfold gl;have a:((dq l h n c (r*n+k)).drop (r*n)).length=k:=by rw[Sk,lC];omega
 rw[List.set_append_right _ _ Z,a,TH,<-TF];rw[(Z:n-k=(n-(k+1))+1),List.replicate_succ,List.set_cons_zero,dq,SB (by rw[lC];omega),SP];rfl
theorem QN {T:Sp}{l:Si Sj}{h n c r k:Sh}(d:0<n)(b:k<n)(W:Si Sj)(a:W=if r=0 then [] else(dq l h n c (r*n)).drop ((r-1)*n)):iJ T (if c<=k then((((gl l h n c r k).getD (k-c) 0).toNat:Sh):Sp) else 0) (if 0<W.length then(((W.getD k 0).toNat:Sh):Sp) else 0) (if 0<W.length/\c<=k then(((W.getD (k-c) 0).toNat:Sh):Sp) else 0)=n4 T (dq l h n c (r*n+k)) n c (r*n+k)\/c=0:=by
 by_cases d:c=0
 ·exact .inr d
 left;have d:(r*n+k)%n=k:=An b;have f:(if c<=k then((((gl l h n c r k).getD (k-c) 0).toNat:Sh):Sp) else 0)=ig (dq l h n c (r*n+k)) n c (r*n+k):=by
  unfold ig;rw[d];split
  ·rw[QL Z,show r*n+k-c=r*n+(k-c) from Z]
  rfl
 have e:(if 0<W.length then(((W.getD k 0).toNat:Sh):Sp) else 0)=iK (dq l h n c (r*n+k)) n (r*n+k)/\(if 0<W.length/\c<=k then(((W.getD (k-c) 0).toNat:Sh):Sp) else 0)=hZ (dq l h n c (r*n+k)) n c (r*n+k):=by
  unfold iK hZ;rw[d];cases r with
  |zero=>
   rw[Ss rfl] at a;subst a;rw[TI,Sl aA,Sl Z,Sl aA,Sl Z];exact⟨rfl,rfl⟩
  |succ r=>
   rw[Sl Z,S2] at a;have d:(r+1)*n=r*n+n:=SY r n;have d:W.length=n:=by rw[a,Sk,lC];omega
   have d:∀j,j<n->W.getD j 0=(dq l h n c ((r+1)*n+k)).getD (r*n+j) 0:=fun j g=>by
    rw[a,Sg,SM,<-Sg];exact(QJ l h n c (k:=(r+1)*n) Z Z).symm
   rw[Ss Z,Ss Z];refine⟨by rw[d k b,show(r+1)*n+k-n=r*n+k from Z],?_⟩;by_cases a:c<=k
   ·rw[Ss ⟨Z,a⟩,Ss ⟨Z,a⟩,d _ Z,show(r+1)*n+k-n-c=r*n+(k-c) from Z]
   rw[Sl (fun q=>a q.2),Sl (fun q=>a q.2)]
 unfold n4;rw[f,e.1,e.2]
end Go.Cl.Pr
namespace Go.Proofs.YtgpmffbleaphkaaGreat
open Go.Cl Go.Cl.Pr
theorem QO (n:Sh):Sw n (.int .u8 0)=aM (Sw n 0):=by simp[aM]
theorem QP (l:Si Sj)(k:Sh)(c:Sj):(aM l).set k (.int .u8 (c.toNat:Sp))=aM (l.set k c):=by
 simp[aM,List.map_set]
theorem QQ {s:J}{z:Sh}{v:Sq}{n:Sh}{l:Si Sq}(h:az s z v n l)(c:0<n){a b j:Sh}(e:ak (cU z v a b)=some j):j<s.Y:=by
 cases h with
 |al=>omega
 |cI=>omega
 |bu i d n f g l k m o p q r t u=>
  have:j=i:=by
   have e:some i=some j:=e;injection e with e;exact e.symm
  omega
theorem Im (Xj:n8 aw)(y:J)(s z A:Sp)(W5:Sq)(d:Si Sj)(Yi:az y 1 W5 d.length (aM d))(Yj:d.length<=100000000):
  Runs Se aw 86 [er s z A,W5] y (rD y (ik s z A d)):=by
 refine Runs.gZ fun Y7 WS=> ?_
 refine Runs.cS 90 Tryz.func86 rfl fun f i Yk WC=> ?_
 have Yl:[Value.int .i64 s,I z,I A].length+1=4:=rfl;refine aq i Yk (aK fun Xk W6 u Y8=> ?_);have W6:ae Xk y.Y (fI s z A):=W6;have Ym:aD Se Xk 97 (ab y.Y 0 4)=some (er s z A):=ae.y (a:=fI s z A) Ao xE W6 (c:=4) rfl;refine aR i Yl Ym ((HG Xk s z A).b ?_);rintro _ F ⟨rfl,Xl⟩;have W7:=u.d Xl;have Xm:=W6.C Xl;have Y9:=u.Y;have Za:=Xl.Y;by_cases WH:ij s z A;rotate_left
 ·rw[Sn WH];refine bO i SS ?_;have m:ik s z A d=([],1):=by unfold ik;rw[Ss WH]
  rw[WS,m];exact⟨_,rfl,⟨.al,ay.al _,W7⟩⟩
 rw[So WH];have XZ:∀t,ad F.Y F t->aD Se t 3 (ab y.Y 0 4)=some (I s):=fun t a=>(Xm.C a).o aB 0 4
 have X0:∀t,ad F.Y F t->aD Se t 3 (ab y.Y 1 4)=some (I z):=fun t a=>(Xm.C a).o aB 1 4
 have Yn:∀t,ad F.Y F t->aD Se t 3 (ab y.Y 2 4)=some (I A):=fun t a=>(Xm.C a).o aB 2 4
 have X1:=Yi.C W7;have W8:=ad.p F.Y F;by_cases W9:s=1
 ·have m:ik s z A d=(d,0):=by unfold ik;rw[Sl (fun a=>a WH),Ss W9]
  refine bp i WC @n5 (XZ _ W8) (Sm W9) ?_;refine hv Sf Sf (.inl ⟨_,rfl⟩) bw jg dN rfl (ao.al:ao F 1 (av) 0 []) X1.X (by rw[pO,S6]) ai (ug _) Z Z (ay.al F.Y) (SA _) ?_;intro S U WI WJ WT _ _;refine bO i SS ?_;rw[WS,m];exact⟨S,rfl,⟨by rw[Tf,Nat.zero_add] at WI;exact WI,fun j WD=>ag (WJ j WD),W7.d WT⟩⟩
 have⟨Zb,Zc,Zd,Ze,Zf⟩:=id WH;obtain⟨e,rfl⟩:∃e:Sh,z=e:=⟨z.toNat,Z⟩
 obtain⟨X,rfl⟩:∃X:Sh,A=X:=⟨A.toNat,Z⟩
 have⟨n,WU⟩:=aO (e*X:Sh);have Zg:1<=n:=by rw[WU];exact TD (show 1<=e from Z) (show 1<=X from Z)
 have Zh:n<=16384:=by rw[WU];exact TD (show e<=4 from Z) (show X<=4096 from Z)
 have Zi:e<=n:=by rw[WU];exact S9 e Z
 have⟨a,Xa⟩:=aO (if 10<=s then 1 else 0:Sh);have Zj:a<=1:=by rw[Xa];split<;>omega
 have WA:ik s (e:Sp) (X:Sp) d=if d.length%(a+n)≠0 then([],4) else if lD d a n (d.length/(a+n))=true then([],4) else(dq d a n e (d.length/(a+n)*n),0):=by
  unfold ik;rw[Sl (fun a=>a WH),Sl W9,Sr,Sr,<-WU,<-Xa]
 have Yo:SN.wrap ((e:Sp)*(X:Sp))=(n:Sp):=by
  have m:(e:Sp)*(X:Sp)=(n:Sp):=by rw[WU];exact(Int.natCast_mul e X).symm
  rw[m,cg Z]
 refine cX i @n5 @ry @xC (XZ _ W8) (X0 _ W8) (Yn _ W8) W9 Yo ?_;generalize Yp:ja Se aw (S1 (Th _ _ _) (S1 _ _)) _=Yq;have X2:∀f,f.e=90->f.N 1=W5->f.N 2=ab y.Y 0 4->f.N 6=I (n:Sh)->f.N 7=I (a:Sh)->Yq .b2 f F:=by
  subst Yp;intro f i WC v w p;refine aW i WC w p ?_;have Yr:(a:Sp)+(n:Sp)=((a+n:Sh):Sp):=Z;rw[Yr];refine(Qw Xj F W5 d X1 Yj (a+n) Z Z).b ?_;rintro _ U ⟨S,Ys,rfl,WI,X3,WT⟩;have X4:∀Xb,bm (.tuple #[S,.bool Xb]) 0=some S:=fun _=>rfl
  have X5:∀Xb,bm (.tuple #[S,.bool Xb]) 1=some (.bool Xb):=fun _=>rfl
  have Xc:=W7.d WT;by_cases WV:d.length%(a+n)=0;rotate_left
  ·rw[Ss WV] at WA;rw[Sn WV];refine b0 i X4 X5 SS ?_;rw[WS,WA];exact⟨_,rfl,⟨.al,ay.al _,Xc⟩⟩
  rw[Sl (fun a=>a WV)] at WA;rw[So WV];have⟨q,X6⟩:=aO (d.length/(a+n));have Xn:q*(a+n)=d.length:=by
   have:=Nat.div_add_mod d.length (a+n);rw[WV,Tp,<-X6] at this;omega
  rw[<-X6] at WI X3 WA;have Zk:q<=d.length:=by rw[<-Xn];exact S9 q Z
  have Zl:q*n<=d.length:=by rw[<-Xn];exact Nat.mul_le_mul_left q Z
  have Zm:=WT.Y;refine aW i X4 X5 (WI.g Tn) ?_;refine aZ.w (fun G f t=>∃(b:Sh) (o Wy:Sq) (W:Si Sj),G=q-b/\b<=q/\(∀j,j<b->¬4<kY d a n j)/\ao t 1 o (b*n) (aM (dq d a n e (b*n)))/\W=(if b=0 then [] else(dq d a n e (b*n)).drop ((b-1)*n))/\az t 1 Wy W.length (aM W)/\(∀j,ak Wy=some j->ak o≠some j)/\ay U.Y o/\(∀j,ak Wy=some j->j<t.Y)/\ad U.Y U t/\f.e=90/\f.N 2=ab y.Y 0 4/\f.N 6=I (n:Sh)/\f.N 7=I (a:Sh)/\f.N 10=o/\f.N 11=Wy/\f.N 44=S/\f.N 45=I (q:Sh)/\f.N 46=I (b:Sh))
   (fun G f t=>(G= .bF/\lD d a n q=true/\ad U.Y U t/\f.e=90/\f.N 4=av/\f.N 5=I 4)\/(G= .bb 0/\lD d a n q=false/\∃o,ao t 1 o (q*n) (aM (dq d a n e (q*n)))/\ay U.Y o/\ad U.Y U t/\f.e=90/\f.N 10=o))
   ⟨0,av,av,[],rfl,Z,fun j WD=>Z,by rw[TI];exact .al,rfl,.al,(fun j m=>by cases m),ay.al _,(fun j m=>by cases m),ad.p _ _,V i,V v,V w,V p,aa,aa,aa,aa,aa⟩ ?_ ?_
  ·clear i WC v w p f;rintro Yt Xd G f t ⟨b,o,Wy,W,rfl,Zn,X7,M,X8,WW,Zo,WJ,Yu,u,i,v,w,p,B,WB,O,H,K⟩;by_cases WX:b<q;rotate_left
   ·obtain rfl:b=q:=Z;have P:¬((b:Sh):Sp)<((b:Sh):Sp):=Z;have Yv:lD d a n b=false:=by
     unfold lD;rw[List.any_eq_false];intro j WD;have:=X7 j (TC.1 WD)
     simpa using this
    refine aW i H K P ?_;exact Xd _ _ _ (.inr ⟨rfl,Yv,o,M,WJ,u,V i,V B⟩)
   have P:((b:Sh):Sp)<((q:Sh):Sp):=Z;have Yw:(b+1)*(a+n)<=d.length:=by rw[<-Xn];exact Ti (a+n) WX
   have Zp:(b+1)*(a+n)=b*(a+n)+(a+n):=SY b (a+n);have Yx:(b+1)*n=b*n+n:=SY b n;have Zq:(b+1)*n<=q*n:=Ti n WX;have Yy:(o1 d (a+n) b).length=a+n:=Pu Yw;have X9:=WI.C u;have WY:=X9.r (k:= .i64) (x:=(b:Sp)) Tn dI Z Z;rw[Sr] at WY;have WZ:=X9.P cJ WX;have Xe:=X3.c b (by rw[Pv];exact WX);rw[Pw] at Xe;have⟨WK,Yz⟩:=aO (Ys.getD b undef);rw[<-Yz] at WZ Xe;have⟨Q,WL⟩:=aO (kY d a n b);have YA:=Ij d a n b;rw[<-WL] at YA;have Zr:=u.Y;refine c1 i p O H K (Sm P) WY WZ ?_;generalize YB:ja Se aw (S1 (S1 (Th _ _ _) (Code.cond _ _ _)) (S1 _ _)) _=YC;have Ya:∀f,f.e=90->f.N 2=ab y.Y 0 4->f.N 6=I (n:Sh)->f.N 7=I (a:Sh)->f.N 10=o->f.N 11=Wy->f.N 13=WK->f.N 14=I Q->f.N 44=S->f.N 45=I (q:Sh)->f.N 46=I (b:Sh)->YC .b2 f t:=by
    subst YB;intro f i v w p B WB Yb WE O H K;by_cases Xf:Q>4
    ·refine aR i WE (Sm Xf) ?_;exact Xd _ _ _ (.inl ⟨rfl,Ii WX (by rw[<-WL];exact Xf),u,V i,aa,aa⟩)
    have W0:=Xe.C u;have YD:iU Se t 22 (I (n:Sh)) (I (n:Sh))=cL t (Sw n (.int .u8 0)) n 1:=sq Sf bw dN jg Z Z;refine bp i w WE Xf YD ?_;refine du (by rw[SU,S6]) ?_;intro R YE D Xo W1;rw[QO,<-QK d a n e b] at D;have Zs:=W1.Y;have Zt:=D.z;have Xp:=M.z;have Xq:=W0.C W1;have Xr:fN Se YE 22 WK (some (I (a:Sh))) none none=some (cU 1 WK a (a+n)):=by
     have:=Xq.oJ Sf bw (k:= .i64) (x:=(a:Sp)) Z Z;rw[Sr,Yy] at this;exact this
    have Wz:=Xq.q6 (a:=a) (b:=a+n) Z Z;have⟨Xs,Xt⟩:=aO (cU 1 WK a (a+n));have⟨Xu,Xv⟩:=aO (((o1 d (a+n) b).drop a).take (a+n-a));rw[<-Xt,<-Xv] at Wz;rw[<-Xt] at Xr;have YF:Xu.length=n:=by rw[Xv,Ta,Sk];omega
    have YG:∀g,g<n->Xu.getD g 0=rE d a n (b*n+g):=fun g Xg=>by
     rw[Xv,Sg,S7 Z,SM,<-Sg,HB Z];unfold rE;rw[An Xg,show(b*n+g)/n=b by rw[Tp,Tw Z,Ts Xg,Te],TF]
    rw[YF] at Wz;refine bp i p Yb Xr (Wz.g Sf) ?_;refine aZ.w (fun G f L=>∃(g:Sh),G=n-g/\g<=n/\ao L 1 R n (aM (gl d a n e b g))/\ao L 1 o (b*n) (aM (dq d a n e (b*n)))/\az L 1 Wy W.length (aM W)/\az L 1 Xs n (aM Xu)/\ad t.Y t L/\f.e=90/\f.N 2=ab y.Y 0 4/\f.N 6=I (n:Sh)/\f.N 7=I (a:Sh)/\f.N 10=o/\f.N 11=Wy/\f.N 14=I Q/\f.N 15=R/\f.N 44=S/\f.N 45=I (q:Sh)/\f.N 46=I (b:Sh)/\f.N 62=Xs/\f.N 63=I (n:Sh)/\f.N 64=I (g:Sh))
     (fun G f L=>G= .bb 2/\ao L 1 R n (aM (gl d a n e b n))/\ao L 1 o (b*n) (aM (dq d a n e (b*n)))/\ad t.Y t L/\f.e=90/\f.N 2=ab y.Y 0 4/\f.N 6=I (n:Sh)/\f.N 7=I (a:Sh)/\f.N 10=o/\f.N 15=R/\f.N 44=S/\f.N 45=I (q:Sh)/\f.N 46=I (b:Sh))
     ⟨0,rfl,Z,D,M.C W1,WW.C W1,Wz,W1,V i,V v,V w,V p,V B,V WB,V WE,aa,V O,V H,V K,aa,aa,aa⟩ ?_ ?_
    ·clear i v w p B WB Yb WE O H K D M WW Wz Xr Xq f;rintro Yt Xd G f L ⟨g,rfl,Xg,D,M,WW,Wz,WG,i,v,w,p,B,WB,WE,WM,O,H,K,Yc,Xw,Xx⟩;by_cases WN:g<n;rotate_left
     ·obtain rfl:g=n:=Z;have P:¬((g:Sh):Sp)<((g:Sh):Sp):=Z;refine aW i Xw Xx P ?_;exact Xd _ _ _ ⟨rfl,D,M,WG,V i,V v,V w,V p,V B,V WM,V O,V H,V K⟩
     have P:((g:Sh):Sp)<((n:Sh):Sp):=Z;have YH:=WG.Y;have WY:=Wz.r (k:= .i64) (x:=(g:Sp)) Sf bw Z Z;rw[Sr] at WY;have WZ:=Wz.P de WN;rw[dn Z,YG g WN] at WZ;have Yd:=D.c.r (k:= .i64) (x:=(g:Sp)) Sf bw Z Z;rw[Sr] at Yd;have W2:(gl d a n e b g).length=n:=Ik Z;have YI:=(WT.d u).a (WG.q Z);refine hy i v WB WM Yc Xw Xx (Sm P) WY WZ @ry (X0 _ YI) ?_;have YJ:W.length=0\/W.length=(gl d a n e b g).length:=by
      rw[X8];split
      ·exact .inl rfl
      rename_i Zu;refine .inr ?_;rw[W2,Sk,lC];obtain⟨Ye,rfl⟩:∃Ye,b=Ye+1:=⟨b-1,Z⟩
      rw[S2,SY];omega
     refine(PQ Xj L R Wy (gl d a n e b g) W (by rw[W2];exact D.c) WW Z g e Z Z YJ).b ?_;rintro _ Yf ⟨rfl,Xh⟩;have Xy:=(QN (T:=Q) (l:=d) (h:=a) (c:=e) (r:=b) Z WN W X8).resolve_right Z;have YK:0<=lA (gl d a n e b g) g e/\lA (gl d a n e b g) g e<=255:=by
      unfold lA;split
      ·exact l2 _
      omega
     have YL:0<=ns W g/\ns W g<=255:=by
      unfold ns;split
      ·exact l2 _
      omega
     have YM:0<=nt W g e/\nt W g e<=255:=by
      unfold nt;split
      ·exact l2 _
      omega
     refine aq i WE ((PN Xj Yf Q _ _ _ Z YK YL YM).b ?_);have Xy:iJ Q (lA (gl d a n e b g) g e) (ns W g) (nt W g e)=n4 Q (dq d a n e (b*n+g)) n e (b*n+g):=Xy;rw[Xy];rintro _ YN ⟨rfl,YO⟩;have WO:=Xh.d YO;have YP:(b*n+g)/n=b:=by rw[Tp,Tw Z,Ts WN,Te]
     have YQ:SG.wrap ((((rE d a n (b*n+g)).toNat:Sh):Sp)+SG.wrap (n4 Q (dq d a n e (b*n+g)) n e (b*n+g)))=((ru ((((rE d a n (b*n+g)).toNat:Sh):Sp)+n4 Q (dq d a n e (b*n+g)) n e (b*n+g))).toNat:Sp):=by
      rw[Hz,gz,gz];omega
     have YR:=D.C WO;refine aW i (dH SK SI) YQ Yd (ln bw YR WN rfl fun YS W3 W4=> ?_);have W3:ao YS 1 R n (aM (gl d a n e b (g+1))):=by
      rw[QP] at W3;have:=QM (l:=d) (h:=a) (c:=e) (r:=b) WN;rw[YP,<-WL] at this;rw[this] at W3;exact W3
     have WQ:∀j,ak R=some j->t.Y<=j:=Xo
     have YT:=(M.C WO).j W4 (fun j m E=>bq (Xp j m) (WQ j E));have YU:=(WW.C WO).j W4 (fun j _ m E=>bq (Yu j m) (WQ j E));have YV:∀j,j<YN.Y->ak Xs=some j->ak R≠some j:=fun j _ m E=>by
      have WC:=WQ j E;rw[Xt] at m;have v:=QQ W0 Z m;omega
     have YW:=(Wz.C WO).j W4 YV;have Zv:=W4.Y;have YX:=(WG.d WO).a (W4.C Xo (ag WO.Y));refine aq i Xx ?_;exact aH (n-(g+1)) Z ⟨g+1,rfl,Z,W3,YT,YU,YW,YX,V i,V v,V w,V p,V B,V WB,V WE,V WM,V O,V H,V K,V Yc,V Xw,aa⟩
    rintro G f L ⟨rfl,D,M,WG,i,v,w,p,B,WM,O,H,K⟩;have YH:=WG.Y;have W2:(gl d a n e b n).length=n:=Ik Z;refine aR i B WM ?_;refine hv Sf Sf (.inl ⟨_,rfl⟩) bw jg dN rfl M D.c.X (by rw[pO,W2,S6]) ai (ug _) Z Z WJ Z ?_;intro YY Yf Yg YZ Xh Y0 Y1;have Zw:=Xh.Y;have Y2:aM (dq d a n e (b*n))++aM (gl d a n e b n)=aM (dq d a n e ((b+1)*n)):=by
     rw[<-km,Il,<-AO d a n e ((b+1)*n) (b*n) Z,List.take_append_drop]
    rw[Y2,<-Yx] at Yg;have WQ:∀j,ak R=some j->t.Y<=j:=Xo
    have Yh:=D.j Y0 (fun j m E=>bq (Xp j E) (WQ j m));have Y3:(gl d a n e b n)=(dq d a n e ((b+1)*n)).drop (b*n):=Il d a n e b;refine aR i WM K ?_;refine aH (q-(b+1)) Z ⟨b+1,YY,R,gl d a n e b n,rfl,Z,fun j WD=> ?_,Yg,by rw[Sl Z,S2];exact Y3,by rw[W2];exact Yh.c,fun j m E=> ?_,YZ,fun j m=>Yh.z j m,(u.d WG).a Xh,V i,V v,V w,V p,aa,aa,V O,V H,aa⟩
    ·by_cases m:j=b
     ·rw[m,<-WL];exact Xf
     exact X7 j Z
    rcases Y1 with Xz|⟨g,Xz,Xg⟩
    ·rw[Xz] at E;have:=Xp j E;have:=WQ j m;omega
    rw[Xz] at E;injection E with E
    have Zx:=D.z j m;omega
   by_cases WR:a=1
   ·have P:(a:Sp)=1:=Z;have W0:=Xe.C u;have Y4:eM Se 22 WK (I 0)=some (bM 1 WK 0):=W0.r (k:= .i64) (x:=0) Sf bw Z Z;have XW:=W0.P de (k:=0) Z;rw[dn Z,HB Z,Te] at XW;have XX:Q=(((d.getD (b*(a+n)) 0).toNat:Sh):Sp):=by rw[WL];unfold kY;rw[Ss WR]
    rw[<-XX] at XW;refine bp i (Sm P) Y4 XW (dH SI SK) ?_;exact Ya _ (V i) (V v) (V w) (V p) (V B) (V WB) aa aa (V O) (V H) (V K)
   have P:¬(a:Sp)=1:=Z;have XX:Q=1:=by rw[WL];unfold kY;rw[Sl WR]
   refine ax P ?_;exact Ya _ (V i) (V v) (V w) (V p) (V B) (V WB) aa (V XX) (V O) (V H) (V K)
  rintro G f t (⟨rfl,XY,u,i,Y5,Y6⟩|⟨rfl,XY,o,M,WJ,u,i,B⟩)
  ·rw[Ss XY] at WA;refine b0 i Y5 Y6 SS ?_;rw[WS,WA];exact⟨_,rfl,⟨.al,ay.al _,Xc.d u⟩⟩
  rw[Sl (by rw[XY];simp)] at WA;refine bS i B SS ?_;rw[WS,WA];exact⟨o,rfl,⟨by rw[lC];exact M,fun j WD=>bq (WJ j WD) Xc.Y,Xc.d u⟩⟩
 by_cases Xi:10<=s
 ·have WR:a=1:=by rw[Xa,Ss Xi]
  refine aq i (Sm Xi) ?_;exact X2 _ (V i) (V WC) aa aa (V WR)
 have WR:a=0:=by rw[Xa,Sl Xi]
 refine ax Xi ?_;exact X2 _ (V i) (V WC) aa aa (V WR)
end Go.Proofs.YtgpmffbleaphkaaGreat
namespace Go.Cl
section
variable {P:S5} {aV:bg} {all r:Si Oper} {f:an} {s:J} {d:Option Tmp} {Q:an->J->Prop}
end
end Go.Cl
namespace Go.Cl.Lz
theorem Au (P:S5)(t:Tm)(a:TB)(x:Sh){k:Sh}(h:k<8):bN P .shr t (.int .u8 (x:Sh)) (.int a (k:Sh))=some (.int .u8 ((x/2^k:Sh):Sp)):=by
 rw[nc P t .u8 _ _ a Z];have e:min ((k:Sh):Sp).toNat SG.bits=k:=by
  have:SG.bits=8:=rfl;rw[this,Sr];omega
 rw[e,Int.fdiv_eq_ediv_of_nonneg _ (by exact Int.pow_nonneg Z)]
 norm_cast
theorem Io (x:Sh)(h:x<256):SG.wrap (((SC SG.bits (x:Sp)&&&SC SG.bits 1).toNat:Sh):Sp)=((x%2:Sh):Sp):=by
 have a:SG.bits=8:=rfl;rw[a];have:(SC 8 (x:Sp)&&&SC 8 1).toNat=x%2:=by
  rw[BitVec.toNat_and,SW,S3,Tb Z];show x&&&1=_;exact Nat.and_one_is_mod _
 rw[this,gz];omega
theorem Ip (P:S5)(t:Tm)(b:TB)(a:Sp):bN P .shl t (I a) (.int b 1)=some (I (SN.wrap (a*2))):=by
 rw[pN P t .i64 a 1 b ai];rfl
theorem Iq {n d:Sh}(c:n<1099511627776)(a:d<2):SN.wrap (((SC SN.bits ((n:Sp)*2)|||SC SN.bits (d:Sp)).toNat:Sh):Sp)=((n*2+d:Sh):Sp):=by
 have c:SN.bits=64:=rfl;rw[c];have:(SC 64 ((n:Sp)*2)|||SC 64 (d:Sp)).toNat=n*2+d:=by
  have c:((n:Sp)*2)=((n*2:Sh):Sp):=Z;rw[c,BitVec.toNat_or,SW,SW,S3,S3,Tb Z,Tb Z];have:=Nat.shiftLeft_add_eq_or_of_lt (i:=1) (b:=d) a n;rw[Nat.shiftLeft_eq] at this;exact this.symm
 rw[this,cg Z]
end Go.Cl.Lz
namespace Go.Cl
theorem QR {v:Sq}(h:aN v=true):v.cells.toList=[v]:=by cases v<;>first|rfl|cases h
theorem ae.hC {P:S5}{e:Tm}{n:Sh}(d:c3 P e=some true)(f:bc P e=some n){s:J}{i:Sh}{a:Si Sq}(h:ae s i a){b c:Sh}(g:c=a.length+1)(j:b+n<=a.length):
  aD P s e (ab i b c)=some (.agg ((a.drop b).take n).toArray):=by
 have⟨c,z,a,b⟩:=h.bl;subst g;unfold aD;simp only[d,f];rw[nd a b (SA _) Z]
theorem ae.QS {P:S5}{f:Tm}{n:Sh}(k:bc P f=some (n+1)){s:J}{i:Sh}{a:Si Sq}(h:ae s i a){b g:Sh}(l:g=a.length+1){v:Sq}{c:Si Sq}(m:v.cells.toList=c)(d:c.length=n+1)(o:c.all aN=true)(x:b+(n+1)<=a.length):
  ∃e,fp P s f (ab i b g) v=some e/\ae e i (a.take b++c++a.drop (b+(n+1)))/\(e.Y=s.Y/\∀j,j≠i->e.i.N j=s.i.N j):=by
 have⟨p,z,q,r⟩:=h.bl;subst l;refine⟨s.u i (.bl ⟨a.take b++c++a.drop (b+(n+1)),a.length+1,true,z⟩),?_,⟨h.n,a.length+1,z,?_,by rw[(show(a.take b++c++a.drop (b+(n+1))).length=a.length by simp;omega)];exact SA _⟩,rfl,fun j t=>J.gS _ _ _ _ (Ne.symm t)⟩
 ·unfold fp;simp only[k,m,d];unfold J.la;have u:di a b c=some (a.take b++c++a.drop (b+(n+1))):=by
   rw[ng _ _ _ (by rw[d];omega),d]
  have w:(true&&Tj p (a.length+1)&&TG (a.length+1) (a.length+1)&&c.all aN)=true:=by
   simp only[Bool.true_and,Bool.and_eq_true,TK];exact⟨⟨r,Nat.beq_refl _⟩,o⟩
  simp only[q,w,if_true,u];cases c with
  |nil=>simp at d
  |cons y A=>simp
 rw[J.kA _ _ _ Z]
section
variable {P:S5} {aV:bg} {all r:Si Oper} {f:an} {s:J} {d:Option Tmp} {Q:an->J->Prop}
theorem xO {g:Tm}{n:Sh}(k:bc P g=some (n+1)){i:Sh}{b:Si Sq}(l:ae s i b){c h:Sh}(m:h=b.length+1){v:Sq}{e:Si Sq}(o:v.cells.toList=e)(p:e.length=n+1)(q:e.all aN=true)(t:c+(n+1)<=b.length)
  (K:∀a,ae a i (b.take c++e++b.drop (c+(n+1)))->a.Y=s.Y->(∀j,j≠i->a.i.N j=s.i.N j)->en P aV all r f s d Q (some (.a8 undef a))):en P aV all r f s d Q (gu (fp P s g (ab i c h) v)):=by
 have⟨a,u,w,x,y⟩:=l.QS k m o p q t;rw[u,lV];exact K a w x y
end
def xP (p:Sh×Sh):Si Sq:=[I (p.1:Sh),I (p.2:Sh)]
def o8 (l:Si (Sh×Sh)):Si Sq:=l.flatMap xP
theorem QT (l:Si (Sh×Sh))(p:Sh×Sh):o8 (l++[p])=o8 l++[I (p.1:Sh),I (p.2:Sh)]:=by simp[o8,xP]
theorem QU {l:Si (Sh×Sh)}{i:Sh}{p:Sh×Sh}(h:l[i]?=some p):(o8 l).getD (i*2+0) undef=I (p.1:Sh):=Ga (f:=xP) (z:=2) (fun _=>rfl) Z l i p h
theorem QV {l:Si (Sh×Sh)}{i:Sh}{p:Sh×Sh}(h:l[i]?=some p):(o8 l).getD (i*2+1) undef=I (p.2:Sh):=Ga (f:=xP) (z:=2) (fun _=>rfl) Z l i p h
theorem az.Ir {P:S5}{t e:Tm}{m z:Sh}(b:P.underlying t=some (.array m e))(c:bc P e=some 1){s:J}{v:Sq}{n:Sh}{l:Si Sq}(h:az s z v n l){i k:Sh}(f:i<n)(d:k<m)(a:TB):
  eM P t (bM z v i) (.int a (k:Sh))=some (eR (bM z v i) k):=by
 show eM P t (bM z v i) (.int a (Tq k))=_;cases h with
 |al=>omega
 |cI=>omega
 |bu j a n e f l g h o p q r s t=>
  unfold eM;rw[b];simp only[bM,c,(show Nat.blt k m=true by simpa [TL] using d),if_true,S6,eR]
theorem Is {P:S5}{t e:Tm}{m:Sh}(b:P.underlying t=some (.array m e))(d:bc P e=some 1)(i o c:Sh){k:Sh}(f:k<m)(a:TB):
  eM P t (ab i o c) (.int a (k:Sh))=some (ab i (o+k) c):=by
 show eM P t _ (.int a (Tq k))=_;unfold eM;rw[b];simp only[d,(show Nat.blt k m=true by simpa [TL] using f),if_true,S6]
end Go.Cl
namespace Go.Proofs.YtgpmffbleaphkaaGreat
open Go.Cl Go.Cl.Lz Go.Cl.Rw
theorem oe:bc Se 152=some (1+1):=by kernel_rfl
theorem QW:c3 Se 152=some true:=by kernel_rfl
theorem xQ:bc Se 151=some 1:=by kernel_rfl
theorem xR:c3 Se 151=some false:=by kernel_rfl
theorem AP (i o c:Sh):aY Se 154 (ab i o c) 0=some (ab i (o+0) c):=by
 unfold aY;rw[Sx];simp[dI]
theorem AQ (i o c:Sh):aY Se 154 (ab i o c) 1=some (ab i (o+1) c):=by
 unfold aY;rw[Sx];simp[aQ]
theorem xS (i o c:Sh):aY Se 154 (ab i o c) 2=some (ab i (o+2) c):=by
 unfold aY;rw[Sx];simp[aQ]
theorem s4 (i o c:Sh):aY Se 154 (ab i o c) 3=some (ab i (o+3) c):=by
 unfold aY;rw[Sx];simp[xQ]
theorem xT (i o c:Sh):aY Se 154 (ab i o c) 4=some (ab i (o+4) c):=by
 unfold aY;rw[Sx];simp[oe]
theorem og (i o c:Sh):aY Se 154 (ab i o c) 5=some (ab i (o+6) c):=by
 unfold aY;rw[Sx];simp[dI]
structure fJ (base:Sh) (s:J) (j:Sh) (bv rv ov:Sq) (b:Si Sj) (p:Sh) (most:Sp) (rows:Si (Sh×Sh)) (last:Sh×Sh) (out:Si Sj):Prop where
 cG:ae s j [bv,I p,I most,rv,I last.1,I last.2,ov]
 E:kL base s 1 bv b.length (aM b)
 dz:ao s 2 rv rows.length (o8 rows)
 u0:ay base rv
 qk:ak rv≠some j
 gJ:ao s 1 ov out.length (aM out)
 bu:ay base ov
 oh:ak ov≠some j
 s5:∀k,ak ov=some k->ak rv≠some k
 eX:base<=j
abbrev o9 (j:Sh):Sq:=ab j 0 8
theorem fJ.u {m:Sh}{s a:J}{j:Sh}{c d e:Sq}{n:Si Sj}{q f:Sh}{g:Sp}{o:Si (Sh×Sh)}{r b:Sh×Sh}{p:Si Sj}(h:fJ m s j c d e n q g o r p)
  (t:ae a j [c,I f,I g,d,I b.1,I b.2,e]) (k:a.Y=s.Y) (l:∀i,i≠j->a.i.N i=s.i.N i):fJ m a j c d e n f g o b p:=
 ⟨t,h.E.A (ad.f k l h.eX),h.dz.f k l h.qk,h.u0,h.qk,h.gJ.f k l h.oh,h.bu,h.oh,h.s5,h.eX⟩
def QX (c:Sh)(s:J)(j:Sh)(d e f:Sq)(b:Si Sj)(p:Sh)(g:Sp)(h:Si (Sh×Sh))(i:Sh×Sh)(k:Si Sj)(w:Sh)(v:Sq)(a:J):Prop:=
 (8*b.length<p+w/\v= .tuple #[I 0,I 2]/\a=s)\/
 (¬8*b.length<p+w/\v= .tuple #[I (hf b p w:Sh),I 0]/\fJ c a j d e f b (p+w) g h i k/\ad c s a)
theorem QY (g:Sh)(s:J)(j:Sh)(t u v:Sq)(b:Si Sj)(p:Sh)(y:Sp)(c:Si (Sh×Sh))(m:Sh×Sh)(z:Si Sj)
  (h:fJ g s j t u v b p y c m z) (WW:b.length<=4000000) (WX:p<=8*b.length) (WY:c.length<=1000000):
  Runs Se aw 118 [o9 j] s (QX g s j t u v b p y c m z (dg (258+c.length))):=by
 refine Runs.ey 61 Tryz.func118 rfl fun K i l=> ?_
 have A:=h.cG.o cJ 0 8;have B:=h.cG.o aB 1 8;have L:=h.cG.o xR 3 8;have⟨w,M⟩:=aO (dg (258+c.length));have WD:=AD (258+c.length);rw[<-M] at WD|-
 have e:=h.E.c;refine bp i l @s4 L (h.dz.c.g Sy) ?_;rw[(Z:(258:Sp)+(c.length:Sp)=((258+c.length:Sh):Sp))];refine(Qz s (258+c.length)).b ?_;rintro _ O ⟨rfl,WE⟩;subst WE;rw[<-M];by_cases P:8*b.length<p+w
 ·have WG:8*(b.length:Sp)-(p:Sp)<(w:Sp):=Z;refine pS i l @AP @AQ A B e.m (e.g Sf) (Sm WG) @Tx ?_;exact .inl ⟨P,rfl,rfl⟩
 have WH:¬8*(b.length:Sp)-(p:Sp)<(w:Sp):=Z;refine cX i l @AP @AQ A B e.m (e.g Sf) WH ?_;refine aZ.w (fun WI o Q=>∃(q:Sh),WI=w-q/\q<=w/\fJ g Q j t u v b (p+q) y c m z/\ad g O Q/\o.e=61/\o.N 0=o9 j/\o.N 5=I (hf b p q:Sh)/\o.N 26=I w/\o.N 27=I q)
  (fun WJ R S=>WJ= .bb 0/\fJ g S j t u v b (p+w) y c m z/\ad g O S/\R.e=61/\R.N 5=I (hf b p w:Sh))
  ⟨0,rfl,Z,h,ad.p _ _,V i,V l,aa,aa,aa⟩ ?_ ?_
 ·clear i l K A B L e;rintro WZ WK W0 W1 W2 ⟨a,rfl,W3,f,T,r,U,W,D,E⟩;have e:=f.E.c;by_cases W4:a<w
  ·have WL:(a:Sp)<(w:Sp):=Z;have X:(p+a)/8<b.length:=Z;have Wy:=e.r (k:= .i64) (x:=(((p+a)/8:Sh):Sp)) Sf bw Z Z;rw[Sr] at Wy;have F:=e.P de X;rw[dn X] at F;have W5:(p+a)%8<8:=Nat.mod_lt _ Z;have W6:7-(p+a)%8<8:=Z;have⟨G,H⟩:=aO ((b.getD ((p+a)/8) 0).toNat);rw[<-H] at F;have WM:G/2^(7-(p+a)%8)<256:=Nat.lt_of_le_of_lt (Nat.div_le_self _ _) (show G<256 by rw[H];exact(b.getD ((p+a)/8) 0).toNat_lt);have WN:G/2^(7-(p+a)%8)%2=mK b (p+a):=by rw[H];rfl
   have W7:=uZ b p a;have W8:2^a<=2^12:=Nat.pow_le_pow_right Z Z;have Wz:=Iq (n:=hf b p a) (d:=mK b (p+a)) Z (AI b (p+a));have WA:=Io _ WM;rw[WN] at WA;have WO:SN.wrap ((mK b (p+a):Sh):Sp)=((mK b (p+a):Sh):Sp):=cg Z;rw[(rfl:hf b p a*2+mK b (p+a)=hf b p (a+1))] at Wz;simp(disch:=omega)only[aI,bD,SJ,Su,↓S0,r,U,W,D,E,Sm WL,AP,AQ,(f.cG.o cJ 0 8),(f.cG.o aB 1 8),e.m,rA,xH,kI,gy,Ip,Wy,F,(Z:(7:Sp)-(((p+a)%8:Sh):Sp)=((7-(p+a)%8:Sh):Sp)),Au,jc,WA,SK,gU SI SK,WO,j4,Wz,cg];refine db aQ f.cG rfl aA rfl ?_;intro W9 WQ WB WC;refine aq r E ?_;refine aH (w-(a+1)) Z ⟨a+1,rfl,Z,?_,T.a (ad.f WB WC f.eX),V r,V U,aa,V D,aa⟩;exact f.u (f:=p+(a+1)) (b:=m) WQ WB WC
  obtain rfl:a=w:=Z;have WR:¬(a:Sp)<(a:Sp):=Z;refine aW r D E WR ?_;exact WK _ _ _ ⟨rfl,f,T,V r,V W⟩
 clear i l K;rintro _ Xa Xb ⟨rfl,WS,WT,WU,WV⟩;refine bS WU WV @Tx ?_;exact .inr ⟨P,rfl,WS,WT⟩
end Go.Proofs.YtgpmffbleaphkaaGreat
namespace Go.Cl.Lz
def il (a:Si Sj)(b:Sh):Sh->Si Sj
 |0=>a
 |n+1=>il a b n++[(il a b n).getD (b+n) 0]
theorem xU (a:Si Sj)(b:Sh):∀n,(il a b n).length=a.length+n
 |0=>rfl
 |n+1=>by rw[il,St,xU a b n];rfl
end Go.Cl.Lz
namespace Go.Proofs.YtgpmffbleaphkaaGreat
open Go.Cl Go.Cl.Lz Go.Cl.Rw
theorem AR (a b:Sp):cP Se 152 [(0,I a),(1,I b)]=some (.agg #[I a,I b]):=by
 unfold cP;rw[SD]
 rw[(show bK Se 152=some (.agg #[I 0,I 0]) by kernel_rfl)];simp[aQ,cp,hO,eT,di,Value.cells]
theorem QZ {j:Sh}{v:Sq}{s a:J}(h:ad s.Y s a):eu j v s v a:=⟨h.Y,fun i b _ _=>h.N i b,.inl rfl⟩
def xV (g:Sh)(s:J)(j:Sh)(h i k:Sq)(l:Si Sj)(p:Sh)(a:Sp)(m:Si (Sh×Sh))(b:Si Sj)(n:Sh)(X:Si Sj)(v:Sq)(c:J):Prop:=
 ∃(d:Sq) (e:Sh×Sh) (f:Si Sj),fJ g c j h i d l p a m e f/\eu j k s d c/\
  ((v=I 0/\((b.length+n:Sh):Sp)<=a/\e=(b.length,n)/\f=X)\/(v=I 7/\a<((b.length+n:Sh):Sp)))
theorem fJ.dO {f:Sh}{s o g d:J}{j:Sh}{p r k a:Sq}{z:Si Sj}{t:Sh}{u:Sp}{A:Si (Sh×Sh)}{l:Sh×Sh}{E v:Si Sj}(h:fJ f s j p r k z t u A l E)(B:f<=s.Y)
  (b:ad s.Y s o) (F:ao g 1 a v.length (aM v)) (G:ay f a) (w:aF k o g) (x:ak a=ak k\/∃i,ak a=some i/\o.Y<=i)
  (H:ae d j [p,I t,I u,r,I l.1,I l.2,a]) (m:d.Y=g.Y) (n:∀i,i≠j->d.i.N i=g.i.N i):
  fJ f d j p r a z t u A l v/\eu j k s a d:=by
 have L:=h.cG.n;have D:ak a≠some j:=by
  rcases x with e|⟨i,e,y⟩
  ·rw[e];exact h.oh
  rw[e];intro q;injection q with q;have:=b.Y;omega
 refine⟨⟨H,((h.E.A (b.q B)).A (w.C h.bu (SZ B b.Y))).A (ad.f m n h.eX),((h.dz.C b).j w (fun i y e=>h.s5 i e y)).f m n h.qk,h.u0,h.qk,F.f m n D,G,D,fun K c=> ?_,h.eX⟩,
  ((QZ b).a (eu.j w x)).a (eu.u m n)⟩
 rcases x with e|⟨i,e,y⟩
 ·rw[e] at c;exact h.s5 K c
 rw[e] at c;injection c with c;subst c
 intro q;have:=h.dz.z _ q;have:=b.Y;omega
theorem It (p:Sh)(s:J)(j:Sh)(q r h:Sq)(t:Si Sj)(u:Sh)(m:Sp)(v:Si (Sh×Sh))(WO:Sh×Sh)(b:Si Sj)(d n:Sh)
  (o:fJ p s j q r h t u m v WO b) (WQ:p<=s.Y) (W8:d<b.length) (W9:1<=n) (Xa:b.length+n<=100000000):
  Runs Se aw 149 [o9 j,I d,I n] s (xV p s j q r h t u m v b n (il b d n)):=by
 refine Runs.iY 51 Tryz.func149 rfl fun g e l w D=> ?_
 have y:=o.cG.B (P:=Se) cJ (a:=6) (c:=8) rfl aA;refine c1 e l D @xT @og y (o.gJ.c.g Sf) @AR ?_;refine xO oe o.cG rfl rfl rfl rfl aA ?_;intro L U M O;have W:fJ p L j q r h t u m v (b.length,n) b:=o.u U M O;have X:eu j h s h L:=eu.u M O;refine aq e D ?_;refine aZ.w (fun Wy g z=>∃(a:Sh) (Wz:Sq),Wy=n-a/\a<=n/\fJ p z j q r Wz t u m v (b.length,n) (il b d a)/\eu j h s Wz z/\(a=0\/((b.length+a:Sh):Sp)<=m)/\g.e=51/\g.N 0=o9 j/\g.N 1=I d/\g.N 18=I n/\g.N 19=I a)
  (fun Q g z=>(Q= .bb 0/\g.e=51/\xV p s j q r h t u m v b n (il b d n) (I 0) z)\/(Q= .bF/\g.e=51/\g.N 6=I 7/\xV p s j q r h t u m v b n (il b d n) (I 7) z))
  ⟨0,h,rfl,Z,W,X,.inl rfl,V e,V l,V w,aa,aa⟩ ?_ ?_
 ·clear e l w D g y W X U M O L;rintro Xb WA Wy g E ⟨a,WB,rfl,Xc,f,F,Xd,e,l,w,G,H⟩;have WR:=SZ WQ F.Y;have y:=f.cG.o cJ 6 8;have WC:=f.cG.o aB 2 8;have Xe:=xU b d a;have R:=f.gJ.c;by_cases Xf:a<n
  ·have WD:(a:Sp)<(n:Sp):=Z;by_cases WE:m<=((il b d a).length:Sp)
   ·refine hy e l G H (Sm WD) @xS @og WC y f.gJ.m (R.g Sf) (Sm WE) ?_;refine WA _ _ _ (.inr ⟨rfl,V e,aa,WB,_,_,f,F,.inr ⟨rfl,Z⟩⟩)
   have S:d+a<(il b d a).length:=Z;have WG:=ad.aS E 1;have WH:=(f.gJ.C WG).c;have WS:=(f.cG.C WG).o cJ 6 8;have WI:=WH.r (k:= .i64) (x:=((d:Sp)+(a:Sp))) Sf bw Z Z;rw[show((d:Sp)+(a:Sp)).toNat=d+a from Z] at WI;have WJ:=WH.P (P:=Se) de S;rw[dn S] at WJ;refine hy e l G H (Sm WD) @xS @og WC y f.gJ.m (R.g Sf) WE (LB.T 0 1 fun WK WT WL _ _ _=> ?_);have WU:∀a,LA.c4 WK (some (ab j a 8))=true:=fun a=>LA.hT (A:=WK) (i:=j) (WL _ f.cG.n)
   simp(disch:=omega)only[aI,bD,fi,dy,bC,SJ,Su,↓S0,e,l,w,WU,LA.iG R WL S,og,WS,f.gJ.m,cg,WI,WJ,gh Sf bw dN];refine LB.fD (a:=E.Y) (by rfl) (by rw[gg];omega) (SA _) ?_;intro Xg Xh WV Xi WW Xj _;have B:=(ad.aS E 1).a WW;have WX:=f.gJ.C B;refine ax e (LB.jE Sf Sf (.inl ⟨_,rfl⟩) bw jg dN rfl WX WV.c.X rfl ai rfl Z Z f.bu (ag B.Y) (fun o=>SL rfl o) (fun WY WZ=>bq (WT WY WZ) B.Y) fun WM Xk K W0 WN W1=> ?_);refine aq e @og ?_;refine LB.gV dI ai ((f.cG.C B).j WN f.oh) (a:=[WM]) rfl K.c.gA rfl aA (by simp[K.c.aN]) (fun o=>SL rfl o) ?_;intro Xl W2 W3 W4;rw[(show aM (il b d a)++[.int .u8 (((il b d a).getD (d+a) 0).toNat:Sp)]=aM (il b d (a+1)) by rw[il,km];rfl),(show(il b d a).length+1=(il b d (a+1)).length by rw[xU,xU];omega)] at K;have⟨W5,W6⟩:=f.dO WR B K W0 WN W1 W2 W3 W4;refine aq e H ?_;refine aH (n-(a+1)) Z ⟨a+1,WM,rfl,Z,W5,F.a W6,.inr Z,V e,V l,V w,V G,aa⟩
  obtain rfl:a=n:=Z;refine aW e G H (Z:¬(a:Sp)<(a:Sp)) ?_;exact WA _ _ _ (.inl ⟨rfl,V e,WB,_,_,f,F,.inl ⟨rfl,Z,rfl,rfl⟩⟩)
 clear e l w D g;rintro Q g E (⟨rfl,e,T⟩|⟨rfl,e,W7,T⟩)
 ·refine bO e @Ty ?_;exact T
 refine bS e W7 @Ty ?_;exact T
theorem Q0 (f:Sh)(s:J)(j:Sh)(k l g:Sq)(m:Si Sj)(p:Sh)(i:Sp)(n:Si (Sh×Sh))(y:Sh×Sh)(a:Si Sj)(b:Sh)
  (h:fJ f s j k l g m p i n y a) (O:f<=s.Y) (P:b<256) (Q:a.length<=100000000):
  Runs Se aw 148 [o9 j,I b] s (xV f s j k l g m p i n a 1 (a++[SX b])):=by
 refine Runs.cS 35 Tryz.func148 rfl fun R d o z=> ?_
 have r:=h.cG.o cJ 6 8;have t:=h.cG.o aB 2 8;by_cases u:i<=(a.length:Sp)
 ·refine pS d o @xS @og t r h.gJ.m (h.gJ.c.g Sf) (Sm u) @Tz ?_;exact⟨g,_,_,h,eu.p _ _ _,.inr ⟨rfl,Z⟩⟩
 refine jG d o @xS @xT @og t r h.gJ.m (h.gJ.c.g Sf) u @AR ?_;refine xO oe h.cG rfl rfl rfl rfl aA ?_;intro A B v w;have e:fJ f A j k l g m p i n (a.length,1) a:=h.u B v w;simp(disch:=omega)only[aI,bD,bC,SJ,Su,↓S0,d,o,z,og,(e.cG.B cJ (a:=6) (c:=8) rfl (by simp)),gU SK SI,(show SG.wrap (b:Sp)=(((SX b).toNat:Sh):Sp) by rw[gz,UInt8.toNat_ofNat'];omega),gh Sf bw dN];refine ll Sf bw jg dN rfl e.gJ aa ai (by simp only[dG,d];decide) (by simp only[dG,d];decide) (by rfl) ai rfl Z Z e.bu Z ?_;intro S D T q E U x F;refine aq d @og ?_;refine db dI (e.cG.j x e.oh) rfl aA q.c.aN ?_;intro W G H K;rw[(show aM a++[.int .u8 (((SX b).toNat:Sh):Sp)]=aM (a++[SX b]) by rw[km];rfl),(show a.length+1=(a++[SX b]).length by simp)] at q;have⟨L,M⟩:=e.dO Z (ad.p _ _) q E x F G H K;refine bO d @Tz ?_;exact⟨D,_,_,L,(eu.u v w).a M,.inl ⟨rfl,Z,rfl,rfl⟩⟩
end Go.Proofs.YtgpmffbleaphkaaGreat
namespace Go.Cl.Lz
theorem Q1 {A B:Si Sj}(i:Sh):(A++B).getD (A.length+i) 0=B.getD i 0:=by
 rw[Sg,Sg,SH Z,Tc]
theorem Q2 {A B:Si Sj}{i:Sh}(h:i<A.length):(A++B).getD i 0=A.getD i 0:=by
 rw[Sg,Sg,Sz h]
theorem u1 {A:Si Sj}{k:Sh}(h:k<A.length):A.take (k+1)=A.take k++[A.getD k 0]:=by
 rw[List.take_succ_eq_append_getElem h,Sg,S8 h];rfl
theorem AS {a:Si Sj}{b:Sh}:∀n,b+n<=a.length->il a b n=a++(a.drop b).take n
 |0,h=>by simp[il]
 |n+1,h=>by
  rw[il,AS n Z,Q2 Z,SP]
  congr 1
  rw[u1 (by rw[Sk];omega)]
  congr 2
  rw[Sg,Sg,SM]
theorem Q3 {a:Si Sj}{b n:Sh}(h:b+n=a.length)(c:1<=n):il a b (n+1)=a++(a.drop b++(a.drop b).take 1):=by
 have c:(a.drop b).length=n:=by rw[Sk];omega
 rw[il,AS n Z,SR Z,h];have e:=Q1 (A:=a) (B:=a.drop b) 0;rw[Te] at e;rw[e,SP]
 congr 2
 rw[u1 Z,List.take_zero,Tf]
def qm (a:Si Sj)(b:Si (Sh×Sh))(T:Si (Si Sj)):Prop:=
 b.length=T.length/\∀(i:Sh) (q:Sh×Sh),b[i]?=some q->1<=q.2/\q.1+q.2<=a.length/\T[i]?=some ((a.drop q.1).take q.2)
def pa (b:Si Sj)(a:Sh×Sh)(L:Si Sj):Prop:=
 (a.2=0/\L=[])\/(1<=a.2/\a.1+a.2=b.length/\L=b.drop a.1)
theorem pa.Iu {b:Si Sj}{a:Sh×Sh}{L:Si Sj}(h:pa b a L):a.2=0↔L=[]:=by
 rcases h with ⟨a,b⟩|⟨c,c,c⟩
 ·exact⟨fun _=>b,fun _=>a⟩
 refine⟨fun e=>Z,fun e=> ?_⟩;have:=congrArg TJ c;rw[e,Sk,Tg] at this;omega
theorem pa.Y (a x:Si Sj)(b:x≠[]):pa (a++x) (a.length,x.length) x:=
 .inr ⟨Tk.mpr b,aA,aA⟩
def s6 (a:Si (Sh×Sh))(b:Sh×Sh):Si (Sh×Sh):=if 0<b.2/\258+a.length<4096 then a++[(b.1,b.2+1)] else a
theorem qm.dO {a x:Si Sj}{b:Si (Sh×Sh)}{T:Si (Si Sj)}{c:Sh×Sh}{L:Si Sj}(h:qm a b T)(g:pa a c L)(d:x≠[]):qm (a++x) (s6 b c) (dO T L x):=by
 have⟨e,f⟩:=h;have h:=Tk.mpr d;have h:∀(i:Sh) (q:Sh×Sh),b[i]?=some q->1<=q.2/\q.1+q.2<=(a++x).length/\T[i]?=some (((a++x).drop q.1).take q.2):=fun i q a=>by
  have⟨d,k,j⟩:=f i q a;refine⟨d,by rw[St];omega,?_⟩;rw[j,SB Z,SV (by rw[Sk];omega)]
 unfold s6 Lz.dO;by_cases d:0<c.2/\258+b.length<4096
 ·rcases g with ⟨f,f⟩|⟨f,f,f⟩
  ·omega
  have i:L≠[]:=by intro j;have:=congrArg TJ f;rw[j,Sk,Tg] at this;omega
  rw[Ss d,Ss ⟨i,by rw[<-e];exact d.2⟩];refine⟨by simp[e],fun i q a=> ?_⟩;by_cases j:i<b.length
  ·rw[Sz j] at a;have⟨j,k,l⟩:=h i q a;exact⟨j,k,by rw[Sz Z];exact l⟩
  rw[SH Z] at a;cases j:i-b.length with
  |succ m=>rw[j] at a;simp at a
  |zero=>
   rw[j] at a;simp at a;subst a;refine⟨aA,by simp only[St];omega,?_⟩;have a:L.length=c.2:=by rw[f,Sk];omega
   rw[SH Z,show i-T.length=0 from Z];simp only[List.getElem?_cons_zero];have b:L.take (c.2+1)=L:=SR Z;rw[SB Z,<-f,List.take_append,a,Tc,b]
 rw[Sl d];have:¬(L≠[]/\258+T.length<4096):=by
  rintro ⟨a,b⟩;have:=g.Iu;exact d ⟨by rcases Nat.eq_zero_or_pos c.2 with b|c;exact SL (this.mp b) a;exact c,Z⟩
 rw[Sl this];exact⟨e,h⟩
end Go.Cl.Lz
namespace Go.Proofs.YtgpmffbleaphkaaGreat
open Go.Cl Go.Cl.Lz Go.Cl.Rw
theorem Q4 {s a:J}{i j:Sh}{b:Si Sq}{v c:Sq}(h:ae s i b)(k:eu j v s c a)(d:i≠j)(e:ak v≠some i):ae a i b:=by
 have⟨f,z,g,l⟩:=h.bl;refine⟨Tl h.n k.Y,f,z,?_,l⟩;simp only[J.t,k.N i h.n d e];exact g
theorem AT:bK Se 152=some (.agg #[I 0,I 0]):=by kernel_rfl
theorem Q5:cp (.agg #[I 0,I 0])=true:=rfl
theorem Q6:e2 Se 152=some 16:=by kernel_rfl
theorem Q7 (a b:Sp):bn (.agg #[I a,I b]) (.agg #[I a,I b])=true:=by simp[bn,dF,b9]
theorem Q8 (s:J)(a b:Sp):dj Se s 151 1 [(0,.agg #[I a,I b])]=cL s [I a,I b] 1 2:=by
 unfold dj;rw[Sy];simp only[oe,AT];rfl
theorem fJ.tX {c:Sh}{s m f d:J}{j:Sh}{n o p a:Sq}{x:Si Sj}{r:Sh}{t:Sp}{F u:Si (Sh×Sh)}{g:Sh×Sh}{y:Si Sj}(h:fJ c s j n o p x r t F g y)(v:c<=s.Y)
  (b:ad s.Y s m) (G:ao f 2 a u.length (o8 u)) (H:ay c a) (z:aF o m f) (A:ak a=ak o\/∃i,ak a=some i/\m.Y<=i)
  (K:ae d j [n,I r,I t,a,I g.1,I g.2,p]) (k:d.Y=f.Y) (l:∀i,i≠j->d.i.N i=f.i.N i):
  fJ c d j n a p x r t u g y/\ad c s d:=by
 have M:=h.cG.n;have B:ak a≠some j:=by
  rcases A with e|⟨i,e,w⟩
  ·rw[e];exact h.qk
  rw[e];intro q;injection q with q;have:=b.Y;omega
 have D:=z.C h.u0 (SZ v b.Y);refine⟨⟨K,((h.E.A (b.q v)).A D).A (ad.f k l h.eX),G.f k l B,H,B,((h.gJ.C b).j z (fun i w=>h.s5 i w)).f k l h.oh,h.bu,h.oh,fun L E=> ?_,h.eX⟩,((b.q v).a D).a (ad.f k l h.eX)⟩;rcases A with e|⟨i,e,w⟩
 ·rw[e];exact h.s5 L E
 rw[e];intro q;injection q with q;have:=h.gJ.z _ E;have:=b.Y;omega
def s7 (c:Sh)(s:J)(j:Sh)(f:Sq)(g:Si Sj)(p:Sh)(b:Sp)(a:Si Sj)(T:Si (Si Sj))(L:Si Sj)(e:Sh)(v:Sq)(d:J):Prop:=
 ad c s d/\match ev T L e with
 |none=>v=I 4
 |some x=>(b<((a.length+x.length:Sh):Sp)/\v=I 7)\/(((a.length+x.length:Sh):Sp)<=b/\v=I 0/\∃(h i:Sq) (e:Si (Sh×Sh)),fJ c d j f h i g p b e (a.length,x.length) (a++x)/\qm (a++x) e (dO T L x))
theorem s7.u {d:Sh}{s e:J}{j:Sh}{f:Sq}{g:Si Sj}{p:Sh}{c:Sp}{h:Si (Sh×Sh)}{i:Sh×Sh}{a:Si Sj}{T:Si (Si Sj)}{L:Si Sj}{k n:Sh}{X:Si Sj}{v:Sq}{x:Si Sj}
  (q:ev T L k=some x) (r:x≠[]) (t:x.length=n) (u:X=a++x) (w:qm a h T) (y:pa a i L) (z:ad d s e)
  {b l:Sq} {m:Sh×Sh} {o:Si Sj} (A:fJ d e j f b l g p c (s6 h i) m o)
  (B:(v=I 0/\((a.length+n:Sh):Sp)<=c/\m=(a.length,n)/\o=X)\/(v=I 7/\c<((a.length+n:Sh):Sp))):s7 d s j f g p c a T L k v e:=by
 refine⟨z,?_⟩;rw[q];subst t;subst u
 rcases B with ⟨rfl,a,rfl,rfl⟩|⟨rfl,c⟩
 ·exact .inr ⟨a,rfl,b,l,_,A,w.dO y r⟩
 exact .inl ⟨c,rfl⟩
theorem Q9 (u:Sh)(U:J)(m:Sh)(K l M:Sq)(O:Si Sj)(P:Sh)(w:Sp)(d:Si (Sh×Sh))(b:Sh×Sh)(f:Si Sj)(T:Si (Si Sj))(L:Si Sj)(a:Sh)
  (h:fJ u U m K l M O P w d b f) (W4:u<=U.Y) (WB:qm f d T) (W:pa f b L) (Yf:a<4096) (Yg:a≠256) (Yh:a≠257) (Yi:d.length<=4096) (Yj:f.length<=20000000):
  Runs Se aw 119 [o9 m,I a] U (s7 u U m K O P w f T L a):=by
 refine Runs.cS 96 Tryz.func119 rfl fun F e r Q=> ?_
 have Xj:=h.cG.o xR 3 8;have Yk:=WB.1;have WK:=W.Iu;have Yl:b.2<=20000000:=by
  rcases W with ⟨Xk,_⟩|⟨_,Xk,_⟩
  ·omega
  omega
 refine cX e r @s4 @xT Xj (h.cG.hC QW oe (b:=4) (c:=8) rfl aA:aD Se U 152 (ab m 4 8)=some (.agg #[I b.1,I b.2])) (h.dz.c.g Sy) @AT @Q5 (aK fun Ym W5 Xl Yn=> ?_);have⟨q,W6⟩:=aO U.Y;rw[<-W6] at W5;refine aR e @List.length_cons.{0} @Tg.{0} ?_;rw[<-W6];refine xO oe W5 rfl rfl rfl rfl aA ?_;intro s WC Xm Xn;have WC:ae s q [I b.1,I b.2]:=WC;have Yo:=h.cG.n;have Xo:q≠m:=Z;have Xp:ak M≠some q:=fun i=>ag (h.gJ.z _ i)
 have WL:=Xl.a (ad.f Xm Xn Z);have X:=WL.q W4;have WD:u<=s.Y:=SZ W4 X.Y;have n:fJ u s m K l M O P w d b f:=⟨h.cG.C WL,h.E.A X,h.dz.C WL,h.u0,h.qk,h.gJ.C WL,h.bu,h.oh,h.s5,h.eX⟩;have Xq:=h.eX;have Xr:=h.bu;have G:=WC.o aB 1 3;have W7:=WC.o aB 0 3;have WT:eM Se 152 (ab q 0 3) (I 0)=some (ab q 0 3):=Is SD aQ q 0 3 (k:=0) Z .i64;have H:eM Se 152 (ab q 0 3) (I 1)=some (ab q 1 3):=Is SD aQ q 0 3 (k:=1) Z .i64;refine aq e Q ?_;generalize WM:ja Se aw (S1 (S1 (Th 13 _ _) _) _) _=Xs;have WU:∀(F:an) (t:J) (v z:Sq) (A:Sh×Sh) (B WV WE:Si Sj) (WG:Sh),ev T L a=some WE->WE≠[]->WE.length=WG->WV=f++WE->fJ u t m K l z O P w d A B->eu m M s z t->(v=I 0/\((f.length+WG:Sh):Sp)<=w/\A=(f.length,WG)/\B=WV)\/(v=I 7/\w<((f.length+WG:Sh):Sp))->F.e=96->F.N 0=o9 m->F.N 5=I ((258:Sp)+(d.length:Sp))->F.N 6=ab q 0 3->F.N 7=v->Xs .b2 F t:=by
  intro F t v z A B WV WE WG D WW o WX g E p e r W8 WN WY;subst WM;have Yp:bn v v=true:=by rcases p with ⟨i,_⟩|⟨i,_⟩<;>(rw[i];exact ez _ _)
  have WO:=Q4 WC E Xo Xp;have G:=WO.o aB 1 3;have W7:=WO.o aB 0 3;have Xt:=SZ WD (E).Y;have WZ:=X.a ((E).A Xq Xr WD);by_cases W9:0<b.2
  ·have WQ:(0:Sp)<(b.2:Sp):=Z;by_cases Xa:258+d.length<4096
   ·have W0:(258:Sp)+(d.length:Sp)<4096:=Z;have Xb:=ad.aS t 1;have Xc:=WO.C Xb;have Xu:=Xc.o aB 1 3;have Xv:=Xc.o aB 0 3;have Xw:=((g).cG.C Xb).o xR 3 8;refine ch e W8 WN H G (Sm WQ) (Sm W0) (LB.T 0 1 fun Xd W1 WH _ _ _=> ?_);have Xx:=LA.D WH g.cG.n;have Xy:=LA.D WH WO.n;refine kP e r WN Xx Xy WT H Xv Xu @s4 Xw ((g).dz.m) @AR @Q8 @Q7 ?_;refine LB.fD (a:=(t).Y) (by rfl) (by rw[gg];omega) (SA _) ?_;intro Yq Yr Xz Ys XW Yt _;have WI:=(ad.aS t 1).a XW;refine ax e (LB.jE Sy Sy (.inl ⟨_,rfl⟩) oe Q6 AT rfl ((g).dz.C WI) Xz.c.X rfl ai rfl Z Z (g).u0 (ag WI.Y) (fun h=>SL rfl h) (fun XX XY=>bq (W1 XX XY) WI.Y) fun Xe Yu WR XZ Xf X0=> ?_);refine aq e @s4 ?_;refine LB.gV xQ ai (((g).cG.C WI).j Xf (g).qk) (a:=[Xe]) rfl WR.c.gA rfl aA (by simp[WR.c.aN]) (fun h=>SL rfl h) ?_;intro Yv X1 X2 X3;rw[(show o8 d++[I (b.1:Sh),I ((b.2:Sp)+1)]=o8 (d++[(b.1,b.2+1)]) by rw[QT];rfl),(show d.length+1=(d++[(b.1,b.2+1)]).length by simp)] at WR;have⟨X4,X5⟩:=(g).tX Xt WI WR XZ Xf X0 X1 X2 X3;refine bS e WY @SE ?_;exact s7.u D WW o WX WB W (WZ.a X5) (b:=Xe) (by unfold s6;rw[Ss ⟨W9,Xa⟩];exact X4) p
   have W0:¬(258:Sp)+(d.length:Sp)<4096:=Z;refine wL e W8 WN WY H G (Sm WQ) W0 @SE ?_;exact s7.u D WW o WX WB W WZ (b:=l) (by unfold s6;rw[Sl (fun q=>Xa q.2)];exact g) p
  have WQ:¬(0:Sp)<(b.2:Sp):=Z;refine oT e WN WY H G WQ @SE ?_;exact s7.u D WW o WX WB W WZ (b:=l) (by unfold s6;rw[Sl (fun q=>W9 q.1)];exact g) p
 by_cases Yw:258+d.length<a
 ·have R:(258:Sp)+(d.length:Sp)<(a:Sp):=Z;subst WM;refine re e (Sm R) @SE ?_;have WJ:ev T L a=none:=by
   unfold ev;rw[Sl Z];split
   ·rfl
   rw[Sl Z,List.getElem?_eq_none Z]
  refine⟨X,?_⟩;rw[WJ]
 have R:¬(258:Sp)+(d.length:Sp)<(a:Sp):=Z;by_cases Yx:a=258+d.length
 ·have Wy:(a:Sp)=(258:Sp)+(d.length:Sp):=Z;by_cases Wz:b.2=0
  ·have S:(b.2:Sp)=0:=Z;subst WM;refine sx e Q R (Sm Wy) (Sm S) H G @SE ?_;have WJ:ev T L a=none:=by
    unfold ev;rw[Sl Z,Ss (WK.mp Wz)]
   refine⟨X,?_⟩;rw[WJ]
  have S:¬(b.2:Sp)=0:=Z;rcases id W with ⟨W2,_⟩|⟨W2,X6,Xg⟩
  ·exact SL W2 Wz
  have D:ev T L a=some (L++L.take 1):=by
   unfold ev;rw[Sl Z,Sl (fun i=>Wz (WK.mpr i)),Ss Z]
  have Yy:L.length=b.2:=by rw[Xg,Sk];omega
  have o:(L++L.take 1).length=b.2+1:=by rw[St,Ta];omega
  refine pT e r Q R (Sm Wy) S (Z:¬(a:Sp)<256) WT H W7 G ((It u s m K l M O P w d b f b.1 (b.2+1) n WD Z Z Z).b ?_);rintro v t ⟨z,A,B,g,E,p⟩;refine ax e ?_;exact WU _ _ v z A B _ _ _ D (show L++L.take 1≠[] by intro i;rw[i] at o;simp at o) o (by rw[Q3 X6 W2,<-Xg]) g E p (V e) (V r) aa aa aa
 have Wy:¬(a:Sp)=(258:Sp)+(d.length:Sp):=Z;by_cases Xh:a<256
 ·have WS:(a:Sp)<256:=Z;have D:ev T L a=some [SX a]:=by
   unfold ev;rw[Ss Xh]
  refine ib e r Q R Wy (Sm WS) ((Q0 u s m K l M O P w d b f a n WD Xh Z).b ?_);rintro v t ⟨z,A,B,g,E,p⟩;refine ax e ?_;exact WU _ _ v z A B _ _ _ D aA rfl rfl g E p (V e) (V r) aa aa aa
 have WS:¬(a:Sp)<256:=Z;by_cases Wz:b.2=0
 ·have S:(b.2:Sp)=0:=Z;subst WM;refine sy e r Q R Wy (Sm S) WS WT H G @SE ?_;have WJ:ev T L a=none:=by
   unfold ev;rw[Sl Z,Ss (WK.mp Wz)]
  refine⟨X,?_⟩;rw[WJ]
 have S:¬(b.2:Sp)=0:=Z;have WA:a-258<d.length:=Z;obtain⟨y,W3⟩:∃y,d[a-258]?=some y:=⟨_,S8 WA⟩
 have⟨X7,X8,X9⟩:=WB.2 _ _ W3;have D:ev T L a=some ((f.drop y.1).take y.2):=by
  unfold ev;rw[Sl Z,Sl (fun i=>Wz (WK.mpr i)),Sl Z,X9]
 have o:((f.drop y.1).take y.2).length=y.2:=by rw[Ta,Sk];omega
 have Xi:=n.dz.c.r (k:= .i64) (x:=((a:Sp)-258)) Sy oe Z Z;rw[show((a:Sp)-258).toNat=a-258 from Z] at Xi;have Ya:eM Se 152 (bM (1+1) l (a-258)) (I 0)=some (eR (bM (1+1) l (a-258)) 0):=n.dz.c.Ir SD aQ (k:=0) WA Z .i64;have Yb:eM Se 152 (bM (1+1) l (a-258)) (I 1)=some (eR (bM (1+1) l (a-258)) 1):=n.dz.c.Ir SD aQ (k:=1) WA Z .i64;have Yc:aD Se s 3 (eR (bM (1+1) l (a-258)) 0)=some (I (y.1:Sh)):=by
  have:=n.dz.c.fE aB (j:=0) WA Z;rw[QU W3] at this;exact this
 have Yd:aD Se s 3 (eR (bM (1+1) l (a-258)) 1)=some (I (y.2:Sh)):=by
  have:=n.dz.c.fE aB (j:=1) WA Z;rw[QV W3] at this;exact this
 refine kO e Q R Wy S WS H G ?_;obtain⟨Xd,W1,WH,-⟩:=zC s;refine LB.kQ.hx Xd W1 0 0 cW cW ?_;rw[nf];refine wO e r Q (LA.D WH n.cG.n) (fun Ye=>LA.g0 n.dz.c WH WA Ye) ez @s4 (n.cG.o xR 3 8) n.dz.m Xi @lW Ya Yb @fT Yc Yd ?_;refine(It u s m K l M O P w d b f y.1 y.2 n WD Z X7 Z).b ?_;rintro v t ⟨z,A,B,g,E,p⟩;refine⟨fun h=>h.elim,?_⟩;refine ax (show bn v v=true by rcases p with ⟨i,_⟩|⟨i,_⟩<;>(rw[i];exact ez _ _)) ?_;exact WU _ _ v z A B _ _ _ D (show(f.drop y.1).take y.2≠[] by intro i;rw[i] at o;simp at o;omega) o (by rw[AS _ X8]) g E p (V e) (V r) aa aa aa
end Go.Proofs.YtgpmffbleaphkaaGreat