import Derived.Test.YtgpmffbleaphkaaGreatNfM
open _root_ renaming List->Se,Nat->Sh,decide_eq_false->Si,Int->Sj,UInt8->Sk,decide_eq_true->Sm,if_neg->So,if_pos->Sr,reduceIte->SH,decide_not->SJ,eq_true->SQ,absurd->S5,Except->Tf,eq_false->Ti
open Go.Proofs.Tryz renaming prog->Sf,underlying22->Sl,underlying47->Sq,results81->St,results63->SC,underlying145->SE,underlying62->SL,underlying3->SP,results145->SW,results45->SX,underlying27->SY,results115->S1,underlying5->S8,results143->Tc,results113->Td,results58->Te
open Go renaming Value->Sg
open Nat renaming le_refl->Sn,reduceLT->Sw,le_trans->Sy,reduceEqDiff->SA,lt_of_lt_of_le->SD,testBit_two_pow->S3,mod_eq_of_lt->S7,lt_trans->Tg,zero_le->Th
open List renaming length_cons->Sp,length_append->Ss,length_reverse->Su,length_drop->SB,mem_singleton->SF,mem_append->SG,mem_cons->SI,take_of_length_le->SK,length_singleton->SM,mem_append_right->SN,length_take->SO,mem_cons_of_mem->SS,take_append_of_le_length->SU,mem_append_left->SV,getElem_append_left->SZ,getElem_mem->S0,mem_cons_self->S6,take_length->S9,filter_cons->Ta,length_nil->Tb
open BitVec renaming ofInt->Sv,ofInt_natCast->S2,toNat_ofNat->S4
open Int renaming toNat_natCast->Sx
open Go.IntKind renaming u8->Sz,i64->SR
set_option maxHeartbeats 16000000
set_option linter.unusedSimpArgs false
set_option linter.unusedVariables false
set_option maxRecDepth 100000
namespace Go.Proofs.YtgpmffbleaphkaaGreat
open Go.Cl Go.Cl.Rw Go.Cl.Sto Go.Cl.Fx Go.Cl.Nf Go.Cl.Bt
theorem pk.Bo {a b c d:Sh}{D:Se Sk}{M:Sj}{o:Sg}{s t e:J}{v:Sg}{B:Tf Sh (Sh×Se Sk)}(h:pk a b c d D M o t v e B)(k:eL b c d o s o t)(f:ad a s t):pk a b c d D M o s v e B:=by
 cases B with
 |error e=>exact⟨h.1,h.2.1,f.a h.2.2⟩
 |ok y=>
  have⟨a,b,c,d⟩:=h;exact⟨a,b,c,k.a d⟩
def aaD (b c d e:Sh)(D:Se Sk)(M:Sj)(o:Sg)(s:J)(v:Sg)(a:J):Tf Sh (Sh×Sh×Se Sk)->Prop
 | .ok (f,q,g)=>v= .tuple #[.bool (decide (((f:Sh):Sj)=1)),I 0]/\∃f,cY b a c d e D q g M f/\eL c d e o s f a
 | .error e=>0<e/\(∃c,v= .tuple #[.bool c,I (e:Sh)])/\ad b s a
theorem aaE (u:jq aw)(f:Sh)(s:J)(e g h:Sh)(D q:Se Sk)(p w G:Sh)(M:Sj)(W9:w=M.toNat)(d:Sg)(r:cY f s e g h D p q M d)(Xs:f<=s.Y)(Q:D.length<=4000000)(Xa:q.length<=w)(Xb:w<=100000000)(X6:8*D.length+1<G):
  Runs Sf aw 145 [fc e] s fun v X7=>aaD f e g h D M d s v X7 (lI G D w p q):=by
 have Xt:=r.cD.n;have Yp:=r.F.n;have Xc:∀i,ak d=some i->i<s.Y:=fun i b=>r.br.z i b
 have R:∀WU x,eL e g h d s WU x->ad f s x:=fun WU x X8=>X8.A r.mT Xt.2.2.1 Xt.2.2.2.1 r.Q Xs
 refine Runs.dY 65 Tryz.func145 rfl (u _ rfl) rfl rfl ?_;intro Xd a Xu;have H:Xd.N 0=fc e:=Xu 0;clear Xu;have Xe:=r.F.B (P:=Sf) jP (a:=0) (c:=4) rfl aA;have Xv:¬(2:Sj)=0:=by decide
 rw[Jl];refine aW a H @jQ Xe ((mR u f s g h D p 1 r.cD Xs Z Q).b fun v Xw WV=> ?_);by_cases Wy:p+1<=8*D.length;rotate_left
 ·rw[hH Wy] at WV;rw[mQ Wy,RV,rI];obtain⟨-,rfl,Wz⟩:=WV;refine eo a @ct @cu Xv @SW ?_;exact⟨ai,⟨_,rfl⟩,R _ _ (ix Wz)⟩
 rw[gp Wy] at WV;rw[mP Wy,nz Wy];obtain⟨rfl,Xx,WW⟩:=WV;have Xe:=(r.ji Xx WW).F.B (P:=Sf) jP (a:=0) (c:=4) rfl aA;generalize bZ D p 1=X9;refine cl a H @ct @cu @jQ Xe ((mR u f Xw g h D (p+1) 2 Xx (ag WW.Y:f<=Xw.Y) Z Q).b fun v z WX=> ?_);by_cases WA:p+1+2<=8*D.length;rotate_left
 ·rw[hH WA] at WX;rw[mQ WA,rI];obtain⟨-,rfl,Wz⟩:=WX;refine eo a @ct @cu Xv @SW ?_;exact⟨ai,⟨_,rfl⟩,R _ _ (ix (WW.a Wz))⟩
 rw[gp WA] at WX;rw[mP WA,nz WA,mg];obtain⟨rfl,Xy,S⟩:=WX;have S:=WW.a S;have Xf:=r.ji Xy S;have WY:f<=z.Y:=ag S.Y;have WZ:eL e g h d s d z:=ix S;have Xz:=R _ _ WZ;have Yq:=S.Y;have Yr:p+1+2<=8*D.length:=Xy.mu;generalize bZ D (p+1) 2=m;have⟨XW,T⟩:=aO (hJ G D w m (p+1+2) q);rw[<-T];refine aR a @ct @cu (Be (fun Xg Ya=>Xg.e=65/\Xg.N 4=I (X9:Sh)/\∃v,Xg.N 5=v/\pk f e g h D M d s v Ya XW) ?_ ?_);rotate_left
 ·clear a H Xd;rintro Xd x ⟨a,XX,v,XY,A⟩;cases XW with
  |error j=>
   obtain⟨Xh,rfl,Yb⟩:=A;refine b0 a XX XY @SW ?_;rw[rI];exact⟨Xh,⟨_,rfl⟩,Yb⟩
  |ok y=>
   have⟨Xi,Ys⟩:=y;obtain⟨rfl,WU,Yc,Wz⟩:=A;refine b0 a XX XY @SW ?_;rw[mg];exact⟨rfl,WU,Yc,Wz⟩
 intro Yt WB;by_cases WC:m=0
 ·have WD:((m:Sh):Sj)=0:=Z;refine aR a H (SQ WD) ((aat u f z e g h D q (p+1+2) w M W9 d Xf WY Q Xa Xb).b fun v x A=> ?_);refine ax a ?_;refine WB _ _ ⟨V a,aa,v,aa,?_⟩;rw[T];unfold hJ;rw[Sr WC];exact A.Bo WZ Xz
 have WD:¬((m:Sh):Sj)=0:=Z;by_cases W0:m=1
 ·have W1:((m:Sh):Sj)=1:=Z;refine aR a WD (SQ W1) ((aal u z).b ?_);rintro _ x ⟨WE,WG,rfl,WH,WI,Xj,Xk,WJ⟩;have Yd:=WJ.Y;refine cl a @ct @cu @k5 @k6 @eP (aK fun Xl WK W2 Ye=> ?_);obtain⟨WL,WM⟩:∃L,L=x.Y:=⟨_,rfl⟩
  rw[<-WM] at WK;refine bp a WM.symm @aP @k5 @k6 ?_;refine aK ?_;intro W3 E U Yf;obtain⟨WN,WO⟩:∃L,L=Xl.Y:=⟨_,rfl⟩
  rw[<-WO] at E;refine aR a WO.symm @aP ?_;refine bh b1 ai (WK.C U) (aP _ _) rfl (aP _ _) (e1 _ WH.c.aN) ?_;intro W4 Yg Xm Xn;refine ax a (bh b1 ai (E.f Xm Xn Z) (aP _ _) rfl (aP _ _) (e1 _ WI.c.aN) fun W Xo t n=> ?_);have Xo:ae W WN (bt k0 WG):=Xo;have X:=(Yg:ae W4 WL (bt iQ WE)).f t n Z;have Xp:=Xo.y dT (by rw[aP];exact b1) (c:=18) (by rw[aP]);have O:=(((WJ.d W2).a (U.q Z)).a (ad.f Xm Xn Z)).a (ad.f t n Z);have XZ:=WZ.hX O;have WQ:∀(y:Sg) (K:Se Sh),ao x 1 y (cR K 15).length (bf (cR K 15))->ay z.Y y->rR e g h d W (.agg (bt K y).toArray) K:=fun y K WR l=>by
   have WS:=(((WR.C W2).C U).f Xm Xn (fun j=>ag (WR.z _ j))).f t n (fun j=>ag (WR.z _ j));exact⟨y,rfl,⟨WS.c,fun i b=>⟨WS.z i b,ag (l i b),ag (l i b)⟩⟩,fun i b=>⟨ag (l i b),fun j=>bq (Xc i j) (l i b)⟩⟩
  refine aW a H (X.y (P:=Sf) dT (by rw[aP];exact b1) (c:=18) (by rw[aP])) Xp ((JK u f W e g h D q (p+1+2) w G M W9 d (Xf.C WY O) (ag O.Y) Q Xa Xb Z _ _ iQ k0 (WQ WE _ WH Xj) (WQ WG _ WI Xk) (by rw[show iQ.length=288 from xI];decide) ai).b fun v F A=> ?_);refine ax a ?_;refine WB _ _ ⟨V a,aa,v,aa,?_⟩;rw[T];unfold hJ;rw[So WC,Sr W0];exact A.Bo XZ (R _ _ XZ)
 have W1:¬((m:Sh):Sj)=1:=Z;by_cases Xq:m=2;rotate_left
 ·have Yh:¬((m:Sh):Sj)=2:=Z;refine aW a WD W1 Yh ?_;refine WB _ _ ⟨V a,aa,_,aa,?_⟩;rw[T];unfold hJ;rw[So WC,So W0,So Xq];exact⟨ai,rfl,Xz⟩
 refine ch a WD W1 (SQ (Z:((m:Sh):Sj)=2)) @k5 @k6 @eP (aK fun Xl WK W2 Ye=> ?_);obtain⟨WL,WM⟩:∃L,L=z.Y:=⟨_,rfl⟩
 rw[<-WM] at WK;refine bp a WM.symm @aP @k5 @k6 ?_;refine aK ?_;intro W3 E U Yf;obtain⟨WN,WO⟩:∃L,L=Xl.Y:=⟨_,rfl⟩
 rw[<-WO] at E;have O:=W2.d U;have X0:=WZ.hX O;have W5:=WK.C U;refine aW a H WO.symm @aP ?_;refine(aaC u f W3 e g h D q (p+1+2) G M d (Xf.C WY O) (ag O.Y:f<=W3.Y) Q X6).b ?_;intro v W4 W6;cases W7:lH G D (p+1+2) with
 |error j=>
  rw[W7] at W6;obtain⟨Xh,rfl,k⟩:=W6;refine aW a @vh @vi @vj (bh b1 ai (kf W5 k.Y (k.N WL W5.n Z Z)) (aP _ _) rfl (aP _ _) (e1 _ rfl) fun W X t n=> ?_);refine ax a (bh b1 ai ((kf E k.Y (k.N WN E.n Z Z)).f t n Z) (aP _ _) rfl (aP _ _) (e1 _ rfl) fun F X1 W8 WT=> ?_);refine aq a (Z:¬(j:Sj)=0) ?_;refine WB _ _ ⟨V a,aa,_,aa,?_⟩;rw[T];unfold hJ;rw[So WC,So W0,Sr Xq,W7];exact⟨Xh,rfl,((R _ _ (X0.a (ix k))).a (ad.f t n Z)).a (ad.f W8 WT Z)⟩
 |ok y=>
 have⟨⟨X2,X3⟩,Xi⟩:=y;rw[W7] at W6;obtain⟨WE,WG,rfl,Yi,k,WH,WI,Xj,Xk,Yj,Yu⟩:=W6;refine aW a @vh @vi @vj (bh b1 ai (kf W5 k.Y (k.N WL W5.n Z Z)) (aP _ _) rfl (aP _ _) (e1 _ WH.c.aN) fun W X t n=> ?_);have X:ae W WL (bt X2 WE):=X;refine ax a (bh b1 ai ((kf E k.Y (k.N WN E.n Z Z)).f t n Z) (aP _ _) rfl (aP _ _) (e1 _ WI.c.aN) fun F Xr W8 WT=> ?_);have Xr:ae F WN (bt X3 WG):=Xr;have X1:=X.f W8 WT Z;have Yk:=X1.y dT (by rw[aP];exact b1) (c:=18) (by rw[aP]);have Xp:=Xr.y dT (by rw[aP];exact b1) (c:=18) (by rw[aP]);have Yd:=k.Y;have X4:∀i,i<z.Y->F.i.N i=W4.i.N i:=fun i b=>by rw[WT i Z,n i Z]
 have X5:eL e g h d s d F:=by
  have WJ:=X0.a (ix (a:=e) (o:=d) k);exact⟨ag WJ.Y,fun i b Yl Ym Yn Yo=>by rw[X4 i Z];exact WJ.N i b Yl Ym Yn Yo,.inl rfl⟩
 have WQ:∀(y:Sg) (K:Se Sh),ao W4 1 y (cR K 15).length (bf (cR K 15))->ay W3.Y y->rR e g h d F (.agg (bt K y).toArray) K:=fun y K WR l=>by
  have WS:=(WR.f t n (fun j=>ag (l _ j))).f W8 WT (fun j=>ag (l _ j));exact⟨y,rfl,⟨WS.c,fun i b=>⟨WS.z i b,ag (l i b),ag (l i b)⟩⟩,fun i b=>⟨ag (l i b),fun j=>bq (Xc i j) (l i b)⟩⟩
 refine aW a H Yk Xp ((JK u f F e g h D q Xi w G M W9 d (Yi.bT (B:=z.Y) Z X4 WY Z Z Z (fun i b=>ag (Xc i b)):cY f F e g h D Xi q M d) Z Q Xa Xb Z _ _ X2 X3 (WQ WE _ WH Xj) (WQ WG _ WI Xk) Yj Z).b fun v Yv A=> ?_);refine ax a ?_;refine WB _ _ ⟨V a,aa,v,aa,?_⟩;rw[T];unfold hJ;rw[So WC,So W0,Sr Xq,W7];exact A.Bo X5 (R _ _ X5)
theorem aaF (a:Sh)(M:Sj):cP Sf 196 [(0,jK a),(1,I M)]=some (.agg #[jK a,I M,av]):=by
 unfold cP;rw[Tryz.underlying196]
 rw[(show bK Sf 196=some (.agg #[.pointer none,I 0,av]) by kernel_rfl)];have b:(jK a).cells.toList=[jK a]:=rfl;have a:(Value.int .i64 M).cells.toList=[I M]:=rfl;simp only[eT,jW,b,a];simp[Jy,aQ,dI,cp,hO,eP,di]
theorem aaG (Q:jq aw)(s:J)(x:Sg)(D:Se Sk)(d:Sh)(WT:az s 1 x D.length (aM D))(WU:D.length<=4000000)(M:Sj)(Xa:M<=100000000)(WV:8*D.length+1<d):
  Runs Sf aw 114 [x,I M] s fun R WW=>Bg s R WW (pc d D M.toNat):=by
 have⟨m,S⟩:=aO M.toNat;rw[<-S];refine Runs.dY 36 Tryz.func114 rfl (Q _ rfl) rfl rfl ?_;intro f a w;have T:f.N 0=x:=w 0;have U:f.N 1=I M:=w 1;clear w;refine aq a T ((Ry s.Y s x D WT.bT (Sn _)).b ?_);rintro _ WX ⟨y,n,rfl,W,X⟩;have Xb:=W.n;refine aR a U @aaF (aK fun Wy Wz WA Xc=> ?_);obtain⟨o,WB⟩:∃j,j=WX.Y:=⟨_,rfl⟩
 rw[<-WB] at Wz;have WY:cY s.Y Wy o y n D 0 [] M (av):=⟨W.C (X.Y) WA,Wz,.al,ay.al _,(fun e=>by cases e),(fun e=>by cases e),(fun e=>by cases e),Z,Z,Z⟩;have WC:ad s.Y s Wy:=X.d WA;have⟨WD,WE⟩:=aO (pc d D m);rw[<-WE];refine aW a WB.symm @Sp.{0} @Tb.{0} ?_;refine aZ.w (fun z f t=>∃(p:Sh) (P:Se Sk) (A:Sg),ny d D m z p P=WD/\8*D.length<p+z/\P.length<=m/\cY s.Y t o y n D p P M A/\ad s.Y s t/\s.Y<=t.Y/\f.e=36/\f.N 7=fc o)
  (fun z f t=>z= .bF/\f.e=36/\∃B q E,f.N 4=B/\f.N 5=q/\f.N 6=E/\Bg s (.tuple #[B,q,E]) t WD)
  (k:=d) ⟨0,[],_,WE.symm,Z,Th _,WY,WC,WC.Y,V a,aa⟩ ?_ ?_
 rotate_left
 ·clear a T U f;rintro z f t ⟨rfl,a,B,q,E,WZ,W0,W1,W2⟩;refine eo a WZ W0 W1 @Tryz.results114 ?_;exact W2
 rintro Xd WG z f t ⟨p,P,A,b,Xe,F,g,WH,WI,a,G⟩;have Xf:=g.cD.mu;obtain⟨H,rfl⟩:∃H,z=H+1:=⟨z-1,Z⟩
 rw[ny] at b;refine aq a G ((aaE Q s.Y t o y n D P p m d M S A g WI WU F Z WV).b fun R c r=> ?_);cases u:lI d D m p P with
 |error e=>
  rw[u] at r b;obtain⟨W3,⟨q,rfl⟩,h⟩:=r;refine aW a @ct @cu (Z:¬(e:Sj)=0) ?_;exact WG _ _ _ ⟨rfl,V a,_,_,_,aa,aa,aa,by rw[<-b];exact⟨rfl,WH.a h⟩⟩
 |ok W4=>
 have⟨K,WJ,W5⟩:=W4;rw[u] at r b;obtain⟨rfl,WK,i,W6⟩:=r;dsimp only at b;have Xg:=Jp u F;have h:=WH.a (W6.A g.mT g.cD.n.2.2.1 g.cD.n.2.2.2.1 g.Q WI);have WL:s.Y<=c.Y:=h.Y;by_cases WM:K=1;rotate_left
 ·have W7:¬((K:Sh):Sj)=1:=Z;rw[So WM] at b;refine aW a @ct @cu W7 ?_;exact aH H Z ⟨WJ,W5,WK,b,Z,(A4 u F).2.1,i,h,WL,V a,V G⟩
 rw[Sr WM] at b;refine aW a @ct @cu (SQ (Z:((K:Sh):Sj)=1)) ?_;have⟨L,WN⟩:=aO (fun j=>decide (j<c.Y):Sh->Bool);have W8:∀j,L j=true->j<c.Y:=by
  intro j v;rw[WN] at v;exact of_decide_eq_true v
 have WO:∀j,j<c.Y->L j=true:=fun j v=>by rw[WN];exact Sm v
 have WQ:=ad.aS c 0;have Xh:(aS c 0).Y=c.Y+0:=gg _ _;have l:=i.C WL WQ;have⟨WR,Xi,Xj,O,Xk⟩:=l.cD;have W3:=O.l;refine LB.kQ.hx L W8 1 0 cW cW ?_;refine jG a G @jQ @rK @qs (l.F.o jP 0 4) (l.F.o cJ 2 4) (O.F.o u6 0 4) (LA.D WO i.F.n) (LA.D WO i.cD.n.1) i.br.m ((x0 s.Y (aS c 0) n D WR O.iO).b ?_);rintro _ W9 ⟨rfl,WS⟩;rw[WS];clear WS W9
 refine⟨fun _=>LA.dU.p _ _,?_⟩
 try simp(disch:=omega)only[aI,↓SH,aI,↓SH]
 exact WG _ _ _ ⟨rfl,V a,_,_,_,aa,aa,aa,by rw[<-b];exact⟨WK,by rw[(Z:WR=(WJ+7)/8)],l.br,l.Q,h.d WQ⟩⟩
end Go.Proofs.YtgpmffbleaphkaaGreat
namespace Go.Cl.Nf
open Go.Cl.Fx Go.Cl.Sto
theorem qz {D:Se Sk}{p n e:Sh}(h:dh D p n= .error e):0<e:=by
 unfold dh at h;split at h<;>cases h
 decide
theorem pq {D:Se Sk}{a:Se Sh}{p e:Sh}(h:dS D a p= .error e):0<e:=by
 rcases IY h with h|h<;>omega
theorem JQ {M b:Sh}:∀{n:Sh} {P:Se Sk} {e:Sh},h5 M b n P= .error e->0<e
 |0,P,e,h=>by cases h
 |n+1,P,e,h=>by
  unfold h5 at h;split at h
  ·cases h;decide
  exact JQ h
theorem JR {D:Se Sk}{M:Sh}:∀{k a:Sh} {P:Se Sk} {e:Sh},jN D M k a P= .error e->0<e
 |0,a,P,e,h=>by cases h
 |a+1,b,P,e,h=>by
  unfold jN at h
  repeat' split at h
  all_goals first|(cases h<;>decide)|exact JR h
theorem aaH {D:Se Sk}{M p:Sh}{P:Se Sk}{e:Sh}(h:jO D M p P= .error e):0<e:=by
 unfold jO at h
 repeat' split at h
 all_goals first|(cases h<;>first|decide|exact qz ‹_›|exact pq ‹_›)|exact JR h
theorem aaI {D:Se Sk}{M:Sh}{B:Se Sh}{s p:Sh}{P:Se Sk}{e:Sh}(h:nx D M B s p P= .error e):0<e:=by
 unfold nx at h
 repeat' split at h
 all_goals first|(cases h<;>first|decide|exact qz ‹_›|exact pq ‹_›|exact JQ ‹_›)
theorem JS {D:Se Sk}{M:Sh}{A B:Se Sh}:∀{k p:Sh} {P:Se Sk} {e:Sh},iP D M A B k p P= .error e->0<e
 |0,p,P,e,h=>by cases h;decide
 |a+1,p,P,e,h=>by
  unfold iP at h
  repeat' split at h
  all_goals first|(cases h<;>first|decide|exact pq ‹_›|exact aaI ‹_›)|exact JS h
theorem aaJ {D:Se Sk}{p e:Sh}(h:mf D p= .error e):0<e:=by
 unfold mf at h
 repeat' split at h
 all_goals first|(cases h<;>first|decide|exact qz ‹_›|exact pq ‹_›)
theorem JT {D:Se Sk}:∀{r:Se Sh} {p:Sh} {o:Se Sh} {e:Sh},lG D r p o= .error e->0<e
 |[],p,o,e,h=>by cases h
 |i::r,p,o,e,h=>by
  unfold lG at h;split at h
  ·cases h;exact qz ‹_›
  exact JT h
theorem aaK {D:Se Sk}{s p:Sh}{l:Se Sh}{e:Sh}(h:mN D s p l= .error e):0<e:=by
 unfold mN at h
 repeat' split at h
 all_goals first|(cases h<;>first|decide|exact qz ‹_›|exact pq ‹_›)
theorem JU {D:Se Sk}{a:Se Sh}{b:Sh}:∀{k p:Sh} {l:Se Sh} {e:Sh},hI D a b k p l= .error e->0<e
 |0,p,l,e,h=>by cases h;decide
 |a+1,p,l,e,h=>by
  unfold hI at h
  repeat' split at h
  all_goals first|(cases h<;>first|decide|exact pq ‹_›|exact aaK ‹_›)|exact JU h
theorem aaL {a:Sh}{D:Se Sk}{p e:Sh}(h:lH a D p= .error e):0<e:=by
 unfold lH at h
 repeat' split at h
 all_goals first|(cases h<;>first|decide|exact qz ‹_›|exact pq ‹_›|exact aaJ ‹_›|exact JT ‹_›|exact JU ‹_›)
theorem aaM {a:Sh}{D:Se Sk}{M b p:Sh}{P:Se Sk}{e:Sh}(h:hJ a D M b p P= .error e):0<e:=by
 unfold hJ at h
 repeat' split at h
 all_goals first|(cases h<;>first|decide|exact qz ‹_›|exact pq ‹_›|exact aaL ‹_›)|exact aaH h|exact JS h
theorem aaN {a:Sh}{D:Se Sk}{M p:Sh}{P:Se Sk}{e:Sh}(h:lI a D M p P= .error e):0<e:=by
 unfold lI at h
 repeat' split at h
 all_goals first|(cases h<;>first|decide|exact qz ‹_›|exact pq ‹_›|exact aaM ‹_›)
theorem JV {a:Sh}{D:Se Sk}{M:Sh}:∀{k p:Sh} {P:Se Sk} {e:Sh},ny a D M k p P= .error e->0<e
 |0,p,P,e,h=>by cases h;decide
 |a+1,p,P,e,h=>by
  unfold ny at h
  repeat' split at h
  all_goals first|(cases h<;>first|decide|exact aaN ‹_›)|exact JV h
theorem JW {a:Sh}{D:Se Sk}{M e:Sh}(h:pc a D M= .error e):0<e:=JV h
def vk (a b:Sh):Prop:=a%16≠8\/7<a/16\/(a*256+b)%31≠0\/b/32%2≠0
instance (a b:Sh):Decidable (vk a b):=by unfold vk;infer_instance
def mU (a:Sh)(D:Se Sk)(M:Sh):Tf Sh (Sh×Se Sk):=
 if D.length<2 then .error 2
 else if vk (D.getD 0 0).toNat (D.getD 1 0).toNat then .error 4
 else match pc a (D.drop 2) M with
  | .error e=> .error e
  | .ok (q,P)=>if D.length<2+(q+7)/8+4 then .error 2 else if gW ((D.drop (2+(q+7)/8)).take 4)=kc P then .ok (2+(q+7)/8+4,P) else .error 10
theorem aaO {a:Sh}{D:Se Sk}{M n:Sh}{P:Se Sk}(h:mU a D M= .ok (n,P)):P.length<=M:=by
 unfold mU at h
 repeat' split at h
 all_goals first|(cases h;done)|(cases h;exact(A5 ‹_›).2)
def JX (s:J)(v:Sg)(a:J):Tf Sh (Sh×Se Sk)->Prop
 | .ok (n,P)=>∃o,v= .tuple #[o,I (n:Sh),I 0]/\ao a 1 o P.length (aM P)/\ay s.Y o/\ad s.Y s a
 | .error e=>v= .tuple #[av,I 0,I (e:Sh)]/\ad s.Y s a
theorem yj {k:IntKind}{n m:Sh}(a:n<2^k.bits)(b:m<2^k.bits):(Sv k.bits (n:Sj)&&&Sv k.bits (m:Sj)).toNat=n&&&m:=by
 rw[BitVec.toNat_and,S2,S2,S4,S4,S7 a,S7 b]
theorem AG (n:Sh):n&&&15=n%16:=Nat.and_two_pow_sub_one_eq_mod n 4
theorem JY (n:Sh):n&&&32=n/32%2*32:=by
 have a:n.testBit 5=decide (n/2^5%2=1):=Nat.testBit_eq_decide_div_mod_eq;rw[show(2:Sh)^5=32 from rfl] at a;apply Nat.eq_of_testBit_eq;intro i;rw[Nat.testBit_and,show(32:Sh)=2^5 from rfl,S3,show(2:Sh)^5=32 from rfl];rcases Nat.mod_two_eq_zero_or_one (n/32) with h|h<;>rw[h] at a|-
 ·rw[Nat.zero_mul,Nat.zero_testBit];by_cases c:5=i
  ·subst c;rw[a];rfl
  rw[Si c,Bool.and_false]
 rw[Nat.one_mul,show(32:Sh)=2^5 from rfl,S3];by_cases c:5=i
 ·subst c;rw[a];rfl
 rw[Si c,Bool.and_false]
theorem aaP {n:Sh}(h:n<65536):SR.wrap (((Sv SR.bits (n:Sj)&&&Sv SR.bits 15).toNat:Sh):Sj)=((n%16:Sh):Sj):=by
 rw[show(15:Sj)=((15:Sh):Sj) from rfl,yj (SD h ai) ai,AG,cg Z]
theorem aaQ {n:Sh}(h:n<65536):SR.wrap (((Sv SR.bits (n:Sj)&&&Sv SR.bits 32).toNat:Sh):Sj)=((n/32%2*32:Sh):Sj):=by
 rw[show(32:Sj)=((32:Sh):Sj) from rfl,yj (SD h ai) ai,JY,cg Z]
theorem JZ {n:Sh}(h:n<256):Sz.wrap (n:Sj)=(n:Sj):=by
 have a:Sz.bits=8:=rfl;have b:Sz.signed=false:=rfl;simp only[IntKind.wrap,a,b,Bool.false_and];simp;omega
theorem vl {n:Sh}(h:n<256):Sz.wrap (((Sv Sz.bits (n:Sj)&&&Sv Sz.bits 15).toNat:Sh):Sj)=((n%16:Sh):Sj):=by
 rw[show(15:Sj)=((15:Sh):Sj) from rfl,yj (SD h ai) ai,AG,JZ Z]
theorem J0 {n:Sh}(h:n<256):Sz.wrap (((Sv Sz.bits (n:Sj)&&&Sv Sz.bits 32).toNat:Sh):Sj)=((n/32%2*32:Sh):Sj):=by
 rw[show(32:Sj)=((32:Sh):Sj) from rfl,yj (SD h ai) ai,JY,JZ Z]
end Go.Cl.Nf
namespace Go.Proofs.YtgpmffbleaphkaaGreat
open Go.Cl
theorem aaR (b:Sh)(s:J)(i:Sh)(h:Sg)(l:Se Sk)(p:Sh)(k:Sj)(c:qo b s i h l p)(w:b<=s.Y):
  Runs Sf aw 115 [eS i,I k] s fun v j=>v= .bool (decide (0<=k/\k<=l.length))/\qo b j i h l (if 0<=k/\k<=l.length then k.toNat else p)/\aF (eS i) s j:=by
 refine Runs.cS 24 Tryz.func115 rfl fun x a d e=> ?_
 have⟨m,f,n,y⟩:=id c;have o:=m.o cJ 0 3;by_cases g:k<0
 ·refine e8 a d e (kK SE) g @S1 ?_;rw[So Z];exact⟨by rw[Si Z],c,Sn _,fun _ _ _=>rfl⟩
 by_cases q:(l.length:Sj)<k
 ·refine pS a d e (kK SE) g q @u2 o (f.c.g Sl) @S1 ?_;rw[So Z];exact⟨by rw[Si Z],c,Sn _,fun _ _ _=>rfl⟩
 refine gY a d e (kK SE) g q @u2 @s9 o (f.c.g Sl) ?_;refine db aQ m rfl aA rfl ?_;intro z u r t;refine bO a @S1 ?_;rw[Sr Z];refine⟨by rw[Sm Z],⟨?_,f.A (ad.f r t n),n,Z⟩,aF.f r t⟩;have:((k.toNat:Sh):Sj)=k:=Z;rw[this];exact u
theorem aaS (a:Sh)(s:J)(i:Sh)(l:Se Sk)(p:Sh)(k:Sj)(b:im a s i l p)(e:a<=s.Y):
  Runs Sf aw 115 [eS i,I k] s fun v c=>v= .bool (decide (0<=k/\k<=l.length))/\im a c i l (if 0<=k/\k<=l.length then k.toNat else p)/\aF (eS i) s c:=by
 have⟨d,b⟩:=b;refine(aaR a s i d l p k b e).b ?_;rintro v c ⟨f,g,h⟩;exact⟨f,⟨d,g⟩,h⟩
theorem Bp (s:J)(x:Sg)(l:Se Sk)(b:az s 1 x l.length (aM l))(m:l.length<=4294967296):
  Runs Sf aw 58 [x] s fun v d=>kR s v d l:=by
 refine Runs.dZ 8 Tryz.func58 rfl fun n a=> ?_
 refine aq a (b.uh Sl) (sj (fun h=> ?_) (fun h=> ?_))
 ·have⟨e,_,_⟩:=b.zA h;have:l=[]:=List.eq_nil_of_length_eq_zero e;subst this;refine bO a @Te ?_;exact⟨.al,ay.al _,ad.p _ _⟩
 simp(disch:=omega)only[aI,bC,wC Sl bw dN rfl rfl];refine du (by rfl) ?_;intro o p f g c;refine ax a (hv Sl Sl (.inl ⟨_,rfl⟩) bw jg dN rfl f (b.C c).X (by simp[pO]) ai (ug _) Z Z g c.Y fun q r i j k _ _=> ?_);refine bO a @Te ?_;exact⟨by simpa using i,j,c.a k⟩
def mh (l:Se Sk)(p:Sh)(k:Sj):Se Sk:=if 0<=k/\k<=(l.length-p:Sh) then(l.drop p).take k.toNat else []
def yk (b:Sh)(s:J)(i:Sh)(c:Sg)(l:Se Sk)(p:Sh)(k:Sj)(v:Sg)(a:J):Prop:=
 ∃B,v= .tuple #[B,.bool (decide (0<=k/\k<=(l.length-p:Sh)))]/\ao a 1 B (mh l p k).length (aM (mh l p k))/\ay s.Y B/\qo b a i c l (if 0<=k/\k<=(l.length-p:Sh) then p+k.toNat else p)/\aF (eS i) s a
theorem aaT (e:Sh)(s:J)(i:Sh)(g:Sg)(l:Se Sk)(p:Sh)(k:Sj)(o:qo e s i g l p)(O:e<=s.Y)(P:l.length<=4294967296):
  Runs Sf aw 143 [eS i,I k] s (yk e s i g l p k):=by
 refine Runs.cS 44 Tryz.func143 rfl fun f a q h=> ?_
 have y:∀(f:an),f.e=44->f.N 4=av->f.N 5= .bool false->¬(0<=k/\k<=(l.length-p:Sh))->eW Sf (Tryz.f143).results.toList (yk e s i g l p k) .bF f s:=by
  intro f a Q R r;refine b0 a Q R @Tc ?_;unfold yk mh;rw[So r,So r,Si r];exact⟨_,rfl,.al,ay.al _,o,Sn _,fun _ _ _=>rfl⟩
 by_cases z:k<0
 ·refine bp a q h (kK SE) z ?_;exact y _ (V a) aa aa Z
 refine bp a q h (kK SE) z ((AV e s i l p ⟨g,o⟩ P).b ?_);rintro _ S ⟨rfl,T⟩;subst T;by_cases D:((l.length-p:Sh):Sj)<k
 ·refine aq a D ?_;exact y _ (V a) aa aa Z
 have⟨b,t,E,Wy⟩:=id o;have Wz:=b.o cJ 0 3;have WA:=b.o aB 1 3;refine aq a D (LB.T 1 0 fun F U G _ j WB=> ?_);have u:=t.c.C j;have H:=u.q6 (a:=p) (b:=p+k.toNat) (by omega) (by omega);rw[show p+k.toNat-p=k.toNat by omega] at H;simp(disch:=omega)only[aI,bD,fi,dy,Nat.sub_self,bB,eU,Sw,SA,↓SH,a,q,h,u2,s9,((fun k=>LA.hT (A:=F) (i:=i) (G _ b.n)):∀k,LA.c4 F (some (ab i k 3))=true),LA.NM t.c G,((b.C j).B cJ (a:=0) (c:=3) rfl (by simp)),((b.C j).B aB (a:=1) (c:=3) rfl (by simp)),u.m,cg,u.E2 Sl bw,(show((p:Sj)+k).toNat=p+k.toNat by omega)];refine(Bp _ _ _ H (by rw[SO,SB];omega)).b ?_;rintro B WC ⟨K,m,d⟩;refine⟨fun _=>LA.ar.R U (d.q Z),?_⟩;have m:ay S.Y B:=fun n v=>ag (m n v)
 have d:=j.d d;have L:=b.C d;refine bp a h @s9 (L.o aB 1 3) K.m ?_;refine db aQ L rfl aA rfl ?_;intro WD W M w;refine bO a @Tc ?_;unfold yk mh;rw[Sr Z,Sr Z,Sm Z];refine⟨B,rfl,K.f M w ((fun x=>bq (m i x) b.n):ak B≠some i),m,⟨?_,t.A ((d.q O).a (ad.f M w E)),E,Z⟩,⟨ag d.Y,fun n v X=> ?_⟩⟩
 ·have:((p+k.toNat:Sh):Sj)=(p:Sj)+k:=Z;rw[this];exact W
 rw[w n (fun x=>X (by rw[x];rfl)),d.N n v]
theorem aaU (s:J)(x:Sg)(l:Se Sk)(a:az s 1 x l.length (aM l))(c:l.length<=7):
  Runs Sf aw 94 [x] s fun v b=>v=I (gW l)/\b=s:=by
 refine Runs.ey 20 Tryz.func94 rfl fun f b c=> ?_
 refine ax b ?_;refine aZ.eO (fun q f d=>∃i:Sh,q=l.length-i/\i<=l.length/\f.e=20/\f.N 0=x/\f.N 3=I (gW (l.take i))/\f.N 4=I i/\d=s) ⟨0,rfl,Z,V b,V c,aa,aa,rfl⟩ ?_;rintro q f s ⟨i,rfl,b,b,c,e,f,rfl⟩;by_cases d:i<l.length
 ·have g:gW (l.take i)<4503599627370496:=F1 (by rw[SO];omega);have g:=(l.getD i 0).toNat_lt;refine nS b c e f d (a.g Sl) @FZ (a.pY Sl bw) (a.pX de) @dn (dH S8 SP) @j4 @F0 (show gW (l.take i)*256+(l.getD i 0).toNat=gW (l.take (i+1)) by rw[sB d,zF]) ?_;refine aH (l.length-(i+1)) Z ⟨i+1,rfl,Z,V b,V c,aa,aa,rfl⟩
 refine fS b c e f d (a.g Sl) @Tryz.results94 ?_;rw[SK Z]
def aaV (b:Sh)(s:J)(i:Sh)(l:Se Sk)(p:Sh)(k:Sj)(v:Sg)(a:J):Prop:=
 v= .tuple #[I (if 1<=k/\k<=7 then gW (mh l p k) else 0),.bool (decide (1<=k/\k<=7/\k<=(l.length-p:Sh)))]/\im b a i l (if 1<=k/\k<=7/\k<=(l.length-p:Sh) then p+k.toNat else p)/\aF (eS i) s a
def Bq (b:Sh)(s:J)(i:Sh)(c:Sg)(l:Se Sk)(p:Sh)(k:Sj)(v:Sg)(a:J):Prop:=
 v= .tuple #[I (if 1<=k/\k<=7 then gW (mh l p k) else 0),.bool (decide (1<=k/\k<=7/\k<=(l.length-p:Sh)))]/\qo b a i c l (if 1<=k/\k<=7/\k<=(l.length-p:Sh) then p+k.toNat else p)/\aF (eS i) s a
theorem aaW (b:Sh)(s:J)(i:Sh)(c:Sg)(l:Se Sk)(p:Sh)(k:Sj)(r:qo b s i c l p)(E:b<=s.Y)(F:l.length<=4294967296):
  Runs Sf aw 113 [eS i,I k] s (Bq b s i c l p k):=by
 refine Runs.cS 37 Tryz.func113 rfl fun f a G e=> ?_
 have t:∀(f:an),f.e=37->f.N 4=I 0->f.N 5= .bool false->¬(1<=k/\k<=7)->eW Sf (Tryz.f113).results.toList (Bq b s i c l p k) .bF f s:=by
  intro f a H K g;refine b0 a H K @Td ?_;unfold Bq;rw[So g,So (fun h=>g ⟨h.1,h.2.1⟩),Si (fun h=>g ⟨h.1,h.2.1⟩)];exact⟨rfl,r,Sn _,fun _ _ _=>rfl⟩
 by_cases m:k<1
 ·refine aR a e m ?_;exact t _ (V a) aa aa Z
 by_cases u:7<k
 ·refine aW a e m u ?_;exact t _ (V a) aa aa Z
 refine bp a G e m u ((aaT b s i c l p k r E F).b ?_);rintro _ v ⟨M,rfl,d,Q,w,O⟩;have⟨L,n⟩:=aO (mh l p k);have R:L.length<=7:=by rw[n];unfold mh;split<;>simp;omega
 rw[<-n] at d;simp(disch:=omega)only[aI,bB,Sw,SA,↓SH,a,bm,List.getElem?_toArray,List.getElem?_cons_zero,List.getElem?_cons_succ,d.c.cd Sl];refine aZ.eO (fun x f P=>∃j:Sh,x=L.length-j/\j<=L.length/\f.e=37/\f.N 7= .bool (decide (0<=k/\k<=(l.length-p:Sh)))/\f.N 8=I (gW (L.take j))/\f.N 23=M/\f.N 24=I L.length/\f.N 25=I j/\P=v) ⟨0,rfl,Z,V a,aa,aa,aa,aa,aa,rfl⟩ ?_;rintro x f v ⟨j,rfl,S,a,y,z,A,o,B,rfl⟩;by_cases q:j<L.length
 ·have T:gW (L.take j)<4503599627370496:=F1 (by rw[SO];omega);have U:=(L.getD j 0).toNat_lt;refine nS a z A o B q @FZ (d.c.pY Sl bw) (d.c.pX de) @dn (dH S8 SP) @j4 @F0 (show gW (L.take j)*256+(L.getD j 0).toNat=gW (L.take (j+1)) by rw[sB q,zF]) ?_;refine aH (L.length-(j+1)) Z ⟨j+1,rfl,Z,V a,V y,aa,V A,V o,aa,rfl⟩
 refine fS a y z o B q @Td ?_;rw[SK Z];have D:(0<=k/\k<=(l.length-p:Sh))↔(1<=k/\k<=7/\k<=(l.length-p:Sh)):=Z;refine⟨?_,?_,O⟩
 ·rw[Sr Z,n,decide_eq_decide.mpr D]
 simp only[D] at w;exact w
theorem J1 (a:Sh)(s:J)(i:Sh)(l:Se Sk)(p:Sh)(k:Sj)(b:im a s i l p)(d:a<=s.Y)(e:l.length<=4294967296):
  Runs Sf aw 113 [eS i,I k] s (aaV a s i l p k):=by
 have⟨c,b⟩:=b;refine(aaW a s i c l p k b d e).b ?_;rintro v j ⟨f,g,h⟩;exact⟨f,⟨c,g⟩,h⟩
end Go.Proofs.YtgpmffbleaphkaaGreat
namespace Go.Proofs.YtgpmffbleaphkaaGreat
open Go.Cl Go.Cl.Rw Go.Cl.Sto Go.Cl.Fx Go.Cl.Nf Go.Cl.Bt
theorem tm (n:Sh):((n:Sj)).tmod 31=((n%31:Sh):Sj):=by rw[Int.tmod_eq_emod_of_nonneg Z];omega
theorem aaX {D:Se Sk}(h:2<=D.length):gW (mh D 0 2)=(D.getD 0 0).toNat*256+(D.getD 1 0).toNat:=by
 match D,h with
 |a::b::r,_=>
  have:mh (a::b::r) 0 2=[a,b]:=by
   unfold mh;rw[Sr (by simp only[Sp];omega)];rfl
  rw[this];simp[gW]
theorem J2 {s:J}{x:Sg}{D:Se Sk}(a:az s 1 x D.length (aM D))(h:2<=D.length):az s 1 (cU 1 x 2 D.length) (D.drop 2).length (aM (D.drop 2)):=by
 have k:=a.q6 (a:=2) (b:=D.length) h (Sn _);rw[SK (by rw[SB];exact Sn _)] at k;exact k
theorem aaY (P:Program)(t:TypeId)(a:IntKind)(n:Sh){k:Sh}(h:k<8):bN P .shr t (.int .u8 (n:Sj)) (.int a (k:Sh))=some (.int .u8 ((n/2^k:Sh):Sj)):=by
 rw[nc P t .u8 _ _ a Z];have e:min ((k:Sh):Sj).toNat Sz.bits=k:=by
  have:Sz.bits=8:=rfl;rw[this,Sx];omega
 rw[e,Av]
theorem aaZ:jq aw:=by
 intro g a;have:=List.all_eq_true.1 (show(Jt.all fun b=>(aw.M b).isNone)=true by rfl) g (by simpa using a);exact Option.isNone_iff_eq_none.1 this
theorem aa0 (s:J)(B:Sg)(D:Se Sk)(m:Sh)(W:az s 1 B D.length (aM D))(Xk:D.length<=4000000)(M:Sj)(WW:M<=100000000)(Xl:8*D.length+1<m):
  Runs Sf aw 81 [B,I M] s fun v WX=>JX s v WX (mU m D M.toNat):=by
 refine Runs.ef 78 Tryz.func81 rfl fun Xm b=> ?_
 refine ax b ((AU s.Y s B D W.bT (Sn _)).b ?_);rintro _ X ⟨rfl,WY,WZ,Xn⟩;obtain⟨g,Wy⟩:∃o,o=s.Y:=⟨_,rfl⟩
 rw[<-Wy];have E:ay s.Y (eS g):=kd Z;refine ax b ((J1 s.Y X g D 0 2 (show im s.Y X g D 0 by rw[Wy];exact WY) Z Z).b ?_);rintro v Wz ⟨c,F,W0⟩;have h:ad s.Y s Wz:=WZ.a (W0.C E Z);have WA:=W.C h;have⟨Xo,a⟩:=aO (mU m D M.toNat);rw[<-a];unfold mU at a;by_cases WB:D.length<2
 ·rw[Sr WB] at a;rw[Si Z] at c;subst c;refine nR b @ct @cu @St ?_;rw[a];exact⟨rfl,h⟩
 rw[So WB] at a;rw[Sr ai,aaX Z,Sm Z] at c;generalize (if(1:Sj)<=2/\(2:Sj)<=7/\(2:Sj)<=((D.length-0:Sh):Sj) then 0+(2:Sj).toNat else 0)=WC at F;have W1:=(D.getD 0 0).toNat_lt;have W2:=(D.getD 1 0).toNat_lt;generalize (D.getD 0 0).toNat=d at c W1 a;generalize (D.getD 1 0).toNat=p at c W2 a;subst c;have⟨w,WD⟩:=aO (d*256+p);rw[<-WD];have i:bN Sf .shr 3 (I (w:Sh)) (.int .u64 8)=some (I (d:Sh)):=by
  have q:=HU Sf 3 .u64 w (k:=8) ai;rw[show w/2^8=d from Z] at q;exact q
 have u:bN Sf .shr 3 (I (w:Sh)) (.int .u64 12)=some (I ((d/16:Sh):Sj)):=by
  have q:=HU Sf 3 .u64 w (k:=12) ai;rw[show w/2^12=d/16 from Z] at q;exact q
 have r:=aaP (n:=d) Z;have G:=aaQ (n:=w) Z;rw[show w/32%2=p/32%2 from Z] at G;by_cases W3:d%16=8;rotate_left
 ·have l:¬((d%16:Sh):Sj)=8:=Z;rw[Sr (.inl W3)] at a;refine sx b @ct @cu i @jc r l @St ?_;rw[a];exact⟨rfl,h⟩
 have l:((d%16:Sh):Sj)=8:=Z;by_cases W4:7<d/16
 ·have t:((d/16:Sh):Sj)>7:=Z;rw[Sr (.inr (.inl W4))] at a;refine F4 b @ct @cu i u @jc r l (SQ t) @St ?_;rw[a];exact⟨rfl,h⟩
 have t:¬((d/16:Sh):Sj)>7:=Z;by_cases W5:w%31=0;rotate_left
 ·have x:¬((w%31:Sh):Sj)=0:=Z;rw[Sr (.inr (.inr (.inl (by rw[<-WD];exact W5))))] at a;refine NC b @ct @cu i u @jc r l t @gy @tm x @St ?_;rw[a];exact⟨rfl,h⟩
 have x:((w%31:Sh):Sj)=0:=Z;by_cases W6:p/32%2=0;rotate_left
 ·have W7:¬((p/32%2*32:Sh):Sj)=0:=Z;rw[Sr (.inr (.inr (.inr W6)))] at a;simp(disch:=omega)only[b,aI,bD,cO,b6,Sw,SA,↓SH,ct,cu,i,u,jc,r,G,l,Ti t,gy,tm,x,Ti W7,St];rw[a];exact⟨rfl,h⟩
 rw[So (by unfold vk;omega)] at a;simp(disch:=omega)only[b,aI,bD,bB,eU,Sw,SA,↓SH,ct,cu,i,u,jc,r,G,l,Ti t,gy,tm,x,(Z:((p/32%2*32:Sh):Sj)=0),WA.oJ Sl bw];refine(Bp Wz _ (D.drop 2) (J2 WA Z) (by rw[SB];omega)).b ?_;rintro W8 W9 ⟨Xa,Xp,H⟩;have y:=h.d H;refine c0 b ((aaG aaZ W9 W8 (D.drop 2) m Xa.c (by rw[SB];omega) M WW (by rw[SB];omega)).b fun v K z=> ?_);cases e:pc m (D.drop 2) M.toNat with
 |error j=>
  rw[e] at z a;obtain⟨rfl,A⟩:=z;have Xq:=JW e;refine rf b @uO @uP @uQ (Z:¬((j:Sh):Sj)=0) @St ?_;rw[a];exact⟨rfl,y.d A⟩
 |ok Xb=>
 have⟨Xc,P⟩:=Xb;rw[e] at z;obtain⟨L,rfl,Xd,WE,A⟩:=z;have WG:ad s.Y s K:=y.d A;have WH:=A5 e;rw[SB] at WH;have⟨f,Xe⟩:=aO ((Xc+7)/8);rw[e] at a;dsimp only at a;rw[<-Xe] at a|-
 have WI:=WG.Y;have WJ:ak L≠some g:=fun j=>qG (WE _ j) F.choose_spec.1.n H.Y
 refine gX b @uO @uP @uQ (Z:(2:Sj)+(f:Sh)=((2+f:Sh):Sj)) ((aaS s.Y K g D WC _ ((F.C h.Y H).C y.Y A:im s.Y K g D WC) WI).b ?_);rintro _ WK ⟨rfl,WL,WM⟩;rw[Sr Z,Sx] at WL;have O:ad s.Y s WK:=WG.a (WM.C E WI);refine c0 b ((J1 s.Y WK g D (2+f) 4 WL O.Y Z).b ?_);rintro v Xf ⟨c,WN,WO⟩;have WQ:=(Xd.j WM (fun o e j=>WJ (e.trans j.symm))).j WO (fun o e j=>WJ (e.trans j.symm));have Q:ad s.Y s Xf:=O.a (WO.C E O.Y);by_cases WR:D.length<2+f+4
 ·rw[Sr WR] at a;rw[Si Z] at c;subst c;refine nR b @ct @cu @St ?_;rw[a];exact⟨rfl,Q⟩
 rw[So WR] at a;have Xg:mh D (2+f) 4=(D.drop (2+f)).take 4:=by
  unfold mh;rw[Sr Z];rfl
 rw[Sr ai,Xg,Sm Z] at c;rw[Sr Z,show(4:Sj).toNat=4 from rfl] at WN;have R:=zG ((D.drop (2+f)).take 4) _ rfl;have R:gW ((D.drop (2+f)).take 4)<4294967296:=SD R (Sy (Nat.pow_le_pow_right ai (show((D.drop (2+f)).take 4).length<=4 by rw[SO];omega)) (by decide:256^4<=4294967296));generalize gW ((D.drop (2+f)).take 4)=S at R c a;subst c;have Xr:=AB P;have⟨Xs,Xt,Xu,T⟩:=aT.Qd WQ.c;refine eC b @ct @cu (dH SP Tryz.underlying125) @qh T @Qf (du rfl fun Xh Xi WS Xv U=> ?_);rw[<-T] at WS;have WT:=WQ.C U;simp(disch:=omega)only[b,aI,bD,bB,Sw,↓SH,<-T];refine(Qc Xi Xh L P WS.c WT.c (ag WH.2)).b ?_;rintro _ i ⟨rfl,rfl⟩;have WU:=Q.d U;by_cases WV:S=kc P;rotate_left
 ·have Xj:¬((S:Sh):Sj)=((kc P:Sh):Sj):=Z;rw[So WV] at a;refine re b Xj @St ?_;rw[a];exact⟨rfl,WU⟩
 rw[Sr WV] at a;refine e6 b (Z:((S:Sh):Sj)=((kc P:Sh):Sj)) ((x0 s.Y i g D (2+f+4) (WN.C Q.Y U)).b ?_);rintro _ Xw ⟨rfl,rfl⟩;refine oR b @St ?_;rw[a];exact⟨L,rfl,WT,fun o e=>bq (WE o e) y.Y,WU⟩
end Go.Proofs.YtgpmffbleaphkaaGreat
namespace Go.Cl.Lz
theorem aa1 (c:Se Sk)(a:Sh):∀(k p:Sh) (T:Se (Se Sk)) (L b:Se Sk),b.length<=a->(cb c a k p T L b).2.length<=a:=by
 intro a
 induction a with
 |zero=>intro p T L a h;simpa [cb] using h
 |succ b a=>
  intro p T L b h;rw[cb];split
  ·simp
  split
  ·exact h
  split
  ·exact a _ _ _ _ h
  split
  ·simp
  split
  ·simp
  exact a _ _ _ _ (by rw[Ss];omega)
theorem aa2 (b:Se Sk)(a:Sh):(o6 b a).2.length<=a:=aa1 b a _ _ _ _ _ (Th _)
end Go.Cl.Lz
namespace Go.Cl.Ch
open Go.Cl.Pr Go.Cl.Hx Go.Cl.B85
def qA:Sh:=2000000
theorem J3:qA=2000000:=rfl
attribute [irreducible] qA
def J4:Tf Sh (Sh×Se Sk)->Se Sk×Sj
 | .ok r=>(r.2,0)
 | .error e=>([],((e:Sh):Sj))
def mi (b:Se Sk)(a:Sj):Se Sk×Sj:=J4 (Nf.mU (8*b.length+qA) b a.toNat)
def ou (b:Se Sk)(a:Sj):Se Sk×Sj:=((Lz.o6 b a.toNat).2,(((Lz.o6 b a.toNat).1:Sh):Sj))
def hj (l:bz)(r:Se Sk×Sj):Se Sk×Sj:=if r.2≠0 then([],r.2) else ik l.dd l.fV l.fW r.1
def mV (m:Sj):Sj:=if m<0 then 0 else m
theorem Br (b:Se Sk)(a:Sj):(mi b a).1.length<=a.toNat:=by
 unfold mi;cases h:Nf.mU (8*b.length+qA) b a.toNat with
 |error e=>simp[J4]
 |ok r=>have⟨n,P⟩:=r;exact Nf.aaO h
theorem Bs (b:Se Sk)(a:Sj):(ou b a).1.length<=a.toNat:=Lz.aa2 b _
end Go.Cl.Ch
namespace Go.Proofs.YtgpmffbleaphkaaGreat
open Go.Cl Go.Cl.Pr Go.Cl.Ch Go.Cl.Hx Go.Cl.B85 Go.Cl.Uh
def fe (l:bz)(b:Se Sk)(a:Sj):Se Sk×Sj:=
 if l.dW=l4 then hj l (mi b a) else if l.dW=l5 then hj l (ou b a)
 else if l.dW=l7 then gm (mV a) b (-1) [] else if l.dW=l8 then dP (mV a) b [] []
 else Runs.cb a b []
theorem iM.qB {s a:J}{l:Se Sk}{b:Sj}{v:Sg}(h:iM s.Y s l b v a):rD s (l,b) v a:=by
 obtain⟨B,rfl,c,d,e⟩:=h;exact⟨B,rfl,⟨c,d,e⟩⟩
theorem aa3 (A:J)(l:bz)(x:Sg)(b:Se Sk)(a:Sj)(WB:az A 1 x b.length (aM b))(WC:b.length<=4000000)(WD:a<=20000000):
  Runs Sf aw 63 [da l,x,I a] A (rD A (fe l b a)):=by
 refine Runs.gZ fun WI p=> ?_
 refine Runs.oU 56 Tryz.func63 rfl fun WJ d=> ?_
 refine ax d (aK fun h Q s WK=> ?_);have Q:ae h A.Y l.aJ:=Q;have G:l.aJ.length+1=6:=rfl;have H:=WB.C s;have WL:=s.Y;have K:aD Sf h 9 (ab A.Y 3 6)=some (.string ⟨l.dW.toArray⟩):=Q.B uI (a:=3) (c:=6) rfl (by simp[bz.aJ]);have Wz:∀S,ad h.Y h S->aD Sf S 97 (ab A.Y 0 6)=some (er l.dd l.fV l.fW):=fun S m=>by
  have:=ae.ka Ao xE (Q.C m) (a:=0) (c:=6) rfl (by simp[bz.aJ]);rw[this];rfl
 have n:=ie (P:=Sf) (t:=9) l.dW l4;have u:=ie (P:=Sf) (t:=9) l.dW l5;have B:=ie (P:=Sf) (t:=9) l.dW l7;have L:=ie (P:=Sf) (t:=9) l.dW l8;rw[show l4.toArray= #[70,108,97,116,101,68,101,99,111,100,101] from rfl] at n;rw[show l5.toArray= #[76,90,87,68,101,99,111,100,101] from rfl] at u;rw[show l7.toArray= #[65,83,67,73,73,72,101,120,68,101,99,111,100,101] from rfl] at B;rw[show l8.toArray= #[65,83,67,73,73,56,53,68,101,99,111,100,101] from rfl] at L;by_cases v:l.dW=l4
 ·rw[Sm v] at n;have g:fe l b a=hj l (mi b a):=by unfold fe;rw[Sr v]
  have T:=Br b a;refine bp d G @sT K n ?_;have r:=aa0 h x b (8*b.length+qA) H Z a Z (by rw[J3];omega);refine r.b ?_;intro D o f;have f:∃w E,D= .tuple #[w,I E,I (mi b a).2]/\kR h w o (mi b a).1:=by
   unfold mi;cases m:Nf.mU (8*b.length+qA) b a.toNat with
   |error WM=>rw[m] at f;obtain⟨rfl,U⟩:=f;exact⟨_,_,rfl,⟨.al,ay.al _,U⟩⟩
   |ok r=>rw[m] at f;obtain⟨WN,rfl,WE,WG,U⟩:=f;exact⟨_,_,rfl,⟨WE,WG,U⟩⟩
  obtain⟨w,E,rfl,e⟩:=f;generalize mi b a=r at T e g;have i:bm (.tuple #[w,I E,I r.2]) 0=some w:=rfl;have j:bm (.tuple #[w,I E,I r.2]) 1=some (I E):=rfl;have WA:bm (.tuple #[w,I E,I r.2]) 2=some (I r.2):=rfl;have M:=s.d e.A;by_cases k:r.2=0;rotate_left
  ·have y:hj l r=([],r.2):=by unfold hj;rw[Sr k]
   refine pR d i j WA @eQ @SJ (Si k) SC ?_;rw[p,g,y];exact⟨_,rfl,⟨.al,ay.al _,M⟩⟩
  have y:hj l r=ik l.dd l.fV l.fW r.1:=by unfold hj;rw[So (fun m=>m k)]
  refine cX d i j WA @eQ @SJ (Sm k) @o5 (Wz _ e.A) ((Im Ic o l.dd l.fV l.fW w r.1 e.br.c Z).b ?_);rintro _ WH ⟨z,rfl,W⟩;have X:∀q,bm (.tuple #[z,q]) 0=some z:=fun _=>rfl
  have Wy:∀q,bm (.tuple #[z,q]) 1=some q:=fun _=>rfl
  refine b0 d X Wy SC ?_;rw[p,g,y];exact⟨z,rfl,W.od M⟩
 rw[Si v] at n;by_cases F:l.dW=l5
 ·rw[Sm F] at u;have g:fe l b a=hj l (ou b a):=by unfold fe;rw[So v,Sr F]
  have T:=Bs b a;refine cl d G @sT K n u ((Rd h x b a H WC (.inl WD)).b fun D o f=> ?_);obtain⟨w,rfl,e⟩:∃w,D= .tuple #[w,I (ou b a).2]/\kR h w o (ou b a).1:=iM.qB f
  generalize ou b a=r at T e g;have i:bm (.tuple #[w,I r.2]) 0=some w:=rfl;have j:bm (.tuple #[w,I r.2]) 1=some (I r.2):=rfl;have M:=s.d e.A;by_cases k:r.2=0;rotate_left
  ·have y:hj l r=([],r.2):=by unfold hj;rw[Sr k]
   refine fS d i j @eQ @SJ (Si k) SC ?_;rw[p,g,y];exact⟨_,rfl,⟨.al,ay.al _,M⟩⟩
  have y:hj l r=ik l.dd l.fV l.fW r.1:=by unfold hj;rw[So (fun m=>m k)]
  refine c1 d i j @eQ @SJ (Sm k) @o5 (Wz _ e.A) ((Im Ic o l.dd l.fV l.fW w r.1 e.br.c Z).b ?_);rintro _ WH ⟨z,rfl,W⟩;have X:∀q,bm (.tuple #[z,q]) 0=some z:=fun _=>rfl
  have Wy:∀q,bm (.tuple #[z,q]) 1=some q:=fun _=>rfl
  refine b0 d X Wy SC ?_;rw[p,g,y];exact⟨z,rfl,W.od M⟩
 rw[Si F] at u;by_cases O:l.dW=l7
 ·rw[Sm O] at B;have g:fe l b a=gm (mV a) b (-1) []:=by unfold fe;rw[So v,So F,Sr O]
  refine ch d G @sT K n u B ((Rp h x b a (mV a) rfl H Z Z).b fun D o f=> ?_);obtain⟨w,rfl,e⟩:=iM.qB f;have i:∀z,bm (.tuple #[w,z]) 0=some w:=fun _=>rfl
  have j:∀z,bm (.tuple #[w,z]) 1=some z:=fun _=>rfl
  refine b0 d i j SC ?_;rw[p,g];exact⟨w,rfl,e.od s⟩
 rw[Si O] at B;by_cases R:l.dW=l8
 ·rw[Sm R] at L;have g:fe l b a=dP (mV a) b [] []:=by unfold fe;rw[So v,So F,So O,Sr R]
  refine c1 d G @sT K n u B L ((Rt h x b a (mV a) rfl H Z Z).b fun D o f=> ?_);obtain⟨w,rfl,e⟩:=iM.qB f;have i:∀z,bm (.tuple #[w,z]) 0=some w:=fun _=>rfl
  have j:∀z,bm (.tuple #[w,z]) 1=some z:=fun _=>rfl
  refine b0 d i j SC ?_;rw[p,g];exact⟨w,rfl,e.od s⟩
 rw[Si R] at L;have g:fe l b a=Runs.cb a b []:=by unfold fe;rw[So v,So F,So O,So R]
 refine c1 d G @sT K n u B L ((Ru h x b a H Z).b fun D o f=> ?_);obtain⟨w,rfl,e⟩:=iM.qB f;have i:∀z,bm (.tuple #[w,z]) 0=some w:=fun _=>rfl
 have j:∀z,bm (.tuple #[w,z]) 1=some z:=fun _=>rfl
 refine b0 d i j SC ?_;rw[p,g];exact⟨w,rfl,e.od s⟩
end Go.Proofs.YtgpmffbleaphkaaGreat
namespace Go.Proofs.YtgpmffbleaphkaaGreat
open Go.Cl Go.Cl.Pr Go.Cl.Ch
def lK:Se bz->Se Sk->Sj->Se Sk×Sj
 |[],b,_=>(b,0)
 |l::r,b,m=>if(fe l b m).2≠0 then([],(fe l b m).2) else lK r (fe l b m).1 m
def qC:Se bz->Se Sk->Sj->Prop
 |[],_,_=>True
 |l::r,b,m=>b.length<=4000000/\((fe l b m).2=0->qC r (fe l b m).1 m)
def js (o:O)(m:Sj):Se Sk×Sj:=
 if(fk o).2≠0 then([],(fk o).2) else if¬∀l∈(fk o).1,l.dW∈iL then([],11) else lK (fk o).1 o.cj m
theorem aa4 (W8:Sh->Prop)(s:J)(WA:Se Sg)(o:O)(WO:aE W8 s WA o)(W9:bd o)(m:Sj)(Xm:m<=20000000)(Xa:(fk o).1.length<=1000)(WB:qC (fk o).1 o.cj m):
  Runs Sf aw 45 [.agg WA.toArray,I m] s (rD s (js o m)):=by
 have Xb:=WO.aG;refine Runs.gZ fun X3 WC=> ?_
 refine Runs.cS 52 Tryz.func45 rfl fun f a Xc d=> ?_
 have WD:=Tryz.underlying94;have Xd:bK Sf 99=some (da ⟨0,0,0,[],0⟩):=by kernel_rfl
 have Xe:cp (da ⟨0,0,0,[],0⟩)=true:=by kernel_rfl
 have Xf:(⟨0,0,0,[],0⟩:bz).aJ.length+1=6:=rfl;refine aq a Xc (aK fun Xn Xg WQ X4=> ?_);have X5:=WQ.Y;refine aR a Xb (ah.L Xg Xb) ((QI W8 Xn WA o (WO.C WQ) W9).b ?_);have⟨R,Xh⟩:=aO (fk o);have h:js o m=if R.2≠0 then([],R.2) else if¬∀l∈R.1,l.dW∈iL then([],11) else lK R.1 o.cj m:=by unfold js;rw[<-Xh]
 rw[<-Xh] at WB Xa|-
 have⟨L,WE⟩:=R;dsimp only at h WB Xa;rintro _ D ⟨y,rfl,WG,X6,WR⟩;dsimp only at WG|-
 have X7:=WR.Y;have WS:=WQ.d WR;have K:bm (.tuple #[y,I WE]) 0=some y:=rfl;have M:bm (.tuple #[y,I WE]) 1=some (I WE):=rfl;by_cases WH:WE=0;rotate_left
 ·refine fS a K M @eQ @SJ (Si WH) @SX ?_;rw[WC,h,Sr WH];exact⟨_,rfl,⟨.al,ay.al _,WS⟩⟩
 rw[So (fun p=>p WH)] at h;refine ch a K M @eQ @SJ (Sm WH) (WG.c.g WD) ?_;refine aZ.w (fun q f t=>∃i:Sh,q=L.length-i/\i<=L.length/\(∀l∈L.take i,l.dW∈iL)/\ad D.Y D t/\f.e=52/\f.N 1=I m/\f.N 2=ab s.Y 0 6/\f.N 6=y/\f.N 21=y/\f.N 22=I (L.length:Sh)/\f.N 23=I (i:Sh))
  (fun q f t=>(q= .bF/\(¬∀l∈L,l.dW∈iL)/\ad D.Y D t/\f.e=52/\f.N 4=av/\f.N 5=I 11)\/(q= .bb 0/\(∀l∈L,l.dW∈iL)/\ad D.Y D t/\f.e=52/\f.N 1=I m/\f.N 2=ab s.Y 0 6/\f.N 6=y))
  ⟨0,rfl,Z,aA,ad.p _ _,V a,V d,aa,aa,aa,aa,aa⟩ ?_ ?_
 ·clear a Xc d f;rintro Xo P q f t ⟨i,rfl,Xp,Q,b,a,d,S,T,Xi,WT,WU⟩;have Xq:=b.Y;by_cases j:i<L.length;rotate_left
  ·obtain rfl:i=L.length:=Z;rw[S9] at Q;refine aW a WT WU (Z:¬((L.length:Sh):Sj)<((L.length:Sh):Sj)) ?_;exact P _ _ _ (.inr ⟨rfl,Q,b,V a,V d,V S,V T⟩)
  have n:=WG.C b;have U:=n.c.r (k:= .i64) (x:=(i:Sj)) WD fy Z Z;rw[Sx] at U;have r:=n.c.dm l9 fy j;rw[xM j] at r;have⟨l,E⟩:=aO (L[i]);rw[<-E] at r;refine cX a Xi WT WU (SQ (Z:(i:Sj)<(L.length:Sj))) U r Xd Xe (aK fun Xr WV W Xs=> ?_);refine aq a Xf (bh fy ai WV rfl rfl rfl rfl fun w WW Xt WX=> ?_);have Xu:=W.Y;have F:=W.a ⟨Z,fun A X=>WX A Z⟩;have WY:aD Sf w 99 (ab t.Y 0 6)=some (da l):=ae.y (a:=l.aJ) l9 fy (WW:ae w t.Y l.aJ) (c:=6) rfl;refine aq a WY ((Qo w l).b ?_);rintro _ Xv ⟨rfl,Xw⟩;have Wy:=(b.d F).a (Xw.q (ag F.Y));by_cases WI:l.dW∈iL;rotate_left
  ·rw[Si WI];refine c0 a ?_;exact P _ _ _ (.inl ⟨rfl,fun p=>WI (p l (by rw[E];exact S0 j)),Wy,V a,aa,aa⟩)
  rw[Sm WI];refine e6 a WU ?_;refine aH (L.length-(i+1)) Z ⟨i+1,rfl,Z,fun Xx G=> ?_,Wy,V a,V d,V S,V T,V Xi,V WT,aa⟩;rw[List.take_succ_eq_append_getElem j,<-E] at G;rcases SG.1 G with G|G
  ·exact Q Xx G
  rw[SF.1 G];exact WI
 rintro _ f t (⟨rfl,Xy,b,a,WZ,W0⟩|⟨rfl,Q,b,a,d,S,T⟩)
 ·refine b0 a WZ W0 @SX ?_;rw[WC,h,Sr Xy];exact⟨_,rfl,⟨.al,ay.al _,WS.d b⟩⟩
 rw[So (fun p=>p Q)] at h;have Xq:=b.Y;have W1:=WS.d b;obtain⟨B,Xz,XW,X8⟩:∃B,WA.getD 2 undef=B/\az s 1 B o.cj.length (aM o.cj)/\o.cj.length<=100000000:=by
  cases o with
  |au X9 Ya Xj l Yb=>obtain⟨B,Yc,Yd,Ye,Yf,rfl,d,-⟩:=WO.ea;exact⟨B,rfl,d,by cases W9 with|au XX=>exact XX⟩
 have XY:aD Sf t 22 (ab s.Y 2 6)=some B:=by
  have:=((Xg.C WR).C b).B cJ (a:=2) (c:=6) Z Z;rw[this,Xz]
 refine aW a S @c8 XY ((Bp t B o.cj (XW.C W1) Z).b fun XZ H WJ=> ?_);have W2:=WJ.A;have n:=WG.C (b.d W2);obtain⟨WK,X0⟩:∃Xj,Xj=o.cj:=⟨_,rfl⟩
 rw[<-X0] at WJ h WB;have Yg:=W2.Y;have W3:=W1.d W2;refine aR a T (n.c.g WD) ?_;refine aZ.w (fun q f u=>∃(i:Sh) (v:Sg) (e:Se Sk) (z:Sj),q=L.length-i/\i<=L.length/\lK L WK m=lK (L.drop i) e m/\qC (L.drop i) e m/\ao u 1 v e.length (aM e)/\ay s.Y v/\ad H.Y H u/\f.e=52/\f.N 1=I m/\f.N 10=v/\f.N 34=y/\f.N 35=I (L.length:Sh)/\f.N 36=I (i:Sh))
  (fun q f u=>(q= .bF/\∃z:Sj,lK L WK m=([],z)/\ad H.Y H u/\f.e=52/\f.N 4=av/\f.N 5=I z)\/(q= .bb 2/\∃v e,lK L WK m=(e,0)/\ao u 1 v e.length (aM e)/\ay s.Y v/\ad H.Y H u/\f.e=52/\f.N 10=v))
  ⟨0,XZ,WK,0,rfl,Z,rfl,WB,WJ.br,fun A X=>bq (WJ.Q A X) W1.Y,ad.p _ _,V a,V d,aa,aa,aa,aa⟩ ?_ ?_
 ·clear a d S T f;rintro Xo P q f u ⟨i,v,e,_,rfl,Xp,g,Xk,WL,W4,b,a,d,WM,Xl,W5,W6⟩;have Yh:=b.Y;by_cases j:i<L.length;rotate_left
  ·obtain rfl:i=L.length:=Z;rw[List.drop_length] at g;refine aW a W5 W6 (Z:¬((L.length:Sh):Sj)<((L.length:Sh):Sj)) ?_;exact P _ _ _ (.inr ⟨rfl,v,e,g,WL,W4,b,V a,V WM⟩)
  have n:=n.C b;have U:=n.c.r (k:= .i64) (x:=(i:Sj)) WD fy Z Z;rw[Sx] at U;have r:=n.c.dm l9 fy j;rw[xM j] at r;have⟨l,E⟩:=aO (L[i]);rw[<-E] at r;rw[(show L.drop i=l::L.drop (i+1) by rw[List.drop_eq_getElem_cons j,E])] at g Xk;have⟨X1,X2⟩:=Xk;refine cX a Xl W5 W6 (SQ (Z:(i:Sj)<(L.length:Sj))) U r Xd Xe (aK fun Xr WV W Xs=> ?_);refine aq a Xf (bh fy ai WV rfl rfl rfl rfl fun w WW Xt WX=> ?_);have Xu:=W.Y;have F:=W.a ⟨Z,fun A X=>WX A Z⟩;have WY:aD Sf w 99 (ab u.Y 0 6)=some (da l):=ae.y (a:=l.aJ) l9 fy (WW:ae w u.Y l.aJ) (c:=6) rfl;refine aW a d WM WY ((aa3 w l v e m (WL.C F).c X1 Xm).b ?_);rintro _ Xv ⟨WN,rfl,W7⟩;have K:∀z,bm (.tuple #[WN,z]) 0=some WN:=fun _=>rfl
  have M:∀z,bm (.tuple #[WN,z]) 1=some z:=fun _=>rfl
  have Yi:=F.Y;have Wy:=(b.d F).a ((W7.A).q Z);simp only[lK] at g;by_cases Wz:(fe l e m).2=0;rotate_left
  ·rw[Sr Wz] at g;refine ib a K M @eQ @SJ (Si Wz) ?_;exact P _ _ _ (.inl ⟨rfl,_,g,Wy,V a,aa,aa⟩)
  rw[So (fun p=>p Wz)] at g;refine eC a W6 K M @eQ @SJ (Sm Wz) ?_;refine aH (L.length-(i+1)) Z ⟨i+1,WN,_,0,rfl,Z,g,X2 Wz,W7.br,fun A X=>bq (W7.Q A X) W3.Y,Wy,V a,V d,aa,V Xl,V W5,aa⟩
 rintro _ f u (⟨rfl,z,g,b,a,WZ,W0⟩|⟨rfl,v,e,g,WL,W4,b,a,WM⟩)
 ·rw[g] at h;refine b0 a WZ W0 @SX ?_;rw[WC,h];exact⟨_,rfl,⟨.al,ay.al _,W3.d b⟩⟩
 rw[g] at h;refine bS a WM @SX ?_;rw[WC,h];exact⟨v,rfl,⟨WL,W4,W3.d b⟩⟩
end Go.Proofs.YtgpmffbleaphkaaGreat
namespace Go.Cl
inductive c5 (D:Se (Sj×O)):Sh->Se Sj->Se Sj->Se Sj->Prop
 |l1 (l:Se Sj):c5 D 0 [] l l
 |e3 (k:Sh) (n:Sj) (st l r:Se Sj) (h:(cC D n).2=false\/n∈l) (w:c5 D k st l r):c5 D (k+1) (n::st) l r
 |jR (k:Sh) (n:Sj) (st l r:Se Sj) (h1:(cC D n).2=true) (h2:n∉l) (w:c5 D k (bG (cC D n).1++st) (l++[n]) r):c5 D (k+1) (n::st) l r
theorem c5.rU {D:Se (Sj×O)}{k:Sh}{a l r:Se Sj}(h:c5 D k a l r):a.length<=k:=by
 induction h with
 |l1=>exact Sn _
 |e3 a n b l r _ _ c=>rw[Sp];omega
 |jR b n c l r _ _ _ a=>rw[Ss] at a;rw[Sp];omega
theorem c5.hR {D:Se (Sj×O)}{k:Sh}{a l r:Se Sj}(h:c5 D k a l r):l.length<=r.length/\r.length<=l.length+k:=by
 induction h with
 |l1=>exact⟨Sn _,Sn _⟩
 |e3 a n b l r _ _ c=>omega
 |jR b n c l r _ _ _ a=>rw[Ss,SM] at a;omega
theorem c5.J5 {D:Se (Sj×O)}{k:Sh}{a l r:Se Sj}(h:c5 D k a l r):∀{c:Sh} {b:Se Sj},c5 D c a l b->r=b:=by
 induction h with
 |l1 l=>intro a a a;cases a;rfl
 |e3 a n c l r h w b=>
  intro a a a;cases a with
  |e3 _ _ _ _ _ _ a=>exact b a
  |jR _ _ _ _ _ b c a=>
   rcases h with h|h
   ·rw[h] at b;cases b
   exact S5 h c
 |jR e n f l r b c w d=>
  intro e e e;cases e with
  |e3 _ _ _ _ _ h a=>
   rcases h with h|h
   ·rw[h] at b;cases b
   exact S5 h c
  |jR _ _ _ _ _ _ _ a=>exact d a
theorem rV {D:Se (Sj×O)}{n:Sj}(h:(cC D n).2=true):∃e∈D,e.1=n/\(cC D n).1=e.2:=by
 unfold cC at h|-
 cases a:D.find? (fun e=>e.1==n) with
 |none=>rw[a] at h;cases h
 |some e=>
  exact⟨e,(List.mem_of_find?_eq_some a),by simpa using(List.find?_some a),rfl⟩
def vm (D:Se (Sj×O))(l:Se Sj):Sh:=(D.filter fun e=>decide (e.1∉l)).length
theorem J6 {D:Se (Sj×O)}{l:Se Sj}{n:Sj}(c:∃e∈D,e.1=n)(g:n∉l):vm D (l++[n])<vm D l:=by
 unfold vm
 induction D with
 |nil=>obtain⟨e,h,-⟩:=c;cases h
 |cons e D h=>
  have i:∀a:Se (Sj×O),(a.filter fun b=>decide (b.1∉l++[n])).length<=(a.filter fun a=>decide (a.1∉l)).length:=by
   intro a
   induction a with
   |nil=>exact Sn _
   |cons d a f=>
    simp only[Ta];by_cases b:d.1∈l
    ·rw[So (by simp[b]),So (by simp[b])];exact f
    by_cases a:d.1=n
    ·rw[So (by simp[a]),Sr (by simp[b])];rw[Sp];omega
    rw[Sr (by simp[b,a]),Sr (by simp[b])];simpa using f
  simp only[Ta];by_cases a:e.1=n
  ·have b:e.1∉l:=by rw[a];exact g
   rw[So (by simp[a]),Sr (by simp[b])];rw[Sp];have:=i D;omega
  have d:∃b∈D,b.1=n:=by
   have⟨f,g,b⟩:=c;rcases SI.1 g with rfl|c
   ·exact S5 b a
   exact⟨f,c,b⟩
  have:=h d;by_cases b:e.1∈l
  ·rw[So (by simp[b]),So (by simp[b])];exact this
  rw[Sr (by simp[b,a]),Sr (by simp[b])];simpa using this
theorem aa5 {a:Se (Sj×O)}{B:Sh}(i:∀e∈a,(bG e.2).length<=B):∀(m:Sh) (l:Se Sj),vm a l<=m->∀b:Se Sj,∃k r,c5 a k b l r/\k<=b.length+m*(B+1):=by
 intro m
 induction m with
 |zero=>
  intro l b b
  induction b with
  |nil=>exact⟨0,l,.l1 l,aA⟩
  |cons b d e=>
   have⟨c,r,h,f⟩:=e;refine⟨c+1,r,.e3 c b d l r ?_ h,by rw[Sp];omega⟩;by_cases c:(cC a b).2=false
   ·exact .inl c
   by_cases d:b∈l
   ·exact .inr d
   obtain⟨e,f,g,-⟩:=rV (D:=a) (n:=b) (by simpa using c);have:=J6 ⟨e,f,g⟩ d;omega
 |succ m j=>
  intro l b b
  induction b with
  |nil=>exact⟨0,l,.l1 l,aA⟩
  |cons b c f=>
   by_cases d:(cC a b).2=false\/b∈l
   ·have⟨e,r,h,g⟩:=f;exact⟨e+1,r,.e3 e b c l r d h,by rw[Sp];omega⟩
   have e:(cC a b).2=true:=by
    cases f:(cC a b).2 with
    |true=>rfl
    |false=>exact S5 (.inl f) d
   have f:b∉l:=fun h=>d (.inr h)
   have⟨d,g,h,m⟩:=rV e;have o:=J6 ⟨d,g,h⟩ f;have⟨h,r,o,p⟩:=j (l++[b]) Z (bG (cC a b).1++c);refine⟨h+1,r,.jR h b c l r e f o,?_⟩;have a:=i d g;rw[<-m] at a;rw[Ss] at p;rw[Sp,Nat.add_mul];omega
noncomputable def ow (D:Se (Sj×O))(T l:Se Sj):Se Sj:=T++l.flatMap fun n=>bG (cC D n).1
structure Bu (D:Se (Sj×O)) (T l:Se Sj):Prop where
 kg:l.Nodup
 kr:∀n∈l,(cC D n).2=true
 aa6:∀i (h:i<l.length),l[i]∈ow D T (l.take i)
theorem J7 (D:Se (Sj×O))(T l:Se Sj)(n:Sj):ow D T (l++[n])=ow D T l++bG (cC D n).1:=by
 unfold ow;simp
theorem c5.aa7 {D:Se (Sj×O)}{T:Se Sj}{k:Sh}{a l r:Se Sj}(h:c5 D k a l r):Bu D T l->(∀c∈a,c∈ow D T l)->(∀n∈ow D T l,(cC D n).2=true->n∈l\/n∈a)->Bu D T r/\∀b∈ow D T r,(cC D b).2=true->b∈r:=by
 induction h with
 |l1 l=>intro a _ c;exact⟨a,fun n a b=>(c n a b).elim id (fun h=>by cases h)⟩
 |e3 c n d l r h w a=>
  intro c d e;refine a c (fun m a=>d m (SS _ a)) (fun m a b=> ?_);rcases e m a b with c|d
  ·exact .inl c
  rcases SI.1 d with rfl|c
  ·rcases h with h|h
   ·rw[h] at b;cases b
   exact .inl h
  exact .inr c
 |jR c n e l r f g w d=>
  intro c e h;refine d ⟨?_,?_,?_⟩ ?_ ?_
  ·rw[List.nodup_append];refine⟨c.kg,aA,fun j i m d=> ?_⟩;rw[SF] at d;subst d;intro d;subst d;exact g i
  ·intro m a;rcases SG.1 a with a|a
   ·exact c.kr m a
   rw[SF] at a;subst a;exact f
  ·intro i f;by_cases d:i<l.length
   ·rw[SZ d,SU (Nat.le_of_lt d)];exact c.aa6 i d
   have:i=l.length:=by rw[Ss,SM] at f;omega
   subst this;rw[SU (Sn _),S9]
   simpa using e n (S6 ..)
  ·intro m a;rw[J7];rcases SG.1 a with a|a
   ·exact SN _ a
   exact SV _ (e m (SS _ a))
  intro m a b;rw[J7] at a;rcases SG.1 a with a|a
  ·rcases h m a b with b|c
   ·exact .inl (SV _ b)
   rcases SI.1 c with rfl|b
   ·exact .inl (SN _ (SF.2 rfl))
   exact .inr (SN _ b)
  exact .inr (SV _ a)
theorem k7 {D:Se (Sj×O)}{T:Se Sj}{k:Sh}{r:Se Sj}(h:c5 D k T [] r):Bu D T r/\∀n∈ow D T r,(cC D n).2=true->n∈r:=
 h.aa7 ⟨List.nodup_nil,fun n h=>(by cases h),fun i h=>by simp at h⟩ (fun n a=>by unfold ow;simpa using a) (fun n a _=> .inr (by unfold ow at a;simpa using a))
structure ks (D:Se (Sj×O)) (i:Sh) (T:Se (Sj×Sg)):Prop where
 pr:∀n v,eF n T=some v->∃(j:Sh) (h:j<D.length),j<i/\v=I (j:Sh)/\D[j].1=n/\∀j' (h' :j' <D.length),j' <j->D[j'].1≠n
 ck:∀n,eF n T=Option.none->∀j (h:j<D.length),j<i->D[j].1≠n
theorem ks.jA (D:Se (Sj×O)):ks D 0 []:=⟨fun n v h=>(by cases h),fun n _ j _ h=>Z⟩
theorem ks.aa8 {D:Se (Sj×O)}{i:Sh}{T:Se (Sj×Sg)}(h:ks D i T)(m:i<D.length)(a:(eF D[i].1 T).isSome=true):ks D (i+1) T:=by
 refine⟨fun n v c=> ?_,fun d b j e o=> ?_⟩
 ·have⟨f,g,p,k⟩:=h.pr n v c;exact⟨f,g,Z,k⟩
 by_cases l:j=i
 ·subst l;intro q;rw[q,b] at a;cases a
 exact h.ck d b j e Z
theorem ks.x {D:Se (Sj×O)}{i:Sh}{T:Se (Sj×Sg)}(h:ks D i T)(d:i<D.length)(f:eF D[i].1 T=Option.none):ks D (i+1) (kU D[i].1 (I (i:Sh)) T):=by
 refine⟨fun n v a=> ?_,fun n b j c p=> ?_⟩
 ·rw[sJ] at a;split at a
  ·rename_i e;injection a with a;subst e;exact⟨i,d,Z,a.symm,rfl,fun g k l=>h.ck _ f g k l⟩
  have⟨j,c,r,m⟩:=h.pr n v a;exact⟨j,c,Z,m⟩
 rw[sJ] at b;split at b
 ·cases b
 rename_i e;by_cases o:j=i
 ·subst o;exact fun q=>e q.symm
 exact h.ck n b j c Z
theorem ks.J8 {D:Se (Sj×O)}{T:Se (Sj×Sg)}(h:ks D D.length T){n:Sj}(a:(cC D n).2=true):∃(j:Sh) (b:j<D.length),eF n T=Option.some (I (j:Sh))/\cC D n=(D[j].2,true):=by
 cases b:eF n T with
 |none=>
  have:=Hr (fun j c=>h.ck n b j c c);rw[this] at a;cases a
 |some v=>
  obtain⟨j,a,-,rfl,c,d⟩:=h.pr n v b;exact⟨j,a,rfl,Ak a c (fun c b=>d c (Tg b a) b)⟩
structure iS (l:Se Sj) (T:Se (Sj×Sg)):Prop where
 pr:∀n v,eF n T=some v->∃(j:Sh) (h:j<l.length),l[j]=n/\v=I ((j+1:Sh):Sj)
 ck:∀n,eF n T=Option.none->n∉l
theorem iS.jA:iS [] []:=⟨fun n v h=>(by cases h),fun n _ h=>(by cases h)⟩
theorem iS.hB {l:Se Sj}{T:Se (Sj×Sg)}(h:iS l T)(n:Sj):iS (l++[n]) (kU n (I ((l.length+1:Sh):Sj)) T):=by
 refine⟨fun m v a=> ?_,fun m b=> ?_⟩
 ·rw[sJ] at a;split at a
  ·rename_i e;injection a with a;subst e;exact⟨l.length,aA,aA,a.symm⟩
  have⟨j,c,d,f⟩:=h.pr m v a;exact⟨j,by rw[Ss];omega,by rw[SZ c];exact d,f⟩
 rw[sJ] at b;split at b
 ·cases b
 rename_i e;rw[SG,SF];exact fun q=>q.elim (h.ck m b) e
theorem iS.kT {l:Se Sj}{T:Se (Sj×Sg)}(h:iS l T)(n:Sj):(eF n T).isSome=decide (n∈l):=by
 cases a:eF n T with
 |none=>rw[Si (h.ck n a)];rfl
 |some v=>
  obtain⟨j,b,c,-⟩:=h.pr n v a;rw[Sm (c▸S0 b)];rfl
theorem yl (s:J):∃a,s.x (.cv [])=a/\fu a s.Y []/\ad s.Y s a/\a.Y=s.Y+1:=by
 refine⟨_,rfl,⟨by rw[sn];omega,?_⟩,ad.x s _,rfl⟩;simp only[J.S,J.x,a5.gR _ _ _ _ (hq Z)];rfl
def mj (D:cz)(a:Sg)(b:Se Sg)(c:Sg)(d m:Sh)(e:Sg):Se Sg:=bk D a b c++[.map (some d),.map (some m),e]
structure fY (F:Sh->Prop) (base:Sh) (s:J) (w:Sh) (D:cz) (mv:Sg) (tc:Se Sg) (iv:Sg) (ic:Se Sg) (a m:Sh) (TA TM:Se (Sj×Sg)) (lv:Sg) (l:Se Sj):Prop where
 kh:c2 F s mv tc iv ic D
 bT:∀j,F j->j<base
 cG:ae s w (mj D mv tc iv a m lv)
 jS:fu s a TA
 ku:fu s m TM
 g4:ao s 1 lv l.length (df l)
 tn:base<=w
 ym:base<=a
 tp:base<=m
 tq:ay base lv
 Bv:w≠a
 yn:w≠m
 Bw:a≠m
 Bx:ak lv≠some w
 By:ak lv≠some a
 yo:ak lv≠some m
section
variable {F:Sh->Prop} {base:Sh} {s s' :J} {w:Sh} {D:cz} {mv:Sg} {tc:Se Sg} {iv:Sg} {ic:Se Sg} {a m:Sh} {TA TM:Se (Sj×Sg)} {lv:Sg} {l:Se Sj}
theorem fY.C (h:fY F base s w D mv tc iv ic a m TA TM lv l)(k:ad s.Y s s'):fY F base s' w D mv tc iv ic a m TA TM lv l:=
 {h with kh:=h.kh.C k,cG:=h.cG.C k,jS:=h.jS.C k,ku:=h.ku.C k,g4:=h.g4.C k}
theorem fY.j (h:fY F base s w D mv tc iv ic a m TA TM lv l){u:Sg}(k:aF u s s')(b:ay base u)(c:ak u≠some w)(d:ak u≠some a)(e:ak u≠some m)(f:∀i,ak lv=some i->ak u≠some i):fY F base s' w D mv tc iv ic a m TA TM lv l:=
 {h with
  kh:=h.kh.j k (fun j g n=>bq (b j n) (h.bT j g))
  cG:=h.cG.j k c
  jS:=h.jS.j k d
  ku:=h.ku.j k e
  g4:=h.g4.j k f}
end
end Go.Cl
namespace Go.Proofs.YtgpmffbleaphkaaGreat
open Go.Cl Go.Lib
theorem J9:bc Sf 60=some 1:=by kernel_rfl
theorem Ka:c3 Sf 60=some false:=by kernel_rfl
theorem aa9:c3 Sf 47=some false:=by kernel_rfl
theorem Kb:bc Sf 47=some 1:=by kernel_rfl
theorem nA:Sf.underlying 3=some (.int .i64):=SP
theorem nB:Sf.underlying 60=some (.map 3 3):=Tryz.underlying60
theorem rW:cp (I 0)=true:=by kernel_rfl
theorem aba (i o c:Sh):aY Sf 62 (ab i o c) 0=some (ab i (o+0) c):=by
 unfold aY;rw[SL];simp[mH]
theorem rX (i o c:Sh):aY Sf 62 (ab i o c) 1=some (ab i (o+9) c):=by
 unfold aY;rw[SL];simp[J9]
theorem tr (i o c:Sh):aY Sf 62 (ab i o c) 2=some (ab i (o+10) c):=by
 unfold aY;rw[SL];simp[J9]
theorem vn (i o c:Sh):aY Sf 62 (ab i o c) 3=some (ab i (o+11) c):=by
 unfold aY;rw[SL];simp[Kb]
section
variable {t:J} {i:Sh} {D:cz} {mv iv lv:Sg} {tc:Se Sg} {a m:Sh}
theorem nC (b:tc.length=5):(mj D mv tc iv a m lv).length=12:=by simp[mj,c9 b]
theorem rY (h:ae t i (mj D mv tc iv a m lv))(b:tc.length=5):aD Sf t 60 (ab i 9 13)=some (.map (some a)):=by
 have:=h.B Ka (a:=9) (c:=13) (by rw[nC b]) (by rw[nC b];omega);rw[this];obtain⟨d,e,f,g,h,rfl⟩:=kV b;rfl
theorem tt (h:ae t i (mj D mv tc iv a m lv))(b:tc.length=5):aD Sf t 60 (ab i 10 13)=some (.map (some m)):=by
 have:=h.B Ka (a:=10) (c:=13) (by rw[nC b]) (by rw[nC b];omega);rw[this];obtain⟨d,e,f,g,h,rfl⟩:=kV b;rfl
theorem yp (h:ae t i (mj D mv tc iv a m lv))(b:tc.length=5):aD Sf t 47 (ab i 11 13)=some lv:=by
 have:=h.B aa9 (a:=11) (c:=13) (by rw[nC b]) (by rw[nC b];omega);rw[this];obtain⟨d,e,f,g,h,rfl⟩:=kV b;rfl
theorem abb (h:ae t i (mj D mv tc iv a m lv))(b:tc.length=5):aD Sf t 27 (ab i 8 13)=some iv:=by
 have:=h.B Hf (a:=8) (c:=13) (by rw[nC b]) (by rw[nC b];omega);rw[this];obtain⟨d,e,f,g,h,rfl⟩:=kV b;rfl
theorem abc (c:tc.length=5)(b:Sg):eB (mj D mv tc iv a m lv) 11 [b]=mj D mv tc iv a m b:=by
 obtain⟨b,d,e,f,g,rfl⟩:=kV c;rfl
theorem abd (c:tc.length=5)(a b:Sh):cP Sf 62 [(0,.agg (bk D mv tc iv).toArray),(1,.map (some a)),(2,.map (some b))]=some (.agg (mj D mv tc iv a b (av)).toArray):=by
 obtain⟨a,b,d,e,f,rfl⟩:=kV c;kernel_rfl
end
def abe (F:Sh->Prop)(s:J)(D:cz)(c:Sg)(d:Se Sg)(e:Sg)(f:Se Sg)(v:Sg)(a:J):Prop:=
 ∃(w g m:Sh) (b:Se (Sj×Sg)),v=ab w 0 13/\fY (fun j=>F j/\j<s.Y) s.Y a w D c d e f g m b [] (av) []/\ks D.aj D.aj.length b/\ad s.Y s a
theorem abf (F:Sh->Prop)(s:J)(b:cz)(n:Sg)(p:Se Sg)(l:Sg)(w:Se Sg)(X:c2 F s n p l w b)(WT:fv b):
  Runs Sf aw 55 [.agg (bk b n p l).toArray] s (abe F s b n p l w):=by
 have q:=X.a7.aG;have Xb:=WT.aG;refine Runs.dZ 42 Tryz.func55 rfl fun g e=> ?_
 refine ax e (aK fun f P Wy Xc=> ?_);have P:ae f s.Y (bk b n p l):=P;refine aR e (c9 (D:=b) (mv:=n) (iv:=l) q) (dV P q) ?_;have⟨r,WU,WV,WG,Xd⟩:=yl f;rw[WU];have⟨v,WW,WX,Wz,Xe⟩:=yl r;rw[WW];simp(disch:=omega)only[e,aI,Sw,↓SH,abd q];refine aK ?_;intro WY WZ Q Xf;have Xg:=WG.Y;have Xh:=Wz.Y;have Xi:=Q.Y;have WA:=(WG.d Wz).a (Q.q Z);have WH:=Wy.d WA;refine bp e (nC (D:=b) (mv:=n) (iv:=l) (a:=f.Y) (m:=r.Y) (lv:=av) q) @dA (dB (P.C WA) q) ((X.aj.C WH).g SY) ?_;refine aZ.w (fun E g t=>∃(d:Sh) (h:Se (Sj×Sg)),E=b.aj.length-d/\d<=b.aj.length/\ks b.aj d h/\fY (fun j=>F j/\j<s.Y) s.Y t v.Y b n p l w f.Y r.Y h [] (av) []/\ad f.Y f t/\g.e=42/\g.N 3=ab v.Y 0 13/\g.N 14=l/\g.N 15=I (b.aj.length:Sh)/\g.N 16=I (d:Sh))
  (fun E g t=>E= .bb 0/\∃h:Se (Sj×Sg),ks b.aj b.aj.length h/\fY (fun j=>F j/\j<s.Y) s.Y t v.Y b n p l w f.Y r.Y h [] (av) []/\ad f.Y f t/\g.e=42/\g.N 3=ab v.Y 0 13)
  ⟨0,[],rfl,Z,ks.jA _,⟨X.fF.C WH,fun j WB=>WB.2,(WZ:ae WY v.Y (mj b n p l f.Y r.Y (av))),(WV.C (Wz.d Q)),(WX.C Q),.al,Z,(Wy.Y),Z,ay.al _,Z,Z,Z,(fun o=>by cases o),(fun o=>by cases o),(fun o=>by cases o)⟩,WA,V e⟩ ?_ ?_
 ·clear e g;rintro Xj W0 E g t ⟨d,h,rfl,Xk,y,z,R,e⟩;by_cases S:d<b.aj.length;rotate_left
  ·obtain rfl:d=b.aj.length:=Z;refine aq e (Z:¬((b.aj.length:Sh):Sj)<((b.aj.length:Sh):Sj)) ?_;exact W0 _ _ _ ⟨rfl,h,y,z,R,V e⟩
  have WI:=z.kh.aj;have WJ:=WI.r (k:= .i64) (x:=(d:Sj)) SY eG Z Z;rw[Sx] at WJ;have T:=z.kh.dz.H d S;have WK:=WI.dm rq eG S;generalize Xl:(w.drop (d*6)).take 6=W1 at WK T;have G:=T.aG;have W2:=T.K;have W3:xw.length+1=7:=rfl;refine cl e (SQ (Z:(d:Sj)<(b.aj.length:Sj))) WJ WK @nZ @rr (aK fun Xm W4 W5 Xn=> ?_);refine aq e W3 (bh eG ai W4 rfl rfl G W2 fun WC H Xo W6=> ?_);have H:ae WC t.Y W1:=H;have WL:=W5.a ⟨Z,fun j WD=>W6 j Z⟩;have K:=z.C WL;obtain⟨Xp,WM,-⟩:=T;have WN:aD Sf WC 3 (ab t.Y 0 7)=some (I b.aj[d].1):=by
   have:=H.B aB (a:=0) (c:=7) (by rw[G]) (by rw[G];omega);rw[this,WM];rfl
  have B:=K.jS.w7 nB nA gj rW b.aj[d].1;have WO:=R.d WL;have U:=K.cG;cases L:eF b.aj[d].1 h with
  |some Xq=>
   obtain⟨j,-,-,rfl,-⟩:=y.pr _ _ L;rw[L] at B;simp only[Option.getD_some,Option.isSome_some] at B;simp(disch:=omega)only[e,aI,Sw,SA,↓SH,rX,Aj,rY U q,WN,B,nW,w6,uA,oY,oZ,cg];exact aH (b.aj.length-(d+1)) Z ⟨d+1,h,rfl,Z,y.aa8 S (by rw[L];rfl),K,WO,V e⟩
  |none=>
   rw[L] at B;simp only[Option.getD_none,Option.isSome_none] at B;refine jG e @rX @Aj (rY U q) WN B @nW @w6 @uA @oY @oZ ?_;refine LB.T 0 0 fun WQ Xr WR _ M _=> ?_
   have W7:aD Sf (aS WC 0) 3 (ab t.Y 0 7)=some (I b.aj[d].1):=by
    have:=(H.C M).B aB (a:=0) (c:=7) (by rw[G]) (by rw[G];omega);rw[this,WM];rfl
   refine cX e @rX @Aj (rY (U.C M) q) (LA.D WR U.n) ((fun WS=>LA.hT (A:=WQ) (i:=t.Y) (WR _ H.n)):∀WS,LA.c4 WQ (some (ab t.Y WS 7))=true) W7 @ez @nW (LB.Hb nB nA (K.jS.C M) b.aj[d].1 (I (d:Sh)) (fun WB=>S5 rfl WB) fun W8 W9 WE W=> ?_);refine ax e ?_;have O:=K.C M;have Xs:=O.jS.n;have Xa:fY (fun j=>F j/\j<s.Y) s.Y W8 v.Y b n p l w f.Y r.Y (kU b.aj[d].1 (I (d:Sh)) h) [] (av) []:=
    {O with
     kh:=O.kh.j (u:=bI f.Y) (aF.f WE W) (fun j WD o=>by
      have o:some f.Y=some j:=o;injection o with o;have:=WD.2;omega)
     cG:=O.cG.f WE W Z
     jS:=W9
     ku:=O.ku.f WE W Z
     g4:= .al}
   exact aH (b.aj.length-(d+1)) Z ⟨d+1,_,rfl,Z,y.x S L,Xa,(WO.d M).a ⟨Z,fun j WD=>W j Z⟩,V e⟩
 rintro E g t ⟨rfl,h,y,z,R,e⟩;simp(disch:=omega)only[e,aI,cO,b6,Sw,↓SH,Tryz.results55];exact⟨v.Y,f.Y,r.Y,h,rfl,z,y,Wy.d R⟩
end Go.Proofs.YtgpmffbleaphkaaGreat
namespace Go.Cl
structure kv (x lv:Sg) (w a m:Sh):Prop where
 k:ak x≠some w
 yq:ak x≠some a
 vp:ak x≠some m
 vq:∀i,ak lv=some i->ak x≠some i
theorem kv.hN {x a:Sg}{w b m n:Sh}(h:∀i,ak x=some i->n<=i)(d:w<n)(e:b<n)(f:m<n)(c:∀i,ak a=some i->i<n):kv x a w b m:=
 ⟨fun e=>ag (h _ e),fun e=>ag (h _ e),fun e=>ag (h _ e),fun a b e=>bq (h _ e) (c a b)⟩
theorem kv.oH {x b c:Sg}{w d m a:Sh}(h:kv x c w d m)(e:ak b=ak x\/∃i,ak b=some i/\a<=i)(f:w<a)(g:d<a)(j:m<a)(k:∀i,ak c=some i->i<a):kv b c w d m:=by
 rcases e with e|⟨b,b,c⟩
 ·exact⟨by rw[e];exact h.k,by rw[e];exact h.yq,by rw[e];exact h.vp,by rw[e];exact h.vq⟩
 exact kv.hN (n:=a) (fun c a=>by rw[b] at a;injection a with a;omega) f g j k
theorem kv.g4 {x b a:Sg}{w c m n:Sh}(h:kv x b w c m)(d:ak a=ak b\/∃i,ak a=some i/\n<=i)(e:∀i,ak x=some i->i<n):kv x a w c m:=by
 refine⟨h.k,h.yq,h.vp,fun j a=> ?_⟩;rcases d with b|⟨c,c,d⟩
 ·exact h.vq j (by rw[<-b];exact a)
 rw[c] at a;injection a with a
 intro q;have:=e _ q;omega
section
variable {F:Sh->Prop} {base:Sh} {s s' s2 s3:J} {w:Sh} {D:cz} {mv:Sg} {tc:Se Sg} {iv:Sg} {ic:Se Sg} {a m:Sh} {TA TM:Se (Sj×Sg)} {lv HA:Sg} {l l' :Se Sj}
theorem fY.rZ {x:Sg}(h:fY F base s w D mv tc iv ic a m TA TM lv l)(k:aF x s s')(c:ay base x)(b:kv x lv w a m):fY F base s' w D mv tc iv ic a m TA TM lv l:=
 h.j k c b.k b.yq b.vp b.vq
theorem yr {i:Sh}(a:s'.Y=s.Y)(b:∀j,j≠i->s'.i.N j=s.i.N j):aF (bI i) s s' :=aF.f a b
theorem fY.dO (h:fY F base s w D mv tc iv ic a m TA TM lv l)(v:base<=s.Y)(o:ao s2 1 HA l'.length (df l'))(p:ay base HA)(d:aF lv s s2)(f:ak HA=ak lv\/∃i,ak HA=some i/\s.Y<=i)
  (r:ae s3 w (mj D mv tc iv a m HA)) (b:s3.Y=s2.Y) (c:∀j,j≠w->s3.i.N j=s2.i.N j):fY F base s3 w D mv tc iv ic a m TA TM HA l' :=by
 have k:ak HA≠some w:=by
  rcases f with e|⟨i,e,n⟩
  ·rw[e];exact h.Bx
  rw[e];intro q;injection q with q;have:=h.cG.n;omega
 have t:ak HA≠some a:=by
  rcases f with e|⟨i,e,n⟩
  ·rw[e];exact h.By
  rw[e];intro q;injection q with q;have:=h.jS.n;omega
 have u:ak HA≠some m:=by
  rcases f with e|⟨i,e,n⟩
  ·rw[e];exact h.yo
  rw[e];intro q;injection q with q;have:=h.ku.n;omega
 exact
 {kh:=(h.kh.j d (fun j g e=>bq (h.tq j e) (h.bT j g))).j (yr b c) (fun j g e=>by
  have e:some w=some j:=e;injection e with e;have:=h.bT j g;have:=h.tn;omega)
  bT:=h.bT
  cG:=r
  jS:=(h.jS.j d h.By).f b c h.Bv
  ku:=(h.ku.j d h.yo).f b c h.yn
  g4:=o.f b c k
  tn:=h.tn
  ym:=h.ym
  tp:=h.tp
  tq:=p
  Bv:=h.Bv
  yn:=h.yn
  Bw:=h.Bw
  Bx:=k
  By:=t
  yo:=u}
theorem fY.abg {d:Se (Sj×Sg)}(h:fY F base s w D mv tc iv ic a m TA TM lv l)(f:fu s' m d)(b:s'.Y=s.Y)(c:∀j,j≠m->s'.i.N j=s.i.N j):fY F base s' w D mv tc iv ic a m TA d lv l:=
 {h with
  kh:=h.kh.j (yr b c) (fun j g e=>by
   have e:some m=some j:=e;injection e with e;have:=h.bT j g;have:=h.tp;omega)
  cG:=h.cG.f b c h.yn
  jS:=h.jS.f b c h.Bw.symm
  ku:=f
  g4:=h.g4.f b c h.yo}
theorem fY.abh {G:Sh->Prop}{c:Sh}(h:fY F base s w D mv tc iv ic a m TA TM lv l)(e:∀j,F j->G j)(f:∀d,G d->d<c)(b:c<=base):fY G c s w D mv tc iv ic a m TA TM lv l:=
 {h with
  kh:=h.kh.b e
  bT:=f
  tn:=Sy b h.tn
  ym:=Sy b h.ym
  tp:=Sy b h.tp
  tq:=fun i c=>Sy b (h.tq i c)}
end
end Go.Cl
namespace Go.Proofs.YtgpmffbleaphkaaGreat
open Go.Cl Go.Lib
def abi (F:Sh->Prop)(a:Sh)(s:J)(w:Sh)(D:cz)(d:Sg)(e:Se Sg)(f:Sg)(g:Se Sg)(h m:Sh)(i:Se (Sj×Sg))(r:Se Sj)(_:Sg)(b:J):Prop:=
 ∃(c:Se (Sj×Sg)) (j:Sg),fY F a b w D d e f g h m i c j r/\iS r c/\ad a s b
theorem abj
  (WD:Sh->Prop) (m:Sh) (H:J) (w:Sh) (D:cz) (WM:Sg) (WN:Se Sg) (WO:Sg) (WQ:Se Sg) (K z:Sh) (M e:Se (Sj×Sg)) (f:Sg) (g:fY WD m H w D WM WN WO WQ K z M e f []) (s:iS [] e) (Xf:ks D.aj D.aj.length M) (WE:fv D) (W0:m<=H.Y)
  (o:Sg) (a:Se Sj) (A:ao H 1 o a.length (df a)) (WA:ay m o) (O:kv o f w K z) (W1:Sh) (P:Se Sj) (u:c5 D.aj W1 a [] P) (Yx:W1<=10000000):
  Runs Sf aw 56 [ab w 0 13,o] H (abi WD m H w D WM WN WO WQ K z M P):=by
 have p:=g.kh.a7.aG;have Yy:=WE.aG;have Xz:=u.rU;have XW:=u.hR.2;rw[Tb,Nat.zero_add] at XW;refine Runs.cS 84 Tryz.func56 rfl fun B d t q=> ?_
 refine aq d q ((Hu H o a A Z).b ?_);rintro _ Yz ⟨W2,W3⟩;have S:=W3.C WA W0;have Q:=g.rZ W3 WA O;rw[<-Su] at W2;refine ax d ?_;refine aZ.w (fun E B v=>∃(a l:Se Sj) (o:Sg) (e:Se (Sj×Sg)) (f:Sg),c5 D.aj E a l P/\E<=W1/\fY WD m v w D WM WN WO WQ K z M e f l/\iS l e/\g6 v 1 o a.length (df a.reverse)/\ay m o/\kv o f w K z/\ad m H v/\B.e=84/\B.N 0=ab w 0 13/\B.N 1=o)
  (fun E B v=>E= .bb 0/\∃(e:Se (Sj×Sg)) (f:Sg),fY WD m v w D WM WN WO WQ K z M e f P/\iS P e/\ad m H v/\B.e=84)
  ⟨a,[],o,e,f,u,Sn _,Q,s,by rw[<-Su];exact W2.uB,WA,O,S,V d,V t,V q⟩ ?_ ?_
 ·clear d t q B A WA O g s Q S W2 W3 Xz u o a e f;rintro YA XX E B v ⟨a,l,o,e,f,u,YB,g,s,A,WA,O,T,d,t,q⟩;have XY:=u.rU;have XZ:m<=v.Y:=Sy W0 T.Y;cases a with
  |nil=>
   have r:=u.J5 (c5.l1 l);subst r;have WG:¬(0:Sj)<((([]:Se Sj).length:Sh):Sj):=by simp
   refine aW d q (A.c.g Sq) WG ?_;exact XX _ _ _ ⟨rfl,e,f,g,s,T,V d⟩
  |cons n a=>
  rw[Sp] at XY;have⟨L,WR⟩:=aO a.length;have X0:(n::a).length=L+1:=by rw[Sp,WR]
  rw[X0] at A;have WG:(0:Sj)<((L+1:Sh):Sj):=Z;have X1:((L+1:Sh):Sj)-1=(L:Sj):=Z;have W4:=A.c.cd Sq (a:=v);have WS:=A.c.r (k:= .i64) (x:=((L+1:Sh):Sj)-1) Sq aQ Z Z;rw[show(((L+1:Sh):Sj)-1).toNat=L from Z] at WS;have WH:=A.c.P aB (k:=L) Z;rw[qd (by simp;omega)] at WH;have X2:(n::a).reverse[L]'(by simp;omega)=n:=by
   subst WR;simp
  rw[X2] at WH;have⟨WI,WT,WJ,WK⟩:=A.O5 Sq aQ (a:= .i64) (k:=L) Z;rw[<-X1] at WT;have X3:(df (n::a).reverse).take (L*1)=df a.reverse:=by
   subst WR;simp[df]
  rw[X3,WR] at WJ;have WU:ay m WI:=fun i h=>WA i (by rw[<-WK];exact h)
  have WB:kv WI f w K z:=⟨by rw[WK];exact O.k,by rw[WK];exact O.yq,by rw[WK];exact O.vp,by rw[WK];exact O.vq⟩;have U:=g.cG;have F:=g.jS.w7 nB nA gj rW n;have W:=g.ku.w7 nB nA gj rW n;by_cases WV:n∈l
  ·obtain⟨b,rfl,X⟩:∃b,E=b+1/\c5 D.aj b a l P:=by
    cases u with
    |e3 b _ _ _ _ y G=>exact⟨b,rfl,G⟩
    |jR b _ _ _ _ q W5 G=>exact S5 WV W5
   rw[s.kT n,Sm WV] at W;generalize (eF n e).getD (I 0)=X4 at W;generalize (eF n M).getD (I 0)=YC at F;generalize (eF n M).isSome=YD at F;refine nT d t q W4 (SQ WG) WS WH WT @rX @tr (rY U p) (tt U p) F W @oY @oZ ?_;exact aH b Z ⟨a,l,WI,e,f,X,Z,g,s,WJ,WU,WB,T,V d,V t,aa⟩
  rw[s.kT n,Si WV] at W;generalize (eF n e).getD (I 0)=X4 at W;cases WW:eF n M with
  |none=>
   rw[WW] at F;simp only[Option.getD_none,Option.isSome_none] at F;have X5:(cC D.aj n).2=false:=by
    cases X6:(cC D.aj n).2 with
    |false=>rfl
    |true=>
     obtain⟨Wy,Wz,WE,-⟩:=Xf.J8 X6;rw[WW] at WE;cases WE
   obtain⟨b,rfl,X⟩:∃b,E=b+1/\c5 D.aj b a l P:=by
    cases u with
    |e3 b _ _ _ _ y G=>exact⟨b,rfl,G⟩
    |jR b _ _ _ _ q W5 G=>rw[X5] at q;cases q
   refine nT d t q W4 (SQ WG) WS WH WT @rX @tr (rY U p) (tt U p) F W @oY @oZ ?_;exact aH b Z ⟨a,l,WI,e,f,X,Z,g,s,WJ,WU,WB,T,V d,V t,aa⟩
  |some X7=>
  obtain⟨Wy,Wz,-,rfl,X8,X9⟩:=Xf.pr n X7 WW;rw[WW] at F;simp only[Option.getD_some,Option.isSome_some] at F;have Xg:cC D.aj n=(D.aj[Wy].2,true):=Ak Wz X8 (fun Ya Xh=>X9 Ya (Tg Xh Wz) Xh);obtain⟨b,rfl,X⟩:∃b,E=b+1/\c5 D.aj b (bG D.aj[Wy].2++a) (l++[n]) P:=by
   cases u with
   |e3 b _ _ _ _ y G=>
    rcases y with y|y
    ·rw[Xg] at y;cases y
    exact S5 y WV
   |jR b _ _ _ _ q W5 G=>rw[Xg] at G;exact⟨b,rfl,G⟩
  have Yb:=X.hR.1;rw[Ss,SM] at Yb;have Yc:=X.rU;rw[Ss] at Yc;simp(disch:=omega)only[aI,bD,bB,bC,eU,Sw,SA,↓SH,d,t,q,W4,SQ WG,WS,WH,WT,rX,tr,vn,rY U p,tt U p,yp U p,F,W,oY,oZ,cg,gh Sq aQ gj];refine du rfl ?_;intro YE YF Yd YG S;have YH:=S.Y;have Q:=g.C S;refine ax d (hv Sq Sq (.inl ⟨_,rfl⟩) aQ nj gj rfl Q.g4 Yd.c.X rfl ai rfl Z Z Q.tq Z fun WX Ye W6 Yf Xi W7 Xj=> ?_);have YI:=Xi.Y;refine aq d @vn (su Kb ai (Q.cG.j W7 Q.Bx) (b:=11) (c:=13) (by rw[nC p]) (a:=[WX]) W6.c.gA rfl (by rw[nC p];exact Sn _) (by simp[W6.c.aN]) fun W8 W9 Xk Xa=> ?_);rw[abc p] at W9;have Xl:(l++[n]).length=l.length+1:=by simp
  have Yg:ao Ye 1 WX (l++[n]).length (df (l++[n])):=by rw[Xl,p8];exact W6
  have Yh:=Q.dO Z Yg Yf W7 Xj W9 Xk Xa;have Yi:=(((WJ.C S).j W7 (fun i h r=>WB.vq i r h)).j (yr Xk Xa) (fun i h r=>by
   have r:some w=some i:=r;exact WB.k (by rw[h,r])))
  have Yj:=((T.a (S.q XZ)).a Xi).a ⟨by omega,fun i h=>Xa i (by have:=g.tn;omega)⟩;have Xm:kv WI WX w K z:=WB.g4 Xj (fun i h=>ag (WJ.z i h));refine ax d (LB.T 0 0 fun YJ YK Yk _ Xb _=> ?_);have WC:=Yh.C Xb;have Xn:=WC.cG;have Yl:=LA.D Yk W9.n;have Xo:=WC.g4.c.cd Sq (a:=aS W8 0);rw[Xl] at Xo;refine hy d t @tr @vn (tt Xn p) (yp Xn p) Yl WC.g4.m (LA.q9 WC.g4.c) Xo @ez @nW (LB.Hb nB nA WC.ku n (I ((l.length+1:Sh):Sj)) (fun y=>S5 rfl y) fun Xp Ym Xq Xc=> ?_);have R:=WC.abg Ym Xq Xc;have Yn:=s.hB n;have YL:(aS W8 0).Y=W8.Y+0:=gg _ _;have Xr:=(Yj.a (Xb.q (by omega))).a ⟨by omega,fun i h=>Xc i (by have:=g.tp;omega)⟩;have Xs:=(Yi.C Xb).j (yr Xq Xc) (fun i h r=>by
   have r:some z=some i:=r;exact WB.vp (by rw[h,r]))
  have Xd:=R.kh.aj;have Xt:=Xd.r (k:= .i64) (x:=(Wy:Sj)) SY eG Z Z;rw[Sx] at Xt;have⟨YM,Yo⟩:=ly Xd Wz;obtain⟨YN,YO,Yp,-⟩:=mI (R.kh.dz.H Wy Wz);refine c1 d t @aba @dA (abb R.cG p) Xt Yo (Xd.hC bV aL Wz (j:=1) Z) ?_;refine(GY _ D.aj[Wy].2 (Sn _) WD Xp _ Yp (WE.aj _ (S0 Wz)) Z).b ?_;rintro Xu Yq ⟨Yr,Xe,WY⟩;have YP:=WY.Y;refine ax d ((Hu Yq Xu _ Yr Z).b ?_);rintro _ YQ ⟨Xv,WZ⟩;have YR:=WZ.Y;have Xw:m<=Xp.Y:=Sy W0 Xr.Y;have Xx:ay m Xu:=fun i h=>Sy Xw (Xe i h)
  have WL:=(R.C WY).rZ WZ Xx (kv.hN Xe R.cG.n R.jS.n R.ku.n R.g4.z);rw[<-Su] at Xv;refine ax d (O6 Sq Sq (.inl ⟨_,rfl⟩) aQ nj gj rfl ((Xs.C WY).j WZ (fun i h r=>bq (Xe i r) (Xs.z i h))) Xv.c.X (by rw[p5,Nat.mul_one]) ai (p9 _) (by rw[Su];omega) (by rw[Su];omega) WU Z fun Ys YS Xy Yt Yu Yv Yw=> ?_);refine ax d ?_;exact aH b Z ⟨bG D.aj[Wy].2++a,l++[n],Ys,_,WX,X,Z,(WL.rZ Yv WU Xm),Yn,by
   rw[Ss,List.reverse_append,p8,Nat.add_comm];rw[Su] at Xy;exact Xy,Yt,Xm.oH Yw WL.cG.n WL.jS.n WL.ku.n WL.g4.z,((Xr.a (WY.q Xw)).a (WZ.C Xx Z)).a Yu,V d,V t,aa⟩
 rintro E B v ⟨rfl,e,f,g,s,T,d⟩;refine lo @Tryz.results56 ?_;exact⟨e,f,g,s,T⟩
def abk (F:Sh->Prop)(s:J)(D:cz)(d:Sg)(e:Se Sg)(f:Sg)(g:Se Sg)(r:Se Sj)(v:Sg)(a:J):Prop:=
 ∃(w h m:Sh) (b c:Se (Sj×Sg)) (i:Sg),v=ab w 0 13/\fY (fun j=>F j/\j<s.Y) s.Y a w D d e f g h m b c i r/\ks D.aj D.aj.length b/\iS r c/\ad s.Y s a
theorem Kc
  (F:Sh->Prop) (s:J) (a:cz) (b:Sg) (c:Se Sg) (d:Sg) (f:Se Sg) (i:c2 F s b c d f a) (l:fv a) (k:Sh) (r:Se Sj) (v:c5 a.aj k (bG a.a7) [] r) (K:k<=10000000):
  Runs Sf aw 32 [.agg (bk a b c d).toArray] s (abk F s a b c d f r):=by
 have m:=i.a7.aG;have W:=v.rU;refine Runs.dZ 12 Tryz.func32 rfl fun X e=> ?_
 refine ax e (aK fun n g o Wy=> ?_);have g:ae n s.Y (bk a b c d):=g;have w:=o.Y;refine aR e (c9 (D:=a) (mv:=b) (iv:=d) m) (dV g m) ((abf (fun j=>F j/\j<s.Y) n a b c d f (i.fF.C o) l).b ?_);rintro _ L ⟨x,y,z,A,rfl,h,B,p⟩;have Wz:=p.Y;have E:=o.d p;refine aR e @lx (lz (g.C p) m) ((GY _ a.a7 (Sn _) F L c (i.a7.C E) l.a7 Z).b ?_);rintro M O ⟨P,G,q⟩;have WA:=q.Y;refine ax e ?_;refine(abj _ n.Y O x a b c d f y z A [] _ (h.C q) iS.jA B l Z M (bG a.a7) P (fun H t=>ag (G H t)) (kv.hN G h.cG.n h.jS.n h.ku.n (fun H t=>by cases t)) k r v K).b ?_;rintro _ WB ⟨Q,R,S,T,U⟩;refine bO e @Tryz.results32 ?_;exact⟨x,y,z,A,Q,R,rfl,S.abh (fun j u=>u.1) (fun j u=>u.2) w,B,T,(E.d q).a (U.q w)⟩
def Kd (s:J)(r:Se Sj)(v:Sg)(a:J):Prop:=ao a 1 v r.length (df r)/\ay s.Y v/\ad s.Y s a
theorem abl
  (F:Sh->Prop) (s:J) (a:cz) (b:Sg) (d:Se Sg) (c:Sg) (i:Se Sg) (j:c2 F s b d c i a) (m:fv a) (k:Sh) (r:Se Sj) (n:c5 a.aj k (bG a.a7) [] r) (o:k<=10000000):
  Runs Sf aw 18 [.agg (bk a b d c).toArray] s (Kd s r):=by
 have e:=j.a7.aG;refine Runs.dZ 8 Tryz.func18 rfl fun v f=> ?_
 refine ax f (aK fun l p g w=> ?_);refine aR f (c9 (D:=a) (mv:=b) (iv:=c) e) (dV (p:ae l s.Y (bk a b d c)) e) ((Kc F l a b d c i (j.C g) m k r n o).b ?_);rintro _ x ⟨y,z,A,B,E,G,rfl,h,H,K,q⟩;refine b0 f @vn (yp h.cG e) @Tryz.results18 ?_;exact⟨h.g4,fun t u=>Sy (g.Y) (h.tq t u),g.d q⟩
end Go.Proofs.YtgpmffbleaphkaaGreat
namespace Go.Cl
theorem Bz {b:Type}{a:b->Sh}:∀{l:Se b} {x:b},x∈l->a x<=(l.map a).sum
 |y::l,x,h=>by
  rw[List.map_cons,List.sum_cons];rcases SI.1 h with rfl|h
  ·omega
  have:=Bz (a:=a) h;omega
theorem Ke {D:cz}(h:fv D):∃k r,c5 D.aj k (bG D.a7) [] r/\k<=2000000:=by
 have a:∀e∈D.aj,(bG e.2).length<=20000:=fun e b=>by
  have c:=He _ e.2 (Sn _);have c:cn e.2<=(D.aj.map fun e=>cn e.2).sum:=Bz (a:=fun e=>cn e.2) b;have:=h.uF;omega
 have⟨b,r,c,d⟩:=aa5 a 70 [] (by
  have a:vm D.aj []<=D.aj.length:=List.length_filter_le ..;have:=h.aG;omega) (bG D.a7)
 have a:=He _ D.a7 (Sn _);have:=h.uF;exact⟨b,r,c,Z⟩
theorem Kf:∀{l:Se Sg},dF l l=true->∀v∈l,b9 v v=true
 |v::l,h,w,a=>by
  simp only[dF,Bool.and_eq_true] at h;rcases SI.1 a with rfl|a
  ·exact h.1
  exact Kf h.2 w a
theorem Kg:∀{l:Se Sg},(∀v∈l,b9 v v=true)->dF l l=true
 |[],_=>rfl
 |v::l,h=>by
  simp only[dF,Bool.and_eq_true];exact⟨h v (S6 ..),Kg (fun w a=>h w (SS _ a))⟩
theorem c2.m {F:Sh->Prop}{s:J}{b c:Sg}{a d:Se Sg}{D:cz}(h:c2 F s b a c d D):bn (.agg (bk D b a c).toArray) (.agg (bk D b a c).toArray)=true:=by
 show dF (bk D b a c) (bk D b a c)=true;refine Kg (fun v b=> ?_);simp only[bk,SI,SG,List.not_mem_nil,or_false] at b;rcases b with rfl|rfl|rfl|b|rfl
 ·simp[b9]
 ·exact h.eb.oV
 ·simp[b9]
 ·exact Kf (h.a7.m:dF a a=true) v b
 exact h.aj.oV
theorem abm {a:Array Sg}(h:bn (.agg a) (.agg a)=true)(b:Bool):bn (.tuple #[.agg a,.bool b]) (.tuple #[.agg a,.bool b])=true:=by
 have b:dF a.toList a.toList=true:=h;simp[bn,mn,oD,b9,b]
end Go.Cl