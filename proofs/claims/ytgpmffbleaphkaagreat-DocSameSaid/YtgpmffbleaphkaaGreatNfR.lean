import Derived.Test.YtgpmffbleaphkaaGreatDocR
open Go.Proofs.Tryz renaming prog->Se,underlying22->Sf,underlying3->Sk,underlying5->Sq,results67->Su,underlying27->Sx,underlying87->Sz,results142->SG,results106->SH,results72->SJ,results105->SV,results24->SX,results35->SY,results48->S0,results25->Ta,results20->Tb,results91->Tc,results66->Td
open _root_ renaming if_neg->Sg,eq_true->Sj,Nat->Sl,if_pos->Sm,decide_eq_false->Sn,Int->So,List->Sr,decide_eq_true->Ss,reduceIte->St,eq_false->Sy,decide_not->SA,of_decide_eq_true->SQ,UInt8->S4,absurd->S6,Bool->Ti
open Nat renaming reduceEqDiff->Sh,reduceLT->Sp,mul_le_mul_right->SB,beq->SF,le_refl->SW,lt_of_lt_of_le->S3,ble->S5,ble_eq->Tf,mul_le_mul->Tg,reduceSub->Th,mul_comm->Tj,zero_mul->Tk,succ_mul->Tl,mod_le->Tm,blt_eq->To,beq_eq->Tp
open Go renaming Value->Si,TypeId->Tn
open Int renaming toNat_natCast->Sv,tmod_eq_emod_of_nonneg->SN,natCast_mul->S9
open List renaming getD_eq_getElem?_getD->Sw,length_drop->SE,length_append->SI,getElem_mem->SK,drop_eq_getElem_cons->SO,getElem?_eq_getElem->SR,length_take->SS,take_of_length_le->SU,drop_zero->SZ,drop_succ_cons->S1,mem_singleton->S2,length_cons->S7,replicate->Te
open Go.IntKind renaming i64->SC,u8->Tq
open Go.Code renaming seq->SD,region->SP,cond->Tr
open Go.Value renaming bool->SL,int->S8
open Bool renaming and_eq_true->SM
set_option maxHeartbeats 16000000
set_option linter.unusedSimpArgs false
set_option linter.unusedVariables false
set_option maxRecDepth 100000
namespace Go.Cl
def pw:Sr (Sr S4):=[[70,105,108,116,101,114],[68,101,99,111,100,101,80,97,114,109,115]]
def px:O->Sr S4->O
 | .au k n _ l d,b=> .au k n b l d
def abC (s:J)(p:O×Ti)(v:Si)(a:J):Prop:=∃b,v= .tuple #[.agg b.toArray,.bool p.2]/\aE (fun j=>s.Y<=j) a b p.1/\ad s.Y s a
theorem aE.px {F:Sl->Prop}{s:J}{a:Sr Si}{o:O}(h:aE F s a o){b:Sr S4}{v:Si}(c:az s 1 v b.length (aM b))(d:bA F v):aE F s (a.set 2 v) (Go.Cl.px o b):=by
 cases o with
 |au k n a l b=>
  obtain⟨j,k,l,m,n,rfl,-,a,b,-,e,f,g,i⟩:=h.ea;exact aE.lZ c a b d e f g i
end Go.Cl
namespace Go.Proofs.YtgpmffbleaphkaaGreat
open Go.Cl Go.Lib Go.Cl.Ch
def gO (o:O)(m:So):O×Ti:=if o.a9=8 then(px (kb o (fU pw)) (js o m).1,decide ((js o m).2=0)) else(O.ck,false)
theorem BC (s:J):dj Se s 89 2 [(0,.string ⟨#[70,105,108,116,101,114]⟩),(1,.string ⟨#[68,101,99,111,100,101,80,97,114,109,115]⟩)]=cL s (uz pw) 2 1:=by
 unfold dj;rw[Tryz.underlying89];simp only[rj,show bK Se 9=some (.string ⟨#[]⟩) from by kernel_rfl];rfl
theorem abD:Aa aw:=by constructor<;>rfl
theorem KA (F:Sl->Prop)(s:J)(d:Sr Si)(o:O)(e:aE F s d o)(B:bd o)(m:So)(X:m<=20000000)(Wy:(fk o).1.length<=1000)(Wz:qC (fk o).1 o.cj m):
  Runs Se aw 25 [.agg d.toArray,I m] s (abC s (gO o m)):=by
 refine Runs.gZ fun WW D=> ?_
 have f:=e.aG;obtain⟨WA,-⟩:=e.kX;refine Runs.ef 27 Tryz.func25 rfl fun WX a=> ?_
 refine ax a (aK fun E WB G WY=> ?_);have p:bX.length+1=6:=rfl;refine aW a f @b8 @cy (aK fun q H r WZ=> ?_);have W0:=G.Y;have W1:=r.Y;have g:=G.d r;have t:=WB.C r;have K:aD Se q 3 (ab s.Y 0 6)=some (I o.a9):=by
  rw[(t.B aB (a:=0) (c:=6) (by rw[f]) Z),<-WA,Sw,SR Z]<;>rfl
 by_cases h:o.a9=8;rotate_left
 ·have WC:cP Se 26 []=some (.agg bX.toArray):=by kernel_rfl
  refine c1 a p @a6 K @eQ @SA (Sn h) WC (bh aL ai H rfl rfl rfl rfl fun L WD W2 WE=> ?_);refine bS a (ah.L (WD:ae L E.Y bX) rfl) Ta ?_;rw[D];unfold gO;rw[Sg h];exact⟨bX,rfl,aE.ck _ _,g.a ⟨Z,fun j b=>WE j Z⟩⟩
 refine c1 a p @a6 K @eQ @SA (Ss h) (ah.L t f) ((aa4 F q d o (e.C g) B m X Wy Wz).b ?_);have⟨R,M⟩:=aO (js o m);rw[<-M];rintro _ L ⟨w,rfl,u⟩;have P:=u.br;have i:=u.A;have W3:=i.Y;have WG:bm (.tuple #[w,I R.2]) 0=some w:=rfl;have WH:bm (.tuple #[w,I R.2]) 1=some (I R.2):=rfl;have WI:=t.C i;refine bp a WG WH (ah.L WI f) @BC ?_;refine du (by rfl) ?_;intro WJ Q WK W4 k;have W5:=k.Y;have S:=(g.d i).d k;refine ax a ((OL abD F Q d o (e.C S) B WJ pw WK.c ai ai).b ?_);rintro _ WL ⟨v,rfl,x,l⟩;have W6:=l.Y;have y:=x.aG;refine aR a @b8 @cy (aK fun W7 WM T W8=> ?_);refine aq a p ?_;refine bh aL ai WM rfl rfl y x.K ?_;intro WN z W9 WO;have z:ae WN WL.Y v:=z;refine aq a @c8 ?_;refine db dI z (by rw[y]) Z (P.c.aN) ?_;intro Xa WQ Xb WR;have Xc:=T.Y;have n:=(T.a ⟨Z,fun j b=>WO j Z⟩).a ⟨Z,fun j b=>WR j Z⟩;have WS:=(S.d l).d n;have A:(v.set 2 w).length=5:=by rw[List.length_set,y]
 have U:=((x.C n).b (fun j (b:Q.Y<=j)=>Z)).px (((P.c.C k).C l).C n) (bA.Q (u.Q));refine aR a (ah.L WQ A) @oI ?_;refine bh aL ai (H.C (((i.d k).a (l.q Z)).a (n.q Z))) rfl rfl A U.K ?_;intro WT WU WV W;refine bS a (ah.L (WU:ae WT E.Y (v.set 2 w)) A) Ta ?_;rw[D];unfold gO;rw[Sm h,<-M];exact⟨_,rfl,(U.f WV W Z).b (fun j (b:q.Y<=j)=>ag g.Y),WS.a ⟨Z,fun j b=>W j Z⟩⟩
def py (m:So)(o:O):Prop:=(fk o).1.length<=1000/\qC (fk o).1 o.cj m/\bd (gO o m).1
def lN (m:So)(a b:O):Prop:=if(gO a m).2=true/\(gO b m).2=true then cQ (gO a m).1 (gO b m).1 else cQ a b
theorem vu (F G:Sl->Prop)(s:J)(c d:Sr Si)(a b:O)(e:aE F s c a)(f:aE G s d b)(g:bd a)(h:bd b):Runs Se aw 21 [.agg c.toArray,.agg d.toArray] s (rl s a b):=Oo _ a b (SW _) F G s c d e f g h
theorem abE (X Wy:Sl->Prop)(s:J)(i j:Sr Si)(b c:O)(p:aE X s i b)(f:aE Wy s j c)(u:bd b)(v:bd c)(m:So)(Wz:m<=20000000)(w:py m b)(x:py m c)(y:Sl)(WS:ae s y [I m]):
  Runs Se aw 24 [.agg i.toArray,.agg j.toArray,ab y 0 2] s fun z WT=>iI (lN m b c) z/\ad s.Y s WT:=by
 refine Runs.gZ fun WU WA=> ?_
 have A:=p.aG;have B:=f.aG;refine Runs.oU 32 Tryz.func24 rfl fun Xh a=> ?_
 refine ax a (aK fun Xi WV WB Xj=> ?_);refine aq a A (aK fun WC WD D Xk=> ?_);have Xl:=WB.Y;have Xm:=D.Y;have E:=WB.d D;have WE:=WV.C D;have WG:bX.length+1=6:=rfl;have WH:∀t,ad s.Y s t->aD Se t 3 (ab y 0 2)=some (I m):=fun t WW=>(WS.C WW).o aB 0 2
 refine aW a B (ah.L WE A) (WH WC E) ((KA X WC i b (p.C E) u m Wz w.1 w.2.1).b ?_);have F:=w.2.2;have G:=x.2.2;have e:lN m b c=(if(gO b m).2=true/\(gO c m).2=true then cQ (gO b m).1 (gO c m).1 else cQ b c):=rfl;have WI:=fun s f=>KA Wy s j c f v m Wz x.1 x.2.1
 generalize gO b m=WX at F e|-
 generalize gO c m=WY at G e WI;have⟨WZ,k⟩:=WX;have⟨z,g⟩:=WY;dsimp only at F G e;rintro _ W0 ⟨l,rfl,H,K⟩;have Xn:=K.Y;have WJ:=H.aG;have W1:bm (.tuple #[.agg l.toArray,.bool k]) 0=some (.agg l.toArray):=rfl;have W2:bm (.tuple #[.agg l.toArray,.bool k]) 1=some (.bool k):=rfl;refine bp a W1 W2 @b8 @cy (aK fun Xo W3 W4 Xp=> ?_);refine aq a WG (bh aL ai W3 rfl rfl WJ H.K fun L W5 Xq W6=> ?_);have q:=W4.a ⟨Z,fun M W7=>W6 M Z⟩;have Xr:=q.Y;have P:=(E.d K).d q;have WK:=K.d q;refine aR a (ah.L (WD.C WK) B) (WH L P) ((WI L (f.C P)).b ?_);rintro _ W8 ⟨n,rfl,Q,R⟩;have Xs:=R.Y;have WL:=Q.aG;have W9:bm (.tuple #[.agg n.toArray,.bool g]) 0=some (.agg n.toArray):=rfl;have Xa:bm (.tuple #[.agg n.toArray,.bool g]) 1=some (.bool g):=rfl;refine bp a W9 Xa @b8 @cy (aK fun Xt Xb Xc Xu=> ?_);refine aq a WG (bh aL ai Xb rfl rfl WL Q.K fun o Xd Xv Xe=> ?_);have r:=Xc.a ⟨Z,fun M W7=>Xe M Z⟩;have Xw:=r.Y;have h:=(P.d R).d r;have S:=R.d r;have WM:=WK.d S;have WN:=ah.L (WE.C WM) A;have WO:=ah.L (WD.C WM) B;have Xf:=ah.L ((W5:ae L W0.Y l).C S) WJ;have Xg:=ah.L (Xd:ae o W8.Y n) WL;by_cases T:k=true/\g=true
 ·obtain⟨rfl,rfl⟩:=T;rw[Sm ⟨rfl,rfl⟩] at e;refine aR a Xf Xg ((vu _ _ o l n WZ z ((H.C q).C S) (Q.C r) F G).b ?_);rintro _ WQ ⟨d,U⟩;obtain⟨t,rfl,Xx⟩:=id d;refine bO a SX ?_;rw[WA,e];exact⟨d,h.d U⟩
 rw[Sg T] at e;have WR:∀(t:J) (W:Si),rl o b c W t->WU W t:=fun t W ⟨d,U⟩=>by
  rw[WA,e];exact⟨d,h.d U⟩
 cases k with
 |false=>
  refine aR a WN WO ((vu _ _ o i j b c (p.C h) (f.C h) u v).b ?_);rintro _ WQ d;obtain⟨⟨t,rfl,-⟩,-⟩:=id d;refine bO a SX ?_;exact WR _ _ d
 |true=>
  obtain rfl:g=false:=by cases g with
   |false=>rfl
   |true=>exact S6 ⟨rfl,rfl⟩ T
  refine aR a WN WO ((vu _ _ o i j b c (p.C h) (f.C h) u v).b ?_);rintro _ WQ d;obtain⟨⟨t,rfl,-⟩,-⟩:=id d;refine bO a SX ?_;exact WR _ _ d
theorem abF (D:Sl)(E:Si)(s:J)(F y:Si)(n m:Sl)(g l:Sr Si)(r:az s 6 F n g)(t:az s 6 y m l)(W6:n<=140737488351232)(W7:m<=140737488351232)(o:Sl->Prop)
  (WK:∀i,i<n->((g.drop (i*6)).take 6).all aN=true) (WL:∀i,i<m->((l.drop (i*6)).take 6).all aN=true)
  (h:∀i,i<n->i<m->∀c:J,ad s.Y s c->Runs Se aw D [.agg ((g.drop (i*6)).take 6).toArray,.agg ((l.drop (i*6)).take 6).toArray,E] c fun WM WN=>iI (o i) WM/\ad c.Y c WN):
  Runs Se aw 35 [F,y,.func (.func D) #[] #[E]] s (z5 s n m o):=by
 refine Runs.iY 32 Tryz.func35 rfl fun f a G d p=> ?_
 by_cases WO:((n:Sl):So)=((m:Sl):So);rotate_left
 ·refine fS a G d (r.g Sx) (t.g Sx) WO @SY ?_;exact⟨.ko (fun h=>ag h.1),ad.p _ _⟩
 obtain rfl:n=m:=Z;refine bp a G d (r.g Sx) (t.g Sx) ?_;refine aZ.w (fun z f c=>∃i:Sl,z=n-i/\i<=n/\(∀j,j<i->o j)/\ad s.Y s c/\f.e=32/\f.N 1=y/\f.N 2= .func (.func D) #[] #[E]/\f.N 15=F/\f.N 16=I (n:Sl)/\f.N 17=I (i:Sl))
  (fun z f c=>(z= .bF/\ad s.Y s c/\f.e=32/\f.N 6= .bool false/\¬∀i,i<n->o i)\/(z= .bb 0/\(∀i,i<n->o i)/\ad s.Y s c/\f.e=32))
  ⟨0,rfl,Z,fun j h=>Z,ad.p _ _,V a,V d,V p,aa,aa,aa⟩ ?_ ?_
 ·clear a G d p f;rintro W8 S z f T ⟨i,rfl,W9,u,e,a,d,p,U,H,K⟩;by_cases b:i<n;rotate_left
  ·obtain rfl:i=n:=Z;refine aW a H K (Z:¬((i:Sl):So)<((i:Sl):So)) ?_;exact S _ _ _ (.inr ⟨rfl,u,e,V a⟩)
  have W:=r.C e;have v:=t.C e;have X:=W.r (k:= .i64) (x:=(i:So)) Sx eG Z Z;have Wy:=v.r (k:= .i64) (x:=(i:So)) Sx eG Z Z;rw[Sv] at X Wy;have Wz:=W.dm rq eG b;have WA:=v.dm rq eG b;have WB:=WK i b;have WC:=WL i b;have L:=h i b b;have w:((g.drop (i*6)).take 6).length=6:=by
   have M:=r.length;have:(i+1)*6<=n*6:=SB 6 b;rw[SS,SE];omega
  have A:((l.drop (i*6)).take 6).length=6:=by
   have M:=t.length;have:(i+1)*6<=n*6:=SB 6 b;rw[SS,SE];omega
  generalize (g.drop (i*6)).take 6=WD at Wz WB L w;generalize (l.drop (i*6)).take 6=O at WA WC L A;have WE:xw.length+1=6+1:=rfl;refine cX a U H K (Sj (Z:((i:Sl):So)<((n:Sl):So))) X Wz @nZ @rr (aK fun Xa WQ WR Xb=> ?_);refine aq a WE (bh eG ai WQ rfl rfl w WB fun B WS Xc WT=> ?_);have WG:=WR.a ⟨Z,fun j WU=>WT j Z⟩;have WV:aD Se B 36 (bM 6 y i)=some (.agg O.toArray):=by
   have M:=(v.C WG).dm rq eG b;rw[M,<-(v.dm rq eG b),WA]
  refine cl a d Wy WV @nZ @rr (aK fun Xd WW WX Xe=> ?_);refine aq a WE (bh eG ai WW rfl rfl A WC fun q WY Xf WZ=> ?_);have WH:=WX.a ⟨Z,fun j WU=>WZ j Z⟩;have P:=WG.d WH;have W0:aD Se q 36 (ab T.Y 0 (6+1))=some (.agg WD.toArray):=ae.y rq (by rw[w];exact eG) ((WS:ae B T.Y WD).C WH) (by rw[w]);have W1:aD Se q 36 (ab B.Y 0 (6+1))=some (.agg O.toArray):=ae.y rq (by rw[A];exact eG) (WY:ae q B.Y O) (by rw[A]);refine aW a p W0 W1 ((L q (e.d P)).b ?_);rintro _ Xg ⟨⟨W2,rfl,WI⟩,W3⟩;have WJ:=(e.d P).a (W3.q (bq e.Y P.Y));cases W2 with
  |false=>
   refine ax a ?_;exact S _ _ _ (.inl ⟨rfl,WJ,V a,aa,fun h=>by have:=WI.2 (h i b);cases this⟩)
  |true=>
   refine aq a K ?_;exact aH (n-(i+1)) Z ⟨i+1,rfl,Z,nn u (WI.1 rfl),WJ,V a,V d,V p,V U,V H,aa⟩
 rintro z Xh q (⟨rfl,Q,R,W4,W5⟩|⟨rfl,u,Q,R⟩)
 ·refine bS R W4 @SY ?_;exact⟨.ko (fun h=>W5 h.2),Q⟩
 refine bO R @SY ?_;exact⟨.mD ⟨rfl,u⟩,Q⟩
theorem abG (F G:Sl->Prop)(s:J)(n o:Sr Si)(q r:So×O)(h:g7 F s n q)(i:g7 G s o r)(j:Sl)(k:Sr Si)(p:Sl)(z:ae s p [.func (.func j) #[] k.toArray])(t:Prop)
  (A:∀(a:J) (b d:Sr Si),ad s.Y s a->aE F a b q.2->aE G a d r.2->Runs Se aw j (.agg b.toArray:: .agg d.toArray::k) a fun v B=>iI t v/\ad a.Y a B):
  Runs Se aw 36 [.agg n.toArray,.agg o.toArray,ab p 0 2] s fun v a=>iI t v/\ad s.Y s a:=by
 obtain⟨b,rfl,u⟩:=h;obtain⟨d,rfl,w⟩:=i;have l:=u.aG;have m:=w.aG;refine Runs.iY 12 Tryz.func36 rfl fun R f D h i=> ?_
 refine aq f D (aK fun E H K S=> ?_);refine aW f h @S7.{0} l (aK fun g L x T=> ?_);have e:=K.d x;have M:aD Se g 26 (ab s.Y 1 7)=some (.agg b.toArray):=by
  have:=ae.ka bV aL (H.C x) (a:=1) (c:=7) (by simp[l]) (by simp[l]);rw[this,S1,SZ,SU Z]
 have P:aD Se g 26 (ab E.Y 1 7)=some (.agg d.toArray):=by
  have:=ae.ka bV aL L (a:=1) (c:=7) (by simp[m]) (by simp[m]);rw[this,S1,SZ,SU Z]
 refine kO f i @S7.{0} m @O8 M P ((z.C e).o cW 0 2:aD Se g 50 (ab p 0 2)=some (.func (.func j) #[] k.toArray)) ((A g b d e (u.C e) (w.C e)).b ?_);rintro _ U ⟨y,Q⟩;obtain⟨W,rfl,-⟩:=id y;refine oR f @Tryz.results36 ?_;exact⟨y,e.d Q⟩
def tx (s:J)(X a:cz)(b:O->O->Prop)(v:Si)(c:J):Prop:=iI (cQ X.a7 a.a7/\X.aj.length=a.aj.length/\∀i (h:i<X.aj.length) (d:i<a.aj.length),b X.aj[i].2 a.aj[i].2) v/\ad s.Y s c
theorem KB (Xr Xs:Sl->Prop)(s:J)(A B:cz)(r:Si)(G:Sr Si)(t:Si)(WQ:Sr Si)(u:Si)(H:Sr Si)(v:Si)(WR:Sr Si)(WS:c2 Xr s r G t WQ A)(WT:c2 Xs s u H v WR B)(WU:fv A)(WV:fv B)
  (WD:Sl) (g:Sr So) (WW:c5 A.aj WD (bG A.a7) [] g) (Xt:WD<=10000000) (WE:Sl) (k:Sr So) (WX:c5 B.aj WE (bG B.a7) [] k) (Xu:WE<=10000000) (w:Sl) (x:Sr Si) (K:O->O->Prop)
  (h:∀(Xv Xw:Sl->Prop) (c:J) (L M:Sr Si) (WG WH:So×O),WG∈(ew A g).aj->WH∈(ew B k).aj->ad s.Y s c->aE Xv c L WG.2->aE Xw c M WH.2->Runs Se aw w (.agg L.toArray:: .agg M.toArray::x) c fun WY P=>iI (K WG.2 WH.2) WY/\ad c.Y c P):
  Runs Se aw 20 [.agg (bk A r G t).toArray,.agg (bk B u H v).toArray,.func (.func w) #[] x.toArray] s (tx s (ew A g) (ew B k) K):=by
 refine Runs.gZ fun Ye WZ=> ?_
 have W0:=WS.a7.aG;have W1:=WT.a7.aG;have W2:=c9 (D:=A) (mv:=r) (iv:=t) W0;have W3:=c9 (D:=B) (mv:=u) (iv:=v) W1;refine Runs.iY 24 Tryz.func20 rfl fun Yf b Xx Xy Xz=> ?_
 refine aq b Xx (aK fun Q XW W4 Yg=> ?_);refine aR b Xy W2 (aK fun WI XX WJ Yh=> ?_);refine aR b Xz W3 (aK fun l XY R Yi=> ?_);have Yj:=W4.Y;have Yk:=WJ.Y;have Yl:=R.Y;have WK:=(W4.d WJ).d R;have XZ:=((XW:ae Q s.Y (bk A r G t)).C WJ).C R;have X0:=(XX:ae WI Q.Y (bk B u H v)).C R;refine ax b (LB.T 2 0 fun Ym W5 W6 _ m Yn=> ?_);have W7:=(WS.fF.C WK).C m;have W8:=XZ.C m;refine fR b (LA.D (i:=s.Y) W6) (dV W8 W0) W7.m ((Kz _ (aS l 0) A r G t WQ W7 WU WD g WW Xt).b ?_);rintro _ WL ⟨X1,W9,Xa,Yo,rfl,S,d⟩;have Yp:=d.Y;refine⟨fun _=>LA.ar.R W5 (d.q Z),?_⟩;have Xb:=(X0.C m).C d;have Xc:=((WT.fF.C WK).C m).C d;refine fR b (LA.D (i:=Q.Y) W6) (dV Xb W1) Xc.m ((Kz _ WL B u H v WR Xc WV WE k WX Xu).b ?_);rintro _ Yq ⟨X2,Xd,Xe,Yr,rfl,T,e⟩;have Ys:=e.Y;refine⟨fun _=>LA.ar.R W5 (e.q Z),?_⟩;have X3:=(((XY:ae l WI.Y [.func (.func w) #[] x.toArray]).C m).C d).C e;refine LB.eY mH ai ((W8.C d).C e) W2 rfl (by simpa using(nX S)) (nY S) (fun h=>S6 rfl h) ?_;intro X4 X5 U y;refine c0 b ?_;refine LB.eY mH ai ((Xb.C e).f U y Z) W3 rfl (by simpa using(nX T)) (nY T) (fun h=>S6 rfl h) ?_;intro Xf W X z;have W:ae Xf Q.Y (bk (ew B k) X2 Xd Xe):=W;have Xg:=(X5:ae X4 s.Y (bk (ew A g) X1 W9 Xa)).f X z Z;have Wy:∀(Wz j:Sl),l.Y<=j->Wz<l.Y->ak (bI Wz)≠some j:=fun Wz j n Yt o=>by
  have o:some Wz=some j:=o;injection o with o;omega
 have Xh:=((S.C e).j (aF.f U y) (fun j (n:(aS l 0).Y<=j)=>Wy _ j Z Z)).j (aF.f X z) (fun j (n:(aS l 0).Y<=j)=>Wy _ j Z Z);have Xi:=(T.j (aF.f U y) (fun j (n:WL.Y<=j)=>Wy _ j Z Z)).j (aF.f X z) (fun j (n:WL.Y<=j)=>Wy _ j Z Z);have Xj:=S.a7.aG;have Xk:=T.a7.aG;refine fR b @lx (lz Xg Xj) (lz W Xk) ?_;obtain⟨Xl,-⟩:=k7 WW;obtain⟨Xm,-⟩:=k7 WX;have Xn:=mW WU Xl.kg Xl.kr;have Xo:=mW WV Xm.kg Xm.kr;generalize ew A g=WA at*;generalize ew B k=WB at*;refine(vu _ _ Xf W9 Xd WA.a7 WB.a7 Xh.a7 Xi.a7 Xn.a7 Xo.a7).b ?_;rintro _ X6 ⟨⟨E,rfl,Xp⟩,p⟩;have WC:=(((WK.d m).a ((d.d e).q Z)).a (ad.a ⟨Z,fun j n=>y j Z⟩ ⟨Z,fun j n=>z j Z⟩)).d p;cases E with
 |false=>
  refine oR b @Tb ?_;rw[WZ];exact⟨.ko (fun h=>by have:=Xp.2 h.1;cases this),WC⟩
 |true=>
 have WM:=Xh.C p;have WN:=Xi.C p;refine ib b @dA (dB (Xg.C p) Xj) (dB (W.C p) Xk) @uv (rfl:(Value.func (.func w) #[] x.toArray).cells.toList.length+1=2) ((abF _ _ X6 Xa Xe _ _ _ _ WM.aj WN.aj (ag Xn.aG) (ag Xo.aG) (fun a=>∀(h:a<WA.aj.length) (Xq:a<WB.aj.length),K WA.aj[a].2 WB.aj[a].2) (fun a f=>(WM.dz.H a f).K) (fun a f=>(WN.dz.H a f).K) (fun a f WO c F=> ?_)).b ?_)
 ·have o:=abG _ _ c _ _ _ _ ((WM.C F).dz.H a f) ((WN.C F).dz.H a WO) w x WI.Y (((((X3.f U y Z).f X z Z).C p).C F)) (K WA.aj[a].2 WB.aj[a].2) (fun P L M q X7 X8=>h _ _ P L M _ _ (SK f) (SK WO) ((WC.d F).a (q.q (bq WC.Y F.Y))) X7 X8);exact o.b fun WY P ⟨⟨E,X9,Ya⟩,Yb⟩=>⟨⟨E,X9,Ya.trans ⟨fun q _ _=>q,fun q=>q f WO⟩⟩,Yb⟩
 rintro _ Yu ⟨⟨E,rfl,Yc⟩,Yd⟩;refine oR b @Tb ?_;rw[WZ];exact⟨⟨E,rfl,Yc.trans ⟨fun q=>⟨Xp.1 rfl,q.1,fun a h Xq=>q.2 a h h Xq⟩,fun q=>⟨q.2.1,fun a _=>q.2.2 a⟩⟩⟩,WC.d Yd⟩
theorem BD (m n:Sl->Prop)(s:J)(A B:cz)(a:Si)(e:Sr Si)(b:Si)(o:Sr Si)(c:Si)(f:Sr Si)(d:Si)(p:Sr Si)(q:c2 m s a e b o A)(r:c2 n s c f d p B)(t:fv A)(u:fv B)
  (h:Sl) (i:Sr So) (v:c5 A.aj h (bG A.a7) [] i) (P:h<=10000000) (j:Sl) (k:Sr So) (w:c5 B.aj j (bG B.a7) [] k) (Q:j<=10000000):
  Runs Se aw 6 [.agg (bk A a e b).toArray,.agg (bk B c f d).toArray] s (tx s (ew A i) (ew B k) cQ):=by
 have x:=q.a7.aG;have y:=r.a7.aG;refine Runs.ef 8 Tryz.func6 rfl fun WE g=> ?_
 refine ax g (aK fun z R E WG=> ?_);refine aq g (c9 (D:=A) (mv:=a) (iv:=b) x) (aK fun F S G WH=> ?_);have WI:=E.Y;have l:=E.d G;refine aW g (c9 (D:=B) (mv:=c) (iv:=d) y) (dV ((R:ae z s.Y (bk A a e b)).C G) x) (dV (S:ae F z.Y (bk B c f d)) y) ?_;obtain⟨H,-⟩:=k7 v;obtain⟨K,-⟩:=k7 w;refine(KB m n F A B a e b o c f d p (q.C l) (r.C l) t u h i v P j k w Q 21 [] cQ (fun T U W X Wy L M Wz WA WJ WB WC=>vu T U W X Wy L.2 M.2 WB WC ((mW t H.kg H.kr).aj L Wz) ((mW u K.kg K.kr).aj M WA))).b ?_;rintro _ WK ⟨O,WD⟩;obtain⟨WL,rfl,-⟩:=id O;refine bO g @Tryz.results6 ?_;exact⟨O,l.d WD⟩
theorem KC (u v:Sl->Prop)(s:J)(A B:cz)(a:Si)(f:Sr Si)(b:Si)(w:Sr Si)(c:Si)(g:Sr Si)(d:Si)(x:Sr Si)(y:c2 u s a f b w A)(z:c2 v s c g d x B)(E:fv A)(F:fv B)
  (k:Sl) (h:Sr So) (G:c5 A.aj k (bG A.a7) [] h) (W:k<=10000000) (l:Sl) (i:Sr So) (H:c5 B.aj l (bG B.a7) [] i) (X:l<=10000000) (m:So) (Wy:m<=20000000)
  (Wz:∀n∈(ew A h).aj,py m n.2) (WA:∀n∈(ew B i).aj,py m n.2):
  Runs Se aw 8 [.agg (bk A a f b).toArray,.agg (bk B c g d).toArray,I m] s (tx s (ew A h) (ew B i) (lN m)):=by
 have K:=y.a7.aG;have L:=z.a7.aG;refine Runs.oU 11 Tryz.func8 rfl fun WO e=> ?_
 refine ax e (aK fun M WB O WQ=> ?_);refine aq e (c9 (D:=A) (mv:=a) (iv:=b) K) (aK fun j WC o WR=> ?_);refine aq e (c9 (D:=B) (mv:=c) (iv:=d) L) (aK fun P WD p WS=> ?_);have WT:=O.Y;have WU:=o.Y;have q:=(O.d o).d p;refine bp e (rfl:(S8 SC m).cells.toList.length+1=2) (dV (((WB:ae M s.Y (bk A a f b)).C o).C p) K) (dV ((WC:ae j M.Y (bk B c g d)).C p) L) @uv ?_;obtain⟨Q,-⟩:=k7 G;obtain⟨R,-⟩:=k7 H;refine(KB u v P A B a f b w c g d x (y.C q) (z.C q) E F k h G W l i H X 24 [ab j.Y 0 2] (lN m) (fun WE WG WH WI WJ r t S T WK WL WM=>abE WE WG WH WI WJ r.2 t.2 WL WM ((mW E Q.kg Q.kr).aj r S) ((mW F R.kg R.kr).aj t T) m Wy (Wz r S) (WA t T) j.Y ((WD:ae P j.Y [I m]).C WK))).b ?_;rintro _ WV ⟨U,WN⟩;obtain⟨WW,rfl,-⟩:=id U;refine bO e @Tryz.results8 ?_;exact⟨U,q.d WN⟩
end Go.Proofs.YtgpmffbleaphkaaGreat
namespace Go.Proofs.YtgpmffbleaphkaaGreat
open Go.Cl Go.Cl.Pr Go.Cl.Ch
theorem kx:bc Se 87=some 5:=by kernel_rfl
theorem abH {s:J}{v:Si}{n:Sl}{l:Sr Si}(h:az s 5 v n l){k:Sl}(a:k<n):aY Se 87 (bM 5 v k) 0=some (eR (bM 5 v k) 0)/\aY Se 87 (bM 5 v k) 1=some (eR (bM 5 v k) 3)/\aY Se 85 (eR (bM 5 v k) 0) 0=some (eR (bM 5 v k) 0):=by
 have⟨i,c,d,b,_⟩:=h.aJ a;rw[b];refine⟨?_,?_,?_⟩
 ·unfold aY;rw[Sz];simp[eR,sN]
 ·unfold aY;rw[Sz];simp[eR,uH]
 unfold aY;rw[Tryz.underlying85];simp[eR,aQ]
theorem vv:c3 Se 87=some true:=by kernel_rfl
theorem pz (i o c:Sl):aY Se 87 (ab i o c) 0=some (ab i (o+0) c):=by
 unfold aY;rw[Sz];simp[sN]
theorem vw (i o c:Sl):aY Se 87 (ab i o c) 1=some (ab i (o+3) c):=by
 unfold aY;rw[Sz];simp[uH]
theorem KD (i o c:Sl):aY Se 87 (ab i o c) 2=some (ab i (o+4) c):=by
 unfold aY;rw[Sz];simp[aQ]
theorem BE (F:Sl->Prop)(s:J)(a:Sr Si)(o:O)(b:aE F s a o)(c:bd o)(k:Sr S4):Runs Se aw 65 [.agg a.toArray,.string ⟨k.toArray⟩] s (ei s (cV o k)):=OV F s a o b c k
theorem vx (F:Sl->Prop)(s:J)(f:Sr Si)(o:O)(l:aE F s f o)(r:bd o)(k:Sr S4)(g:So):
  Runs Se aw 91 [.agg f.toArray,.string ⟨k.toArray⟩,I g] s fun v t=>v= .tuple #[I (e9 o k g).1,.bool (e9 o k g).2]/\ad s.Y s t:=by
 have m:=l.aG;refine Runs.iY 21 Tryz.func91 rfl fun P b u w x=> ?_
 have y:bX.length+1=6:=rfl;refine aq b u (aK fun z A h Q=> ?_);refine aW b w m (ah.L A m) ((BE F z f o (l.C h) r k).b ?_);rintro _ i ⟨B,rfl,a,n⟩;have R:=h.Y;have S:=n.Y;refine aR b @b8 @cy (aK fun T D E U=> ?_);refine aq b y (bh aL ai D rfl rfl a.aG a.K fun j d W G=> ?_);have d:ae j i.Y B:=d;have p:=((h.d n).a (E.q Z)).a ⟨Z,fun H X=>G H Z⟩;have⟨K,L⟩:=aE.kX a;have q:aD Se j 3 (ab i.Y 0 6)=some (I (cV o k).a9):=by
  have:=d.B aB (a:=0) (c:=6) (by rw[a.aG]) (by rw[a.aG];omega);rw[this,K]
 by_cases e:(cV o k).a9=0
 ·refine e8 b x @a6 q e Tc ?_;exact⟨by unfold e9;rw[Sm e],p⟩
 have M:aD Se j 2 (ab i.Y 1 6)=some (I (cV o k).mB):=by
  have:=d.B lq (a:=1) (c:=6) (by rw[a.aG]) (by rw[a.aG];omega);rw[this,L]
 refine pR b @a6 @eE q M @oI (Sn e) Tc ?_;exact⟨by unfold e9;rw[Sg e],p⟩
def abI (s:J)(r:bz×Ti)(v:Si)(a:J):Prop:=(∃l,v= .tuple #[da l,.bool r.2]/\(r.2=true->l=r.1))/\ad s.Y s a
theorem abJ:∀(W:Sr Ti) (i:Sl) (h:i<W.length),(W.map SL).getD i undef= .bool W[i]:=fun W a h=>by
 rw[Sw,List.getElem?_map,SR h];rfl
theorem abK (YS Q:Sl->Prop)(z:J)(Xc E:Sr Si)(b o:O)(Xd:aE YS z Xc b)(H:aE Q z E o)(WA:bd o):
  Runs Se aw 66 [.agg Xc.toArray,.agg E.toArray] z (abI z (jj b o)):=by
 have YT:=Xd.aG;have X6:=H.aG;refine Runs.gZ fun YU X7=> ?_
 refine Runs.cS 111 Tryz.func66 rfl fun f a YV Xe=> ?_
 have X8:(⟨0,0,0,[],0⟩:bz).aJ.length+1=6:=rfl;have X9:bK Se 87=some (da ⟨0,0,0,[],0⟩):=by kernel_rfl
 have Ya:cp (da ⟨0,0,0,[],0⟩)=true:=by kernel_rfl
 have WO:cP Se 87 []=some (da ⟨0,0,0,[],0⟩):=by kernel_rfl
 refine aq a YV ?_;refine aK ?_;intro Xf R Yb ZS;refine aR a Xe YT ?_;refine aK ?_;intro K u Xg ZT;refine aW a X6 X9 Ya ?_;refine aK ?_;intro e L WQ ZU;have L:ae e K.Y (⟨0,0,0,[],0⟩:bz).aJ:=L;have ZV:=Yb.Y;have ZW:=Xg.Y;have ZX:=WQ.Y;have F:=(Yb.d Xg).a (WQ.q Z);have R:=R.C (Xg.d WQ);have u:=u.C WQ;obtain⟨YW,-⟩:=aE.kX Xd;obtain⟨YX,-⟩:=aE.kX H;obtain⟨S,YY,YZ⟩:∃S,Xc.getD 2 undef=S/\az z 1 S b.cj.length (aM b.cj):=by
  cases b with
  |au Xh ZY ZZ l Z0=>obtain⟨S,Z1,Z2,Z3,Z4,rfl,Xe,-⟩:=Xd.ea;exact⟨S,rfl,Xe⟩
 have Y0:aD Se e 22 (ab z.Y 2 6)=some S:=by
  have:=R.B cJ (a:=2) (c:=6) Z Z;rw[this,YY]
 have Y1:=(YZ.C F).wS Sf Tryz.underlying9 Sq;have Y2:cP Se 85 [(0,I 1),(1,I 1),(2,I 1)]=some (er 1 1 1):=by kernel_rfl
 have Y3:cP Se 87 [(1,.string ⟨b.cj.toArray⟩),(2,I 1),(0,er 1 1 1)]=some (da ⟨1,1,1,b.cj,1⟩):=by kernel_rfl
 refine cX a X8 @c8 Y0 Y1 Y2 Y3 X9 Ya ?_;refine aK ?_;intro Y4 Xi Yc Z5;have Xi:ae Y4 e.Y (⟨0,0,0,[],0⟩:bz).aJ:=Xi;refine aq a X8 ?_;refine bh kx ai Xi rfl rfl rfl rfl ?_;intro WB Xj Z6 WR;have Xj:ae WB e.Y (⟨1,1,1,b.cj,1⟩:bz).aJ:=Xj;have Z7:=Yc.Y;have T:=Yc.a ⟨Z,fun j g=>WR j Z⟩;have Z8:=T.Y;have WR:=F.d T;have R:=R.C T;have Y5:=u;have u:=u.C T;have Y6:=L;have L:=L.C T;have Xk:aD Se WB 3 (ab z.Y 0 6)=some (I b.a9):=by
  have:=R.B aB (a:=0) (c:=6) Z Z;rw[this,YW]
 have Xl:aD Se WB 3 (ab Xf.Y 0 6)=some (I o.a9):=by
  have:=u.B aB (a:=0) (c:=6) Z Z;rw[this,YX]
 have WS:∀(f:an) (t:J),ae t K.Y (⟨0,0,0,[],0⟩:bz).aJ->ad z.Y z t->(jj b o).2=false->f.e=111->f.N 4=ab K.Y 0 6->f.N 5= .bool false->eW Se Tryz.f66.results.toList YU .bF f t:=by
  intro f t Y7 Y8 Yd a q Y9;have Za:aD Se t 87 (ab K.Y 0 6)=some (da ⟨0,0,0,[],0⟩):=ae.y (a:=(⟨0,0,0,[],0⟩:bz).aJ) vv kx Y7 (c:=6) rfl;refine eo a q Y9 Za Td ?_;rw[X7];exact⟨⟨_,by rw[Yd],fun h=>by rw[Yd] at h;cases h⟩,Y8⟩
 by_cases WC:b.a9≠5\/o.a9≠0/\o.a9≠7
 ·have m:(jj b o).2=false:=by unfold jj;rw[Sm WC]
  by_cases WD:b.a9=5
  ·obtain⟨Zb,Zc⟩:o.a9≠0/\o.a9≠7:=WC.elim (fun h=>S6 WD h) id;refine jF a @a6 Xk Xl WO @eQ @SA WD (Sn Zb) (Sn Zc) ?_;refine bh kx ai L rfl rfl rfl rfl ?_;intro Xm Xn Zd Xo;refine ax a ?_;exact WS _ _ Xn (WR.a ⟨Z,fun j g=>Xo j Z⟩) m (V a) aa aa
  refine eC a @a6 Xk WO @eQ @SA (Sn WD) ?_;refine bh kx ai L rfl rfl rfl rfl ?_;intro Xm Xn Zd Xo;refine ax a ?_;exact WS _ _ Xn (WR.a ⟨Z,fun j g=>Xo j Z⟩) m (V a) aa aa
 have WD:b.a9=5:=Classical.byContradiction fun h=>WC (.inl h)
 have WE:o.a9=0\/o.a9=7:=Classical.byContradiction fun h=>WC (.inr ⟨fun m=>h (.inl m),fun m=>h (.inr m)⟩)
 have m:jj b o=(mL b o,o7 b o):=by unfold jj;rw[Sg WC]
 refine gX a @a6 Xk WD @eQ ?_;generalize Ze:ja Se aw (SD (SP 4 _ _) _) _=Zf;have Ye:∀f:an,f.e=111->f.N 3=ab Xf.Y 0 6->f.N 4=ab K.Y 0 6->f.N 6=ab e.Y 0 6->Zf .b2 f WB:=by
  intro f a WG q r;subst Ze;have Yf:=Tryz.underlying122;have Zg:bK Se 4=some (.bool false):=by kernel_rfl
  have Zh:∀t:J,iU Se t 122 (I 5) (I 5)=cL t ([false,false,false,false,false].map SL) 5 1:=fun t=>AL (n:=5) (b:=1) Yf oc Zg cW rfl rfl ai ai
  refine ax Zh ?_;refine du (by rfl) ?_;intro v Xm Yg WT Yh;have U:∀j:Sl,j<5->eM Se 122 v (I (j:Sl))=some (bM 1 v j):=fun j g=>Yg.c.r (k:= .i64) (x:=(j:So)) Yf oc Z Z
  have Zi:eM Se 122 v (I 0)=some (bM 1 v 0):=U 0 ai;have Zj:eM Se 122 v (I 1)=some (bM 1 v 1):=U 1 ai;have Zk:eM Se 122 v (I 2)=some (bM 1 v 2):=U 2 ai;have Zl:eM Se 122 v (I 3)=some (bM 1 v 3):=U 3 ai;have Zm:eM Se 122 v (I 4)=some (bM 1 v 4):=U 4 ai;have WT:ay WB.Y v:=WT;have WH:ay e.Y v:=fun j g=>ag (WT j g)
  have B:ak v≠some e.Y:=fun m=>ag (WT _ m)
  have Zn:=Xj.C Yh;have WU:=T.d Yh;have Z9:=WU.Y;obtain⟨p,Xp⟩:∃w,w=e9 o sX 1:=⟨_,rfl⟩
  obtain⟨s,Xq⟩:∃w,w=e9 o sV 1:=⟨_,rfl⟩
  obtain⟨D,Xr⟩:∃w,w=e9 o sW 1:=⟨_,rfl⟩
  obtain⟨M,Xs⟩:∃w,w=e9 o sY 1:=⟨_,rfl⟩
  obtain⟨G,Yi⟩:∃w,w=e9 o sU 8:=⟨_,rfl⟩
  have WI:∀w:So×Ti,bm (.tuple #[I w.1,.bool w.2]) 0=some (I w.1):=fun _=>rfl
  have WJ:∀w:So×Ti,bm (.tuple #[I w.1,.bool w.2]) 1=some (.bool w.2):=fun _=>rfl
  have WK:∀t,ad e.Y e t->aD Se t 26 (ab Xf.Y 0 6)=some (.agg E.toArray):=fun t h=>ah.L (Y5.C h) X6
  refine aR a WG (WK _ WU) ?_;refine(vx Q Xm E o (H.C (F.d WU)) WA sX 1).b ?_;rw[<-Xp];rintro _ zaa ⟨rfl,WV⟩;have zab:=WV.Y;refine cl a r (WI p) (WJ p) @pz @n6 ?_;refine db aQ (Zn.C WV) rfl (by simp[bz.aJ]) rfl ?_;intro Zo Xt Zp Yj;have Xt:ae Zo e.Y (⟨p.1,1,1,b.cj,1⟩:bz).aJ:=Xt;refine aq a Zi ?_;refine ln oc ((Yg.C WV).f Zp Yj B) ai rfl ?_;intro Yk Xu Yl;have Xu:ao Yk 1 v 5 ([p.2,false,false,false,false].map SL):=Xu;have Zq:=Xt.j Yl B;have WW:=((WU.d WV).a ⟨Z,fun j g=>Yj j Z⟩).a (Yl.C WH Z);have zac:=WW.Y;refine aR a WG (WK _ WW) ?_;refine(vx Q Yk E o (H.C (F.d WW)) WA sV 1).b ?_;rw[<-Xq];rintro _ zad ⟨rfl,WX⟩;have zae:=WX.Y;refine cl a r (WI s) (WJ s) @pz @n7 ?_;refine db aQ (Zq.C WX) rfl (by simp[bz.aJ]) rfl ?_;intro Zr Xv Zs Ym;have Xv:ae Zr e.Y (⟨p.1,s.1,1,b.cj,1⟩:bz).aJ:=Xv;refine aq a Zj ?_;refine ln oc ((Xu.C WX).f Zs Ym B) ai rfl ?_;intro Yn Xw Yo;have Xw:ao Yn 1 v 5 ([p.2,s.2,false,false,false].map SL):=Xw;have Zt:=Xv.j Yo B;have WY:=((WW.d WX).a ⟨Z,fun j g=>Ym j Z⟩).a (Yo.C WH Z);have zaf:=WY.Y;refine aR a WG (WK _ WY) ?_;refine(vx Q Yn E o (H.C (F.d WY)) WA sW 1).b ?_;rw[<-Xr];rintro _ Xx ⟨rfl,WZ⟩;have zag:=WZ.Y;refine cl a r (WI D) (WJ D) @pz @uK ?_;refine db aQ (Zt.C WZ) rfl (by simp[bz.aJ]) rfl ?_;intro Zu X Zv Yp;have X:ae Zu e.Y (⟨p.1,s.1,D.1,b.cj,1⟩:bz).aJ:=X;refine aq a Zk ?_;refine ln oc ((Xw.C WZ).f Zv Yp B) ai rfl ?_;intro Yq Xy Yr;have Xy:ao Yq 1 v 5 ([p.2,s.2,D.2,false,false].map SL):=Xy;have Zw:=X.j Yr B;have W0:=((WY.d WZ).a ⟨Z,fun j g=>Yp j Z⟩).a (Yr.C WH Z);have zah:=W0.Y;refine aR a WG (WK _ W0) ?_;refine(vx Q Yq E o (H.C (F.d W0)) WA sY 1).b ?_;rw[<-Xs];rintro _ zai ⟨rfl,W1⟩;have zaj:=W1.Y;refine bp a r (WI M) (WJ M) @KD ?_;refine db aQ (Zw.C W1) rfl (by simp[bz.aJ]) rfl ?_;intro Zx Xz Zy Ys;have Xz:ae Zx e.Y (⟨p.1,s.1,D.1,b.cj,M.1⟩:bz).aJ:=Xz;refine aq a Zl ?_;refine ln oc ((Xy.C W1).f Zy Ys B) ai rfl ?_;intro Yt XW Yu;have XW:ao Yt 1 v 5 ([p.2,s.2,D.2,M.2,false].map SL):=XW;have Zz:=Xz.j Yu B;have W2:=((W0.d W1).a ⟨Z,fun j g=>Ys j Z⟩).a (Yu.C WH Z);have zak:=W2.Y;refine aR a WG (WK _ W2) ?_;refine(vx Q Yt E o (H.C (F.d W2)) WA sU 8).b ?_;rw[<-Yi];rintro _ zal ⟨rfl,W3⟩;have zam:=W3.Y;refine aW a (WI G) (WJ G) Zm ?_;refine ln oc (XW.C W3) ai rfl ?_;intro t XX Yv;have⟨W,W4⟩:=aO ([p.2,s.2,D.2,M.2,G.2]);have zan:W.length=5:=by rw[W4];rfl
  have XX:ao t 1 v W.length (W.map SL):=by rw[W4];exact XX
  have⟨l,Yw⟩:=aO (⟨p.1,s.1,D.1,b.cj,M.1⟩:bz);have W5:=(Zz.C W3).j Yv B;rw[<-Yw] at W5;have Yx:=(W2.d W3).a (Yv.C WH Z);have Yy:mL b o=l:=by unfold mL;rw[<-Xp,<-Xq,<-Xr,<-Xs,Yw]
  have Yz:o7 b o=(((((p.2&&s.2)&&D.2)&&M.2)&&decide (ij l.dd l.fV l.fW))&&decide (l.o4=1)&&(decide (l.dd=1)||G.2&&decide (G.1=8))):=by
   unfold o7;rw[Yy,<-Yi];unfold AJ;rw[<-Xp,<-Xq,<-Xr,<-Xs]
  have YA:∀(j:Sl) (h:j<W.length),W[j]=false->¬(j=4/\l.dd=1)->(jj b o).2=false:=by
   intro j h g WL;rw[m];show o7 b o=false;rw[Yz];have:j=0\/j=1\/j=2\/j=3\/j=4:=Z;rcases this with rfl|rfl|rfl|rfl|rfl<;>simp[W4] at g<;>simp[g]
   intros;exact fun h=>WL ⟨rfl,h⟩
  have ZA:(∀(j:Sl) (h:j<W.length),j<5->W[j]=true\/(j=4/\l.dd=1))->o7 b o=(decide (ij l.dd l.fV l.fW)&&decide (l.o4=1)&&(decide (G.1=8)||decide (l.dd=1))):=by
   intro h;have W6:∀(j:Sl) (g:j<4),W[j]'(Z)=true:=fun j g=>(h j Z Z).elim id fun m=>S6 m.1 Z
   have YB:=W6 0 ai;have YC:=W6 1 ai;have YD:=W6 2 ai;have YE:=W6 3 ai;have YF:=h 4 Z ai;simp only[W4,List.getElem_cons_zero,List.getElem_cons_succ,true_and] at YB YC YD YE YF;rw[Yz,YB,YC,YD,YE];by_cases WL:l.dd=1
   ·simp[WL]
   have ZB:=YF.resolve_right WL;simp[WL,ZB]
  have XY:=F.d Yx;have XZ:=Y6.C Yx;have YG:aD Se t 3 (ab e.Y 0 6)=some (I l.dd):=W5.B aB (a:=0) (c:=6) rfl (by simp[bz.aJ]);refine ax a ?_;refine aZ.eO (fun YH f y=>∃d:Sl,YH=5-d/\d<=5/\(∀(j:Sl) (h:j<W.length),j<d->W[j]=true\/(j=4/\l.dd=1))/\y=t/\f.e=111/\f.N 4=ab K.Y 0 6/\f.N 6=ab e.Y 0 6/\f.N 7=v/\f.N 8=I G.1/\f.N 9=I (d:Sl))
   ⟨0,rfl,Z,fun j h g=>Z,rfl,V a,V q,V r,aa,aa,aa⟩ ?_
  rintro YH f y ⟨d,rfl,zao,YI,rfl,a,q,r,Wy,X0,WM⟩;by_cases ZC:d<5
  ·have Wz:((d:Sl):So)<5:=Z;have W7:d<W.length:=Z;have W8:=U d ZC;have P:=XX.c.P AH W7;rw[abJ W d W7] at P;have YJ:∀f:an,W[d]=true\/(d=4/\l.dd=1)->∀(j:Sl) (h:j<W.length),j<d+1->W[j]=true\/(j=4/\l.dd=1):=fun _ ZD j h g=>by
    by_cases m:j=d
    ·subst m;exact ZD
    exact YI j h Z
   cases WN:W[d] with
   |true=>
    rw[WN] at P;refine ib a Wy WM (Sj Wz) W8 P ?_;exact aH (5-(d+1)) Z ⟨d+1,rfl,Z,YJ f (.inl WN),rfl,V a,V q,V r,V Wy,V X0,aa⟩
   |false=>
    rw[WN] at P;by_cases X1:((d:Sl):So)<4
    ·refine je a q Wy WM (Sj Wz) W8 P X1 WO ?_;refine bh kx ai XZ rfl rfl rfl rfl ?_;intro ZE u ZF X2;refine ax a ?_;exact WS _ _ u (XY.a ⟨Z,fun j g=>X2 j Z⟩) (YA d W7 WN (fun h=>Z)) (V a) (V q) aa
    by_cases W9:l.dd=1
    ·refine mA a r Wy WM (Sj Wz) W8 P X1 @pz @n6 YG @SA (Ss W9) ?_;exact aH (5-(d+1)) Z ⟨d+1,rfl,Z,YJ f (.inr ⟨Z,W9⟩),rfl,V a,V q,V r,V Wy,V X0,aa⟩
    refine kP a q r Wy WM (Sj Wz) W8 P X1 @pz @n6 YG @SA (Sn W9) WO ?_;refine bh kx ai XZ rfl rfl rfl rfl ?_;intro ZE u ZF X2;refine ax a ?_;exact WS _ _ u (XY.a ⟨Z,fun j g=>X2 j Z⟩) (YA d W7 WN (fun h=>W9 h.2)) (V a) (V q) aa
  obtain rfl:d=5:=Z;have Wz:¬((5:Sl):So)<5:=Z;have YK:=ZA fun j h g=>YI j h g
  refine aR a WM Wz ?_;have⟨Xa,X3⟩:=aO (fun j=>decide (j<y.Y/\j≠K.Y):Sl->Ti);have YL:∀j,Xa j=true->j<y.Y:=by
   intro j h;rw[X3] at h;exact(SQ h).1
  refine LB.kQ.hx Xa YL 2 0 cW cW ?_;have X4:=ad.aS y 0;have zap:(aS y 0).Y=y.Y:=gg _ _;have X5:=W5.C X4;have YM:=XY.d X4;have YN:∀Xh,LA.c4 Xa (some (ab e.Y Xh 6))=true:=fun Xh=>LA.hT (A:=Xa) (i:=e.Y) (by rw[X3];exact Ss ⟨W5.n,Z⟩)
  have ZG:bn (da l) (da l)=true:=by simp[bn,dF,b9,bz.aJ]
  have ZH:aD Se (aS y 0) 87 (ab e.Y 0 6)=some (da l):=ae.y (a:=l.aJ) vv kx X5 (c:=6) rfl;have ZI:aD Se (aS y 0) 85 (ab e.Y 0 6)=some (er l.dd l.fV l.fW):=by
   have:=ae.ka xD sN X5 (a:=0) (c:=6) rfl (by simp[bz.aJ]);rw[this];rfl
  refine kO a r YN ZH ZG @pz ZI @HF ?_;have⟨ZJ,YO⟩:=aO (decide (ij l.dd l.fV l.fW));rw[<-YO] at YK;refine(HH (aS y 0) l.dd l.fV l.fW).b ?_;unfold xG;rw[<-YO];rintro _ Xx ⟨rfl,Xb⟩;refine⟨fun _=>LA.ar.R YL (Xb.q Z),?_⟩;have X:=X5.C Xb;have ZK:=(XZ.C X4).C Xb;have ZL:=YM.d Xb;have zaq:=YM.Y;have ZM:aD Se Xx 3 (ab e.Y 4 6)=some (I l.o4):=X.B aB (a:=4) (c:=6) rfl (by simp[bz.aJ]);have ZN:aD Se Xx 3 (ab e.Y 0 6)=some (I l.dd):=X.B aB (a:=0) (c:=6) rfl (by simp[bz.aJ]);cases ZJ<;>by_cases YP:l.o4=1<;>by_cases YQ:G.1=8<;>by_cases YR:l.dd=1<;>(
   refine pV a q r X0 YN @pz @KD @n6 ZM ZN YP YQ YR ?_;refine LB.eY kx ai ZK rfl rfl rfl rfl (fun _=>by rw[X3];exact Sn (fun h=>h.2 rfl)) ?_;intro zar ZO zas ZP;have ZQ:=ae.y (a:=l.aJ) vv kx ZO (c:=6) rfl;refine b0 a q ZQ Td ?_;rw[X7,m];exact⟨⟨l,by rw[YK];simp[YP,YQ,YR],fun _=>Yy.symm⟩,ZL.a ⟨Z,fun j g=>ZP j Z⟩⟩)
 rcases WE with WE|WE
 ·refine fR a Xl @eQ WE ?_;exact Ye _ (V a) aa aa aa
 have ZR:decide ((7:So)=0)=false:=rfl;refine eC a @a6 Xl @eQ @SA WE ZR ?_;exact Ye _ (V a) aa aa aa
theorem abL (XZ:Sl->Prop)(s:J)(WV:Sr Si)(o:O)(WI:aE XZ s WV o)(WW:bd o):
  Runs Se aw 48 [.agg WV.toArray] s (Ih s (fk o)):=by
 have X0:=WI.aG;refine Runs.gZ fun YV X1=> ?_
 refine Runs.ey 84 Tryz.func48 rfl fun f a Yo=> ?_
 have Yp:bX.length+1=6:=rfl;have u:=Tryz.underlying23;have X2:=Tryz.underlying80;refine aq a Yo ?_;refine aK ?_;intro h X3 X4 Zt;have Zu:=X4.Y;obtain⟨X5,-⟩:=aE.kX WI;have Yq:aD Se h 3 (ab s.Y 0 6)=some (I o.a9):=by
  have:=X3.B (P:=Se) aB (a:=0) (c:=6) Z Z;rw[this,X5]
 by_cases Xg:o.a9=8;rotate_left
 ·refine pR a X0 @a6 Yq @eQ @SA (Sn Xg) S0 ?_;rw[X1,(show fk o=([],1) by unfold fk;rw[Sm Xg])];exact⟨_,rfl,.al,ay.al _,X4⟩
 refine ch a X0 @a6 Yq @eQ @SA (Ss Xg) ?_;have⟨WJ,X6⟩:=aO (fun j=>decide (j<h.Y):Sl->Ti);have X7:∀j,WJ j=true->j<h.Y:=by
  intro j m;rw[X6] at m;exact SQ m
 have Yr:∀j,h.Y<=j->WJ j=false:=fun j m=>by rw[X6];exact Sn Z
 refine LB.kQ.hx WJ X7 3 2 cW cW ?_;have WX:=ad.aS h 2;have Zv:(aS h 2).Y=h.Y+2:=gg _ _;have Ys:∀Xh,LA.c4 WJ (some (ab s.Y Xh 6))=true:=fun Xh=>LA.hT (A:=WJ) (i:=s.Y) (show WJ s.Y=true by rw[X6];exact Ss X3.n)
 have Yt:∀t,ad (aS h 2).Y (aS h 2) t->aD Se t 26 (ab s.Y 0 6)=some (.agg WV.toArray):=fun t m=>ah.L ((X3.C WX).C m) X0
 have WY:ad s.Y s (aS h 2):=X4.d WX;refine aW a Ys (Yt _ (ad.p _ _)) WI.m ?_;refine(BE XZ (aS h 2) WV o (WI.C WY) WW jJ).b ?_;rintro _ YW ⟨WZ,rfl,Xi,WK⟩;have YX:=WK.Y;refine⟨fun _=>LA.ar.R X7 (WK.q Z),?_⟩;refine aW a Ys (Yt _ WK) WI.m ?_;refine(BE XZ YW WV o (WI.C (WY.d WK)) WW kW).b ?_;rintro _ K ⟨W0,rfl,Xj,W1⟩;have YY:=W1.Y;refine⟨fun _=>LA.ar.R X7 (W1.q Z),?_⟩;refine aq @b8 @cy ?_;refine LB.j7 Z ?_;intro Zw WL Xk WM;refine aW a @b8 @cy Yp ?_;refine LB.j7 Z ?_;intro Yu WN W2 WB;refine aq a Yp ?_;refine LB.eY aL ai (WL.f W2 WB Z) rfl rfl (by simpa using Xi.aG) Xi.K (fun _=>Yr _ Z) ?_;intro Xl Yv Xm W3;refine ax a ?_;refine LB.eY aL ai (WN.f Xm W3 Z) rfl rfl (by simpa using Xj.aG) Xj.K (fun _=>Yr _ Z) ?_;intro p WO Xn W4;have X8:ae p h.Y WZ:=Yv.f Xn W4 Z;have WO:ae p (h.Y+1) W0:=WO;have X:∀j,j≠h.Y->j≠h.Y+1->p.i.N j=K.i.N j:=fun j Yw Yx=>by rw[W4 j Yx,W3 j Yw,WB j Yx,WM j Yw]
 have Zx:p.Y=K.Y:=Z;have W5:aE (fun j=>s.Y<=j) p WZ (cV o jJ):=(((((Xi.C W1).f Xk WM Z).f W2 WB Z).f Xm W3 Z).f Xn W4 Z).b (fun j W6=>Z);have W7:aE (fun j=>s.Y<=j) p W0 (cV o kW):=((((Xj.f Xk WM Z).f W2 WB Z).f Xm W3 Z).f Xn W4 Z).b (fun j W6=>Z);have Wy:ad s.Y s p:=((WY.d WK).a (W1.q Z)).a ⟨Z,fun j W6=>X j Z Z⟩;have X9:=sZ o jJ WW;have Ya:=sZ o kW WW;clear Xi Xj WK W1 YX YY WL Xk WM WN W2 WB Yv Xm W3 Xn W4 X;obtain⟨d,Yy⟩:∃D,D=cV o jJ:=⟨_,rfl⟩
 obtain⟨g,Yz⟩:∃D,D=cV o kW:=⟨_,rfl⟩
 have v:hF o=if d.a9=0 then([],[],true) else if d.a9=5 then([d],[g],true) else if d.a9=6 then(if g.a9=0 then(d.aj,Te d.aj.length O.ck,true) else(d.aj,g.aj,decide (g.a9=6)&&decide (g.aj.length=d.aj.length))) else([],[],false):=by unfold hF;rw[<-Yy,<-Yz]
 rw[<-Yy] at W5 X9;rw[<-Yz] at W7 Ya;have Xo:=W5.aG;have Xp:=W7.aG;obtain⟨X5,-⟩:=aE.kX W5;obtain⟨YA,-⟩:=aE.kX W7;have WC:aD Se p 3 (ab h.Y 0 6)=some (I d.a9):=by
  have:=X8.B (P:=Se) aB (a:=0) (c:=6) Z Z;rw[this,X5]
 have WD:aD Se p 3 (ab (h.Y+1) 0 6)=some (I g.a9):=by
  have:=WO.B (P:=Se) aB (a:=0) (c:=6) Z Z;rw[this,YA]
 have W8:fk o=if(hF o).2.2=false\/8<(hF o).1.length then(([],4):Sr bz×So) else match gI (hF o).1 (hF o).2.1 with
  |none=>([],4)
  |some L=>(L,0):=by unfold fk;rw[Sg (fun m=>m Xg)]<;>rfl
 have Zy:=Ig WW;have Yb:∀(f:an) (t:J) (l:So),fk o=([],l)->ad s.Y s t->f.e=84->f.N 2=av->f.N 3=I l->eW Se Tryz.f48.results.toList YV .bF f t:=by
  intro f t l Xl T a Q Wz;refine b0 a Q Wz S0 ?_;rw[X1,Xl];exact⟨_,rfl,.al,ay.al _,T⟩
 refine ax a ?_;generalize YB:ja Se aw (SD (SD (SP 21 _ _) _) _) _=YC;have Yc:∀(b M:Sr O) (y WE:Si) (E WQ:Sr Si) (q:J) (f:an),ad s.Y s q->(∀l∈b,bd l)->(∀l∈M,bd l)->b.length=M.length->b.length<=100000->az q 5 y b.length E->az q 5 WE M.length WQ->aU aE 5 (fun j=>s.Y<=j) q b E->aU aE 5 (fun j=>s.Y<=j) q M WQ->
   (fk o=if 8<b.length then(([],4):Sr bz×So) else match gI b M with
    |none=>([],4)
    |some L=>(L,0))->f.e=84->f.N 6=y->f.N 7=WE->YC .b2 f q:=by
  clear a Yo f;subst YB;intro b M y WE E WQ q f Xq WY YZ Zz ZA U W9 Xr Yd v a F R;have ZB:=Xq.Y;by_cases WG:8<b.length
  ·have Y0:((b.length:Sl):So)>8:=Z;refine fR a F (U.g u) (Sj Y0) ?_;exact Yb _ _ 4 (by rw[v,Sm WG]) Xq (V a) aa aa
  rw[Sg WG] at v;have Ye:bK Se 87=some (da ⟨0,0,0,[],0⟩):=by kernel_rfl
  have YD:cp (da ⟨0,0,0,[],0⟩)=true:=by kernel_rfl
  have Y1:(⟨0,0,0,[],0⟩:bz).aJ.length+1=6:=rfl;refine fR a F (U.g u) (Z:¬((b.length:Sl):So)>8) ?_;refine aZ.w (fun D f t=>∃(e:Sl) (G:Si) (L:Sr bz),D=b.length-e/\e<=b.length/\L.length=e/\gI b M=(gI (b.drop e) (M.drop e)).map (L++·)/\ao t 5 G e (kq L)/\ay q.Y G/\ad q.Y q t/\f.e=84/\f.N 6=y/\f.N 7=WE/\f.N 8=G/\f.N 9=I (e:Sl))
   (fun D f t=>(D= .bF/\gI b M=none/\ad q.Y q t/\f.e=84/\f.N 2=av/\f.N 3=I 4)\/(D= .bb 1/\∃G L,gI b M=some L/\L.length=b.length/\ao t 5 G b.length (kq L)/\ay q.Y G/\ad q.Y q t/\f.e=84/\f.N 8=G))
   ⟨0,av,[],rfl,Z,rfl,aA,.al,ay.al _,ad.p _ _,V a,V F,V R,aa,aa⟩ ?_ ?_
  ·clear a F R f;rintro ZC YE D f t ⟨e,G,L,rfl,ZD,YF,r,Xs,Xt,T,a,F,R,WR,Xu⟩;have ZE:=T.Y;have WS:=U.C T;have Xv:=W9.C T;by_cases Xa:e<b.length;rotate_left
   ·obtain rfl:e=b.length:=Z;rw[List.drop_length] at r;refine bp a F Xu (WS.g u) (Z:¬((b.length:Sl):So)<((b.length:Sl):So)) ?_;exact YE _ _ _ (.inr ⟨rfl,G,L,by rw[r];simp[gI],YF,Xs,Xt,T,V a,V WR⟩)
   have Xb:e<M.length:=Z;have YG:=WS.r (P:=Se) (k:= .i64) (x:=(e:So)) u aL Z Z;have YH:=Xv.r (P:=Se) (k:= .i64) (x:=(e:So)) u aL Z Z;rw[Sv] at YG YH;have Xw:=(Xr.C cm T).H e Xa;have Xx:=(Yd.C cm T).H e Xb;rw[(SO Xa:b.drop e=b[e]::b.drop (e+1)),(SO Xb:M.drop e=M[e]::M.drop (e+1))] at r;simp only[gI] at r;have Y2:=WY _ (SK Xa);have WX:=YZ _ (SK Xb);generalize b[e]=YI at r Xw Y2;generalize M[e]=g at r Xx WX;refine bp a F Xu (WS.g u) (Sj (Z:(e:So)<(b.length:So))) ?_;refine LB.T 1 1 fun ZF Y3 YJ _ Xc ZG=> ?_
   have YK:=(WS.C Xc).dm (P:=Se) bV aL Xa;have YL:=(Xv.C Xc).dm (P:=Se) bV aL Xb;generalize (E.drop (e*5)).take 5=Y4 at YK Xw;generalize (WQ.drop (e*5)).take 5=Y5 at YL Xx;refine nS a F R Xu WS.m Xv.m YG YH YK YL (LA.iG WS YJ Xa) (LA.iG Xv YJ Xb) Xw.m Xx.m ?_;refine(abK _ _ (aS t 1) Y4 Y5 YI g (Xw.C Xc) (Xx.C Xc) WX).b ?_;rintro _ ZH ⟨⟨w,rfl,YM⟩,WT⟩;have ZI:=WT.Y;refine⟨fun _=>LA.ar.R Y3 (WT.q Z),?_⟩;have⟨K,Y6⟩:=aO ((jj YI g).2);rw[<-Y6] at r YM|-
   have Y7:bm (.tuple #[da w,.bool K]) 0=some (da w):=rfl;have Y8:bm (.tuple #[da w,.bool K]) 1=some (.bool K):=rfl;have Y9:bn (da w) (da w)=true:=by simp[bn,dF,b9,bz.aJ]
   have Za:bn (.tuple #[da w,.bool K]) (.tuple #[da w,.bool K])=true:=by simp[bn,mn,oD,dF,b9,bz.aJ]
   refine ch a Y7 Y8 Y9 Za Ye YD ?_;refine LB.j7 Z ?_;intro Zb WL Xk WM;have WL:ae Zb t.Y (⟨0,0,0,[],0⟩:bz).aJ:=WL;refine aq a Y1 ?_;refine LB.eY kx ai WL rfl rfl rfl rfl (fun m=>S6 rfl m) ?_;intro Yf WN W2 WB;have WN:ae Yf t.Y w.aJ:=WN;have Yg:ad t.Y t Yf:=(Xc.d WT).a ⟨Z,fun j W6=>by rw[WB j Z,WM j Z]⟩;have ZJ:=Yg.Y;have Zc:=Xs.C Yg;have YN:=T.d Yg;cases K with
   |false=>
    rw[Sg ai] at r;refine ax a ?_;exact YE _ _ _ (.inl ⟨rfl,by rw[r];rfl,YN,V a,aa,aa⟩)
   |true=>
   rw[Sm rfl,<-YM rfl] at r;have Zd:aD Se Yf 87 (ab t.Y 0 6)=some (da w):=ae.y (P:=Se) (a:=w.aJ) vv kx WN (c:=6) rfl;simp(disch:=omega)only[aI,bC,Sp,Sh,↓St,aI,fi,dy,Th,bC,Sp,Sh,↓St,a,WR,Zd,gC (a:=w.aJ.toArray) X2 kx Ye YD rfl rfl (by decide)];refine du (by rfl) ?_;intro YO ZK Yh Ze Yi;have ZL:=Yi.Y;refine ax a (hv X2 X2 (.inl ⟨_,rfl⟩) kx (show e2 Se 87=some 48 by kernel_rfl) Ye rfl (Zc.C Yi) Yh.c.X rfl ai rfl Z Z Xt Z fun Zf ZM Zg Zh Zi _ _=> ?_);refine aq a Xu ?_;refine aH (b.length-(e+1)) Z ⟨e+1,Zf,L++[w],rfl,Z,by simp[YF],?_,by rw[H6];simpa [kq] using Zg,Zh,(YN.d Yi).a Zi,V a,V F,V R,aa,aa⟩;rw[r,Option.map_map]
   congr 1
   funext l
   simp
  clear a F R f;rintro _ f Xd (⟨rfl,r,WH,a,Q,Wz⟩|⟨rfl,G,L,r,Zj,Xs,Xt,WH,a,WR⟩)
  ·rw[r] at v;refine kN ?_;exact Yb _ _ 4 v (Xq.d WH) a Q Wz
  rw[r] at v;refine bS a WR S0 ?_;rw[X1,v];exact⟨G,rfl,by show ao Xd 5 G L.length _;rw[Zj];exact Xs,fun j W6=>ag (Xt j W6),Xq.d WH⟩
 have Xe:∀(f:an) (t:J) (l:So),fk o=([],l)->ad s.Y s t->f.e=84->f.N 2=av->f.N 3=I l->YC .bF f t:=by
  intro f t l Xl Xy Q Wz Xz;subst YB;refine kN ?_;exact Yb f t l Xl Xy Q Wz Xz
 by_cases B:d.a9=0
 ·refine aW a @a6 WC (Sj B) ?_;refine Xe _ _ 0 ?_ Wy (V a) aa aa;rw[W8,v,Sm B];simp[gI]
 have XW:∀b M:Sr O,(hF o)=(b,M,true)->fk o=if 8<b.length then(([],4):Sr bz×So) else match gI b M with
    |none=>([],4)
    |some L=>(L,0):=fun b M m=>by
  rw[W8,m];by_cases WG:8<b.length
  ·rw[Sm (.inr WG),Sm WG]
  rw[Sg (fun m=>m.elim (fun m=>by cases m) WG),Sg WG]
 by_cases H:d.a9=5
 ·simp(disch:=omega)only[aI,bC,Sp,Sh,↓St,a,a6,WC,Sy B,Sj H,ah.L X8 Xo,gC (a:=WZ.toArray) u aL b8 cy rfl Xo (by decide)];refine du Xo ?_;intro Xd YP WH Zk WU;simp(disch:=omega)only[aI,bC,Sp,Sh,↓St,a,ah.L (WO.C WU) Xp,gC (a:=W0.toArray) u aL b8 cy rfl Xp (by decide)];refine du Xp ?_;intro YO YQ Yh Ze WT;have X:=WU.d WT;have WD:aD Se YQ 3 (ab (h.Y+1) 0 6)=some (I g.a9):=by
   have:=(WO.C X).B (P:=Se) aB (a:=0) (c:=6) Z Z;rw[this,YA]
  have YR:hF o=([d],[g],true):=by rw[v,Sg B,Sm H]
  by_cases W:g.a9=6
  ·refine aW a @a6 WD (Sj W) ?_;refine Xe _ _ 4 ?_ (Wy.d X) (V a) aa aa;rw[XW _ _ YR,Sg aA];have:(jj d g).2=false:=by unfold jj;rw[Sm (.inr ⟨Z,Z⟩)]
   simp only[gI,this];rfl
  refine aW a @a6 WD W ?_;exact Yc [d] [g] Xd YO WZ W0 YQ _ (Wy.d X) (fun l Xf=>by rw[S2.1 Xf];exact X9) (fun l Xf=>by rw[S2.1 Xf];exact Ya) rfl aA ((WH.C WT).c) Yh.c (by simpa using aU.al.hB Xo (W5.C X)) (by simpa using aU.al.hB Xp (W7.C X)) (XW _ _ YR) (V a) aa aa
 by_cases S:d.a9=6;rotate_left
 ·refine cl a @a6 WC B H S ?_;refine Xe _ _ 4 ?_ Wy (V a) aa aa;rw[W8,v,Sg B,Sg H,Sg S,Sm (.inl rfl)]
 obtain⟨y,E,Zl,U,Xr⟩:∃y E,WZ.getD 3 undef=y/\az p 5 y d.aj.length E/\aU aE 5 (fun j=>s.Y<=j) p d.aj E:=by
  cases d with
  |au Xh Zm K w Yu=>obtain⟨Zn,Yj,Zo,Yk,Zp,rfl,Xy,Q,Wz,Xz,Yl,F,R,WR⟩:=W5.ea;exact⟨Yj,Yk,rfl,Q,R⟩
 obtain⟨WE,WQ,Zq,W9,Yd⟩:∃y E,W0.getD 3 undef=y/\az p 5 y g.aj.length E/\aU aE 5 (fun j=>s.Y<=j) p g.aj E:=by
  cases g with
  |au Xh Zm K w Yu=>obtain⟨Zn,Yj,Zo,Yk,Zp,rfl,Xy,Q,Wz,Xz,Yl,F,R,WR⟩:=W7.ea;exact⟨Yj,Yk,rfl,Q,R⟩
 have XX:aD Se p 23 (ab h.Y 3 6)=some y:=by
  have:=X8.B (P:=Se) ft (a:=3) (c:=6) Z Z;rw[this,Zl]
 have XY:aD Se p 23 (ab (h.Y+1) 3 6)=some WE:=by
  have:=WO.B (P:=Se) ft (a:=3) (c:=6) Z Z;rw[this,Zq]
 have YS:∀{D:O},bd D->(∀l∈D.aj,bd l)/\D.aj.length<=100000:=fun m=>by cases m with|au Xy Q Wz Xz Yl=>exact⟨Yl,Q⟩
 have⟨YT,YU⟩:=YS X9;obtain⟨Zr,-⟩:=YS Ya;by_cases WA:g.a9=0
 ·have Zs:∀t:J,iU Se t 23 (I (d.aj.length:Sl)) (I (d.aj.length:Sl))=cL t (cM bX d.aj.length) d.aj.length 5:=fun t=>AL u aL b8 pZ cy rfl Z Z
  refine mA a @a6 @c7 WC WD XX XY (U.g u) Zs B H (Sj S) (Sj WA) ?_;refine du (n:=d.aj.length) (z:=5) (AM _) ?_;intro Xd YP WH Zk WU;refine ax a ?_;exact Yc d.aj (Te d.aj.length O.ck) y Xd E _ YP _ (Wy.d WU) YT (fun l Xf=>by rw[(List.mem_replicate.1 Xf).2];exact bd.ck) aA YU (U.C WU) (by rw[List.length_replicate];exact WH.c) (Xr.C cm WU) (aU.AN _ _ _) (XW _ _ (by rw[v,Sg B,Sg H,Sm S,Sm WA])) (V a) aa aa
 by_cases W:g.a9=6
 ·by_cases Ym:g.aj.length=d.aj.length
  ·have Yn:((g.aj.length:Sl):So)=(d.aj.length:Sl):=Z;refine kP a @a6 @c7 WC WD XX XY (U.g u) (W9.g u) B H (Sj S) WA (Sj W) (Sj Yn) ?_;exact Yc d.aj g.aj y WE E WQ p _ Wy YT Zr Ym.symm YU U W9 Xr Yd (XW _ _ (by rw[v,Sg B,Sg H,Sm S,Sg WA,Ss W,Ss Ym];rfl)) (V a) aa aa
  have Yn:¬((g.aj.length:Sl):So)=(d.aj.length:Sl):=Z;refine kP a @a6 @c7 WC WD XX XY (U.g u) (W9.g u) B H (Sj S) WA (Sj W) Yn ?_;refine Xe _ _ 4 ?_ Wy (V a) aa aa;rw[W8,v,Sg B,Sg H,Sm S,Sg WA,Ss W,Sn Ym,Sm (.inl rfl)]
 refine sz a @a6 @c7 WC WD XX XY B H (Sj S) WA W ?_;refine Xe _ _ 4 ?_ Wy (V a) aa aa;rw[W8,v,Sg B,Sg H,Sm S,Sg WA,Sn W,Sm (.inl rfl)]
end Go.Proofs.YtgpmffbleaphkaaGreat
namespace Go.Proofs.YtgpmffbleaphkaaGreat
open Go.Cl Go.Cl.Pr
structure vy (aV:bg):Prop where
 xA:aV.M 92=none
 abM:aV.M 105=none
 As:aV.M 106=none
 abN:aV.M 142=none
 HK:aV.M 164=none
 GQ:aV.M 42=none
theorem abO (L:vy aw)(s:J)(a b c:So)(e:0<=a/\a<=255)(f:0<=b/\b<=255)(g:0<=c/\c<=255):Runs Se aw 142 [I a,I b,I c] s fun v d=>v=I (g8 a b c)/\d=s:=by
 refine Runs.gZ fun d g=> ?_
 refine Runs.oU 39 Tryz.func142 L.abN fun f d=> ?_
 refine ax d ((Ar _ (a+b-c) a Z Z).b ?_);rintro _ _ ⟨rfl,rfl⟩;refine ax d ((Ar _ (a+b-c) b Z Z).b ?_);rintro _ _ ⟨rfl,rfl⟩;refine ax d ((Ar _ (a+b-c) c Z Z).b ?_);rintro _ _ ⟨rfl,rfl⟩;by_cases e:fw (a+b-c) a<=fw (a+b-c) b
 ·by_cases f:fw (a+b-c) a<=fw (a+b-c) c
  ·have h:g8 a b c=a:=by unfold g8;rw[Sm ⟨e,f⟩]
   refine nR d (Sj e) (Sj f) @SG ?_;rw[g];exact⟨by rw[h],rfl⟩
  by_cases h:fw (a+b-c) b<=fw (a+b-c) c
  ·have i:g8 a b c=b:=by unfold g8;rw[Sg (fun j=>f j.2),Sm h]
   refine oS d (Sj e) f (Sj h) @SG ?_;rw[g];exact⟨by rw[i],rfl⟩
  have i:g8 a b c=c:=by unfold g8;rw[Sg (fun j=>f j.2),Sg h]
  refine oS d (Sj e) f h @SG ?_;rw[g];exact⟨by rw[i],rfl⟩
 by_cases f:fw (a+b-c) b<=fw (a+b-c) c
 ·have h:g8 a b c=b:=by unfold g8;rw[Sg (fun i=>e i.1),Sm f]
  refine nR d e (Sj f) @SG ?_;rw[g];exact⟨by rw[h],rfl⟩
 have h:g8 a b c=c:=by unfold g8;rw[Sg (fun a=>e a.1),Sg f]
 refine nR d e f @SG ?_;rw[g];exact⟨by rw[h],rfl⟩
theorem abP (L:vy aw)(s:J)(t a b c:So)(j:0<=a/\a<=255)(k:0<=b/\b<=255)(l:0<=c/\c<=255):Runs Se aw 106 [I t,I a,I b,I c] s fun v d=>v=I (iJ t a b c)/\d=s:=by
 refine Runs.gZ fun d h=> ?_
 refine Runs.F8 28 Tryz.func106 L.As fun d f=> ?_
 by_cases d:t=1
 ·have e:iJ t a b c=a:=by unfold iJ;rw[Sm d]
  refine bS f (Sj d) @SH ?_;rw[h];exact⟨by rw[e],rfl⟩
 by_cases e:t=2
 ·have g:iJ t a b c=b:=by unfold iJ;rw[Sg d,Sm e]
  refine b0 f d (Sj e) @SH ?_;rw[h];exact⟨by rw[g],rfl⟩
 by_cases g:t=3
 ·have i:iJ t a b c=(a+b)/2:=by unfold iJ;rw[Sg d,Sg e,Sm g]
  refine pR f d e (Sj g) @kI @uM (Int.tdiv_eq_ediv_of_nonneg Z:(a+b).tdiv 2=(a+b)/2) @SH ?_;rw[h];exact⟨by rw[i],rfl⟩
 by_cases i:t=4
 ·have m:iJ t a b c=g8 a b c:=by unfold iJ;rw[Sg d,Sg e,Sg g,Sm i]
  refine bp f d e g (Sj i) ((abO L s a b c j k l).b ?_);rintro _ _ ⟨rfl,rfl⟩;refine bO f @SH ?_;rw[h];exact⟨by rw[m],rfl⟩
 refine e8 f d e g i @SH ?_;rw[h];exact⟨by rw[(show iJ t a b c=0 by unfold iJ;rw[Sg d,Sg e,Sg g,Sg i])],rfl⟩
def abQ (s:J)(a b c:So)(v:Si)(d:J):Prop:=v= .tuple #[I a,I b,I c]/\ad s.Y s d
theorem abR (X:vy aw)(s:J)(A:So)(c m n:Sl)(g:Si)(l:Sr S4)(Wy:az s 1 g l.length (aM l))(B:l.length<=200000000)(i:Sl)(WO:i<=l.length)(Wz:n=c*m)(WQ:1<=n)(WR:n<=16384)(WS:1<=c)(WT:c<=n):
  Runs Se aw 105 [er A c m,g,I i] s (abQ s (ig l n c i) (iK l n i) (hZ l n c i)):=by
 refine Runs.iY 61 Tryz.func105 X.abM fun f a WA d b=> ?_
 have WB:[S8 .i64 A,I (c:So),I (m:So)].length+1=4:=rfl;have WC:SC.wrap ((c:So)*(m:So))=(n:So):=by
  rw[(show(c:So)*(m:So)=(n:So) by rw[Wz];exact(S9 c m).symm),cg Z]
 have WD:=Tm i n;have WE:=Nat.mod_lt i (show n>0 from Z);have⟨p,h⟩:=aO (i%n);rw[<-h] at WD WE;have D:((i:Sl):So).tmod (n:So)=(p:So):=by rw[h,SN Z];rfl
 have WU:¬(n:So)=0:=Z;refine aq a WA (aK fun E u v WV=> ?_);have u:ae E s.Y (fI A c m):=u;have w:=u.v aB 1 4 (I c);have WG:=u.v aB 2 4 (I m);have P:=Wy.C v;refine gY a b WB @n7 @uK w WG WC @gy D ?_;generalize WH:ja Se aw (SD (SD (SP _ _ _) _) (SD _ _)) _=WI;have F:∀q:Sl,q<l.length->eM Se 22 g (I q)=some (bM 1 g q)/\aD Se E 5 (bM 1 g q)=some (.int .u8 ((l.getD q 0).toNat:Sl)):=fun q Q=>by
  have R:=P.r (k:= .i64) (x:=(q:So)) Sf bw Z Z;rw[Sv] at R;have B:=P.P de Q;rw[dn Q] at B;exact⟨R,B⟩
 have S:∀f,f.e=61->f.N 1=g->f.N 2=I i->f.N 3=ab s.Y 0 4->f.N 9=I n->f.N 10=I (ig l n c i)->f.N 11=I 0->f.N 12=I 0->WI .b2 f E:=by
  subst WH;intro f a d b T G H WJ U;by_cases r:n<=i;rotate_left
  ·have y:¬(n:So)<=(i:So):=Z;have j:iK l n i=0:=by unfold iK;rw[Sg r]
   have t:hZ l n c i=0:=by unfold hZ;rw[Sg (fun K=>r K.1)]
   refine ch a b G H WJ U y ?_;refine bO a @SV ?_;exact⟨by rw[j,t],v⟩
  have y:(n:So)<=(i:So):=Z;have⟨z,o⟩:=F (i-n) Z;have L:=l2 (l.getD (i-n) 0);have WK:((((l.getD (i-n) 0).toNat:Sl):So))=iK l n i:=by unfold iK;rw[Sm r]
  rw[WK] at o L;have j:(i:So)-(n:So)=((i-n:Sl):So):=Z;by_cases e:c<=p;rotate_left
  ·have M:¬(c:So)<=(p:So):=Z;have t:hZ l n c i=0:=by unfold hZ;rw[Sg (fun K=>e (by rw[h];exact K.2))]
   refine pW a d b T G H U (Sj y) j z o (dH Sq Sk) @n7 w @gy D M ?_;refine bO a @SV ?_;exact⟨by rw[t],v⟩
  have M:(c:So)<=(p:So):=Z;have⟨WL,W⟩:=F (i-n-c) Z;have WM:=l2 (l.getD (i-n-c) 0);have O:((((l.getD (i-n-c) 0).toNat:Sl):So))=hZ l n c i:=by unfold hZ;rw[Sm ⟨r,by rw[<-h];exact e⟩]
  rw[O] at W WM;have WW:c<=i-n:=by
   have d:(i-n)%n=i%n:=(Nat.mod_eq_sub_mod r).symm;have b:=Tm (i-n) n;omega
  have t:((i-n:Sl):So)-(c:So)=((i-n-c:Sl):So):=Z;refine sA a d b T G H (Sj y) j t z o WL W (dH Sq Sk) @n7 w @gy D (Sj M) ?_;refine bO a @SV ?_;exact⟨rfl,v⟩
 by_cases e:c<=p;rotate_left
 ·have WN:ig l n c i=0:=by unfold ig;rw[Sg (by rw[<-h];exact e)]
  refine ax e ?_;exact S _ (V a) (V d) (V b) aa aa (V WN) aa aa
 have⟨z,o⟩:=F (i-c) Z;have L:=l2 (l.getD (i-c) 0);have O:((((l.getD (i-c) 0).toNat:Sl):So))=ig l n c i:=by unfold ig;rw[Sm (by rw[<-h];exact e)]
 rw[O] at o L;have j:(i:So)-(c:So)=((i-c:Sl):So):=Z;refine gY a d b (Sj e) @n7 w j z o (dH Sq Sk) ?_;exact S _ (V a) (V d) (V b) aa aa aa aa aa
end Go.Proofs.YtgpmffbleaphkaaGreat
namespace Go.Cl
inductive oy (s:J) (z:Sl):Si->Sl->Sr Si->Prop
 |al:oy s z (av) 0 []
 |bu (i n c low:Sl) (cs l:Sr Si) (hi:i<s.Y) (hb:s.t i=some ⟨cs,low,true,z⟩) (hl:low<=c) (hc:c<=cs.length+1) (hlen:l.length=n*z) (hn:n*z<c) (ht:cs.take (n*z)=l):oy s z (.slice (some ⟨i,0,none⟩) n c) n l
theorem oy.C {s a:J}{z:Sl}{v:Si}{n:Sl}{l:Sr Si}(h:oy s z v n l)(k:ad s.Y s a):oy a z v n l:=by
 cases h with
 |al=>exact .al
 |bu i n c d e l b f g j m o p=>exact .bu i n c d e l (S3 b k.Y) ((k.bl b).trans f) g j m o p
theorem ao.abS {P:Program}{k o e:Tn}{f:TypeDesc}{z g:Sl}{h:Si}(u:P.underlying k=some (.slice e))(v:P.underlying o=some f)(p:(∃q,f= .slice q)\/f= .string)(w:bc P e=some z)(A:e2 P e=some g)(B:bK P e=some h)(D:SF h.cells.toList.length z=true)
  {s:J} {x y:Si} {n m:Sl} {l a:Sr Si} (E:ao s z x n l) (j:iB s z y=some (m+1,a)) (M:a.length=(m+1)*z) (F:0<z) (G:a.all aN=true) (H:(n+(m+1))*g<=140737488355328) (K:n+(m+1)<=140737488355328):
  ∃c d,gQ P s k o x y=some (c,d)/\ao d z c (n+(m+1)) (l++a)/\aF x s d/\(ak c=ak x\/∃i,ak c=some i/\s.Y<=i)/\oy d z x n l:=by
 have⟨c,d,b,O,Q,R⟩:=E.hQ u v p w A B D j M F G H K;refine⟨c,d,b,O,Q,R,?_⟩;have j:mm s z g h f y=some (m+1,a):=by rcases p with ⟨q,rfl⟩|rfl<;>exact j
 have S:(S5 ((n+(m+1))*g) 140737488355328&&S5 (n+(m+1)) 140737488355328&&Nat.blt 0 z&&a.all aN&&SF h.cells.toList.length z)=true:=by
  simp only[SM,Tf,To];exact⟨⟨⟨⟨H,K⟩,F⟩,G⟩,D⟩
 cases E with
 |al=>exact .al
 |bu i n r l T U L t=>
  have W:(true&&S5 r (l.length+1)&&SF z z)=true:=by simp[L]
  have X:(SF (l.length+1) (l.length+1)&&SF 0 0&&SF (n*z) l.length)=true:=by simp[t]
  have Wy:gQ P s k o (.slice (some ⟨i,0,none⟩) n (l.length+1)) y=some (.slice (some ⟨i,0,none⟩) (n+(m+1)) ((l++a).length+1),s.u i (.bl ⟨l++a,r,true,z⟩)):=by
   unfold gQ;rcases p with ⟨q,rfl⟩|rfl<;>
   simp only[u,v,w,A,B,j,S,if_true,U,W,X]
  rw[Wy] at b;injection b with b;injection b with _ b;rw[<-b];refine .bu i n _ r (l++a) l (by simpa [J.u] using T) (by rw[J.kA _ _ _ Z]) L aA t Z (by rw[<-t,List.take_left])
theorem oy.hQ {P:Program}{R S e:Tn}{g:TypeDesc}{a h:Sl}{j:Si}(t:P.underlying R=some (.slice e))(u:P.underlying S=some g)(k:(∃v,g= .slice v)\/g= .string)(w:bc P e=some a)(y:e2 P e=some h)(A:bK P e=some j)(B:SF j.cells.toList.length a=true)
  {b:J} {x D:Si} {n m:Sl} {l c:Sr Si} (Wz:oy b a x n l) (o:iB b a D=some (m+1,c)) (E:c.length=(m+1)*a) (F:0<a) (G:c.all aN=true) (H:(n+(m+1))*h<=140737488355328) (K:n+(m+1)<=140737488355328):
  ∃p L,gQ P b R S x D=some (p,L)/\ao L a p (n+(m+1)) (l++c)/\aF x b L/\(ak p=ak x\/∃i,ak p=some i/\b.Y<=i):=by
 have T:=o;have o:mm b a h j g D=some (m+1,c):=by rcases k with ⟨v,rfl⟩|rfl<;>exact o
 have WA:(S5 ((n+(m+1))*h) 140737488355328&&S5 (n+(m+1)) 140737488355328&&Nat.blt 0 a&&c.all aN&&SF j.cells.toList.length a)=true:=by
  simp only[SM,Tf,To];exact⟨⟨⟨⟨H,K⟩,F⟩,G⟩,B⟩
 cases Wz with
 |al=>exact(ao.al (s:=b) (z:=a)).hQ t u k w y A B T E F G H K
 |bu i n M q d l WB O Q WC U WN W=>
  by_cases r:M=d.length+1/\n*a=d.length
  ·obtain⟨rfl,r⟩:=r;have e:l=d:=by rw[<-W,r,List.take_length]
   subst e;exact(ao.bu (z:=a) i n q l WB O Q U).hQ t u k w y A B T E F G H K
  obtain⟨f,rfl⟩:∃f,M=f+1:=⟨M-1,Z⟩
  have WD:(true&&S5 q (f+1)&&SF a a)=true:=by simp only[Bool.true_and,SM,Tf,Tp];exact⟨Q,trivial⟩
  have WE:(SF (f+1) (d.length+1)&&SF 0 0&&SF (n*a) d.length)=false:=by
   rw[<-Bool.not_eq_true];simp only[SM,Tp];exact fun X=>r ⟨X.1.1,X.2⟩
  have WG:b.fL i 0 (f+1) (n*a)=some l:=by
   rw[nd O Q WC Z,SZ,W]
  have WH:(l++c).length=(n+(m+1))*a:=by rw[SI,U,E,Nat.add_mul n (m+1) a]
  have⟨WI,WJ⟩:=ao.x (s:=b.u i (.bl (jX ⟨d,q,true,a⟩))) WH;have Wy:(b.u i (.bl (jX ⟨d,q,true,a⟩))).Y=b.Y:=rfl;refine⟨_,_,?_,WJ,⟨by rw[sn,Wy];omega,fun WK WL WM=> ?_⟩,.inr ⟨b.Y,rfl,SW _⟩⟩
  ·unfold gQ;rcases k with ⟨v,rfl⟩|rfl<;>
   simp only[t,u,w,y,A,o,WA,if_true,O,WD,WE,WG,WI]<;>rfl
  rw[(ad.x _ _).N WK (by rw[Wy];exact WL),J.gS];intro e;subst e;exact WM rfl
namespace LB
section
variable {P:Program} {aV:bg} {A:Sl->Ti} {g:Sl} {all r:Sr Oper} {id:Sl} {f:an} {T:J} {d:Option Tmp} {Q:an->J->Prop}
theorem abT {k o e:Tn}{h:TypeDesc}{z p:Sl}{q:Si}(t:P.underlying k=some (.slice e))(u:P.underlying o=some h)(v:(∃w,h= .slice w)\/h= .string)(B:bc P e=some z)(D:e2 P e=some p)(E:bK P e=some q)(F:SF q.cells.toList.length z=true)
  {x y:Si} {n m:Sl} {l b:Sr Si} (G:ao T z x n l) (H:iB T z y=some (m+1,b)) (K:b.length=(m+1)*z) (L:0<z) (M:b.all aN=true) (O:(n+(m+1))*p<=140737488355328) (R:n+(m+1)<=140737488355328) (S:g≠0->∀i,ak x=some i->A i=false) (U:∀i,A i=true->i<T.Y)
  (W:∀a c,ao c z a (n+(m+1)) (l++b)->oy c z x n l->aF x T c->(ak a=ak x\/∃i,ak a=some i/\T.Y<=i)->jd P aV A (g-1) all r id f d Q a c):j6 P aV A g all r id f d T Q (dL (gQ P T k o x y)):=by
 have⟨a,WC,X,Wy,j,Wz,WA⟩:=G.abS t u v B D E F H K L M O R;rw[X,lj,rb];exact⟨fun WB=>⟨j.Y,fun i s=>j.N i (U i s) (fun e=>by have:=S WB i e;rw[s] at this;cases this)⟩,W _ _ Wy WA j Wz⟩
theorem abU {k l e:Tn}{c:TypeDesc}{z o:Sl}{p:Si}(t:P.underlying k=some (.slice e))(u:P.underlying l=some c)(v:(∃w,c= .slice w)\/c= .string)(B:bc P e=some z)(D:e2 P e=some o)(E:bK P e=some p)(F:SF p.cells.toList.length z=true)
  {x y:Si} {n m:Sl} {q b:Sr Si} (G:oy T z x n q) (H:iB T z y=some (m+1,b)) (K:b.length=(m+1)*z) (L:0<z) (M:b.all aN=true) (O:(n+(m+1))*o<=140737488355328) (R:n+(m+1)<=140737488355328) (S:g≠0->∀i,ak x=some i->A i=false) (U:∀i,A i=true->i<T.Y)
  (W:∀a h,ao h z a (n+(m+1)) (q++b)->aF x T h->(ak a=ak x\/∃i,ak a=some i/\T.Y<=i)->jd P aV A (g-1) all r id f d Q a h):j6 P aV A g all r id f d T Q (dL (gQ P T k l x y)):=by
 have⟨a,WB,X,Wy,j,Wz⟩:=G.hQ t u v B D E F H K L M O R;rw[X,lj,rb];exact⟨fun WA=>⟨j.Y,fun i s=>j.N i (U i s) (fun e=>by have:=S WA i e;rw[s] at this;cases this)⟩,W _ _ Wy j Wz⟩
end
end LB
end Go.Cl
namespace Go.Cl.Pr
theorem abV {r:Sl}{P:Sl->Prop}(h:∀j,j<r->P j)(b:P r):∀a,a<r+1->P a:=fun j a=>by
 by_cases e:j=r
 ·rw[e];exact b
 exact h j Z
theorem abW {l:Sr S4}{x:S4}{n c:Sl}(e:1<=c)(f:1<=n):ig (l++[x]) n c l.length=ig l n c l.length/\iK (l++[x]) n l.length=iK l n l.length/\hZ (l++[x]) n c l.length=hZ l n c l.length:=by
 have a:∀j,j<l.length->(l++[x]).getD j 0=l.getD j 0:=fun j d=>by
  rw[Sw,List.getElem?_append_left d,<-Sw]
 refine⟨?_,?_,?_⟩
 ·unfold ig;split
  ·rename_i h;have g:0<l.length:=by
    rcases Nat.eq_zero_or_pos l.length with b|b
    ·rw[b,Nat.zero_mod] at h;omega
    exact b
   rw[a _ Z]
  rfl
 ·unfold iK;split
  ·rw[a _ Z]
  rfl
 unfold hZ;split
 ·rw[a _ Z]
 rfl
end Go.Cl.Pr
namespace Go.Proofs.YtgpmffbleaphkaaGreat
open Go.Cl Go.Cl.Pr
theorem abX (a b c:So):bn (.tuple #[I a,I b,I c]) (.tuple #[I a,I b,I c])=true:=by simp[bn,mn,oD,b9]
theorem KE (Xg:vy aw)(w:J)(q G H:So)(S:Si)(e:Sr S4)(X5:az w 1 S e.length (aM e))(YK:e.length<=100000000):
  Runs Se aw 72 [er q G H,S] w (rD w (ik q G H e)):=by
 refine Runs.gZ fun YL WI=> ?_
 refine Runs.cS 91 Tryz.func72 rfl fun f d X6 p=> ?_
 have X7:[S8 .i64 q,I G,I H].length+1=4:=rfl;refine aq d X6 (aK fun W2 WQ M Xh=> ?_);have WQ:ae W2 w.Y (fI q G H):=WQ;have X8:aD Se W2 85 (ab w.Y 0 4)=some (er q G H):=ae.y (a:=fI q G H) xD sN WQ (c:=4) rfl;refine aR d X7 X8 ((HH W2 q G H).b ?_);rintro _ m ⟨rfl,W3⟩;have Wy:=M.d W3;have WJ:=WQ.C W3;have YM:=M.Y;have YN:=W3.Y;have Wz:=X5.C Wy;by_cases WA:ij q G H;rotate_left
 ·rw[Sn WA];refine bO d SJ ?_;rw[WI,(show ik q G H e=([],1) by unfold ik;rw[Sm WA])];exact⟨_,rfl,⟨.al,ay.al _,Wy⟩⟩
 rw[Ss WA];have Xi:∀t,ad m.Y m t->aD Se t 3 (ab w.Y 0 4)=some (I q):=fun t h=>(WJ.C h).o aB 0 4
 have X9:∀t,ad m.Y m t->aD Se t 3 (ab w.Y 1 4)=some (I G):=fun t h=>(WJ.C h).o aB 1 4
 have Ya:∀t,ad m.Y m t->aD Se t 3 (ab w.Y 2 4)=some (I H):=fun t h=>(WJ.C h).o aB 2 4
 have WR:=ad.p m.Y m;by_cases WS:q=1
 ·have Q:ik q G H e=(e,0):=by unfold ik;rw[Sg (fun h=>h WA),Sm WS]
  refine bp d p @n6 (Xi _ WR) (Sj WS) ?_;refine(ri m S e Wz Z).b ?_;rintro WT YO ⟨WU,y,Yb⟩;refine bO d SJ ?_;rw[WI,Q];exact⟨WT,rfl,⟨WU,fun j v=>ag (y j v),Wy.d Yb⟩⟩
 have⟨YP,YQ,YR,YS,YT⟩:=id WA;obtain⟨g,rfl⟩:∃g:Sl,G=g:=⟨G.toNat,Z⟩
 obtain⟨O,rfl⟩:∃O:Sl,H=O:=⟨H.toNat,Z⟩
 have⟨a,WB⟩:=aO (g*O:Sl);have Xj:1<=a:=by rw[WB];exact Tg (show 1<=g from Z) (show 1<=O from Z)
 have Yc:a<=16384:=by rw[WB];exact Tg (show g<=4 from Z) (show O<=4096 from Z)
 have Yd:g<=a:=by rw[WB];exact Nat.le_mul_of_pos_right g Z
 have⟨h,WC⟩:=aO (if 10<=q then 1 else 0:Sl);have YU:h<=1:=by rw[WC];split<;>omega
 have U:ik q (g:So) (O:So) e=if e.length%(h+a)≠0 then([],4) else if lD e h a (e.length/(h+a))=true then([],4) else(dq e h a g (e.length/(h+a)*a),0):=by
  unfold ik;rw[Sg (fun h=>h WA),Sg WS,Sv,Sv,<-WB,<-WC]
 have Ye:SC.wrap ((g:So)*(O:So))=(a:So):=by
  have Q:(g:So)*(O:So)=(a:So):=by rw[WB];exact(S9 g O).symm
  rw[Q,cg Z]
 refine cX d @n6 @n7 @uK (Xi _ WR) (X9 _ WR) (Ya _ WR) WS Ye ?_;generalize Yf:ja Se aw (SD (SD (SP _ _ _) (Tr _ _ _)) (SD _ _)) _=Yg;have Xk:∀f,f.e=91->f.N 1=S->f.N 2=ab w.Y 0 4->f.N 6=I (a:Sl)->f.N 7=I (h:Sl)->Yg .b2 f m:=by
  subst Yf;intro f d p B s u;have Xl:SC.wrap ((a:So)+(h:So))=((h+a:Sl):So):=by rw[cg Z];omega
  have YV:¬((h+a:Sl):So)=0:=Z;have Xm:((e.length:Sl):So).tmod ((h+a:Sl):So)=((e.length%(h+a):Sl):So):=by rw[SN Z];rfl
  by_cases W4:e.length%(h+a)=0;rotate_left
  ·rw[Sm W4] at U;refine pS d p s u (Wz.g Sf) Xl @gy Xm (Sy (Z:¬((e.length%(h+a):Sl):So)=0)) SJ ?_;rw[WI,U];exact⟨_,rfl,⟨.al,ay.al _,Wy⟩⟩
  rw[Sg (fun h=>h W4)] at U;have⟨K,Xn⟩:=aO (e.length/(h+a));have Xo:K*(h+a)=e.length:=by
   have:=Nat.div_add_mod e.length (h+a);rw[W4,Tj,<-Xn] at this;omega
  rw[<-Xn] at U;have YW:K*a<=e.length:=by rw[<-Xo];exact Nat.mul_le_mul_left K Z
  simp(disch:=omega)only[aI,bD,bB,Sp,Sh,↓St,d,p,s,u,Wz.cd Sf,Xl,gy,Xm,Sj (Z:((e.length%(h+a):Sl):So)=0)];refine aZ.w (fun P f t=>∃(r:Sl) (o:Si),P=K-r/\r<=K/\(∀j,j<r->¬4<kY e h a j)/\ao t 1 o (r*a) (aM (dq e h a g (r*a)))/\ay m.Y o/\ad m.Y m t/\f.e=91/\f.N 1=S/\f.N 2=ab w.Y 0 4/\f.N 6=I (a:Sl)/\f.N 7=I (h:Sl)/\f.N 8=o/\f.N 9=I ((r*(h+a):Sl):So))
   (fun P f t=>(P= .bF/\lD e h a K=true/\ad m.Y m t/\f.e=91/\f.N 4=av/\f.N 5=I 4)\/(P= .bb 0/\lD e h a K=false/\∃o,ao t 1 o (K*a) (aM (dq e h a g (K*a)))/\ay m.Y o/\ad m.Y m t/\f.e=91/\f.N 8=o))
   ⟨0,av,rfl,Z,fun j v=>Z,by rw[Tk];exact .al,ay.al _,ad.p _ _,V d,V p,V B,V s,V u,aa,V Tk⟩ ?_ ?_
  ·clear d p B s u f;rintro Yh WV P f t ⟨r,o,rfl,YX,Xp,E,y,M,d,p,B,s,u,z,F⟩;have WW:=Wz.C M;have YY:=M.Y;by_cases W5:r<K;rotate_left
   ·obtain rfl:r=K:=Z;have Yi:lD e h a r=false:=by
     unfold lD;rw[List.any_eq_false];intro j v;have:=Xp j (List.mem_range.1 v)
     simpa using this
    refine bp d p F (WW.g Sf) (Z:¬((r*(h+a):Sl):So)<((e.length:Sl):So)) ?_;exact WV _ _ _ (.inr ⟨rfl,Yi,o,E,y,M,V d,V z⟩)
   have YZ:(r+1)*(h+a)<=e.length:=by rw[<-Xo];exact SB (h+a) W5
   have Yj:(r+1)*(h+a)=r*(h+a)+(h+a):=Tl r (h+a);have Yk:(r+1)*a=r*a+a:=Tl r a;have Y0:(r+1)*a<=K*a:=SB a W5;have Yl:((r*(h+a):Sl):So)<((e.length:Sl):So):=Z;have⟨T,WD⟩:=aO (kY e h a r);have Ym:=Ij e h a r;rw[<-WD] at Ym;refine cl d p u F (WW.g Sf) (Sj Yl) ?_;generalize Yn:ja Se aw (SD (SD (SP _ _ _) (Tr _ _ _)) (SD _ _)) _=Yo;have Xq:∀f,f.e=91->f.N 1=S->f.N 2=ab w.Y 0 4->f.N 6=I (a:Sl)->f.N 7=I (h:Sl)->f.N 8=o->f.N 9=I ((r*(h+a):Sl):So)->f.N 10=I T->Yo .b2 f t:=by
    subst Yn;intro f d p B s u z F W;by_cases WX:T>4
    ·refine aR d W (Sj WX) ?_;exact WV _ _ _ (.inl ⟨rfl,Ii W5 (by rw[<-WD];exact WX),M,V d,aa,aa⟩)
    refine aR d W WX ?_;refine aZ.w (fun P f L=>∃(b:Sl) (o:Si),P=a-b/\b<=a/\ao L 1 o (r*a+b) (aM (dq e h a g (r*a+b)))/\ay m.Y o/\ad m.Y m L/\f.e=91/\f.N 1=S/\f.N 2=ab w.Y 0 4/\f.N 6=I (a:Sl)/\f.N 7=I (h:Sl)/\f.N 8=o/\f.N 9=I ((r*(h+a):Sl):So)/\f.N 10=I T/\f.N 11=I (b:Sl))
     (fun P f L=>P= .bb 2/\∃o,ao L 1 o (r*a+a) (aM (dq e h a g (r*a+a)))/\ay m.Y o/\ad m.Y m L/\f.e=91/\f.N 1=S/\f.N 2=ab w.Y 0 4/\f.N 6=I (a:Sl)/\f.N 7=I (h:Sl)/\f.N 8=o/\f.N 9=I ((r*(h+a):Sl):So))
     ⟨0,o,rfl,Z,E,y,M,V d,V p,V B,V s,V u,V z,V F,V W,aa⟩ ?_ ?_
    ·clear d p B s u z F W E y f;rintro Yh WV P f L ⟨b,o,rfl,Y1,E,y,WE,d,p,B,s,u,z,F,W,WY⟩;by_cases Xr:b<a;rotate_left
     ·obtain rfl:b=a:=Z;refine aW d s WY (Z:¬((b:Sl):So)<((b:Sl):So)) ?_;exact WV _ _ _ ⟨rfl,o,E,y,WE,V d,V p,V B,V s,V u,V z,V F⟩
     have Y2:=WE.Y;refine aW d s WY (Sj (Z:((b:Sl):So)<((a:Sl):So))) ?_;have⟨R,W6⟩:=aO (fun j=>decide (j<m.Y):Sl->Ti);have W7:∀j,R j=true->j<m.Y:=by
      intro j h;rw[W6] at h;exact SQ h
     have Xs:∀j,R j=true->j<L.Y:=fun j h=>ag (W7 j h)
     have Xt:∀j,j<m.Y->R j=true:=fun j h=>by rw[W6];exact Ss h
     have Yp:∀j,m.Y<=j->R j=false:=fun j h=>by rw[W6];exact Sn Z
     refine LB.kQ.hx R Xs 1 1 cW cW ?_;have Xu:=ad.aS L 1;have Y3:(aS L 1).Y=L.Y+1:=gg _ _;have Yq:=(WJ.C WE).C Xu;have Yr:∀b,LA.c4 R (some (ab w.Y b 4))=true:=fun b=>LA.hT (A:=R) (i:=w.Y) (Xt _ WJ.n)
     have Ys:aD Se (aS L 1) 85 (ab w.Y 0 4)=some (er q g O):=ae.y (a:=fI q g O) xD sN Yq (c:=4) rfl;simp(disch:=omega)only[aI,fi,dy,bC,Sp,Sh,↓St,d,B,z,Yr,Ys,E.m,HF,gh Sf bw dN];refine LB.fD (a:=L.Y) (by rfl) Z (SW _) ?_;intro Yt Y4 W8 Yu Yv Y5 Y6;have WK:=Xu.a Yv;refine ax d (LB.abT Sf Sf (.inl ⟨_,rfl⟩) bw jg dN rfl (E.C WK) W8.c.X rfl ai rfl Z Z (fun _ X Yw=>Yp X (y X Yw)) (fun X h=>bq (Xs X h) WK.Y) fun WT W9 WU Xv Xw Y7=> ?_);have WL:=lC e h a g (r*a+b);have⟨D,Xx⟩:=aO (dq e h a g (r*a+b));rw[<-Xx] at WL WU Xv;have Yx:az W9 1 WT (D++[0]).length (aM (D++[0])):=by
      rw[SI,WL,km];exact WU.c
     have WZ:ad m.Y m W9:=⟨bq Xw.Y WK.Y,fun j v=>by rw[Xw.N j (ag WK.Y) (fun Q=>ag (y _ Q)),WK.N j Z,WE.N j v]⟩;have Xy:bn o o=true:=E.m;refine bp d z Xy (E.c.g Sf) (LA.q9 E.c) ?_;refine(abR Xg W9 q g O a WT (D++[0]) Yx (by rw[SI,WL];simp;omega) (r*a+b) (by rw[SI,WL];simp) WB Xj Yc Z Yd).b ?_;have⟨Xz,XW,XX⟩:=abW (l:=D) (x:=0) (n:=a) (c:=g) Z Xj;rw[WL] at Xz XW XX;rw[Xz,XW,XX];rintro _ WM ⟨rfl,WN⟩;refine⟨fun _=>LA.ar.R W7 (⟨bq WN.Y WZ.Y,fun j v=>WN.N j (ag WZ.Y)⟩),?_⟩;have Yy:bm (.tuple #[I (ig D a g (r*a+b)),I (iK D a (r*a+b)),I (hZ D a g (r*a+b))]) 0=some (I (ig D a g (r*a+b))):=rfl;have Yz:bm (.tuple #[I (ig D a g (r*a+b)),I (iK D a (r*a+b)),I (hZ D a g (r*a+b))]) 1=some (I (iK D a (r*a+b))):=rfl;have YA:bm (.tuple #[I (ig D a g (r*a+b)),I (iK D a (r*a+b)),I (hZ D a g (r*a+b))]) 2=some (I (hZ D a g (r*a+b))):=rfl;have YB:=abX (ig D a g (r*a+b)) (iK D a (r*a+b)) (hZ D a g (r*a+b));have Y8:=WZ.Y;have Y9:=WN.Y;have XY:=WZ.d WN;refine bp d Yy Yz YA YB ?_;have Xa:∀j,R j=true->j<WM.Y:=fun j h=>ag (W7 j h)
     refine LB.kQ.hx R Xa 1 1 cW cW ?_;have XZ:=ad.aS WM 1;have Za:(aS WM 1).Y=WM.Y+1:=gg _ _;have Xb:=(Wz.C XY).C XZ;have Xc:r*(h+a)+h+b<e.length:=Z;have WO:=Xb.r (k:= .i64) (x:=((r*(h+a)+h+b:Sl):So)) Sf bw Z Z;rw[Sv] at WO;have WG:=Xb.P de Xc;rw[dn Xc] at WG;simp(disch:=omega)only[aI,bD,fi,dy,Nat.sub_self,bB,Sp,Sh,↓St,d,p,u,z,F,W,WY,(show SC.wrap (((r*(h+a):Sl):So)+(h:So))=((r*(h+a)+h:Sl):So) by rw[cg Z];omega),(show SC.wrap (((r*(h+a)+h:Sl):So)+(b:So))=((r*(h+a)+h+b:Sl):So) by rw[cg Z];omega),Xb.m,Xy,WO,WG,(LA.iG Wz Xt Xc)];refine(abP Xg _ T _ _ _ (Pq D a g _) (Ps D a _) (Pt D a g _)).b ?_;rintro _ _ ⟨rfl,rfl⟩;refine⟨fun _=>LA.ar.R Xa (ad.p _ _),?_⟩;have YC:iJ T (ig D a g (r*a+b)) (iK D a (r*a+b)) (hZ D a g (r*a+b))=n4 T D a g (r*a+b):=rfl;have⟨Xd,X0⟩:=aO (ru ((((e.getD (r*(h+a)+h+b) 0).toNat:Sl):So)+n4 T D a g (r*a+b)));have YD:Tq.wrap ((((e.getD (r*(h+a)+h+b) 0).toNat:Sl):So)+Tq.wrap (n4 T D a g (r*a+b)))=((Xd.toNat:Sl):So):=by
      rw[X0,Hz,gz,gz];omega
     have Xh:dq e h a g (r*a+b+1)=D++[Xd]:=by
      have WH:(r*a+b)/a=r:=by rw[Tj,Nat.mul_add_div (by omega),Nat.div_eq_of_lt Xr,Nat.add_zero]
      rw[dq,Xx.symm,WH,<-WD,X0];unfold rE;rw[WH,An Xr]
     simp(disch:=omega)only[aI,fi,dy,Th,bC,Sp,Sh,↓St,d,YC,gU Sk Sq,YD,gh Sf bw dN];refine LB.fD (a:=WM.Y) (by rfl) Z (SW _) ?_;intro Yt Zb W8 Yu YE Zc Zd;have W0:=XZ.a YE;refine ax d ?_;have YF:([S8 .u8 ((Xd.toNat:Sl):So)]:Sr Si).all aN=true:=by rfl
     refine LB.abU Sf Sf (.inl ⟨_,rfl⟩) bw jg dN rfl ((Xv.C WN).C W0) W8.c.X rfl ai YF Z Z (fun h=>S6 rfl h) (fun X h=>bq (Xa X h) W0.Y) ?_;intro YG Ze X1 X2 YH;have Zf:=W0.Y;have Zg:=X2.Y;refine aR d WY X1.m ?_;refine aH (a-(b+1)) Z ⟨b+1,YG,rfl,Z,?_,?_,?_,V d,V p,V B,V s,V u,aa,V F,V W,aa⟩
     ·rw[<-Nat.add_assoc,Xh,km];exact X1
     ·rcases YH with Q|⟨X,WH,X3⟩
      ·intro j v;exact y j (Q▸v)
      intro j v;rw[WH] at v;injection v with v;omega
     exact⟨Z,fun j v=>by rw[X2.N j Z (fun Q=>ag (y _ Q)),W0.N j Z,XY.N j v]⟩
    rintro P f L ⟨rfl,o,E,y,WE,d,p,B,s,u,z,F⟩;have WH:SC.wrap (((r*(h+a):Sl):So)+(a:So))=((r*(h+a)+a:Sl):So):=by rw[cg Z];omega
    have X3:SC.wrap (((r*(h+a)+a:Sl):So)+(h:So))=(((r+1)*(h+a):Sl):So):=by rw[cg Z,Yj];omega
    refine cl d s u F WH X3 ?_;exact aH (K-(r+1)) Z ⟨r+1,o,rfl,Z,abV Xp (by rw[<-WD];exact WX),by rw[Yk];exact E,y,WE,V d,V p,V B,V s,V u,V z,aa⟩
   by_cases X4:h=1
   ·have Xe:(h:So)=1:=Z;have WO:=WW.r (k:= .i64) (x:=((r*(h+a):Sl):So)) Sf bw Z Z;rw[Sv] at WO;have WG:=WW.P de (show r*(h+a)<e.length from Z);rw[dn Z] at WG;rw[<-(show T=(((e.getD (r*(h+a)) 0).toNat:Sl):So) by rw[WD];unfold kY;rw[Sm X4])] at WG;refine ch d p F (Sj Xe) WO WG (dH Sq Sk) ?_;exact Xq _ (V d) (V p) (V B) (V s) (V u) (V z) (V F) aa
   have Xe:¬(h:So)=1:=Z;refine ax Xe ?_;exact Xq _ (V d) (V p) (V B) (V s) (V u) (V z) (V F) (V (show T=1 by rw[WD];unfold kY;rw[Sg X4]))
  rintro P f t (⟨rfl,Xf,M,d,YI,YJ⟩|⟨rfl,Xf,o,E,y,M,d,z⟩)
  ·rw[Sm Xf] at U;refine b0 d YI YJ SJ ?_;rw[WI,U];exact⟨_,rfl,⟨.al,ay.al _,Wy.d M⟩⟩
  rw[Sg (by rw[Xf];exact Bool.false_ne_true)] at U;refine bS d z SJ ?_;rw[WI,U];exact⟨o,rfl,⟨by rw[lC];exact E,fun j v=>ag (y j v),Wy.d M⟩⟩
 by_cases W1:10<=q
 ·rw[Sm W1] at WC;refine aq d (Sj W1) ?_;exact Xk _ (V d) (V p) aa aa (V WC)
 rw[Sg W1] at WC;refine ax W1 ?_;exact Xk _ (V d) (V p) aa aa (V WC)
end Go.Proofs.YtgpmffbleaphkaaGreat
namespace Go.Proofs.YtgpmffbleaphkaaGreat
open Go.Cl Go.Cl.Rw Go.Cl.Sto Go.Cl.Fx Go.Cl.Nf Go.Cl.Bt
theorem abY (s:J)(E:Si)(D:Sr S4)(m:Sl)(b:az s 1 E D.length (aM D))(WN:D.length<=4000000)(M:So)(R:M<=100000000)(WO:8*D.length+1<m):
  Runs Se aw 67 [E,I M] s fun S T=>JX s S T (mU m D M.toNat):=by
 refine Runs.ef 77 Tryz.func67 rfl fun WQ d=> ?_
 have⟨WR,a⟩:=aO (mU m D M.toNat);rw[<-a];unfold mU at a;by_cases F:D.length<2
 ·have f:((D.length:Sl):So)<2:=Z;rw[Sm F] at a;refine nR d (b.g Sf) (Sj f) @Su ?_;rw[a];exact⟨rfl,ad.p _ _⟩
 have f:¬((D.length:Sl):So)<2:=Z;rw[Sg F] at a;have h:=b.r (k:= .i64) (x:=(0:So)) Sf bw Z Z;have t:=b.r (k:= .i64) (x:=(1:So)) Sf bw Z Z;rw[show(0:So).toNat=0 from rfl] at h;rw[show(1:So).toNat=1 from rfl] at t;have g:=b.P de (k:=0) Z;have o:=b.P de (k:=1) Z;rw[dn (show 0<D.length from Z)] at g;rw[dn (show 1<D.length from Z)] at o;have i:=(D.getD 0 0).toNat_lt;have y:=(D.getD 1 0).toNat_lt;generalize (D.getD 0 0).toNat=c at g i a;generalize (D.getD 1 0).toNat=e at o y a;have p:bN Se .shr 5 (.int .u8 (c:Sl)) (.int .u64 4)=some (.int .u8 ((c/16:Sl):So)):=aaY _ _ .u64 c (k:=4) ai;have z:(c:So)*256=((c*256:Sl):So):=Z;have A:((c*256:Sl):So)+(e:So)=((c*256+e:Sl):So):=Z;by_cases U:c%16=8;rotate_left
 ·have j:¬((c%16:Sl):So)=8:=Z;rw[Sm (.inl U)] at a;simp(disch:=omega)only[d,aI,bD,cO,b6,bB,Sp,Sh,↓St,undef,b.cd Sf,b.m,Sy f,h,g,Sk,jc,vl i,Sy j,Su];rw[a];exact⟨rfl,ad.p _ _⟩
 have j:((c%16:Sl):So)=8:=Z;by_cases W:7<c/16
 ·have q:((c/16:Sl):So)>7:=Z;rw[Sm (.inr (.inl W))] at a;simp(disch:=omega)only[d,aI,bD,cO,b6,bB,Sp,Sh,↓St,undef,b.cd Sf,b.m,Sy f,h,g,Sk,jc,vl i,j,p,Sj q,Su];rw[a];exact⟨rfl,ad.p _ _⟩
 have q:¬((c/16:Sl):So)>7:=Z;by_cases X:(c*256+e)%31=0;rotate_left
 ·have u:¬(((c*256+e)%31:Sl):So)=0:=Z;rw[Sm (.inr (.inr (.inl X)))] at a;simp(disch:=omega)only[d,aI,bD,cO,b6,bB,Sp,Sh,↓St,undef,b.cd Sf,b.m,Sy f,h,t,g,o,Sk,jc,vl i,j,p,Sy q,gU Sq Sk,cg,z,A,gy,tm,Sy u,Su];rw[a];exact⟨rfl,ad.p _ _⟩
 have u:(((c*256+e)%31:Sl):So)=0:=Z;by_cases Wy:e/32%2=0;rotate_left
 ·have Wz:¬((e/32%2*32:Sl):So)=0:=Z;rw[Sm (.inr (.inr (.inr Wy)))] at a;simp(disch:=omega)only[d,aI,bD,cO,b6,bB,Sp,Sh,↓St,b.cd Sf,b.m,Sy f,h,t,g,o,Sk,jc,vl i,J0 y,j,p,Sy q,gU Sq Sk,cg,z,A,gy,tm,u,Sy Wz,Su];rw[a];exact⟨rfl,ad.p _ _⟩
 rw[Sg (by unfold vk;omega)] at a;simp(disch:=omega)only[d,aI,bD,bB,eU,Sp,Sh,↓St,b.cd Sf,b.m,Sy f,h,t,g,o,Sk,jc,vl i,J0 y,j,p,Sy q,gU Sq Sk,cg,z,A,gy,tm,u,(Z:((e/32%2*32:Sl):So)=0),b.oJ Sf bw];refine(R8 s _ (D.drop 2) m (J2 b Z) (by rw[SE];omega) M R (by rw[SE];omega)).b ?_;intro WS WA v;cases r:pc m (D.drop 2) M.toNat with
 |error WB=>
  rw[r] at v a;obtain⟨rfl,l⟩:=v;have WT:=JW r;simp(disch:=omega)only[d,aI,bD,cO,b6,Sp,Sh,↓St,uO,uP,uQ,Sy (Z:¬((WB:Sl):So)=0),Su];rw[a];exact⟨rfl,l⟩
 |ok WC=>
 have⟨WD,P⟩:=WC;rw[r] at v;obtain⟨G,rfl,H,WE,l⟩:=v;have K:=A5 r;rw[SE] at K;obtain⟨n,WG⟩:∃n,n=(WD+7)/8:=⟨_,rfl⟩
 rw[r] at a;dsimp only at a;rw[<-WG] at a|-
 have w:=b.C l;by_cases L:D.length<2+n+4
 ·have WH:((D.length:Sl):So)-2-(n:Sl)<4:=by omega
  rw[Sm L] at a;simp(disch:=omega)only[d,aI,bD,cO,b6,bB,Sp,Sh,↓St,uO,uP,uQ,w.cd Sf,cg,Sj WH,Su];rw[a];exact⟨rfl,l⟩
 rw[Sg L] at a;simp(disch:=omega)only[d,aI,bD,bB,eU,Sp,Sh,↓St,uO,uP,uQ,w.cd Sf,cg,Sy (show¬((D.length:Sl):So)-2-(n:Sl)<4 by omega),(show(2:So)+(n:Sl)=((2+n:Sl):So) by omega),(show(6:So)+(n:Sl)=((2+n+4:Sl):So) by omega),w.E2 Sf bw];have O:=w.q6 (a:=2+n) (b:=2+n+4) Z Z;rw[show 2+n+4-(2+n)=4 from Z] at O;have WI:((D.drop (2+n)).take 4).length<=4:=by rw[SS];omega
 refine(aaU WA _ _ O Z).b ?_;rintro _ WJ ⟨rfl,rfl⟩;have WK:=zG ((D.drop (2+n)).take 4) _ rfl;have WL:gW ((D.drop (2+n)).take 4)<4294967296:=S3 WK (Nat.le_trans (Nat.pow_le_pow_right ai WI) (by decide:256^4<=4294967296));generalize gW ((D.drop (2+n)).take 4)=B at WL a|-
 have WU:=AB P;refine nh d (dH Sk Tryz.underlying125) @qh ((Qb WJ G P H.c (ag K.2)).b ?_);rintro _ p ⟨rfl,rfl⟩;by_cases Q:B=kc P;rotate_left
 ·have WM:¬((B:Sl):So)=((kc P:Sl):So):=Z;rw[Sg Q] at a;refine re d WM @Su ?_;rw[a];exact⟨rfl,l⟩
 rw[Sm Q] at a;refine nR d (Z:((B:Sl):So)=((kc P:Sl):So)) (Z:((n:Sl):So)+6=((2+n+4:Sl):So)) @Su ?_;rw[a];exact⟨G,rfl,H,WE,l⟩
end Go.Proofs.YtgpmffbleaphkaaGreat