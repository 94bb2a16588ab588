import Derived.Test.YtgpmffbleaphkaaGreatCosO
open Go.Proofs.Tryz renaming prog->Se,underlying22->Sg,underlying24->Sh,underlying27->Sm,underlying23->Sn,underlying47->Ss,underlying29->St,underlying36->SE,underlying9->SL,underlying3->SP,results53->SX,results17->S0,underlying26->Ta,underlying67->Td,underlying89->Tg,underlying5->Th,results111->Tl,results51->Tn,results52->To,results54->Tp,results30->Tt,results33->Tu,results19->Tv,results44->Tw,results80->Tx,results5->Tz
open _root_ renaming eq_true->Sf,List->Sk,decide_eq_true->Sl,Int->So,Nat->Sq,of_decide_eq_true->Sx,absurd->SB,decide_eq_false->SD,if_neg->SG,UInt8->SH,if_pos->SI,reduceIte->S1,if_true->Tc,Option->Tj,eq_false->Tr,Bool->Ts
open List renaming getElem?_eq_getElem->Si,getElem_mem->Sr,length_cons->Sv,length_nil->Sy,take_length->Sz,getD_eq_getElem?_getD->SA,take_add_one->SJ,getElem?_map->SK,length_pos_iff->SM,getElem?_take_of_lt->SO,take_of_length_le->SQ,mem_append->SV,getElem?_eq_none->SW,mem_cons_of_mem->SY,mem_iff_getElem->SZ,all_cons->S3,map_cons->S4,sum_cons->S5,getElem?_drop->S7,length_append->S8,mem_cons_self->S9,getElem?_set->Te,drop_zero->Tq
open Go renaming Value->Sj,TypeId->SR,Program->S2,IntKind->Tm
open Int renaming toNat_natCast->Sp
open Nat renaming lt_of_lt_of_le->Su,le_refl->Sw,add_zero->SC,beq->SS,le_trans->SU,add_assoc->S6,reduceLT->Tb,reduceEqDiff->Ti,mul_one->Tk,reduceAdd->Ty,sub_self->TB,lt_trans->TC,ble->TD
open Go.DataW renaming trod->SF,trod_int->SN,trod_struct->Tf
set_option maxHeartbeats 8000000
set_option linter.unusedSimpArgs false
set_option linter.unusedVariables false
set_option maxRecDepth 100000
namespace Go.Proofs.YtgpmffbleaphkaaGreat
open Go.Cl
theorem OX (s:J)(k n:So)(e f g:Sj):
  Runs Se aw 51 [.agg #[I k,I n,e,f,g]] s fun v h=>v= .bool (decide (k=7\/k=8))/\ad s.Y s h:=by
 refine Runs.ey 11 Tryz.func51 rfl fun l a i=> ?_
 refine aq a i (aK fun m j c o=> ?_);have d:=j.v aB 0 6 (I k);by_cases b:k=7
 ·refine oT a @Sv.{0} @Sy.{0} @a6 d (Sf b) @Tn ?_;exact⟨by simp[b],c⟩
 refine oT a @Sv.{0} @Sy.{0} @a6 d b @Tn ?_;exact⟨by simp[],c⟩
def OY (s:J)(b:Sk SH)(v:Sj)(a:J):Prop:=iI (p1 b) v/\a=s
theorem G4 (s:J)(m:Sj)(b:Sk SH)(a:az s 1 m b.length (aM b)):
  Runs Se aw 53 [m] s (OY s b):=by
 refine Runs.ey 18 Tryz.func53 rfl fun D d e=> ?_
 by_cases u:((b.length:Sq):So)>127
 ·refine eo d e (a.g Sg) (Sf u) @SX ?_;exact⟨.ko (fun E=>ag E.1),rfl⟩
 refine aW d e (a.g Sg) u ?_;refine aZ.w (fun F n G=>∃f:Sq,F=b.length-f/\f<=b.length/\(∀o,o<f->∀(Q:o<b.length),b[o].toNat≠0)/\G=s/\n.e=18/\n.N 0=m/\n.N 3=I (f:Sq))
  (fun z p v=>(z= .bF/\v=s/\p.e=18/\p.N 2= .bool false/\¬p1 b)\/(z= .bb 0/\(∀q,q<b.length->∀(R:q<b.length),b[q].toNat≠0)/\v=s/\p.e=18))
  ⟨0,rfl,Z,fun S T=>Z,rfl,V d,V e,aa⟩ ?_ ?_
 ·clear d e D;rintro U w W X _ ⟨i,rfl,Wy,g,rfl,c,h,r⟩;by_cases j:i<b.length;rotate_left
  ·obtain rfl:i=b.length:=Z;refine bp c h r (a.g Sg) (Z:¬((b.length:Sq):So)<((b.length:Sq):So)) ?_;exact w _ _ _ (.inr ⟨rfl,g,rfl,V c⟩)
  have y:((i:Sq):So)<((b.length:Sq):So):=Z;have t:=a.r (k:= .i64) (x:=(i:So)) Sg bw Z Z;rw[Sp] at t;have l:=a.P de j;rw[dn j] at l;rw[(show b.getD i 0=b[i] by rw[SA,Si j];rfl)] at l;by_cases A:((b[i].toNat:Sq):So)=0
  ·refine c1 c h r (a.g Sg) (Sf y) t l (Sf A) ?_;exact w _ _ _ (.inl ⟨rfl,rfl,V c,aa,fun H=>H.2 i j Z⟩)
  refine c1 c h r (a.g Sg) (Sf y) t l A ?_;exact aH (b.length-(i+1)) Z ⟨i+1,rfl,Z,nn g (fun _=>Z),rfl,V c,V h,aa⟩
 rintro Wz WA WB (⟨rfl,rfl,K,L,M⟩|⟨rfl,g,rfl,O⟩)
 ·refine bS K L @SX ?_;exact⟨.ko M,rfl⟩
 refine bO O @SX ?_;exact⟨.mD ⟨Z,fun P B=>g P B B⟩,rfl⟩
def OZ (s:J)(n:So)(v:Sj)(a:J):Prop:=v= .bool (decide (-214748364799999<=n/\n<=214748364799999))/\a=s
theorem O0 (s:J)(n:So):
  Runs Se aw 52 [I n] s (OZ s n):=by
 refine Runs.dZ 9 Tryz.func52 rfl fun f b=> ?_
 by_cases a: -214748364799999<=n
 ·refine bS b (Sf a) @To ?_;exact⟨by simp[a],rfl⟩
 refine re b a @To ?_;exact⟨by simp[a],rfl⟩
theorem O1 {s:J}{v:Sj}{n:Sq}{l:Sk Sj}(h:az s 5 v n l){k:Sq}(a:k<n):aY Se 26 (bM 5 v k) 0=some (eR (bM 5 v k) 0):=by
 have⟨i,b,c,e,_⟩:=h.aJ a;rw[e];unfold aY;rw[Ta];simp[eR,aQ]
theorem O2 {F:Sq->Prop}{s:J}{a:Sk Sj}{i:Sq}{o:O}(h:aE F s ((a.drop (i*5)).take 5) o):a.getD (i*5) undef=I o.a9:=by
 cases o with
 |au k n b l d=>
  obtain⟨b,c,d,f,g,e,-⟩:=h.eg;have b:((a.drop (i*5)).take 5)[0]?=some (I k):=by rw[e];rfl
  rw[SO Z,S7,SC] at b;rw[SA,b];rfl
def Af (d:Sk (Sk SH×O))(j:Sq):Prop:=∀(h:j+1<d.length),zR d[j].1 d[j+1].1
theorem O3 {F:Sq->Prop}{s:J}{r:Sk Sj}{o:O}(h:aE F s r o):r.getD 0 undef=I o.a9:=by
 cases o with
 |au k n b l d=>
  obtain⟨a,b,c,d,e,rfl,-⟩:=h.eg;rfl
def G5 (s:J)(p:So)(b:Sk SH)(d:Sk (Sk SH×O))(v:Sj)(a:J):Prop:=iI ((1<=p/\b.length<=16777216)/\sE p d) v/\ad s.Y s a
theorem G6 (W6:Sq->Prop)(s:J)(k WK p:So)(z:Sk SH)(W7:Sk O)(d:Sk (Sk SH×O))(W8:Sk Sj)(Xn:aE W6 s W8 (.au k WK z W7 d))(Xo:j9 (.au k WK z W7 d))(X8:0<=p)(X9:p<=1000)
  (W9:∀i (h:i<d.length) (K:J) (u:Sk Sj),1<=p->ad s.Y s K->aE W6 K u d[i].2->Runs Se aw 30 [.agg u.toArray,I (p-1)] K fun Xp Xq=>iI (fj (p-1) d[i].2) Xp/\ad K.Y K Xq):
  Runs Se aw 54 [.agg W8.toArray,I p] s (G5 s p z d):=by
 obtain⟨Xa,Xr,WL,Ya,Yb,rfl,Xs,Yc,WM,-,-,-,Yd,Xb⟩:=Xn.ea;cases Xo with
 |au Ye Yf Yg Yh Yi Yj=>
 refine Runs.cS 68 Tryz.func54 rfl fun f a Xc o=> ?_
 refine aq a Xc (aK fun Yk WN Wy Yl=> ?_);have WO:=WN.v cJ 2 6 Xa;have WQ:=Xs.C Wy;have Wz:∀(f:an) (e:J),ad s.Y s e->f.e=68->f.N 4= .bool false->¬((1<=p/\z.length<=16777216)/\sE p d)->eW Se Tryz.f54.results.toList (G5 s p z d) .bF f e:=by
  intro f e q a WR A;refine bS a WR @Tp ?_;exact⟨.ko A,q⟩
 by_cases WS:p<1
 ·refine gX a o @Sv.{0} @Sy.{0} (Sf WS) ?_;exact Wz _ _ Wy (V a) aa (fun h=>ag h.1.1)
 by_cases Xd:((z.length:Sq):So)>16777216
 ·refine je a o @Sv.{0} @Sy.{0} WS @c8 WO (WQ.g Sg) (Sf Xd) ?_;exact Wz _ _ Wy (V a) aa (fun h=>ag h.1.2)
 refine je a o @Sv.{0} @Sy.{0} WS @c8 WO (WQ.g Sg) Xd ?_;refine aZ.w (fun F f e=>∃i:Sq,F=d.length-i/\i<=d.length/\(∀b,b<i->∀(h:b<d.length),(p1 d[b].1/\d[b].2.a9≠8/\d[b].2.a9≠0)/\fj (p-1) d[b].2)/\(∀b,b+1<i->Af d b)/\ae e s.Y [I k,I WK,Xa,Xr,WL]/\ad s.Y s e/\f.e=68/\f.N 1=I p/\f.N 2=ab s.Y 0 6/\f.N 5=I (i:Sq))
  (fun F f e=>(F= .bF/\ad s.Y s e/\f.e=68/\f.N 4= .bool false/\¬sE p d)\/(F= .bb 0/\sE p d/\ad s.Y s e/\f.e=68))
  ⟨0,rfl,Z,fun b h=>Z,fun b h=>Z,WN,Wy,V a,V o,aa,aa⟩ ?_ ?_
 ·clear a Xc o f Wz WO WQ WN;rintro Ym r F f e ⟨i,rfl,Yn,WT,WU,A,q,a,o,v,m⟩;have WA:=WM.C q;have Xe:=A.v eh 4 6 WL;by_cases g:i<d.length;rotate_left
  ·obtain rfl:i=d.length:=Z;have WV:¬((d.length:Sq):So)<((d.length:Sq):So):=Z;refine ch a v m @bJ Xe (WA.g Sh) WV ?_;exact r _ _ _ (.inr ⟨rfl,⟨fun b h=>WT b h h,fun b h=>WU b h h⟩,q,V a⟩)
  have WV:(i:So)<(d.length:So):=Z;have Xf:=WA.r (k:= .i64) (x:=(i:So)) Sh bx Z Z;rw[Sp] at Xf;have WW:=WA.dm gF bx g;have⟨u,Xt,G,Xu⟩:=Xb.H i g;have Xg:=G.aG;have Yo:=G.C q;rw[Xt] at WW;have⟨L,w⟩:=aO (Value.string ⟨(d[i].1).toArray⟩::u);rw[<-w] at WW;have M:L.length=6:=by rw[w];simp[Xg]
  have Xv:L.all aN=true:=by rw[w,S3,G.K];rfl
  have Yp:bn (.agg L.toArray) (.agg L.toArray)=true:=by
   have:=G.m;rw[w]
   match u,Xg,this with
   |[Yq,z,Yr,d,Ys],_,this=>
    simp[bn,dF] at this|-
    exact⟨by simp[b9],this⟩
  refine jG a v m @bJ Xe (WA.g Sh) (Sf WV) Xf WW @eD @hE (aK fun Yt Xw Xx Yu=> ?_);have Xy:lp.length+1=7:=rfl;refine aq a Xy (bh bx ai Xw rfl rfl M Xv fun WX P Yv Xz=> ?_);have P:ae WX e.Y L:=P;have Xh:=Xx.a ⟨Z,fun b WY=>Xz b Z⟩;have A:=A.C Xh;have Xi:=q.d Xh;refine ax a (LB.T 2 1 fun Yw WZ W0 _ Xj Yx=> ?_);have WB:=LA.D W0 A.n;have y:=LA.D W0 P.n;have XW:aD Se (aS WX 1) 9 (ab e.Y 0 7)=some (.string ⟨(d[i].1).toArray⟩):=by
   have:=(P.C Xj).B fH (a:=0) (c:=7) (by rw[M]) Z;rw[this,w];rfl
  have XX:m2 Se 9 22=true:=by kernel_rfl
  simp(disch:=omega)only[aI,fi,dy,Tb,↓S1,a,jH,y,XW,NX SL Sg Th Xu,Sg,XX];refine LB.fD (a:=WX.Y) (by rw[pO,Tk]) Z (Sw _) ?_;intro XY XZ X0 Yy X1 Yz YA;refine c0 a ((G4 XZ XY d[i].1 X0.c).b ?_);rintro _ Q ⟨⟨R,rfl,Xk⟩,rfl⟩;have S:=Xj.a X1;have l:=Xi.d S;have W1:=A.C S;have W2:=P.C S;have X2:=WM.C Xi;have B:=WM.C l;have WC:aD Se Q 9 (ab e.Y 0 7)=some (.string ⟨(d[i].1).toArray⟩):=by
   have:=W2.B fH (a:=0) (c:=7) (by rw[M]) Z;rw[this,w];rfl
  have Xl:aD Se Q 26 (ab e.Y 1 7)=some (.agg u.toArray):=by
   have:=ae.ka bV aL W2 (a:=1) (c:=7) (by rw[M]) Z;rw[this,w,List.drop_succ_cons,Tq,SQ Z]
  have H:aD Se Q 3 (ab e.Y 1 7)=some (I d[i].2.a9):=by
   have:=W2.B aB (a:=1) (c:=7) (by rw[M]) Z;rw[this,w];exact congrArg some (O3 G)
  have WD:=W1.v eh 4 6 WL;have WE:=G.C l;refine⟨fun _=>LA.ar.R WZ (ad.p _ _),?_⟩;cases R with
  |false=>
   refine c0 a ?_;exact r _ _ _ (.inl ⟨rfl,l,V a,aa,fun h=>by have:=Xk.2 (h.1 i g).1.1;cases this⟩)
  |true=>
  have Xm:=Xk.1 rfl;by_cases D:(0:So)<((i:Sq):So)
  ·have WG:i-1<d.length:=Z;have T:=B.r (k:= .i64) (x:=(i:So)-1) Sh bx Z Z;rw[show((i:So)-1).toNat=i-1 from Z] at T;have⟨WH,YB⟩:=kS B WG;have⟨YC,X3,YD,YE⟩:=Xb.H (i-1) WG;have⟨X4,YF⟩:=kn X3;have U:=B.fE fH WG (j:=0) Z;rw[SC,X4] at U;have WI:=LA.g0 (j:=0) X2 W0 WG;by_cases WJ:(Op.bytesLess d[i].1 d[i-1].1||d[i].1==d[i-1].1)=true
   ·refine F6 a v m @bJ @jH WB y WC WD (Sf D) B.m T WH U WI @ur WJ @fT ?_;refine r _ _ _ (.inl ⟨rfl,l,V a,aa,fun h=> ?_⟩);obtain⟨b,rfl⟩:∃b,i=b+1:=⟨i-1,Z⟩
    exact h.2 b g WJ
   have W3:=Bool.eq_false_iff.mpr WJ;have W4:∀b,b+1=i->Af d b:=by
    rintro b rfl _;exact WJ
   by_cases n:d[i].2.a9=8
   ·refine zK a v m @bJ @a6 @jH @kp WB y WC WD H (Sf D) B.m T WH U WI @ur W3 @fT (Sf n) ?_;exact r _ _ _ (.inl ⟨rfl,l,V a,aa,fun h=>(h.1 i g).1.2.1 n⟩)
   by_cases t:d[i].2.a9=0
   ·simp(disch:=omega)only[aI,bD,fi,dy,TB,Tb,Ti,Ty,↓S1,undef,a,v,m,bJ,a6,jH,kp,WB,y,WC,WD,H,Sf D,B.m,T,WH,U,WI,ur,W3,fT,cg,Tr n,Sf t];exact r _ _ _ (.inl ⟨rfl,l,V a,aa,fun h=>(h.1 i g).1.2.2 t⟩)
   simp(disch:=omega)only[aI,bD,fi,dy,TB,bB,Tb,Ti,Ty,↓S1,a,o,v,m,bJ,a6,jH,kp,WB,y,WC,WD,H,Xl,Sf D,B.m,T,WH,U,WI,ur,W3,fT,cg,Tr n,Tr t,WE.m,cg];refine(W9 i g Q u Z l WE).b ?_;rintro _ X5 ⟨⟨R,rfl,W⟩,E⟩;have X:=l.d E;refine⟨fun _=>LA.ar.R WZ (E.q S.Y),?_⟩;cases R with
   |false=>
    refine c0 a ?_;exact r _ _ _ (.inl ⟨rfl,X,V a,aa,fun h=>by have:=W.2 (h.1 i g).2;cases this⟩)
   |true=>
    refine e6 a m ?_;refine aH (d.length-(i+1)) Z ⟨i+1,rfl,Z,nn WT (fun _=>⟨⟨Xm,n,t⟩,W.1 rfl⟩),?_,W1.C E,X,V a,V o,V v,aa⟩;intro b WY;by_cases W5:b+1<i
    ·exact WU b W5
    exact W4 b Z
  have W4:∀b,b+1=i->Af d b:=fun b WY=>Z
  by_cases n:d[i].2.a9=8
  ·refine kO a m @a6 @kp y H D (Sf n) ?_;exact r _ _ _ (.inl ⟨rfl,l,V a,aa,fun h=>(h.1 i g).1.2.1 n⟩)
  by_cases t:d[i].2.a9=0
  ·refine je a m @a6 @kp y H D n (Sf t) ?_;exact r _ _ _ (.inl ⟨rfl,l,V a,aa,fun h=>(h.1 i g).1.2.2 t⟩)
  refine sz a o m @a6 @kp y H Xl D n t WE.m ?_;refine(W9 i g Q u Z l WE).b ?_;rintro _ X5 ⟨⟨R,rfl,W⟩,E⟩;have X:=l.d E;refine⟨fun _=>LA.ar.R WZ (E.q S.Y),?_⟩;cases R with
  |false=>
   refine c0 a ?_;exact r _ _ _ (.inl ⟨rfl,X,V a,aa,fun h=>by have:=W.2 (h.1 i g).2;cases this⟩)
  |true=>
   refine e6 a m ?_;refine aH (d.length-(i+1)) Z ⟨i+1,rfl,Z,nn WT (fun _=>⟨⟨Xm,n,t⟩,W.1 rfl⟩),?_,W1.C E,X,V a,V o,V v,aa⟩;intro b WY;by_cases W5:b+1<i
   ·exact WU b W5
   exact W4 b Z
 rintro F f e (⟨rfl,q,a,WR,X6⟩|⟨rfl,X7,q,a⟩)
 ·refine kN ?_;exact Wz _ _ q a WR (fun h=>X6 h.2)
 refine bO a @Tp ?_;exact⟨.mD ⟨⟨Z,Z⟩,X7⟩,q⟩
theorem O4:∀(W1:Sq) (WI:O),SizeOf.sizeOf WI<=W1->∀(WO:Sq->Prop) (T:J) (W8:Sk Sj) (A:So),aE WO T W8 WI->j9 WI->0<=A->A<=1000->
  Runs Se aw 30 [.agg W8.toArray,I A] T fun XX WQ=>iI (fj A WI) XX/\ad T.Y T WQ:=by
 intro W1
 induction W1 with
 |zero=>intro WI h;cases WI;simp at h
 |succ W1 W9=>
 intro WI Yf WO T W8 A Xa XY Xj Xk;cases WI with
 |au e v W o WB=>
 obtain⟨WR,WS,WU,Yg,Yh,rfl,XZ,Xl,X0,-,-,-,X1,Yi⟩:=Xa.ea;cases XY with
 |au Xm Xn Xo Xp Xb W2=>
 refine Runs.gZ fun X2 Xq=> ?_
 refine Runs.cS 143 Tryz.func30 rfl fun L a X3 g=> ?_
 refine aq a X3 (aK fun X4 Xr X5 Yj=> ?_);have Xs:=ae.y (a:=[I e,I v,WR,WS,WU]) bV aL Xr (c:=6) rfl;refine aW a @Sv.{0} @Sy.{0} Xs ?_;refine(OX X4 e v WR WS WU).b ?_;have⟨Yk,WC⟩:=aO (decide (e=7\/e=8):Ts);rw[<-WC];rintro _ X6 ⟨rfl,Xt⟩;have B:=X5.d Xt;have WJ:=Xr.C Xt;have f:=WJ.v aB 0 6 (I e);have U:=WJ.v lq 1 6 (I v);have p:=WJ.v cJ 2 6 WR;have Xu:=WJ.v ft 3 6 WS;have q:=WJ.v eh 4 6 WU;have w:=XZ.C B;have y:=X0.C B;refine aW a @c7 Xu ((Xl.C B).g Sn) ?_;refine N9 (fun WX WQ=>WQ=X6/\WX.e=143/\WX.N 1=I A/\WX.N 2=ab T.Y 0 6/\∃P:Ts,WX.N 48= .bool P/\(P=true↔((0<o.length/\e≠6)\/(0<WB.length/\¬(e=7\/e=8))\/(0<W.length/\e≠4/\e≠5/\e≠8)))) ?_ ?_
 ·intro Yl i;by_cases r:(0:So)<((o.length:Sq):So)
  ·by_cases E:e=6
   ·by_cases s:(0:So)<((WB.length:Sq):So)
    ·by_cases WD:e=7\/e=8
     ·by_cases t:(0:So)<((W.length:Sq):So)
      ·by_cases m:e=4
       ·refine rh a @a6 @c8 @bJ f p q (y.g Sh) (w.g Sg) (Sf r) (Sf E) (Sf s) (WC.trans (Sl WD)) (Sf t) (Sf m) ?_;exact i _ _ ⟨rfl,V a,V g,aa,false,aa,⟨fun h=>by(cases h),fun h=>SB h Z⟩⟩
       by_cases z:e=5
       ·refine nT a @a6 @c8 @bJ f p q (y.g Sh) (w.g Sg) (Sf r) (Sf E) (Sf s) (WC.trans (Sl WD)) (Sf t) m (Sf z) ?_;exact i _ _ ⟨rfl,V a,V g,aa,false,aa,⟨fun h=>by(cases h),fun h=>SB h Z⟩⟩
       by_cases X:e=8
       ·refine pW a @a6 @c8 @bJ f p q (y.g Sh) (w.g Sg) (Sf r) (Sf E) (Sf s) (WC.trans (Sl WD)) (Sf t) m z (Sf X) ?_;exact i _ _ ⟨rfl,V a,V g,aa,false,aa,⟨fun h=>by(cases h),fun h=>SB h Z⟩⟩
       refine pW a @a6 @c8 @bJ f p q (y.g Sh) (w.g Sg) (Sf r) (Sf E) (Sf s) (WC.trans (Sl WD)) (Sf t) m z X ?_;exact i _ _ ⟨rfl,V a,V g,aa,true,aa,⟨fun _=>Z,fun _=>rfl⟩⟩
      refine ni a @a6 @c8 @bJ f p q (y.g Sh) (w.g Sg) (Sf r) (Sf E) (Sf s) (WC.trans (Sl WD)) t ?_;exact i _ _ ⟨rfl,V a,V g,aa,false,aa,⟨fun h=>by(cases h),fun h=>SB h Z⟩⟩
     refine jF a @a6 @bJ f q (y.g Sh) (Sf r) (Sf E) (Sf s) (WC.trans (SD WD)) ?_;exact i _ _ ⟨rfl,V a,V g,aa,true,aa,⟨fun _=>Z,fun _=>rfl⟩⟩
    by_cases t:(0:So)<((W.length:Sq):So)
    ·by_cases m:e=4
     ·refine ni a @a6 @c8 @bJ f p q (y.g Sh) (w.g Sg) (Sf r) (Sf E) s (Sf t) (Sf m) ?_;exact i _ _ ⟨rfl,V a,V g,aa,false,aa,⟨fun h=>by(cases h),fun h=>SB h Z⟩⟩
     by_cases z:e=5
     ·refine rh a @a6 @c8 @bJ f p q (y.g Sh) (w.g Sg) (Sf r) (Sf E) s (Sf t) m (Sf z) ?_;exact i _ _ ⟨rfl,V a,V g,aa,false,aa,⟨fun h=>by(cases h),fun h=>SB h Z⟩⟩
     by_cases X:e=8
     ·refine nT a @a6 @c8 @bJ f p q (y.g Sh) (w.g Sg) (Sf r) (Sf E) s (Sf t) m z (Sf X) ?_;exact i _ _ ⟨rfl,V a,V g,aa,false,aa,⟨fun h=>by(cases h),fun h=>SB h Z⟩⟩
     refine nT a @a6 @c8 @bJ f p q (y.g Sh) (w.g Sg) (Sf r) (Sf E) s (Sf t) m z X ?_;exact i _ _ ⟨rfl,V a,V g,aa,true,aa,⟨fun _=>Z,fun _=>rfl⟩⟩
    refine pV a @a6 @c8 @bJ f p q (y.g Sh) (w.g Sg) (Sf r) (Sf E) s t ?_;exact i _ _ ⟨rfl,V a,V g,aa,false,aa,⟨fun h=>by(cases h),fun h=>SB h Z⟩⟩
   refine gX a @a6 f (Sf r) E ?_;exact i _ _ ⟨rfl,V a,V g,aa,true,aa,⟨fun _=>Z,fun _=>rfl⟩⟩
  by_cases s:(0:So)<((WB.length:Sq):So)
  ·by_cases WD:e=7\/e=8
   ·by_cases t:(0:So)<((W.length:Sq):So)
    ·by_cases m:e=4
     ·refine ni a @a6 @c8 @bJ f p q (y.g Sh) (w.g Sg) r (Sf s) (WC.trans (Sl WD)) (Sf t) (Sf m) ?_;exact i _ _ ⟨rfl,V a,V g,aa,false,aa,⟨fun h=>by(cases h),fun h=>SB h Z⟩⟩
     by_cases z:e=5
     ·refine rh a @a6 @c8 @bJ f p q (y.g Sh) (w.g Sg) r (Sf s) (WC.trans (Sl WD)) (Sf t) m (Sf z) ?_;exact i _ _ ⟨rfl,V a,V g,aa,false,aa,⟨fun h=>by(cases h),fun h=>SB h Z⟩⟩
     by_cases X:e=8
     ·refine nT a @a6 @c8 @bJ f p q (y.g Sh) (w.g Sg) r (Sf s) (WC.trans (Sl WD)) (Sf t) m z (Sf X) ?_;exact i _ _ ⟨rfl,V a,V g,aa,false,aa,⟨fun h=>by(cases h),fun h=>SB h Z⟩⟩
     refine nT a @a6 @c8 @bJ f p q (y.g Sh) (w.g Sg) r (Sf s) (WC.trans (Sl WD)) (Sf t) m z X ?_;exact i _ _ ⟨rfl,V a,V g,aa,true,aa,⟨fun _=>Z,fun _=>rfl⟩⟩
    refine pT a @c8 @bJ p q (y.g Sh) (w.g Sg) r (Sf s) (WC.trans (Sl WD)) t ?_;exact i _ _ ⟨rfl,V a,V g,aa,false,aa,⟨fun h=>by(cases h),fun h=>SB h Z⟩⟩
   refine eC a @bJ q (y.g Sh) r (Sf s) (WC.trans (SD WD)) ?_;exact i _ _ ⟨rfl,V a,V g,aa,true,aa,⟨fun _=>Z,fun _=>rfl⟩⟩
  by_cases t:(0:So)<((W.length:Sq):So)
  ·by_cases m:e=4
   ·refine pV a @a6 @c8 @bJ f p q (y.g Sh) (w.g Sg) r s (Sf t) (Sf m) ?_;exact i _ _ ⟨rfl,V a,V g,aa,false,aa,⟨fun h=>by(cases h),fun h=>SB h Z⟩⟩
   by_cases z:e=5
   ·refine ni a @a6 @c8 @bJ f p q (y.g Sh) (w.g Sg) r s (Sf t) m (Sf z) ?_;exact i _ _ ⟨rfl,V a,V g,aa,false,aa,⟨fun h=>by(cases h),fun h=>SB h Z⟩⟩
   by_cases X:e=8
   ·refine rh a @a6 @c8 @bJ f p q (y.g Sh) (w.g Sg) r s (Sf t) m z (Sf X) ?_;exact i _ _ ⟨rfl,V a,V g,aa,false,aa,⟨fun h=>by(cases h),fun h=>SB h Z⟩⟩
   refine rh a @a6 @c8 @bJ f p q (y.g Sh) (w.g Sg) r s (Sf t) m z X ?_;exact i _ _ ⟨rfl,V a,V g,aa,true,aa,⟨fun _=>Z,fun _=>rfl⟩⟩
  refine jF a @c8 @bJ p q (y.g Sh) (w.g Sg) r s t ?_;exact i _ _ ⟨rfl,V a,V g,aa,false,aa,⟨fun h=>by(cases h),fun h=>SB h Z⟩⟩
 rintro L W3 ⟨rfl,a,g,u,P,Q,WE⟩;cases P with
 |true=>
  have X7:=WE.1 rfl;refine bS a Q @Tt ?_;rw[Xq];refine⟨.ko (fun h=> ?_),B⟩;obtain⟨X8,X9,Ya,-⟩:=lr.1 h;rcases X7 with ⟨WK,W4⟩|⟨WK,W4⟩|⟨WK,W4⟩
  ·exact W4 (X8 (fun WY=>by rw[WY] at WK;simp at WK))
  ·exact W4 (X9 (fun WY=>by rw[WY] at WK;simp at WK))
  have:=Ya (fun WY=>by rw[WY] at WK;simp at WK);omega
 |false=>
  have Ym:¬_:=fun h=>Bool.noConfusion (WE.2 h)
  have F:o≠[]->e=6:=fun h=>by
   have:0<o.length:=SM.2 h;omega
  have G:WB≠[]->e=7\/e=8:=fun h=>by
   have:0<WB.length:=SM.2 h;omega
  have H:W≠[]->e=4\/e=5\/e=8:=fun h=>by
   have:0<W.length:=SM.2 h;omega
  have R:∀(L:an) (WG:J) (P:Ts),ad T.Y T WG->L.e=143->L.N 4= .bool P->(P=true↔fj A (.au e v W o WB))->eW Se Tryz.f30.results.toList X2 .bF L WG:=by
   intro L WG P WH a Xc WE;refine bS a Xc @Tt ?_;rw[Xq];exact⟨⟨P,rfl,WE⟩,WH⟩
  by_cases K:e=1
  ·by_cases Wy:v=0
   ·refine je a u Q @a6 @eE f U (Sf K) (Sf Wy) ?_;exact R _ _ true B (V a) aa ⟨fun _=>(zS F G H K).2 (.inl Wy),fun _=>rfl⟩
   refine cX a u Q @a6 @eE f U (Sf K) Wy ?_;exact R _ _ (decide (v=1)) B (V a) aa ⟨fun h=>(zS F G H K).2 (.inr (Sx h)),fun h=>Sl (((zS F G H K).1 h).resolve_left Wy)⟩
  by_cases S:e=2
  ·by_cases Wy: -2147483647<=v
   ·refine gY a u Q @a6 @eE f U K (Sf S) (Sf Wy) ?_;exact R _ _ (decide (v<=2147483647)) B (V a) aa ⟨fun h=>(zT F G H S).2 ⟨Wy,Sx h⟩,fun h=>Sl ((zT F G H S).1 h).2⟩
   refine jF a u Q @a6 @eE f U K (Sf S) Wy ?_;exact R _ _ false B (V a) aa ⟨fun h=>by(cases h),fun h=>SB ((zT F G H S).1 h).1 Wy⟩
  by_cases Wz:e=3
  ·refine gY a u Q @a6 @eE f U K S (Sf Wz) ?_;refine(O0 W3 v).b ?_;rintro _ _ ⟨rfl,rfl⟩;refine c0 a ?_;exact R _ _ (decide (-214748364799999<=v/\v<=214748364799999)) B (V a) aa ⟨fun h=>(Gs F G H Wz).2 (Sx h),fun h=>Sl ((Gs F G H Wz).1 h)⟩
  by_cases WA:e=9
  ·by_cases Wy:1<=v
   ·refine hy a u Q @a6 @eE f U K S Wz (Sf WA) (Sf Wy) ?_;exact R _ _ (decide (v<=8388607)) B (V a) aa ⟨fun h=>(zU F G H WA).2 ⟨Wy,Sx h⟩,fun h=>Sl ((zU F G H WA).1 h).2⟩
   refine sz a u Q @a6 @eE f U K S Wz (Sf WA) Wy ?_;exact R _ _ false B (V a) aa ⟨fun h=>by(cases h),fun h=>SB ((zU F G H WA).1 h).1 Wy⟩
  by_cases M:v=0;rotate_left
  ·refine hy a u Q @a6 @eE f U K S Wz WA M ?_;exact R _ _ false B (V a) aa ⟨fun h=>by(cases h),fun h=>SB (N7 h K S Wz WA) M⟩
  by_cases WL:e=0
  ·refine mA a u Q @a6 @eE f U K S Wz WA (Sf M) (Sf WL) ?_;exact R _ _ true B (V a) aa ⟨fun _=>N5 F G H WL M,fun _=>rfl⟩
  by_cases m:e=4
  ·refine pW a u Q @a6 @eE @c8 f U p (w.g Sg) K S Wz WA (Sf M) WL (Sf m) ?_;exact R _ _ (decide (((W.length:Sq):So)<=32767)) B (V a) aa ⟨fun h=>(Gt F G H m M).2 (ag (Sx h)),fun h=>Sl (ag ((Gt F G H m M).1 h))⟩
  by_cases z:e=5
  ·refine pW a u Q @a6 @eE @c8 f U p K S Wz WA (Sf M) WL m (Sf z) ?_;refine(G4 W3 WR W w).b ?_;rintro _ _ ⟨⟨P,rfl,WE⟩,rfl⟩;refine c0 a ?_;exact R _ _ P B (V a) aa (WE.trans (N6 F G H z M).symm)
  by_cases E:e=6
  ·refine wO a u Q @a6 @eE f U K S Wz WA (Sf M) WL m z (Sf E) ?_;refine aZ.w (fun WV L WG=>∃D:Sq,WV=o.length-D/\D<=o.length/\(∀WT,WT<D->∀(h:WT<o.length),o[WT].a9≠8/\fj (A-1) o[WT])/\(0<D->1<=A)/\ae WG T.Y [I e,I v,WR,WS,WU]/\ad T.Y T WG/\L.e=143/\L.N 1=I A/\L.N 2=ab T.Y 0 6/\L.N 6=I (D:Sq))
    (fun WV L WG=>(WV= .bF/\ad T.Y T WG/\L.e=143/\L.N 4= .bool false/\¬(1<=A/\wU A o))\/(WV= .bb 2/\wU A o/\ad T.Y T WG/\L.e=143/\L.N 1=I A))
    ⟨0,rfl,Z,fun WT h=>Z,fun h=>Z,WJ,B,V a,V g,V u,aa⟩ ?_ ?_
   ·clear a g u Q L R f U p Xu q Xs;rintro Yn i WV L WG ⟨D,rfl,Yo,Xv,Yp,WE,WH,a,g,u,WZ⟩;have WM:=Xl.C WH;have W5:=WE.v ft 3 6 WS;by_cases WN:D<o.length;rotate_left
    ·obtain rfl:D=o.length:=Z;refine ch a u WZ @c7 W5 (WM.g Sn) (Tr (Z:¬((o.length:Sq):So)<((o.length:Sq):So))) ?_;exact i _ _ _ (.inr ⟨rfl,fun WT h=>Xv WT h h,WH,V a,V g⟩)
    have Xd:(D:So)<(o.length:So):=Z;have W6:=WM.r (k:= .i64) (x:=(D:So)) Sn aL Z Z;rw[Sp] at W6;have Xw:=(X1.H D WN).C WH;have W7:=WM.fE aB WN (j:=0) Z;rw[SC,O2 Xw] at W7;have Xe:=O1 WM WN;by_cases W0:o[D].a9=8
    ·refine pT a u WZ @c7 W5 (WM.g Sn) (Sf Xd) W6 Xe W7 (Sf W0) ?_;exact i _ _ _ (.inl ⟨rfl,WH,V a,aa,fun h=>(h.2 D WN).1 W0⟩)
    by_cases Xx:A<1
    ·refine pV a g u WZ @c7 W5 (WM.g Sn) (Sf Xd) W6 Xe W7 W0 (Sf Xx) ?_;exact i _ _ _ (.inl ⟨rfl,WH,V a,aa,fun h=>ag h.1⟩)
    refine nS a g u WZ @c7 W5 (WM.g Sn) (Sf Xd) W6 Xe W7 ((WM.dm bV aL WN)) W0 Xx ?_;refine(W9 o[D] (ag (O.gD (k:=e) (n:=v) (b:=W) (l:=o) (d:=WB) (Sr WN))) WO WG _ (A-1) Xw (Xb _ (Sr WN)) Z Z).b ?_;rintro _ Xy ⟨⟨P,rfl,Xz⟩,WW⟩;have XW:=WH.d WW;cases P with
    |false=>
     refine c0 a ?_;exact i _ _ _ (.inl ⟨rfl,XW,V a,aa,fun h=>by have:=Xz.2 (h.2 D WN).2;cases this⟩)
    |true=>
     refine e6 a WZ ?_;exact aH (o.length-(D+1)) Z ⟨D+1,rfl,Z,nn Xv (fun _=>⟨W0,Xz.1 rfl⟩),fun _=>Z,WE.C WW,XW,V a,V g,V u,aa⟩
   rintro WV WX WG (⟨rfl,WH,a,Xc,Yb⟩|⟨rfl,Yc,WH,a,g⟩)
   ·refine kN ?_;exact R _ _ false WH a Xc ⟨fun h=>by(cases h),fun h=>SB ((zV F G H E M).1 h) Yb⟩
   refine aq a g ?_;exact R _ _ (decide (1<=A)) WH (V a) aa ⟨fun h=>(zV F G H E M).2 ⟨Sx h,Yc⟩,fun h=>Sl ((zV F G H E M).1 h).1⟩
  by_cases Xf:e=7
  ·have Xg:=ae.y (a:=[I e,I v,WR,WS,WU]) bV aL WJ (c:=6) rfl;refine sA a g u Q @a6 @eE f U Xg K S Wz WA (Sf M) WL m z E (Sf Xf) ?_;refine(G6 WO W3 e v A W o WB _ (Xa.C B) (.au Xm Xn Xo Xp Xb W2) Xj Xk (fun D h WQ Xh Yd Ye Xi=>W9 WB[D].2 (ag (O.fs (k:=e) (n:=v) (b:=W) (l:=o) (d:=WB) (Sr h))) WO WQ Xh (A-1) Xi (W2 _ (Sr h)) Z Z)).b ?_;rintro _ Xy ⟨⟨P,rfl,WE⟩,WW⟩;refine c0 a ?_;exact R _ _ P (B.d WW) (V a) aa (WE.trans (Gu F G H Z M).symm)
  by_cases X:e=8
  ·have Xg:=ae.y (a:=[I e,I v,WR,WS,WU]) bV aL WJ (c:=6) rfl;refine wP a g u Q @a6 @eE f U Xg K S Wz WA (Sf M) WL m z E Xf (Sf X) ?_;refine(G6 WO W3 e v A W o WB _ (Xa.C B) (.au Xm Xn Xo Xp Xb W2) Xj Xk (fun D h WQ Xh Yd Ye Xi=>W9 WB[D].2 (ag (O.fs (k:=e) (n:=v) (b:=W) (l:=o) (d:=WB) (Sr h))) WO WQ Xh (A-1) Xi (W2 _ (Sr h)) Z Z)).b ?_;rintro _ Xy ⟨⟨P,rfl,WE⟩,WW⟩;refine c0 a ?_;exact R _ _ P (B.d WW) (V a) aa (WE.trans (Gu F G H Z M).symm)
  refine zI a u Q @a6 @eE f U K S Wz WA (Sf M) WL m z E Xf X ?_;exact R _ _ false B (V a) aa ⟨fun h=>by(cases h),fun h=>ag (N8 h)⟩
theorem Ag (o:O)(F:Sq->Prop)(s:J)(a:Sk Sj)(c:aE F s a o)(f:j9 o):
  Runs Se aw 11 [.agg a.toArray] s fun v g=>iI (fj 28 o) v/\ad s.Y s g:=by
 refine Runs.gZ fun m h=> ?_
 refine Runs.dZ 5 Tryz.func11 rfl fun n b=> ?_
 refine ax b (aK fun d i e p=> ?_);have j:aD Se d 26 (ab s.Y 0 (a.length+1))=some (.agg a.toArray):=ae.y bV (by rw[(c.aG)];exact aL) i rfl;refine aq b j ((O4 _ o (Sw _) F d a 28 (c.C e) f Z Z).b ?_);rintro v q ⟨k,l⟩;refine bO b @Tryz.results11 ?_;rw[h];exact⟨k,e.d l⟩
end Go.Proofs.YtgpmffbleaphkaaGreat
namespace Go.Cl
theorem uA {P:S2}{d:Tj Tmp}{a:SR}{b:String}{c:Array Edge}{e:Tj (Sq×Ts)}(t:SR)(x y:Operand)(f:Ts):bU P ⟨d,.lookup t x y f,a,b,c,e⟩=true:=rfl
theorem oY (a b:Sj):bm (.tuple #[a,b]) 0=some a:=rfl
theorem oZ (a b:Sj):bm (.tuple #[a,b]) 1=some b:=rfl
theorem nW (a:Tj Sq):bn (.map a) (.map a)=true:=by simp[bn,b9]
theorem w6 (k:Tm)(n:So)(b:Ts):bn (.tuple #[.int k n,.bool b]) (.tuple #[.int k n,.bool b])=true:=by simp[bn,mn,oD,b9]
def qb (T:Sk (So×Sj)):Sk (Sj×Sj):=T.map fun e=>(I e.1,e.2)
def eF (k:So):Sk (So×Sj)->Tj Sj
 |[]=>none
 |e::T=>if k=e.1 then some e.2 else eF k T
def kU (k:So)(v:Sj):Sk (So×Sj)->Sk (So×Sj)
 |[]=>[(k,v)]
 |e::T=>if k=e.1 then(e.1,v)::T else e::kU k v T
theorem sJ (k j:So)(v:Sj):∀T:Sk (So×Sj),eF j (kU k v T)=if j=k then some v else eF j T
 |[]=>by simp[kU,eF]
 |e::T=>by
  unfold kU;by_cases h:k=e.1
  ·rw[SI h];simp only[eF];by_cases a:j=k
   ·rw[SI a,SI (a.trans h)]
   rw[SG a,SG (fun q=>a (q.trans h.symm)),SG (fun q=>a (q.trans h.symm))]
  rw[SG h];simp only[eF];by_cases a:j=e.1
  ·rw[SI a,SI a,SG (fun q=>h (q.symm.trans a))]
  rw[SG a,SG a,sJ k j v T]
structure fu (s:J) (r:Sq) (T:Sk (So×Sj)):Prop where
 n:r<s.Y
 cv:s.S r=some (qb T)
theorem fu.C {s a:J}{r:Sq}{T:Sk (So×Sj)}(h:fu s r T)(k:ad s.Y s a):fu a r T:=by
 refine⟨Su h.n k.Y,?_⟩;have:=h.cv;simp only[J.S,k.N r h.n] at this|-
 exact this
theorem fu.j {s a:J}{r:Sq}{T:Sk (So×Sj)}{u:Sj}(h:fu s r T)(k:aF u s a)(b:ak u≠some r):fu a r T:=by
 refine⟨Su h.n k.Y,?_⟩;have:=h.cv;simp only[J.S,k.N r h.n b] at this|-
 exact this
theorem fu.f {s a:J}{i r:Sq}{T:Sk (So×Sj)}(h:fu s r T)(b:a.Y=s.Y)(c:∀q,q≠i->a.i.N q=s.i.N q)(d:i≠r):fu a r T:=
 h.j (u:=bI i) (aF.f b c) (fun e=>by
  have e:some i=some r:=e;injection e with e;exact d e)
section
variable {P:S2} {t kt et:SR} {kk:Tm}
theorem G7 (c:P.underlying kt=some (.int kk))(a b:So):pF P kt (I a) (I b)=some (decide (a=b)):=by
 unfold pF;rw[c]
 simp only[Tc]
 congr 1
theorem Ah (a:P.underlying kt=some (.int kk))(k:So):∀T:Sk (So×Sj),qJ P kt (I k) (qb T)=some (eF k T)
 |[]=>rfl
 |e::T=>by
  show(match pF P kt (I k) (I e.1) with
   |some true=>some (some e.2)
   |some false=>qJ P kt (I k) (qb T)
   |none=>none)=_
  rw[G7 a];by_cases h:k=e.1
  ·simp[h,eF]
  simp only[h,decide_false,eF,if_false];exact Ah a k T
theorem G8 (a:P.underlying kt=some (.int kk))(k:So)(v:Sj):∀T:Sk (So×Sj),qK P kt (I k) v (qb T)=some (qb (kU k v T))
 |[]=>rfl
 |e::T=>by
  show(match pF P kt (I k) (I e.1) with
   |some true=>some ((Value.int .i64 e.1,v)::qb T)
   |some false=>
    match qK P kt (I k) v (qb T) with
    |some l=>some ((Value.int .i64 e.1,e.2)::l)
    |none=>none
   |none=>none)=_
  rw[G7 a];by_cases h:k=e.1
  ·simp only[h,decide_true,kU,Tc];rfl
  simp only[h,decide_false,kU,if_false];rw[G8 a k v T];rfl
theorem fu.w7 (c:P.underlying t=some (.map kt et))(b:P.underlying kt=some (.int kk)){a:Sj}(d:bK P et=some a)(e:cp a=true){s:J}{r:Sq}{T:Sk (So×Sj)}(h:fu s r T)(k:So):
  m0 P s t (.map (some r)) (I k) true=some (.tuple #[(eF k T).getD a,.bool (eF k T).isSome]):=by
 unfold m0;rw[c];simp only[d,(show lb P kt (I k)=true by unfold lb;rw[b]),e,Tc,h.cv,Ah b];cases eF k T<;>rfl
theorem fu.N (c:P.underlying t=some (.map kt et))(b:P.underlying kt=some (.int kk)){a:Sj}(d:bK P et=some a)(e:cp a=true){s:J}{r:Sq}{T:Sk (So×Sj)}(h:fu s r T)(k:So):
  m0 P s t (.map (some r)) (I k) false=some ((eF k T).getD a):=by
 unfold m0;rw[c];simp only[d,(show lb P kt (I k)=true by unfold lb;rw[b]),e,Tc,h.cv,Ah b];cases eF k T<;>rfl
theorem fu.G9 (c:P.underlying t=some (.map kt et))(b:P.underlying kt=some (.int kk)){s:J}{r:Sq}{T:Sk (So×Sj)}(h:fu s r T)(k:So)(v:Sj):
  ∃a,m1 P s t (.map (some r)) (I k) v=some a/\fu a r (kU k v T)/\a.Y=s.Y/\∀j,j≠r->a.i.N j=s.i.N j:=by
 refine⟨s.u r (.cv (qb (kU k v T))),?_,⟨by simpa [J.u] using h.n,?_⟩,rfl,fun j d=>J.gS _ _ _ _ (Ne.symm d)⟩
 ·unfold m1;rw[c];simp only[h.cv,(show lb P kt (I k)=true by unfold lb;rw[b]),G8 b k v T]
 simp only[J.S,J.u,a5.gR _ _ _ _ (hq Z)]
end
section
variable {P:S2} {aV:bg} {all r:Sk Oper} {f:an} {s:J} {d:Tj Tmp} {Q:an->J->Prop} {kk:Tm}
theorem Ha {t b c:SR}(e:P.underlying t=some (.map b c))(g:P.underlying b=some (.int kk)){q:Sq}{T:Sk (So×Sj)}(h:fu s q T)(k:So)(v:Sj)
  (K:∀a,fu a q (kU k v T)->a.Y=s.Y->(∀j,j≠q->a.i.N j=s.i.N j)->en P aV all r f s d Q (some (.a8 undef a))):en P aV all r f s d Q (gu (m1 P s t (.map (some q)) (I k) v)):=by
 have⟨a,i,l,m,n⟩:=h.G9 e g k v;rw[i,lV];exact K a l m n
end
namespace LB
section
variable {P:S2} {aV:bg} {A:Sq->Ts} {g:Sq} {all r:Sk Oper} {id:Sq} {f:an} {T:J} {d:Tj Tmp} {Q:an->J->Prop} {kk:Tm}
theorem Hb {t b h:SR}(i:P.underlying t=some (.map b h))(l:P.underlying b=some (.int kk)){q:Sq}{M:Sk (So×Sj)}(m:fu T q M)(k:So)(v:Sj)(n:g≠0->A q=false)
  (K:∀a,fu a q (kU k v M)->a.Y=T.Y->(∀j,j≠q->a.i.N j=T.i.N j)->jd P aV A (g-1) all r id f d Q undef a):j6 P aV A g all r id f d T Q (gu (m1 P T t (.map (some q)) (I k) v)):=by
 have⟨o,p,s,u,c⟩:=m.G9 i l k v;rw[p,lV,rb];exact⟨fun w=>⟨Z,fun j e=>c j (fun x=>by have:=n w;rw[x,this] at e;cases e)⟩,K o s u c⟩
theorem Hc {e:SR}(h:bc P e=some 1){v:Sj}{n:Sq}{l:Sk Sj}(j:ao T 1 v n l){k:Sq}(m:k<n){w:Sj}(o:aN w=true)(p:g≠0->∀i,ak v=some i->A i=false)(q:∀i,A i=true->i<T.Y)
  (K:∀a,ao a 1 v n (l.set k w)->aF v T a->jd P aV A (g-1) all r id f d Q undef a):j6 P aV A g all r id f d T Q (gu (fp P T e (bM 1 v k) w)):=by
 have⟨s,t,u,b⟩:=j.u h m o;rw[t,lV,rb];exact⟨fun x=>⟨b.Y,fun i c=>b.N i (q i c) (fun e=>by have:=p x i e;rw[c] at this;cases this)⟩,K s u b⟩
end
end LB
end Go.Cl
namespace Go.Cl
inductive g6 (s:J) (z:Sq):Sj->Sq->Sk Sj->Prop
 |al:g6 s z (av) 0 []
 |bu (i n c low:Sq) (cs l:Sk Sj) (hi:i<s.Y) (hb:s.t i=some ⟨cs,low,true,z⟩) (hl:low<=c) (hc:c=cs.length+1) (hlen:l.length=n*z) (hn:n*z<=cs.length) (ht:cs.take (n*z)=l):g6 s z (.slice (some ⟨i,0,none⟩) n c) n l
theorem ao.uB {s:J}{z:Sq}{v:Sj}{n:Sq}{l:Sk Sj}(h:ao s z v n l):g6 s z v n l:=by
 cases h with
 |al=>exact .al
 |bu i f b g c d e a=>exact .bu i n _ b l l c d e rfl a Z (by rw[<-a,Sz])
theorem g6.c {s:J}{z:Sq}{v:Sj}{n:Sq}{l:Sk Sj}(h:g6 s z v n l):az s z v n l:=by
 cases h with
 |al=>exact .al
 |bu i h c j k m a b d e f o g=>exact .bu i 0 n c _ l a b rfl d (by simp[e]) f Z (by simpa using g)
theorem g6.C {s a:J}{z:Sq}{v:Sj}{n:Sq}{l:Sk Sj}(h:g6 s z v n l)(k:ad s.Y s a):g6 a z v n l:=by
 cases h with
 |al=>exact .al
 |bu i n c d e l b f g j m o p=>exact .bu i n c d e l (Su b k.Y) ((k.bl b).trans f) g j m o p
theorem g6.j {s a:J}{z:Sq}{v u:Sj}{n:Sq}{l:Sk Sj}(h:g6 s z v n l)(k:aF u s a)(c:∀i,ak v=some i->ak u≠some i):g6 a z v n l:=by
 cases h with
 |al=>exact .al
 |bu i n d e f l b g j m o p q=>
  refine .bu i n d e f l (Su b k.Y) ?_ j m o p q;simp only[J.t,k.N i b (c i rfl)];exact g
theorem g6.z {s:J}{z:Sq}{v:Sj}{n:Sq}{l:Sk Sj}(h:g6 s z v n l):∀i,ak v=some i->i<s.Y:=by
 cases h with
 |al=>intro i h;cases h
 |bu i n c b d l a=>intro j h;injection h with h;subst h;exact a
theorem g6.O5 {P:S2}{t e:SR}{z:Sq}(f:P.underlying t=some (.slice e))(g:bc P e=some z){s:J}{v:Sj}{n:Sq}{l:Sk Sj}(h:g6 s z v n l){k:Sq}{a:Tm}(j:k<=n):
  ∃b,fN P s t v none (some (.int a (k:Sq))) none=some b/\g6 s z b k (l.take (k*z))/\ak b=ak v:=by
 have d:=h.c.pP f g (k:=a) (y:=(k:So)) Z Z;rw[Sp] at d;refine⟨_,d,?_⟩;cases h with
 |al=>
  obtain rfl:k=0:=Z;rw[List.take_nil];exact⟨.al,rfl⟩
 |bu i A c m o B p q r u D E w=>
  refine⟨?_,rfl⟩;have x:k*z<=n*z:=Nat.mul_le_mul_right _ j;have:cU z (.slice (some ⟨i,0,none⟩) n c) 0 k= .slice (some ⟨i,0,none⟩) k c:=by
   unfold cU;simp
  rw[this];exact .bu i k c m o _ p q r u (by rw[List.length_take];omega) Z (by rw[<-w,List.take_take,Nat.min_eq_left x])
theorem g6.hQ {P:S2}{T U e:SR}{k:TypeDesc}{a o:Sq}{p:Sj}(q:P.underlying T=some (.slice e))(r:P.underlying U=some k)(h:(∃t,k= .slice t)\/k= .string)(u:bc P e=some a)(v:e2 P e=some o)(w:bK P e=some p)(B:SS p.cells.toList.length a=true)
  {b:J} {x D:Sj} {n m:Sq} {l d:Sk Sj} (E:g6 b a x n l) (j:iB b a D=some (m,d)) (y:d.length=m*a) (F:0<a) (G:d.all aN=true) (H:(n+m)*o<=140737488355328) (K:n+m<=140737488355328):
  ∃f g,gQ P b T U x D=some (f,g)/\g6 g a f (n+m) (l++d)/\aF x b g/\(ak f=ak x\/∃i,ak f=some i/\b.Y<=i):=by
 have W:=j;have j:mm b a o p k D=some (m,d):=by rcases h with ⟨t,rfl⟩|rfl<;>exact j
 have X:(TD ((n+m)*o) 140737488355328&&TD (n+m) 140737488355328&&Nat.blt 0 a&&d.all aN&&SS p.cells.toList.length a)=true:=by
  simp only[Bool.and_eq_true,Nat.ble_eq,Nat.blt_eq];exact⟨⟨⟨⟨H,K⟩,F⟩,G⟩,B⟩
 cases m with
 |zero=>
  have Wy:d=[]:=List.eq_nil_of_length_eq_zero (by simpa using y);subst Wy;refine⟨x,b,?_,by simpa using E,⟨Sw _,fun _ _ _=>rfl⟩,.inl rfl⟩;unfold gQ;rcases h with ⟨t,rfl⟩|rfl<;>
  simp only[q,r,u,v,w,j]
  all_goals (cases E<;>simp only[X,Tc])
 |succ m=>
  cases E with
  |al=>
   have⟨f,g,L,M,O,Q⟩:=(ao.al (s:=b) (z:=a)).hQ q r h u v w B W y F G H K;exact⟨f,g,L,M.uB,O,Q⟩
  |bu i n WO A c l WD R S WE Wz Wy WA=>
   subst WE;by_cases WB:n*a=c.length
   ·have e:l=c:=by rw[<-WA,WB,Sz]
    subst e;have⟨f,g,L,M,O,Q⟩:=(ao.bu (z:=a) i n A l WD R S Wz).hQ q r h u v w B W y F G H K;exact⟨f,g,L,M.uB,O,Q⟩
   have WG:(true&&TD A (c.length+1)&&SS a a)=true:=by simp[S]
   have WH:(SS (c.length+1) (c.length+1)&&SS 0 0&&SS (n*a) c.length)=false:=by
    rw[show SS (n*a) c.length=false from by rw[<-Bool.not_eq_true,Nat.beq_eq];exact WB,Bool.and_false]
   have WI:b.fL i 0 (c.length+1) (n*a)=some l:=by
    rw[nd R S (Sw _) Z,Tq,WA]
   have⟨WJ,WK⟩:=ao.x (s:=b.u i (.bl (jX ⟨c,A,true,a⟩))) (show(l++d).length=(n+(m+1))*a by rw[S8,Wz,y,Nat.add_mul n (m+1) a]);have WC:(b.u i (.bl (jX ⟨c,A,true,a⟩))).Y=b.Y:=rfl;refine⟨_,_,?_,WK.uB,⟨by rw[sn,WC];omega,fun WL WM WN=> ?_⟩,.inr ⟨b.Y,rfl,Sw _⟩⟩
   ·unfold gQ;rcases h with ⟨t,rfl⟩|rfl<;>
    simp only[q,r,u,v,w,j,X,Tc,R,WG,WH,WI,WJ]<;>rfl
   rw[(ad.x _ _).N WL (by rw[WC];exact WM),J.gS];intro e;subst e;exact WN rfl
section
variable {P:S2} {aV:bg} {all r:Sk Oper} {f:an} {s:J} {d:Tj Tmp} {Q:an->J->Prop}
theorem O6 {l o e:SR}{k:TypeDesc}{z p:Sq}{q:Sj}(w:P.underlying l=some (.slice e))(A:P.underlying o=some k)(B:(∃D,k= .slice D)\/k= .string)(E:bc P e=some z)(F:e2 P e=some p)(G:bK P e=some q)(H:SS q.cells.toList.length z=true)
  {x y:Sj} {n m:Sq} {t c:Sk Sj} (K:g6 s z x n t) (L:iB s z y=some (m,c)) (M:c.length=m*z) (O:0<z) (R:c.all aN=true) (S:(n+m)*p<=140737488355328) (T:n+m<=140737488355328) {g:Sq} (u:ay g x) (U:g<=s.Y)
  (W:∀a b,g6 b z a (n+m) (t++c)->ay g a->ad g s b->aF x s b->(ak a=ak x\/∃i,ak a=some i/\s.Y<=i)->en P aV all r f s d Q (some (.a8 a b))):en P aV all r f s d Q (dL (gQ P s l o x y)):=by
 have⟨a,b,X,Wy,v,h⟩:=g6.hQ w A B E F G H K L M O R S T;rw[X,lj];refine W _ _ Wy (fun i j=> ?_) (v.C u U) v h;rcases h with h|⟨WA,Wz,WB⟩
 ·exact u i (by rw[<-h];exact j)
 rw[Wz] at j;injection j with j;omega
end
end Go.Cl
namespace Go.Cl
structure cz where
 mF:So
 eb:Sk SH
 mG:So
 a7:O
 aj:Sk (So×O)
def g7 (F:Sq->Prop)(s:J)(a:Sk Sj)(e:So×O):Prop:=∃r,a=I e.1::r/\aE F s r e.2
theorem hY:nk g7:=⟨fun⟨r,a,b⟩ k=>⟨r,a,b.C k⟩,fun⟨r,a,b⟩ k=>⟨r,a,b.b k⟩,fun⟨r,a,b⟩ k n=>⟨r,a,b.j k n⟩,fun⟨r,a,b⟩=>⟨r,a,b.fF⟩⟩
theorem g7.aG {F:Sq->Prop}{s:J}{a:Sk Sj}{e:So×O}(h:g7 F s a e):a.length=6:=by
 obtain⟨r,rfl,a⟩:=h;simp[a.aG]
theorem g7.K {F:Sq->Prop}{s:J}{a:Sk Sj}{e:So×O}(h:g7 F s a e):a.all aN=true:=by
 obtain⟨r,rfl,a⟩:=h;rw[S3,a.K];rfl
structure c2 (F:Sq->Prop) (s:J) (mv:Sj) (tc:Sk Sj) (iv:Sj) (ic:Sk Sj) (D:cz):Prop where
 eb:az s 1 mv D.eb.length (aM D.eb)
 sK:bA F mv
 a7:aE F s tc D.a7
 aj:az s 6 iv D.aj.length ic
 uC:bA F iv
 dz:aU g7 6 F s D.aj ic
def bk (D:cz)(a:Sj)(b:Sk Sj)(c:Sj):Sk Sj:=I D.mF::a::I D.mG::(b++[c])
theorem nX {F:Sq->Prop}{s:J}{a b:Sj}{c d:Sk Sj}{D:cz}(h:c2 F s a c b d D):(bk D a c b).length=9:=by
 simp[bk,h.a7.aG]
theorem nY {F:Sq->Prop}{s:J}{a b:Sj}{c d:Sk Sj}{D:cz}(h:c2 F s a c b d D):(bk D a c b).all aN=true:=by
 simp only[bk,S3,List.all_append,List.all_nil,(h.eb.aN),(h.a7.K),(h.aj.aN)];rfl
theorem c2.C {F:Sq->Prop}{s a:J}{b c:Sj}{d e:Sk Sj}{D:cz}(h:c2 F s b d c e D)(k:ad s.Y s a):c2 F a b d c e D:=
 ⟨h.eb.C k,h.sK,h.a7.C k,h.aj.C k,h.uC,h.dz.C hY k⟩
theorem c2.b {F G:Sq->Prop}{s:J}{a b:Sj}{c d:Sk Sj}{D:cz}(h:c2 F s a c b d D)(k:∀j,F j->G j):c2 G s a c b d D:=
 ⟨h.eb,h.sK.b k,h.a7.b k,h.aj,h.uC.b k,h.dz.b hY k⟩
theorem c2.j {F:Sq->Prop}{s b:J}{u c d:Sj}{e f:Sk Sj}{D:cz}(h:c2 F s c e d f D)(k:aF u s b)(a:∀j,F j->ak u≠some j):c2 F b c e d f D:=
 ⟨h.eb.hA h.sK k a,h.sK,h.a7.j k a,h.aj.hA h.uC k a,h.uC,h.dz.j hY k a⟩
theorem c2.fF {F:Sq->Prop}{s:J}{a b:Sj}{c d:Sk Sj}{D:cz}(h:c2 F s a c b d D):c2 (fun j=>F j/\j<s.Y) s a c b d D:=
 ⟨h.eb,bA.eV h.eb h.sK,h.a7.fF,h.aj,bA.eV h.aj h.uC,h.dz.eV hY⟩
def qc:Sq->O->Sq
 |0,_=>0
 |m+1,.au _ _ _ l d=>1+(l.map (qc m)).sum+(d.map fun e=>qc m e.2).sum
noncomputable def cn (o:O):Sq:=qc (SizeOf.sizeOf o) o
theorem uD {a:Type}{f g:a->Sq}:∀{l:Sk a},(∀x∈l,f x=g x)->(l.map f).sum=(l.map g).sum
 |[],_=>rfl
 |x::l,h=>by
  rw[S4,S4,S5,S5,h x (S9 ..),uD (fun y a=>h y (SY _ a))]
theorem w8:∀(m a:Sq) (o:O),SizeOf.sizeOf o<=m->SizeOf.sizeOf o<=a->qc m o=qc a o
 |0,_,o,h,_=>ag o.g5
 |_+1,0,o,_,h=>ag o.g5
 |m+1,h+1,.au a c e f g,i,j=>by
  unfold qc;rw[uD (l:=f) (fun x i=>w8 m h x (ag (O.gD (k:=a) (n:=c) (b:=e) (d:=g) i)) (ag (O.gD (k:=a) (n:=c) (b:=e) (d:=g) i))),
   uD (l:=g) (fun i g=>w8 m h i.2 (ag (O.fs (k:=a) (n:=c) (b:=e) (l:=f) g)) (ag (O.fs (k:=a) (n:=c) (b:=e) (l:=f) g)))]
theorem nq (k e:So)(f:Sk SH)(a:Sk O)(c:Sk (Sk SH×O)):cn (.au k e f a c)=1+(a.map cn).sum+(c.map fun g=>cn g.2).sum:=by
 unfold cn;obtain⟨q,g⟩:∃h,SizeOf.sizeOf (O.au k e f a c)=h+1:=⟨SizeOf.sizeOf (O.au k e f a c)-1,ag ((O.au k e f a c).g5)⟩
 rw[g];show 1+(a.map (qc q)).sum+(c.map fun g=>qc q g.2).sum=_;rw[uD (l:=a) (fun x g=>w8 q _ x (ag (O.gD (k:=k) (n:=e) (b:=f) (d:=c) g)) (Sw _)),
  uD (l:=c) (fun c g=>w8 q _ c.2 (ag (O.fs (k:=k) (n:=e) (b:=f) (l:=a) g)) (Sw _))]
theorem Hd {f:O->Sk So}{g:O->Sq}:∀{a:Sk O},(∀x∈a,(f x).length<=g x)->(a.flatMap f).length<=(a.map g).sum
 |[],_=>Sw _
 |x::a,h=>by
  rw[List.flatMap_cons,S8,S4,S5];have b:=h x (S9 ..);have b:=Hd (a:=a) (fun y a=>h y (SY _ a));omega
theorem He:∀(a:Sq) (o:O),SizeOf.sizeOf o<=a->(bG o).length<=cn o:=by
 intro a
 induction a with
 |zero=>intro o h;have:=o.g5;omega
 |succ b a=>
  intro o h;cases o with
  |au k n b l d=>
   rw[nq,rn];split
   ·simp;omega
   have e:∀x∈eZ (.au k n b l d),(bG x).length<=cn x:=fun x b=>a x (ag (sG b))
   have a:=Hd e;rw[mE] at a|-
   by_cases b:k=6
   ·rw[SI b] at a|-;omega
   rw[SG b] at a|-
   by_cases b:k=7\/k=8
   ·rw[SI b] at a|-
    rw[List.map_map] at a;have a:((d.map (cn∘fun e=>e.2)).sum)=(d.map fun e=>cn e.2).sum:=rfl;omega
   rw[SG b];simp
theorem w9 {a:Type}{f:a->Sq}{l:Sk a}{i:Sq}(h:i<l.length):((l.take (i+1)).map f).sum=((l.take i).map f).sum+f l[i]:=by
 rw[SJ,Si h,List.map_append,List.sum_append];simp
end Go.Cl
namespace Go.Proofs.YtgpmffbleaphkaaGreat
open Go.Cl Go.Lib
theorem eG:bc Se 36=some 6:=by kernel_rfl
theorem rq:c3 Se 36=some true:=by kernel_rfl
theorem Ai:e2 Se 36=some 96:=by kernel_rfl
def xw:Sk Sj:=I 0::bX
theorem nZ:bK Se 36=some (.agg xw.toArray):=by kernel_rfl
theorem rr:cp (.agg xw.toArray)=true:=by kernel_rfl
theorem mH:bc Se 29=some 9:=by kernel_rfl
theorem O7:c3 Se 29=some true:=by kernel_rfl
theorem uE:bc Se 27=some 1:=by kernel_rfl
theorem Hf:c3 Se 27=some false:=by kernel_rfl
theorem Hg (i o c:Sq):aY Se 29 (ab i o c) 0=some (ab i (o+0) c):=by
 unfold aY;rw[St];simp[aQ]
theorem xx (i o c:Sq):aY Se 29 (ab i o c) 1=some (ab i (o+1) c):=by
 unfold aY;rw[St];simp[dI]
theorem Hh (i o c:Sq):aY Se 29 (ab i o c) 2=some (ab i (o+2) c):=by
 unfold aY;rw[St];simp[aQ]
theorem lx (i o c:Sq):aY Se 29 (ab i o c) 3=some (ab i (o+3) c):=by
 unfold aY;rw[St];simp[aL]
theorem dA (i o c:Sq):aY Se 29 (ab i o c) 4=some (ab i (o+8) c):=by
 unfold aY;rw[St];simp[uE]
theorem Aj (i o c:Sq):aY Se 36 (ab i o c) 0=some (ab i (o+0) c):=by
 unfold aY;rw[SE];simp[aQ]
theorem O8 (i o c:Sq):aY Se 36 (ab i o c) 1=some (ab i (o+1) c):=by
 unfold aY;rw[SE];simp[aL]
theorem ly {s:J}{v:Sj}{n:Sq}{l:Sk Sj}(h:az s 6 v n l){k:Sq}(a:k<n):aY Se 36 (bM 6 v k) 0=some (eR (bM 6 v k) 0)/\aY Se 36 (bM 6 v k) 1=some (eR (bM 6 v k) 1):=by
 have⟨i,b,c,e,_⟩:=h.aJ a;rw[e];refine⟨?_,?_⟩<;>·unfold aY;rw[SE];simp[aQ,aL,eR]
theorem xy (i o c:Sq):aY Se 67 (ab i o c) 0=some (ab i (o+0) c):=by
 unfold aY;rw[Td];simp[aQ]
theorem xz (i o c:Sq):aY Se 67 (ab i o c) 1=some (ab i (o+1) c):=by
 unfold aY;rw[Td];simp[aQ]
def Hi (s:J)(p:Sq)(n:Sq)(o:O)(v:Sj)(a:J):Prop:=∃t:Ts,v= .bool t/\aF (bI p) s a/\(∃x y:So,ae a p [I x,I y])/\(t=true->(bd o/\o.cj.length<=4000)/\n+cn o<=20000/\∃m:Sq,m<=200000/\ae a p [I ((n+cn o:Sq):So),I (m:So)])
theorem Hj:∀(W3:Sq) (WA:O),SizeOf.sizeOf WA<=W3->∀(WG:Sq->Prop) (s:J) (Xf:Sk Sj) (M:So) (p B K:Sq),aE WG s Xf WA->(∀u,WG u->u≠p)->j9 WA-> -1<=M->M<=1000->B<=20000->K<=400000->ae s p [I (B:So),I (K:So)]->
  Runs Se aw 33 [ab p 0 3,.agg Xf.toArray,I M] s (Hi s p B WA):=by
 intro W3
 induction W3 with
 |zero=>intro WA WH;have:=WA.g5;omega
 |succ W3 XY=>
 intro WA YO WG s Xf M p B K Yo Xg Yp YP YQ YR YS XZ;cases WA with
 |au Q R G o m=>
 obtain⟨WB,WC,S,YT,YU,rfl,X0,X1,Xh,X2,X3,Xi,Yq,Yr⟩:=Yo.ea;cases Yp with
 |au YV YW YX Ys Yt Yu=>
 refine Runs.iY 119 Tryz.func33 rfl fun h a q Xj r=> ?_
 have YY:=XZ.n;refine aq a Xj (aK fun Yv Yw Xk YZ=> ?_);have X4:=XZ.C Xk;refine cl a q @Sv.{0} @Sy.{0} @xy (X4.o aB 0 3:aD Se Yv 3 (ab p 0 3)=some (I (B:So))) (su aQ ai X4 (b:=0) (c:=3) rfl (a:=[I ((B:So)+1)]) rfl rfl aA rfl fun WQ W4 Yx X5=> ?_);have W4:ae WQ p [I ((B:So)+1),I (K:So)]:=W4;have X6:aF (bI p) s WQ:=⟨ag Xk.Y,fun u WD WR=>by
  rw[X5 u (fun e=>WR (by rw[e];rfl)),Xk.N u WD]⟩
 have X7:ae WQ s.Y [I Q,I R,WB,WC,S]:=Yw.f Yx X5 Z;refine ax a (LB.T 0 0 fun Y0 Y1 X8 _ WI Y2=> ?_);have U:∀u,WG u->ak (bI p)≠some u:=fun u WD e=>by
  have e:some p=some u:=e;injection e with e;exact Xg u WD e.symm
 have Xl:=(X0.hA X2 X6 U).C WI;refine hy a q @xz @c8 (LA.D (i:=p) X8) (LA.D (i:=s.Y) X8) ((W4.C WI).o aB 1 3:aD Se (aS WQ 0) 3 (ab p 1 3)=some (I (K:So))) ((X7.C WI).o cJ 2 6:aD Se (aS WQ 0) 22 (ab s.Y 2 6)=some WB) Xl.m (LA.q9 Xl) (Xl.g Sg) @ez (LB.gV aQ ai (W4.C WI) (b:=1) (c:=3) rfl (v:=I ((K:So)+G.length)) (a:=[I ((K:So)+G.length)]) rfl rfl aA rfl (fun WH=>SB rfl WH) fun Xm T Yy X9=> ?_);have T:ae Xm p [I ((B:So)+1),I ((K:So)+G.length)]:=T;have W:aF (bI p) s Xm:=X6.a ⟨Z,fun u WD WR=>by
  rw[X9 u (fun e=>WR (by rw[e];rfl)),WI.N u WD]⟩
 have W5:ae Xm s.Y [I Q,I R,WB,WC,S]:=(X7.C WI).f Yy X9 Z;have WE:∀(h:an) (t:J),aF (bI p) s t->(∃X y:So,ae t p [I X,I y])->h.e=119->h.N 6= .bool false->eW Se Tryz.f33.results.toList (Hi s p B (.au Q R G o m)) .bF h t:=by
  intro h t Yz Wy a WS;refine bS a WS Tu ?_;exact⟨false,rfl,Yz,Wy,fun WH=>by cases WH⟩
 have W6:=X0.hA X2 W U;have WT:=X1.hA X3 W U;have WU:=Xh.hA Xi W U;have W7:=W5.v cJ 2 6 WB;have WV:=W5.v ft 3 6 WC;have WW:=W5.v eh 4 6 S;have Xn:=T.v aB 0 3 (I ((B:So)+1));have Ya:=T.v aB 1 3 (I ((K:So)+G.length));by_cases WJ:M<0
 ·refine nh a r (Sf WJ) ?_;exact WE _ _ W ⟨_,_,T⟩ (V a) aa
 by_cases WX:((o.length:Sq):So)+((m.length:Sq):So)>80
 ·refine jF a r WJ @c7 @bJ WV WW (WT.g Sn) (WU.g Sh) (Sf WX) ?_;exact WE _ _ W ⟨_,_,T⟩ (V a) aa
 by_cases W8:((G.length:Sq):So)>4000
 ·refine ni a r WJ @c8 @c7 @bJ W7 WV WW (W6.g Sg) (WT.g Sn) (WU.g Sh) WX (Sf W8) ?_;exact WE _ _ W ⟨_,_,T⟩ (V a) aa
 by_cases Xo:(B:So)+1>20000
 ·refine F6 a q r WJ @c8 @c7 @bJ W7 WV WW (W6.g Sg) (WT.g Sn) (WU.g Sh) WX W8 @xy Xn (Sf Xo) ?_;exact WE _ _ W ⟨_,_,T⟩ (V a) aa
 by_cases Yb:(K:So)+G.length>200000
 ·refine wQ a q r WJ @c8 @c7 @bJ W7 WV WW (W6.g Sg) (WT.g Sn) (WU.g Sh) WX W8 @xy @xz Xn Ya Xo (Sf Yb) ?_;exact WE _ _ W ⟨_,_,T⟩ (V a) aa
 refine wQ a q r WJ @c8 @c7 @bJ W7 WV WW (W6.g Sg) (WT.g Sn) (WU.g Sh) WX W8 @xy @xz Xn Ya Xo Yb ?_;refine aZ.w (fun E h t=>∃(g:Sq) (y:Sq),E=o.length-g/\g<=o.length/\(∀X∈o.take g,bd X)/\B+1+((o.take g).map cn).sum<=20000/\y<=200000/\ae t p [I ((B+1+((o.take g).map cn).sum:Sq):So),I (y:So)]/\ae t s.Y [I Q,I R,WB,WC,S]/\aF (bI p) s t/\h.e=119/\h.N 0=ab p 0 3/\h.N 2=I M/\h.N 4=ab s.Y 0 6/\h.N 7=I (g:Sq))
  (fun E h t=>(E= .bF/\aF (bI p) s t/\(∃X y:So,ae t p [I X,I y])/\h.e=119/\h.N 6= .bool false)\/(E= .bb 0/\∃y:Sq,(∀X∈o,bd X)/\B+1+(o.map cn).sum<=20000/\y<=200000/\ae t p [I ((B+1+(o.map cn).sum:Sq):So),I (y:So)]/\ae t s.Y [I Q,I R,WB,WC,S]/\aF (bI p) s t/\h.e=119/\h.N 0=ab p 0 3/\h.N 2=I M/\h.N 4=ab s.Y 0 6))
  ⟨0,K+G.length,rfl,Z,aA,by simp;omega,Z,by simpa using T,W5,W,V a,V q,V r,aa,aa⟩ ?_ ?_
 ·clear a q Xj r h;rintro YA WK E h t ⟨g,y,rfl,YB,WY,H,Wz,z,F,A,a,q,r,D,Xp⟩;have W9:=X1.hA X3 A U;have WZ:=F.v ft 3 6 WC;by_cases w:g<o.length;rotate_left
  ·obtain rfl:g=o.length:=Z;rw[Sz] at WY H z;refine ch a D Xp @c7 WZ (W9.g Sn) (Z:¬((o.length:Sq):So)<((o.length:Sq):So)) ?_;exact WK _ _ _ (.inr ⟨rfl,y,WY,H,Wz,z,F,A,V a,V q,V r,V D⟩)
  have W0:=W9.r (P:=Se) (k:= .i64) (x:=(g:So)) Sn aL Z Z;rw[Sp] at W0;refine jG a q r D Xp @c7 WZ (W9.g Sn) (Sf (Z:(g:So)<(o.length:So))) W0 (W9.dm (P:=Se) bV aL w) ((XY o[g] (ag (O.gD (k:=Q) (n:=R) (b:=G) (l:=o) (d:=m) (Sr w))) WG t _ (M-1) p _ y ((Yq.H g w).j A U) Xg (Yt _ (Sr w)) Z Z H Z z).b ?_);rintro _ YC ⟨Xq,rfl,W1,Wy,Xr⟩;have W2:=A.a W1;cases Xq with
  |false=>
   refine ax a ?_;exact WK _ _ _ (.inl ⟨rfl,W2,Wy,V a,aa⟩)
  |true=>
   obtain⟨⟨Xs,-⟩,YD,Xt,Xu,Xv⟩:=Xr rfl;have Xw:=F.j W1 (fun e=>by
    have e:some p=some s.Y:=e;injection e with e;omega)
   refine aq a Xp ?_;exact aH (o.length-(g+1)) Z ⟨g+1,Xt,rfl,Z,NN WY w Xs,by rw[w9 w];omega,Xu,by rw[w9 w,<-S6];exact Xv,Xw,W2,V a,V q,V r,V D,aa⟩
 clear a q Xj r h;rintro E h t (⟨rfl,A,Wy,a,WS⟩|⟨rfl,y,WY,H,Wz,z,F,A,a,q,r,D⟩)
 ·refine kN ?_;exact WE _ _ A Wy a WS
 refine ax a ?_;have⟨WL,Yc⟩:=aO (B+1+(o.map cn).sum);rw[<-Yc] at H z;have Yd:s.Y<t.Y:=F.n;have Ye:p<t.Y:=z.n;refine aZ.w (fun E h t=>∃(g:Sq) (y:Sq),E=m.length-g/\g<=m.length/\(∀e∈m.take g,e.1.length<=100000/\bd e.2)/\WL+((m.take g).map fun e=>cn e.2).sum<=20000/\y<=200000/\ae t p [I ((WL+((m.take g).map fun e=>cn e.2).sum:Sq):So),I (y:So)]/\ae t s.Y [I Q,I R,WB,WC,S]/\aF (bI p) s t/\h.e=119/\h.N 0=ab p 0 3/\h.N 2=I M/\h.N 4=ab s.Y 0 6/\h.N 8=I (g:Sq))
  (fun E h t=>(E= .bF/\aF (bI p) s t/\(∃X y:So,ae t p [I X,I y])/\h.e=119/\h.N 6= .bool false)\/(E= .bb 2/\∃y:Sq,(∀e∈m,e.1.length<=100000/\bd e.2)/\WL+(m.map fun e=>cn e.2).sum<=20000/\y<=200000/\ae t p [I ((WL+(m.map fun e=>cn e.2).sum:Sq):So),I (y:So)]/\aF (bI p) s t/\h.e=119))
  ⟨0,y,rfl,Z,aA,by simpa using H,Wz,by simpa using z,F,A,V a,V q,V r,V D,aa⟩ ?_ ?_
 ·clear a q r D h z F A Wz y Yd Ye t;rintro YA WK E h t ⟨g,y,rfl,YB,WM,H,Wz,z,F,A,a,q,r,D,WN⟩;have Xa:=Xh.hA Xi A U;have WZ:=F.v eh 4 6 S;by_cases w:g<m.length;rotate_left
  ·obtain rfl:g=m.length:=Z;rw[Sz] at WM H z;refine ch a D WN @bJ WZ (Xa.g Sh) (Z:¬((m.length:Sq):So)<((m.length:Sq):So)) ?_;exact WK _ _ _ (.inr ⟨rfl,y,WM,H,Wz,z,A,V a⟩)
  refine ch a D WN @bJ WZ (Xa.g Sh) (Sf (Z:(g:So)<(m.length:So))) (LB.T 0 0 fun Y3 Y4 Xx _ WO Y5=> ?_);have YE:=LA.D Xx (z.n:p<t.Y);have YF:=LA.D Xx (F.n:s.Y<t.Y);have Xb:=Xa.C WO;have YG:=(z.C WO).v aB 1 3 (I (y:So));have YH:=(F.C WO).v eh 4 6 S;have W0:=Xb.r (P:=Se) (k:= .i64) (x:=(g:So)) Sh bx Z Z;rw[Sp] at W0;have⟨Xy,YI⟩:=kS Xb w;have⟨Y6,YJ,YK,Y7⟩:=Yr.H g w;have⟨Yf,YL⟩:=kn YJ;have Yg:=Xb.fE (P:=Se) fH w (j:=0) Z;rw[SC,Yf] at Yg;have Y8:=Ys _ (Sr w);refine pW a q D WN @xz @bJ YE YF ((fun u=>LA.g0 Xa Xx w u)) YG YH Xb.m W0 Xy Yg (zO SL) @fT ?_;refine LB.gV aQ ai (z.C WO) (b:=1) (c:=3) rfl (v:=I ((y:So)+(m[g].1).length)) (a:=[I ((y:So)+(m[g].1).length)]) rfl rfl aA rfl (fun WH=>SB rfl WH) ?_;intro Xc Xd YM Yh;have Xd:ae Xc p [I ((WL+((m.take g).map fun e=>cn e.2).sum:Sq):So),I ((y:So)+(m[g].1).length)]:=Xd;have YN:aF (bI p) t Xc:=⟨Z,fun u WD WR=>by
   rw[Yh u (fun e=>WR (by rw[e];rfl)),WO.N u WD]⟩
  have Xe:=A.a YN;have Yi:ae Xc s.Y [I Q,I R,WB,WC,S]:=(F.C WO).f YM Yh Z;have Xz:=Xh.hA Xi Xe U;have Yj:=Yi.v eh 4 6 S;have XW:=Xz.r (P:=Se) (k:= .i64) (x:=(g:So)) Sh bx Z Z;rw[Sp] at XW;have XX:=Xz.fE (P:=Se) fH w (j:=0) Z;rw[SC,Yf] at XX;have Yk:=Xz.hC (P:=Se) bV aL w (j:=1) Z;rw[YL] at Yk;by_cases Yl:(((m[g].1).length:Sq):So)>300
  ·refine gY a D WN @bJ Yj XW Xy XX (zO SL) (Sf Yl) ?_;exact WK _ _ _ (.inl ⟨rfl,Xe,⟨_,_,Xd⟩,V a,aa⟩)
  refine nS a q r D WN @bJ Yj XW Xy YI XX Yk (zO SL) Yl ((XY m[g].2 (ag (O.fs (k:=Q) (n:=R) (b:=G) (l:=o) (d:=m) (Sr w))) WG Xc _ (M-1) p _ (y+(m[g].1).length) (YK.j Xe U) Xg (Yu _ (Sr w)) Z Z H Z Xd).b ?_);rintro _ YC ⟨Xq,rfl,W1,Wy,Xr⟩;have W2:=Xe.a W1;cases Xq with
  |false=>
   refine ax a ?_;exact WK _ _ _ (.inl ⟨rfl,W2,Wy,V a,aa⟩)
  |true=>
   obtain⟨⟨Xs,-⟩,YD,Xt,Xu,Xv⟩:=Xr rfl;have Xw:=Yi.j W1 (fun e=>by
    have e:some p=some s.Y:=e;injection e with e;omega)
   have Ym:((m.take (g+1)).map fun e=>cn e.2).sum=((m.take g).map fun e=>cn e.2).sum+cn m[g].2:=w9 (f:=fun e:Sk SH×O=>cn e.2) w;refine aq a WN ?_;refine aH (m.length-(g+1)) Z ⟨g+1,Xt,rfl,Z,?_,by rw[Ym];omega,Xu,by rw[Ym,<-S6];exact Xv,Xw,W2,V a,V q,V r,V D,aa⟩;intro e L;rw[SJ,Si w,SV] at L;rcases L with L|L
   ·exact WM e L
   simp at L;rw[L];exact⟨Z,Xs⟩
 clear a q r D h z F A Wz y Yd Ye t;rintro E h t (⟨rfl,A,Wy,a,WS⟩|⟨rfl,y,WM,H,Wz,z,A,a⟩)
 ·refine kN ?_;exact WE _ _ A Wy a WS
 refine bO a Tu ?_;have Yn:B+cn (.au Q R G o m)=WL+(m.map fun e=>cn e.2).sum:=by rw[nq,Yc];omega
 exact⟨true,rfl,A,⟨_,_,z⟩,fun _=>⟨⟨.au Z Z Z (fun e L=>(WM e L).1) WY (fun e L=>(WM e L).2),(by omega:(G.length:Sq)<=4000)⟩,by rw[Yn];exact H,y,Wz,by rw[Yn];exact z⟩⟩
end Go.Proofs.YtgpmffbleaphkaaGreat
namespace Go.Cl
structure sL (D:cz):Prop where
 eb:D.eb.length<=140737488351232
 a7:j9 D.a7
 aG:D.aj.length<=140737488351232
 aj:∀e∈D.aj,j9 e.2
structure fv (D:cz):Prop where
 eb:D.eb.length<=100
 aG:D.aj.length<=70
 a7:bd D.a7
 aj:∀e∈D.aj,bd e.2
 uF:cn D.a7+(D.aj.map fun e=>cn e.2).sum<=20000
 cj:∀e∈D.aj,e.2.cj.length<=4000
structure uG (D:cz):Prop where
 eb:D.eb.length<=100
 aG:D.aj.length<=1000
 a7:bd D.a7
 aj:∀e∈D.aj,bd e.2
theorem fv.dd {D:cz}(h:fv D):uG D:=⟨h.eb,SU h.aG ai,h.a7,h.aj⟩
instance {D:cz}:Coe (fv D) (uG D):=⟨fv.dd⟩
structure Hk (D:cz):Prop where
 pJ:fv D
 a9:D.a7.a9=7
 xA:fj 28 D.a7
 Hl:∀e∈D.aj,fj 28 e.2
 O9:∀e∈D.aj,1<=e.1/\e.1<=8388607
 acX:D.aj.Pairwise fun a b=>a.1<b.1
theorem kV {a:Sk Sj}(h:a.length=5):∃b c d e f,a=[b,c,d,e,f]:=by
 match a,h with
 |[a,b,c,d,e],_=>exact⟨a,b,c,d,e,rfl⟩
end Go.Cl
namespace Go.Proofs.YtgpmffbleaphkaaGreat
open Go.Cl Go.Lib
section
variable {t:J} {i:Sq} {D:cz} {mv iv:Sj} {tc:Sk Sj}
theorem c9 (a:tc.length=5):(bk D mv tc iv).length=9:=by simp[bk,a]
theorem Hm (h:ae t i (bk D mv tc iv))(a:tc.length=5):aD Se t 3 (ab i 0 10)=some (I D.mF):=by
 have:=h.B aB (a:=0) (c:=10) (by rw[c9 a]) (by rw[c9 a];omega);rw[this];rfl
theorem xB (h:ae t i (bk D mv tc iv))(a:tc.length=5):aD Se t 22 (ab i 1 10)=some mv:=by
 have:=h.B cJ (a:=1) (c:=10) (by rw[c9 a]) (by rw[c9 a];omega);rw[this];rfl
theorem Hn (h:ae t i (bk D mv tc iv))(a:tc.length=5):aD Se t 3 (ab i 2 10)=some (I D.mG):=by
 have:=h.B aB (a:=2) (c:=10) (by rw[c9 a]) (by rw[c9 a];omega);rw[this];rfl
theorem lz (h:ae t i (bk D mv tc iv))(a:tc.length=5):aD Se t 26 (ab i 3 10)=some (.agg tc.toArray):=by
 have:=ae.ka bV aL h (a:=3) (c:=10) (by rw[c9 a]) (by rw[c9 a];omega);rw[this];obtain⟨b,d,e,f,g,rfl⟩:=kV a;rfl
theorem Pa {F:Sq->Prop}{s:J}(a:aE F s tc D.a7)(h:ae t i (bk D mv tc iv)):aD Se t 3 (ab i 3 10)=some (I D.a7.a9):=by
 have b:=a.aG;have:=h.B aB (a:=3) (c:=10) (by rw[c9 b]) (by rw[c9 b];omega);rw[this];cases b:D.a7 with
 |au k n d l e=>
  rw[b] at a;obtain⟨b,d,e,f,g,rfl,-⟩:=a.ea;rfl
theorem dB (h:ae t i (bk D mv tc iv))(a:tc.length=5):aD Se t 27 (ab i 8 10)=some iv:=by
 have:=h.B Hf (a:=8) (c:=10) (by rw[c9 a]) (by rw[c9 a];omega);rw[this];obtain⟨b,d,e,f,g,rfl⟩:=kV a;rfl
theorem dV (h:ae t i (bk D mv tc iv))(a:tc.length=5):aD Se t 29 (ab i 0 10)=some (.agg (bk D mv tc iv).toArray):=ae.y O7 (by rw[c9 a];exact mH) h (by rw[c9 a])
end
theorem Pb {s:J}{v:Sj}{n:Sq}{l:Sk Sj}(h:az s 6 v n l){k:Sq}(a:k<n):aY Se 26 (eR (bM 6 v k) 1) 0=some (eR (bM 6 v k) 1)/\aY Se 26 (eR (bM 6 v k) 1) 2=some (eR (bM 6 v k) 3):=by
 have⟨i,b,c,e,_⟩:=h.aJ a;rw[e];refine⟨?_,?_⟩<;>·unfold aY;rw[Ta];simp[aQ,dI,eR]
theorem mI {F:Sq->Prop}{s:J}{a:Sk Sj}{i:Sq}{e:So×O}(h:g7 F s ((a.drop (i*6)).take 6) e):a.getD (i*6) undef=I e.1/\(a.drop (i*6+1)).take 5=((a.drop (i*6)).take 6).drop 1/\aE F s ((a.drop (i*6+1)).take 5) e.2/\∃b,a.getD (i*6+3) undef=b/\az s 1 b e.2.cj.length (aM e.2.cj)/\bA F b:=by
 have⟨r,d,f⟩:=h;have⟨j,c⟩:=kn d;refine⟨j,by rw[c,d];rfl,by rw[c];exact f,_,rfl,?_⟩;have g:((a.drop (i*6+1)).take 5)[2]?=a[i*6+3]?:=by
  rw[SO Z,S7]
 rw[c] at g;have⟨p,o⟩:=e;cases o with
 |au q t u v w=>
  obtain⟨k,x,y,z,A,rfl,l,B,D,m,-⟩:=f.ea;have n:a.getD (i*6+3) undef=k:=by
   rw[SA,<-g];rfl
  rw[n];exact⟨l,m⟩
def Ho (s:J)(D:cz)(v:Sj)(a:J):Prop:=Gd (fv D) v/\ad s.Y s a
theorem Pc (Q:Sq->Prop)(s:J)(a:cz)(p:Sj)(r:Sk Sj)(u:Sj)(WW:Sk Sj)(y:c2 Q s p r u WW a)(WG:sL a):
  Runs Se aw 19 [.agg (bk a p r u).toArray] s (Ho s a):=by
 have l:=y.a7.aG;have WH:=y.fF;refine Runs.ey 53 Tryz.func19 rfl fun c b WI=> ?_
 refine aq b WI (aK fun g WX WJ Xf=> ?_);refine aR b (c9 (D:=a) (mv:=p) (iv:=u) l) (show cP Se 67 []=some (.agg #[I 0,I 0]) by kernel_rfl) (aK fun WK WY n Xg=> ?_);have v:=(WX:ae g s.Y (bk a p r u)).C n;have w:=WJ.d n;have H:∀(c:an) (t:J),ad s.Y s t->c.e=53->c.N 2= .bool false->eW Se Tryz.f19.results.toList (Ho s a) .bF c t:=by
  intro c t WZ b R;refine bS b R Tv ?_;exact⟨⟨false,rfl,fun W0=>by cases W0⟩,WZ⟩
 have S:=y.aj.C w;have WL:=y.eb.C w;by_cases T:((a.aj.length:Sq):So)>60
 ·refine gX b @dA (dB v l) (S.g Sm) (Sf T) ?_;exact H _ _ w (V b) aa
 by_cases WM:((a.eb.length:Sq):So)>100
 ·refine je b @dA @xx (dB v l) (xB v l) (S.g Sm) (WL.g Sg) T (Sf WM) ?_;exact H _ _ w (V b) aa
 refine ni b @dA @xx @lx (dB v l) (xB v l) (lz v l) (S.g Sm) (WL.g Sg) T WM @Sv.{0} @Sy.{0} (rfl:(2:Sq)+1=3) ((Hj _ a.a7 (Sw _) (fun d=>Q d/\d<s.Y) WK r 8 g.Y 0 0 (WH.a7.C w) (fun d B=>ag B.2) WG.a7 ai ai Z Z (WY:ae WK g.Y [I ((0:Sq):So),I ((0:Sq):So)])).b ?_);rintro _ W1 ⟨U,rfl,W,_,X⟩;have Xh:=WJ.Y;have Xi:=n.Y;have E:=w.a ⟨W.Y,fun d B=>W.N d (ag w.Y) (fun e=>by
  have e:some g.Y=some d:=e;injection e with e;omega)⟩
 cases U with
 |false=>
  refine ax b ?_;exact H _ _ E (V b) aa
 |true=>
 obtain⟨⟨W2,-⟩,Wy,W3,W4,K⟩:=X rfl;rw[Nat.zero_add] at Wy K;refine ax b ?_;have⟨Wz,WN⟩:=aO (cn a.a7);rw[<-WN] at Wy K;have W5:ae W1 s.Y (bk a p r u):=v.j W (fun e=>by
  have e:some g.Y=some s.Y:=e;injection e with e;omega)
 have Xj:=K.n;refine aZ.w (fun z c t=>∃(i q L:Sq),z=a.aj.length-i/\i<=a.aj.length/\q<=100000000*i/\L<=200000/\(∀e∈a.aj.take i,bd e.2/\e.2.cj.length<=4000)/\Wz+((a.aj.take i).map fun e=>cn e.2).sum<=20000/\ae t g.Y [I ((Wz+((a.aj.take i).map fun e=>cn e.2).sum:Sq):So),I (L:So)]/\ae t s.Y (bk a p r u)/\ad s.Y s t/\c.e=53/\c.N 1=ab s.Y 0 10/\c.N 3=ab g.Y 0 3/\c.N 4=I (q:So)/\c.N 5=I (i:Sq))
  (fun z c t=>(z= .bF/\ad s.Y s t/\c.e=53/\c.N 2= .bool false)\/(z= .bb 0/\∃q:Sq,(∀e∈a.aj,bd e.2/\e.2.cj.length<=4000)/\Wz+(a.aj.map fun e=>cn e.2).sum<=20000/\ad s.Y s t/\c.e=53/\c.N 4=I (q:So)))
  ⟨0,0,W3,rfl,Z,Z,W4,aA,by simpa using Wy,by simpa using K,W5,E,V b,aa,aa,aa,aa⟩ ?_ ?_
 ·clear b WI c;rintro Xk WO z c t ⟨i,q,L,rfl,Xl,Xm,Xn,A,F,WQ,WA,m,b,M,WR,P,WB⟩;have G:=y.aj.C m;have Xo:g.Y<t.Y:=WQ.n;by_cases o:i<a.aj.length;rotate_left
  ·obtain rfl:i=a.aj.length:=Z;rw[Sz] at A F;refine ch b M WB @dA (dB WA l) (G.g Sm) (Z:¬((a.aj.length:Sq):So)<((a.aj.length:Sq):So)) ?_;exact WO _ _ _ (.inr ⟨rfl,q,A,F,m,V b,V P⟩)
  have WC:=G.r (k:= .i64) (x:=(i:So)) Sm eG Z Z;rw[Sp] at WC;have⟨Xp,WS⟩:=ly G o;have⟨Xq,Xr,W6,Xs,W7,W8,Xt⟩:=mI (WH.dz.H i o);refine jG b M WR WB @dA (dB WA l) (G.g Sm) (Sf (Z:(i:So)<(a.aj.length:So))) WC WS (G.hC bV aL o (j:=1) Z) ((Hj _ a.aj[i].2 (Sw _) (fun d=>Q d/\d<s.Y) t _ 40 g.Y _ L (W6.C m) (fun d B=>ag B.2) (WG.aj _ (Sr o)) ai ai F Z WQ).b ?_);rintro _ W9 ⟨U,rfl,WD,_,X⟩;have n:=m.a ⟨WD.Y,fun d B=>WD.N d (ag m.Y) (fun e=>by
   have e:some g.Y=some d:=e;injection e with e;omega)⟩
  cases U with
  |false=>
   refine ax b ?_;exact WO _ _ _ (.inl ⟨rfl,n,V b,aa⟩)
  |true=>
   have⟨⟨WE,Xa⟩,Xu,Xb,Xc,Xd⟩:=X rfl;have WT:ae W9 s.Y (bk a p r u):=WA.j WD (fun e=>by
    have e:some g.Y=some s.Y:=e;injection e with e;omega)
   have WU:=y.aj.C n;have⟨Xv,Xe⟩:=Pb WU o;have WV:=WU.fE cJ o (j:=3) Z;rw[W7] at WV;have Xw:a.aj[i].2.cj.length<=100000000:=by
    generalize a.aj[i].2=Xx at WE;cases WE;assumption
   have E:((a.aj.take (i+1)).map fun e=>cn e.2).sum=((a.aj.take i).map fun e=>cn e.2).sum+cn a.aj[i].2:=w9 (f:=fun e:So×O=>cn e.2) o;refine jG b M P WB @dA (dB WT l) WC WS Xe WV ((W8.C n).g Sg) ?_;refine aH (a.aj.length-(i+1)) Z ⟨i+1,q+a.aj[i].2.cj.length,Xb,rfl,Z,Z,Xc,?_,by rw[E];omega,by rw[E,<-S6];exact Xd,WT,n,V b,V M,V WR,aa,aa⟩;intro e h;rw[SJ,Si o,SV] at h;rcases h with h|h
   ·exact A e h
   simp at h;rw[h];exact⟨WE,Xa⟩
 rintro z c t (⟨rfl,m,b,R⟩|⟨rfl,q,A,F,m,b,P⟩)
 ·refine kN ?_;exact H _ _ m b R
 refine bS b P Tv ?_;exact⟨⟨_,rfl,fun _=>⟨Z,Z,W2,fun e h=>(A e h).1,by rw[<-WN];exact F,fun e h=>(A e h).2⟩⟩,m⟩
end Go.Proofs.YtgpmffbleaphkaaGreat
namespace Go.Proofs.YtgpmffbleaphkaaGreat
open Go.Cl Go.Lib
def Hp (s:J)(D:cz)(v:Sj)(a:J):Prop:=Gd (Hk D) v/\ad s.Y s a
theorem Hq
  (Wy:Sq->Prop) (s:J) (a:cz) (z:Sj) (Q:Sk Sj) (o:Sj) (WR:Sk Sj) (p:c2 Wy s z Q o WR a) (WI:sL a):
  Runs Se aw 5 [.agg (bk a z Q o).toArray] s (Hp s a):=by
 have A:=p.a7.aG;refine Runs.ey 72 Tryz.func5 rfl fun f b WS=> ?_
 refine aq b WS (aK fun WT Wz WU Xq=> ?_);have Wz:ae WT s.Y (bk a z Q o):=Wz;have WA:∀(f:an) (t:J),ad s.Y s t->f.e=72->f.N 2= .bool false->eW Se Tryz.f5.results.toList (Hp s a) .bF f t:=by
  intro f t Xe b WJ;refine bS b WJ Tz ?_;exact⟨⟨false,rfl,fun h=>by cases h⟩,Xe⟩
 refine aR b (c9 (D:=a) (mv:=z) (iv:=o) A) (dV Wz A) ((Pc Wy WT a z Q o WR (p.C WU) WI).b ?_);rintro _ Xf ⟨⟨R,rfl,Xg⟩,WV⟩;have WK:=WU.d WV;have WW:=Wz.C WV;cases R with
 |false=>
  refine c0 b ?_;exact WA _ _ WK (V b) aa
 |true=>
 have WX:=Xg rfl;have Xr:=WX.aG;refine aR b @lx (lz WW A) ((Ag a.a7 Wy Xf Q (p.a7.C WK) WI.a7).b ?_);rintro _ B ⟨⟨R,rfl,Xh⟩,WY⟩;have S:=WK.d WY;have WZ:=WW.C WY;cases R with
 |false=>
  refine c0 b ?_;exact WA _ _ S (V b) aa
 |true=>
 have W0:=Pa (iv:=o) (mv:=z) p.a7 WZ;by_cases WL:a.a7.a9=7;rotate_left
 ·refine gX b @lx @a6 W0 WL ?_;exact WA _ _ S (V b) aa
 refine gX b @lx @a6 W0 WL ?_;have⟨T,W1⟩:=aO (fun c=>∀e,a.aj[c]?=some e->fj 28 e.2/\1<=e.1/\e.1<=8388607/\∀q,0<c->a.aj[c-1]?=some q->q.1<e.1:Sq->Prop);refine aZ.w (fun E f t=>∃i:Sq,E=a.aj.length-i/\i<=a.aj.length/\(∀c,c<i->T c)/\ad B.Y B t/\f.e=72/\f.N 1=ab s.Y 0 10/\f.N 3=I (i:Sq))
  (fun E f t=>(E= .bF/\ad B.Y B t/\f.e=72/\f.N 2= .bool false)\/(E= .bb 0/\(∀c,c<a.aj.length->T c)/\ad B.Y B t/\f.e=72))
  ⟨0,rfl,Z,fun c h=>Z,ad.p _ _,V b,aa,aa⟩ ?_ ?_
 ·clear b WS f;rintro Xs U E f t ⟨i,rfl,W2,F,m,b,d,n⟩;have W3:=S.d m;have g:=p.aj.C W3;have WB:=WZ.C m;by_cases r:i<a.aj.length;rotate_left
  ·obtain rfl:i=a.aj.length:=Z;refine ch b d n @dA (dB WB A) (g.g Sm) (Z:¬((a.aj.length:Sq):So)<((a.aj.length:Sq):So)) ?_;exact U _ _ _ (.inr ⟨rfl,F,m,V b⟩)
  refine ch b d n @dA (dB WB A) (g.g Sm) (Sf (Z:(i:So)<(a.aj.length:So))) (LB.T 1 0 fun Xt Xi WM _ WC Xu=> ?_);have G:=LA.D WM WB.n;have W4:=g.C WC;have u:=g.r (k:= .i64) (x:=(i:So)) Sm eG Z Z;rw[Sp] at u;have⟨W,Xj⟩:=ly g r;have⟨Xk,Xv,Xl,Xw,Xx,Xy,Xz⟩:=mI (p.dz.H i r);have H:=fun c=>LA.g0 g WM r c
  have W5:=Xl.C (W3.d WC);have K:∀WN,ad t.Y t WN->aD Se WN 27 (ab s.Y 8 10)=some o:=fun WN h=>dB (WB.C h) A
  refine nS b d n @dA (K _ WC) G H W4.m u Xj (W4.hC bV aL r (j:=1) Z) W5.m @fT @lW ((Ag a.aj[i].2 Wy (aS t 0) _ W5 (WI.aj _ (Sr r))).b ?_);rintro _ XW ⟨⟨R,rfl,Xm⟩,W6⟩;have v:=WC.d W6;have L:=m.d v;have M:∀WD,bn (.bool WD) (.bool WD)=true:=fun WD=>by cases WD<;>rfl
  refine⟨fun _=>LA.ar.R Xi (W6.q Z),?_⟩;have w:=g.C v;have O:=w.fE aB r (j:=0) Z;rw[SC,Xk] at O;cases R with
  |false=>
   refine e6 b M ?_;exact U _ _ _ (.inl ⟨rfl,L,V b,aa⟩)
  |true=>
  by_cases X:a.aj[i].1<1
  ·refine nT b d n M @dA (K _ v) G H w.m u W O @ez @fT @lW (Sf X) ?_;exact U _ _ _ (.inl ⟨rfl,L,V b,aa⟩)
  by_cases WE:(8388607:So)<a.aj[i].1
  ·refine rh b d n M @dA (K _ v) G H w.m u W O @fT X (Sf WE) ?_;exact U _ _ _ (.inl ⟨rfl,L,V b,aa⟩)
  have W7:(∀q,0<i->a.aj[i-1]?=some q->q.1<a.aj[i].1)->T i:=fun h=>by
   rw[W1];intro e l;rw[Si r] at l;injection l with l;subst l;exact⟨(Xm.1 rfl),Z,Z,h⟩
  have W8:T i->∀c,c<i+1->T c:=fun h c WG=>by
   by_cases Xn:c=i
   ·subst Xn;exact h
   exact F c Z
  by_cases XX:i=0
  ·have WH:¬(0:So)<(i:So):=Z;refine nT b d n M @dA (K _ v) G H w.m u W O @fT X WE WH ?_;exact aH (a.aj.length-(i+1)) Z ⟨i+1,rfl,Z,W8 (W7 (fun q h=>Z)),L,V b,V d,aa⟩
  have WH:(0:So)<(i:So):=Z;have P:i-1<a.aj.length:=Z;have WO:=g.r (k:= .i64) (x:=(i:So)-1) Sm eG Z Z;rw[show((i:So)-1).toNat=i-1 from Z] at WO;have⟨W9,_⟩:=ly g P;obtain⟨Xo,-⟩:=mI (p.dz.H (i-1) P);have WQ:=w.fE aB P (j:=0) Z;rw[SC,Xo] at WQ;have Xa:=fun c=>LA.g0 g WM P c
  by_cases Xb:a.aj[i].1<=(a.aj[i-1]'(P)).1
  ·refine zJ b d n M @dA (K _ v) G H w.m u W O @fT X WE (Sf WH) WO W9 WQ Xa (Sf Xb) ?_;exact U _ _ _ (.inl ⟨rfl,L,V b,aa⟩)
  refine zJ b d n M @dA (K _ v) G H w.m u W O @fT X WE (Sf WH) WO W9 WQ Xa Xb ?_;exact aH (a.aj.length-(i+1)) Z ⟨i+1,rfl,Z,W8 (W7 (fun q _ h=>by
   rw[Si P] at h;injection h with h;rw[<-h];omega)),L,V b,V d,aa⟩
 rintro E f t (⟨rfl,m,b,WJ⟩|⟨rfl,F,m,b⟩)
 ·refine kN ?_;exact WA _ _ (S.d m) b WJ
 refine bO b Tz ?_;rw[W1] at F;have Xc:∀e∈a.aj,fj 28 e.2/\1<=e.1/\e.1<=8388607:=fun e l=>by
  obtain⟨c,WG,rfl⟩:=SZ.1 l;have:=F c WG _ (Si WG);exact⟨this.1,this.2.1,this.2.2.1⟩
 have Xd:∀c (h:c+1<a.aj.length),(a.aj[c]'(Z)).1<a.aj[c+1].1:=fun c h=>by
  have:=(F (c+1) h _ (Si h)).2.2.2 (a.aj[c]'(Z)) Z (by rw[Nat.add_sub_cancel];exact Si _);exact this
 refine⟨⟨true,rfl,fun _=>⟨WX,WL,(Xh.1 rfl),fun e l=>(Xc e l).1,fun e l=>(Xc e l).2,List.pairwise_iff_getElem.2 (fun i c W2 WG XY=> ?_)⟩⟩,S.d m⟩;have:∀y,i+1+y<a.aj.length->∀h:i+1+y<a.aj.length,(a.aj[i]'(W2)).1<(a.aj[i+1+y]'(h)).1:=by
  intro y
  induction y with
  |zero=>intro _ h;exact Xd i h
  |succ y Xp=>
   intro _ h;exact Int.lt_trans (Xp Z Z) (Xd (i+1+y) h)
 simpa only[(Z:i+1+(c-(i+1))=c)] using(this (c-(i+1)) Z Z)
end Go.Proofs.YtgpmffbleaphkaaGreat
namespace Go.Cl
def cC (l:Sk (So×O))(n:So):O×Ts:=match l.find? (fun e=>e.1==n) with
 |some e=>(e.2,true)
 |none=>(O.ck,false)
theorem Ak {d:Sk (So×O)}{k:So}{i:Sq}(a:i<d.length)(b:d[i].1=k)(c:∀j (h:j<i),(d[j]'(TC h a)).1≠k):cC d k=(d[i].2,true):=by
 unfold cC;have:d.find? (fun y=>y.1==k)=some d[i]:=by
  rw[List.find?_eq_some_iff_getElem];refine⟨by simpa using b,i,a,rfl,fun j a=> ?_⟩;have:=c j a
  simpa using this
 rw[this]
theorem Hr {d:Sk (So×O)}{k:So}(a:∀j (h:j<d.length),d[j].1≠k):cC d k=(O.ck,false):=by
 unfold cC;have:d.find? (fun y=>y.1==k)=none:=by
  rw[List.find?_eq_none];intro y b;obtain⟨j,c,rfl⟩:=SZ.1 b
  simpa using a j c
 rw[this]
end Go.Cl
namespace Go.Proofs.YtgpmffbleaphkaaGreat
open Go.Cl Go.Lib
def Hs (s:J)(t:Ts)(v:Sj)(a:J):Prop:=v= .bool t/\ad s.Y s a
end Go.Proofs.YtgpmffbleaphkaaGreat
namespace Go.Cl
theorem qd {M:Sk So}{k:Sq}(h:k<M.length):(df M).getD k undef=I M[k]:=by
 simp[df,List.getD,Si h]
theorem Ht (M:Sk So)(k:Sq)(x:So):(df M).set k (I x)=df (M.set k x):=by
 simp[df,List.map_set]
def o0 (M a:Sk So)(i:Sq):Prop:=a.length=M.length/\∀k,k<M.length->a[k]?=if k<i\/M.length-i<=k then M[M.length-1-k]? else M[k]?
theorem o0.jA (M:Sk So):o0 M M 0:=by
 refine⟨rfl,fun k a=> ?_⟩;rw[SG Z]
theorem o0.fg {M a:Sk So}{i j:Sq}(b:o0 M a i)(e:j+1+i=M.length)(f:i<j)(c:i<a.length)(d:j<a.length):o0 M ((a.set i a[j]).set j a[i]) (i+1):=by
 have⟨a,h⟩:=b;refine⟨by simp[a],fun k e=> ?_⟩;rw[Te,Te];have a:=h i Z;have b:=h j Z;rw[SG Z,Si c] at a;rw[SG Z,Si d] at b;by_cases c:j=k
 ·subst c;rw[SI rfl,SI (by simp;omega),SI Z,a,show M.length-1-j=i from Z]
 rw[SG c];by_cases a:i=k
 ·subst a;rw[SI rfl,SI Z,SI Z,b,show M.length-1-i=j from Z]
 rw[SG a,h k e];by_cases c:k<i\/M.length-i<=k
 ·rw[SI c,SI Z]
 rw[SG c,SG Z]
theorem o0.l1 {M a:Sk So}{i:Sq}(h:o0 M a i)(b:M.length<=i+1+i):a=M.reverse:=by
 have⟨a,b⟩:=h;refine List.ext_getElem? fun k=> ?_
 by_cases a:k<M.length
 ·rw[List.getElem?_reverse a,b k a];split
  ·rfl
  rw[show M.length-1-k=k from Z]
 rw[SW Z,SW (by simp;omega)]
theorem aF.p (v:Sj)(s:J):aF v s s:=⟨Sw _,fun _ _ _=>rfl⟩
theorem aF.Al {v:Sj}{s a b:J}(h:aF v s a)(k:aF v a b):aF v s b:=⟨SU h.Y k.Y,fun i c d=>(k.N i (Su c h.Y) d).trans (h.N i c d)⟩
end Go.Cl
namespace Go.Proofs.YtgpmffbleaphkaaGreat
open Go.Cl Go.Lib
def Pd (s:J)(x:Sj)(M:Sk So)(_:Sj)(a:J):Prop:=ao a 1 x M.length (df M.reverse)/\aF x s a
theorem Hu (s:J)(c:Sj)(M:Sk So)(D:ao s 1 c M.length (df M))(U:M.length<=1000000000):
  Runs Se aw 73 [c] s (Pd s c M):=by
 refine Runs.ey 28 Tryz.func73 rfl fun f a e=> ?_
 refine aR a e (D.c.g Ss) ?_;refine aZ.w (fun z f t=>∃(i:Sq) (d:Sk So),z=M.length-i/\i<=M.length/\o0 M d i/\ao t 1 c d.length (df d)/\aF c s t/\f.e=28/\f.N 0=c/\f.N 2=I (i:Sq)/\f.N 3=I ((M.length:So)-1-(i:Sq)))
  (fun z f t=>z= .bb 0/\ao t 1 c M.length (df M.reverse)/\aF c s t/\f.e=28)
  ⟨0,M,rfl,Z,o0.jA M,D,aF.p _ _,V a,V e,aa,by simp only[cx,↓S1];simp⟩ ?_ ?_
 ·clear a e f;rintro W P z f t ⟨i,d,rfl,X,r,b,m,a,e,n,g⟩;have Wy:=r.1;by_cases Wz:i+1+i<M.length;rotate_left
  ·have o:¬(i:So)<(M.length:So)-1-(i:Sq):=Z;have Q:=r.l1 Z;subst Q;rw[List.length_reverse] at b;refine aW a n g o ?_;exact P _ _ _ ⟨rfl,b,m,V a⟩
  have o:(i:So)<(M.length:So)-1-(i:Sq):=Z;obtain⟨j,u⟩:∃j,j+1+i=M.length:=⟨M.length-1-i,Z⟩
  rw[(Z:(M.length:So)-1-(i:Sq)=(j:So))] at g o;have l:=ad.aS t 0;have v:=b.C l;have p:i<d.length:=Z;have q:j<d.length:=Z;have E:=b.c.r (k:= .i64) (x:=(i:So)) Ss aQ Z Z;have y:=b.c.r (k:= .i64) (x:=(j:So)) Ss aQ Z Z;rw[Sp] at E y;have F:=v.c.P aB p;have G:=v.c.P aB q;rw[qd p] at F;rw[qd q] at G;refine aW a n g (Sf o) ?_;have⟨B,H⟩:=aO (fun j=>decide (j<t.Y):Sq->Ts);have A:∀j,B j=true->j<t.Y:=by
   intro j h;rw[H] at h;exact Sx h
  have R:=fun S=>LA.iG b.c ((fun j h=>by rw[H];exact Sl h):∀j,j<t.Y->B j=true) (k:=S)
  refine LB.kQ.hx B A 0 0 cW cW ?_;refine hy a e n g b.m E y F G @ez @lW R (LB.Hc aQ v p (w:=I d[j]) rfl (fun h=>SB rfl h) (fun _ h=>Su (A _ h) l.Y) fun WA K L=> ?_);rw[Ht] at K;refine aR a y @lW (LB.Hc aQ K q (w:=I d[i]) rfl (fun h=>SB rfl h) (fun _ h=>Su (A _ h) (SU l.Y L.Y)) fun WB O T=> ?_);rw[Ht] at O;refine aR a n g ?_;refine aH (M.length-(i+1)) Z ⟨i+1,_,rfl,Z,r.fg u Z p q,by simpa using O,m.Al ((aF.mk l.Y fun j u _=>l.N j u).Al (L.Al T)),V a,V e,aa,by simp only[cx,↓S1];congr 1;omega⟩
 rintro z f t ⟨rfl,b,m,a⟩;refine lo Tryz.results73 ?_;exact⟨b,m⟩
theorem Am {M:Sk So}{i:Sq}(h:i<M.length):M.take (i+1)=M.take i++[M[i]]:=by
 rw[SJ,Si h];rfl
theorem Pe (s:J)(h y:Sj)(M b:Sk So)(j:az s 1 h M.length (df M))(l:az s 1 y b.length (df b))(F:M.length<=1000000000):
  Runs Se aw 17 [h,y] s (Hs s (decide (M=b))):=by
 refine Runs.ef 26 Tryz.func17 rfl fun f a=> ?_
 by_cases A:M.length=b.length;rotate_left
 ·have E:¬(M.length:So)=(b.length:So):=Z;refine eo a (j.g Ss) (l.g Ss) E S0 ?_;exact⟨by rw[SD (fun m=>A (by rw[m]))],ad.p _ _⟩
 refine aW a (j.g Ss) (l.g Ss) (Z:(M.length:So)=(b.length:So)) ?_;refine aZ.w (fun z f t=>∃i:Sq,z=M.length-i/\i<=M.length/\M.take i=b.take i/\ad s.Y s t/\f.e=26/\f.N 0=h/\f.N 1=y/\f.N 5=I (i:Sq))
  (fun z f t=>(z= .bF/\M≠b/\ad s.Y s t/\f.e=26/\f.N 4= .bool false)\/(z= .bb 0/\M=b/\ad s.Y s t/\f.e=26))
  ⟨0,rfl,Z,aA,ad.p _ _,V a⟩ ?_ ?_
 ·clear a f;rintro Q B z f t ⟨i,rfl,G,n,c,a⟩;have d:=j.C c;have e:=l.C c;by_cases o:i<M.length;rotate_left
  ·obtain rfl:i=M.length:=Z;rw[Sz,A,Sz] at n;refine aR a (d.g Ss) (Z:¬((M.length:Sq):So)<((M.length:Sq):So)) ?_;exact B _ _ _ (.inr ⟨rfl,n,c,V a⟩)
  have p:i<b.length:=Z;have D:(i:So)<(M.length:So):=Z;have q:=d.r (k:= .i64) (x:=(i:So)) Ss aQ Z Z;have r:=e.r (k:= .i64) (x:=(i:So)) Ss aQ Z Z;rw[Sp] at q r;have u:=d.P aB o;have v:=e.P aB p;rw[qd o] at u;rw[qd p] at v;by_cases g:M[i]=b[i]
  ·refine hy a (d.g Ss) (Sf D) q r u v g d.m e.m @ez @lW ?_;exact aH (M.length-(i+1)) Z ⟨i+1,rfl,Z,by rw[Am o,Am p,n,g],c,V a⟩
  refine hy a (d.g Ss) (Sf D) q r u v g d.m e.m @ez @lW ?_;exact B _ _ _ (.inl ⟨rfl,fun m=>g (by subst m;rfl),c,V a⟩)
 rintro z f t (⟨rfl,w,c,a⟩|⟨rfl,w,c,a⟩)
 ·refine bO a S0 ?_;exact⟨by rw[SD w],c⟩
 refine bO a S0 ?_;exact⟨by rw[Sl w],c⟩
def Pf (F:Sq->Prop)(s:J)(x:O×Ts)(v:Sj)(a:J):Prop:=∃b,v= .tuple #[.agg b.toArray,.bool x.2]/\aE F a b x.1/\ad s.Y s a
theorem Hv (F:Sq->Prop)(s:J)(a:cz)(u:Sj)(E:Sk Sj)(v:Sj)(WA:Sk Sj)(G:c2 F s u E v WA a)(WB:uG a)(n:So):
  Runs Se aw 44 [.agg (bk a u E v).toArray,I n] s (Pf F s (cC a.aj n)):=by
 have w:=G.a7.aG;have WL:=WB.aG;refine Runs.ef 29 Tryz.func44 rfl fun f c=> ?_
 refine ax c (aK fun o WC Q WM=> ?_);refine aW c (c9 (D:=a) (mv:=u) (iv:=v) w) @b8 @cy (aK fun y R H WN=> ?_);refine aq c (rfl:bX.length+1=6) ?_;have WO:=Q.Y;have WQ:=H.Y;have S:=Q.d H;have WD:=(WC:ae o s.Y (bk a u E v)).C H;refine aZ.w (fun z f t=>∃i:Sq,z=a.aj.length-i/\i<=a.aj.length/\(∀b (h:b<a.aj.length),b<i->a.aj[b].1≠n)/\ad y.Y y t/\f.e=29/\f.N 1=I n/\f.N 2=ab s.Y 0 10/\f.N 4=ab o.Y 0 6/\f.N 6=I (i:Sq))
  (fun z f t=>(z= .bF/\∃(l:Sq) (h:l<a.aj.length) (A:Sk Sj),a.aj[l].1=n/\(∀b (h:b<a.aj.length),b<l->a.aj[b].1≠n)/\ae t o.Y A/\aE F t A a.aj[l].2/\ad s.Y s t/\f.e=29/\f.N 4=ab o.Y 0 6/\f.N 5= .bool true)\/
   (z= .bb 0/\(∀b (h:b<a.aj.length),a.aj[b].1≠n)/\ad y.Y y t/\f.e=29/\f.N 4=ab o.Y 0 6))
  ⟨0,rfl,Z,fun b _ h=>Z,ad.p _ _,V c⟩ ?_ ?_
 ·clear c f;rintro WR T z f t ⟨i,rfl,WS,e,d,c⟩;have B:=S.d d;have g:=G.aj.C B;have K:=WD.C d;by_cases p:i<a.aj.length;rotate_left
  ·obtain rfl:i=a.aj.length:=Z;refine bp c @dA (dB K w) (g.g Sm) (Z:¬((a.aj.length:Sq):So)<((a.aj.length:Sq):So)) ?_;exact T _ _ _ (.inr ⟨rfl,fun b h=>e b h h,d,V c⟩)
  have U:(i:So)<(a.aj.length:So):=Z;have L:=g.r (k:= .i64) (x:=(i:So)) Sm eG Z Z;rw[Sp] at L;have⟨W,WE⟩:=ly g p;obtain⟨WG,WT,X,-⟩:=mI (G.dz.H i p);have M:=g.fE aB p (j:=0) Z;rw[SC,WG] at M;by_cases m:a.aj[i].1=n
  ·refine jG c @dA (dB K w) (g.g Sm) (Sf U) L W WE (g.hC bV aL p (j:=1) Z) M (Sf m) ?_;have q:=X.C B;refine bh aL ai (R.C d) rfl rfl q.aG q.K ?_;intro WU WH WV Wy;refine ax c ?_;exact T _ _ _ (.inl ⟨rfl,i,p,_,m,e,WH,X.C (B.a ⟨Z,fun b P=>Wy b Z⟩),B.a ⟨Z,fun b P=>Wy b Z⟩,V c⟩)
  refine cX c @dA (dB K w) (g.g Sm) (Sf U) L W M m ?_;exact aH (a.aj.length-(i+1)) Z ⟨i+1,rfl,Z,fun b h P=>by
   by_cases r:b=i
   ·subst r;exact m
   exact e b h Z,d,V c⟩
 rintro z f t (⟨rfl,l,Wz,A,m,e,WI,q,d,c⟩|⟨rfl,e,d,c⟩)
 ·have r:cC a.aj n=(a.aj[l].2,true):=Ak Wz m (fun b h=>e b (TC h Wz) h);refine bS c (ah.L WI q.aG) Tw ?_;rw[r];exact⟨A,rfl,q,d⟩
 have r:cC a.aj n=(O.ck,false):=Hr e;refine aq c @uy (bh aL ai (R.C d) rfl rfl rfl rfl fun WW WJ WX WK=> ?_);refine bS c (ah.L WJ rfl) Tw ?_;rw[r];exact⟨bX,rfl,aE.ck _ _,(S.d d).a ⟨ag d.Y,fun b P=>WK b Z⟩⟩
end Go.Proofs.YtgpmffbleaphkaaGreat
namespace Go.Proofs.YtgpmffbleaphkaaGreat
open Go.Cl Go.Lib Go.RowKit Go.ChangeShapes Go.WideShapes
variable {H:Type} {enc:SR×Sj->H} {W:World}
theorem Hw:Se.cellsOf 36=6:=by kernel_rfl
theorem Pg:Se.cellsOf 27=1:=by kernel_rfl
theorem Ph:Se.cellsOf 29=9:=by kernel_rfl
theorem Pj:1<=Se.bytesOf 36:=by rw[show Se.bytesOf 36=96 from by kernel_rfl];decide
theorem Pk {t:Sq}{S:aC}(u:jC W S){a:Sk Sj}{x:DataW H×Sk MemPlace}(v:SF enc Se W 0 (fun _=>true) true t 36 a=some x)(w:fG Se 36 x.1):
  ∃b c g,iH W S b/\bo b c a/\c.length=6/\g7 (fun y=>y<b.h.Y) b.h c g/\j9 g.2:=by
 obtain⟨d,m,K,rfl,h,z,j⟩:=Tf SE v;rw[Hw] at h;have e:=j 0 _ rfl;have f:=j 1 _ rfl
 change SF enc Se W 0 (fun _=>true) true m 3 ((a.drop 0).take (Se.cellsOf 3))=d[0]? at e
 change SF enc Se W 0 (fun _=>true) true m 26 ((a.drop 1).take (Se.cellsOf 26))=d[1]? at f
 rw[zL] at e;rw[uq] at f;have L:d.length=2:=z;rw[Si Z] at e f;have⟨k,l,_⟩:=SN SP e;have⟨b,c,A,B,D,E,F,G⟩:=Gl m S u _ _ f (w.oW SE (i:=1) rfl (by rw[SK,Si Z];rfl):fG Se 26 (d[1]).1);obtain⟨n,o,p,q,r,s,rfl⟩:∃n o p q r s,a=[n,o,p,q,r,s]:=by
  match a,h with
  |[M,O,P,Q,g,R],_=>exact⟨_,_,_,_,_,_,rfl⟩
 simp at l;subst l;exact⟨b,I k::c,(k,A),B,.ed (.gf _ _) D,by simp[E],⟨c,rfl,F⟩,G⟩
theorem Pl {WN:Sq}{S:aC}(d:jC W S){a:Sk Sj}{x:DataW H×Sk MemPlace}(h:SF enc Se W 0 (fun _=>true) true WN 29 a=some x)(v:fG Se 29 x.1):
  ∃l M f m w D,iH W S l/\bo l (bk D M f m) a/\c2 (fun j=>j<l.h.Y) l.h M f m w D/\sL D:=by
 obtain⟨b,n,Xe,rfl,O,WO,g⟩:=Tf St h;rw[Ph] at O;have o:=g 0 _ rfl;have q:=g 1 _ rfl;have r:=g 2 _ rfl;have s:=g 3 _ rfl;have t:=g 4 _ rfl
 change SF enc Se W 0 (fun _=>true) true n 3 ((a.drop 0).take (Se.cellsOf 3))=b[0]? at o
 change SF enc Se W 0 (fun _=>true) true n 22 ((a.drop 1).take (Se.cellsOf 22))=b[1]? at q
 change SF enc Se W 0 (fun _=>true) true n 3 ((a.drop 2).take (Se.cellsOf 3))=b[2]? at r
 change SF enc Se W 0 (fun _=>true) true n 26 ((a.drop 3).take (Se.cellsOf 26))=b[3]? at s
 change SF enc Se W 0 (fun _=>true) true n 27 ((a.drop 8).take (Se.cellsOf 27))=b[4]? at t
 rw[zL] at o r;rw[Gi] at q;rw[uq] at s;rw[Pg] at t;have Xf:b.length=5:=WO;rw[Si Z] at o q r s t;have⟨WQ,P,_⟩:=SN SP o;have⟨WR,R,_⟩:=SN SP r;have⟨T,WS,Xg,WT,U,X,Wy,WU,Wz,WV,WW,_,WA⟩:=uo d (Q:=fun _ _ a (WB:SH)=>a=[.int .u8 (WB.toNat:So)]) (p:=fun _=>True) (fun h _=>h) (fun h _=>h) Sg Gh ai Gj (fun WX _ S d a x h _=>by
  have⟨u,e,_,y⟩:=SN Th h;have⟨WY,WZ,W0⟩:=E3 (a:=[u]) (by simpa using y)
  match WY,WZ with
  |[WC],_=>
   exact⟨S,[.int .u8 u],WC,iH.p d,by rw[e];exact .ed (.gf _ _) .al,rfl,(W0:[Value.int .u8 u]=[Value.int .u8 (WC.toNat:So)]),trivial⟩) q (v.oW St (i:=1) rfl (by rw[SK,Si Z];rfl):fG Se 22 (b[1]).1)
 have⟨WD,f,W1,k,W2,Xh,W3,W4⟩:=Gl n T Wy.nQ _ _ s (v.oW St (i:=3) rfl (by rw[SK,Si Z];rfl):fG Se 26 (b[3]).1);have⟨z,m,Xi,w,W5,WE,c,W6,WG,W7,W8,W9,WH⟩:=uo k.nQ (Q:=fun Xa Xb a e=>g7 Xa Xb a e) (p:=fun e=>j9 e.2) (fun h A=>hY.C h A) (fun h A=>hY.b h A) Sm Hw ai Pj (fun WX _ S d a x h y=>Pk d h y) t (v.oW St (i:=4) rfl (by rw[SK,Si Z];rfl):fG Se 27 (b[4]).1);rw[zM,Tk] at WA WH;have WI:=Wz.length;rw[Tk] at WI;have Xc:WT=aM U:=Gf WI WW;subst Xc;obtain⟨WJ,WK,WL,B,E,F,G,K,WM,rfl⟩:∃WJ WK WL B E F G K WM,a=[WJ,WK,WL,B,E,F,G,K,WM]:=by
  match a,O with
  |[Xj,Xk,u,WB,e,Xl,Xm,h,Xn],_=>exact⟨_,_,_,_,_,_,_,_,_,rfl⟩
 simp at P X R WE;subst P;subst X;subst R;subst WE
 have Xd:=((W2:bo WD f [B,E,F,G,K]).b c.gv);exact⟨z,WS,f,m,w,⟨WQ,U,WR,W1,W5⟩,(Wy.a k).a c,.ed (.gf _ _) (.ed ((WU.b k.gv).b c.gv) (.ed (.gf _ _) (Xd.hQ (.ed W6 .al)))),⟨(Wz.C k.A).C c.A,WV.b ((fun j L=>Su L (SU k.A.Y c.A.Y)):∀j,j<T.h.Y->j<z.h.Y),(W3.C c.A).b ((fun j L=>Su L c.A.Y):∀j,j<WD.h.Y->j<z.h.Y),WG,W7,⟨WG.length,W8⟩⟩,⟨WA,W4,WH,W9⟩⟩
theorem Hy {S:aC}(h:jC W S){r:Reach}{f:Sq}{v:Sj}{d:DataW H}{g:Sk MemPlace}(i:Value.okWide Se W r f 29 v)(j:DataW.Trod enc Se W 0 (fun _=>true) true 29 v d g)(k:fG Se 29 d):
  ∃(a:aC) (b:Sj) (c:Sk Sj) (e:Sj) (l:Sk Sj) (D:cz),iH W S a/\aX a (.agg (bk D b c e).toArray) v/\c2 (fun _=>True) a.h b c e l D/\sL D:=by
 obtain⟨c,rfl,_⟩:=okWide_struct St i;have⟨b,a⟩:=j;have⟨b,c,d,e,f,D,g,i,j,l⟩:=Pl h a k;exact⟨b,c,d,e,f,D,g,.OM i rfl,j.b (fun _ _=>trivial),l⟩
end Go.Proofs.YtgpmffbleaphkaaGreat
namespace Go.Proofs.YtgpmffbleaphkaaGreat
open Go.Cl
theorem uH:bc Se 9=some 1:=by kernel_rfl
theorem uI:c3 Se 9=some false:=by kernel_rfl
def uJ (T:Sk (Sk SH)):Sk Sj:=T.map fun a=> .string ⟨a.toArray⟩
theorem Pm {T:Sk (Sk SH)}{i:Sq}(h:i<T.length):(uJ T).getD i undef= .string ⟨(T[i]).toArray⟩:=by
 simp[uJ,SA,Si h]
def Pn (s:J)(a:Sk SH)(T:Sk (Sk SH))(v:Sj)(b:J):Prop:=(∃r:So,v=I r/\(0<=r↔a∈T))/\b=s
theorem Po (s:J)(c:Sj)(b:Sk SH)(T:Sk (Sk SH))(d:az s 1 c T.length (uJ T))(a:T.length<=1000000):
  Runs Se aw 111 [c,.string ⟨b.toArray⟩] s (Pn s b T):=by
 refine Runs.ef 19 Tryz.func111 rfl fun f a=> ?_
 refine aq a (d.g Tg) ?_;refine aZ.eO (fun z f e=>∃(i:Sq),z=T.length-i/\i<=T.length/\b∉T.take i/\e=s/\f.e=19/\f.N 0=c/\f.N 1= .string ⟨b.toArray⟩/\f.N 7=I T.length/\f.N 8=I i)
  ⟨0,rfl,Z,aA,rfl,V a⟩ ?_
 rintro z f c ⟨i,rfl,c,e,c,a⟩;subst c;by_cases f:i<T.length
 ·have j:(i:So)<(T.length:So):=Z;have g:=d.r (k:= .i64) (x:=(i:So)) Tg uH Z Z;rw[Sp] at g;have h:=d.P uI f;rw[Pm f] at h;have c:=ie (P:=Se) (t:=9) b T[i];by_cases d:b=T[i]
  ·rw[Sl d] at c;refine bp a (Sf j) g h c ?_;refine bO a @Tl ?_;exact⟨⟨(i:So),rfl,by rw[d];simp⟩,rfl⟩
  rw[SD d] at c;refine bp a (Sf j) g h c ?_;refine aH (T.length-(i+1)) Z ⟨i+1,rfl,Z,by rw[(show T.take (i+1)=T.take i++[T[i]] by rw[List.take_succ_eq_append_getElem f])];intro h;rcases SV.mp h with h|b;exact e h;exact d (List.mem_singleton.mp b),rfl,V a⟩
 obtain rfl:i=T.length:=Z;rw[SQ (Sw _)] at e;refine bS a (Z:¬(T.length:So)<(T.length:So)) @Tl ?_;exact⟨⟨-1,rfl,by simp[e]⟩,rfl⟩
theorem Pp (s:J)(x:Sj)(a:Sk SH)(T:Sk (Sk SH))(b:az s 1 x T.length (uJ T))(d:T.length<=1000000):
  Runs Se aw 80 [x,.string ⟨a.toArray⟩] s fun v c=>v= .bool (decide (a∈T))/\c=s:=by
 refine Runs.ef 9 Tryz.func80 rfl fun f c=> ?_
 refine ax c ((Po s x a T b d).b ?_);rintro _ b ⟨⟨r,rfl,d⟩,b⟩;subst b;by_cases b:a∈T
 ·have a:0<=r:=d.mpr b;rw[Sl b];exact wI c (Sf a) @Tx
 have a:¬0<=r:=fun e=>b (d.mp e)
 rw[SD b];exact wI c a @Tx
end Go.Proofs.YtgpmffbleaphkaaGreat