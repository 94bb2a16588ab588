import Derived.Test.YtgpmffbleaphkaaGreatClone
open Go.Proofs.Tryz renaming underlying24->Se,prog->Sg,underlying23->Sj,results26->SD,results132->SP,results38->SQ,results40->SR,underlying42->SU,underlying22->SW,underlying9->S0,underlying5->S1,results129->S4,results133->S5,results39->S6,results21->S7,results87->S8,results64->S9,func132->Tf
open List renaming length_cons->Sf,length_nil->Sh,getElem_mem->Si,take_of_length_le->Sp,length_take->Sq,length_drop->St,all_cons->Sx,drop_zero->Sy,drop_succ_cons->SA,length_append->SB,eq_nil_of_length_eq_zero->SH,append_nil->SI,take_zero->SL,getElem?_eq_getElem->SM,take_length->SN,take_add_one->SV,all_append->S3,all_nil->Tb
open Go renaming Value->Sk,Program->Tc
open _root_ renaming decide_eq_true->Sl,of_decide_eq_true->Sn,eq_true->So,Nat->Sr,List->Ss,decide_eq_false->Sw,Int->Sz,absurd->SC,UInt8->SF,eq_false->SG,reduceIte->SS,Bool->S2
open Int renaming toNat_natCast->Sm
open Nat renaming le_refl->Su,mul_le_mul_right->Sv,reduceEqDiff->SE,reduceLT->SK,add_zero->SO,sub_self->SX,zero_mul->SY,sub_zero->SZ,reduceSub->Ta,zero_add->Td,succ_mul->Te,sub_mul->Tg,beq_eq->Th
open Go.Value renaming string->SJ
set_option maxHeartbeats 8000000
set_option linter.unusedSimpArgs false
set_option linter.unusedVariables false
set_option maxRecDepth 100000
namespace Go.Proofs.YtgpmffbleaphkaaGreat
open Go.Cl
theorem jH (i o c:Sr):aY Sg 42 (ab i o c) 0=some (ab i (o+0) c):=by
 unfold aY;rw[SU];simp[rj]
theorem kp (i o c:Sr):aY Sg 42 (ab i o c) 1=some (ab i (o+1) c):=by
 unfold aY;rw[SU];simp[aL]
def GF (a:Sr)(b c d:Sk)(j:Sr):Prop:=a<=j/\ak b≠some j/\ak c≠some j/\ak d≠some j
def wX (s:J)(o:O)(v:Sk)(d:J):Prop:=∃(a b c:Sk) (e f:Ss Sk),v= .agg #[I o.a9,I o.mB,a,b,c]/\ao d 1 a o.cj.length (aM o.cj)/\ao d 5 b o.aj.length e/\ao d 6 c o.j8.length f/\ay s.Y a/\ay s.Y b/\ay s.Y c/\
 (∀j,ak a=some j->ak b≠some j)/\(∀j,ak a=some j->ak c≠some j)/\(∀j,ak b=some j->ak c≠some j)/\aU aE 5 (GF s.Y a b c) d o.aj e/\aU cE 6 (GF s.Y a b c) d o.j8 f/\ad s.Y s d
theorem wX.kT {s a:J}{o:O}{v:Sk}(h:wX s o v a):ei s o v a:=by
 obtain⟨a,b,c,n,p,rfl,d,e,f,g,i,j,-,-,-,k,l,m⟩:=h;cases o with
 |au h n o p q=>exact⟨[I h,I n,a,b,c],rfl,aE.lZ d.c e.c f.c (bA.Q g) (bA.Q i) (bA.Q j) (k.b cm fun j h=>h.1) (l.b bY fun j h=>h.1),m⟩
theorem Ol:∀(Xm:Sr) (WK:O),SizeOf.sizeOf WK<=Xm->∀(Xn:Sr->Prop) (z:J) (Xz:Ss Sk),aE Xn z Xz WK->j9 WK->
  Runs Sg aw 77 [.agg Xz.toArray] z (wX z WK):=by
 intro Xm
 induction Xm with
 |zero=>intro WK G;cases WK;simp at G
 |succ Xm Yr=>
 intro WK Zx Xn z Xz YW YX;cases WK with
 |au A B H q p=>
 obtain⟨Xo,Xp,Xq,YY,Zy,rfl,YZ,Ys,Yt,Zz,ZA,ZB,Y0,Y1⟩:=YW.ea;cases YX with
 |au ZC ZD ZE ZF Y2 Y3=>
 refine Runs.ey 51 Tryz.func77 rfl fun h f Yu=> ?_
 refine aq f Yu (aK fun X Y4 Yv ZG=> ?_);have XW:bX.length+1=6:=rfl;refine bp f @Sf.{0} @Sh.{0} @b8 @cy ?_;refine aK ?_;intro m Y5 XX ZH;have XY:=Y4.C XX;have XZ:=Yv.d XX;have Yw:=YZ.C XZ;refine aq f XW ?_;refine LB.T 1 1 fun Yx WL WM _ Q Yy=> ?_
 have Xr:=XY.C Q;have Yz:=LA.D WM XY.n;have YA:=Xr.v aB 0 6 (I A);have YB:=Xr.v lq 1 6 (I B);have YC:=Xr.v cJ 2 6 Xo;refine cX f @a6 @eE @c8 Yz YA YB YC Yw.m ?_;refine(z3 (aS m 1) Xo H (Yw.C Q) Z).b ?_;rintro s ZI ⟨W8,X0,X1⟩;have ZJ:=X1.Y;refine⟨fun _=>LA.ar.R WL (X1.q Z),?_⟩;have YD:bn (.agg #[I A,I B,s,av,av]) (.agg #[I A,I B,s,av,av])=true:=um (by simp[b9]) (by simp[b9]) W8.c.oV (by simp[b9]) (by simp[b9]);refine bp f (Gp A B W8.c.gA) YD @b8 @cy ?_;refine LB.j7 Z ?_;intro ZK YE Y6 X2;refine aq f XW ?_;refine LB.eY aL ai YE rfl rfl rfl (by simp only[Sx,Tb,(W8.c.aN)];rfl) (fun G=>SC rfl G) ?_;intro K W9 Y7 X3;have W9:ae K m.Y [I A,I B,s,av,av]:=W9;have Xs:=((Q.d X1).a ⟨Z,fun j a=>X2 j Z⟩).a ⟨Z,fun j a=>X3 j Z⟩;have Xa:=XZ.d Xs;have X4:=(W8.f Y6 X2 (fun e=>ag (X0 _ e))).f Y7 X3 (fun e=>ag (X0 _ e));have WE:∀j,ak s=some j->m.Y+1<=j/\j<K.Y:=fun j a=>⟨ag (X0 j a),X4.z j a⟩
 have X5:=XY.C Xs;have YF:=Y5.C Xs;have YG:=X5.v ft 3 6 Xp;refine aW f @c7 YG ((Ys.C Xa).g Sj) ?_;have⟨W1,Xb⟩:=aO (fun X6 j=>K.Y<=j/\¬(fun _=>False) j/\ak X6≠some j:Sk->Sr->Prop);have ZL:=XX.Y;have ZM:=Xs.Y;have ZN:m.Y<K.Y:=W9.n;refine aZ.w (fun Wy h g=>∃(i:Sr) (y:Sk) (L:Ss Sk),Wy=q.length-i/\i<=q.length/\ao g 5 y i L/\aU aE 5 (W1 y) g (q.take i) L/\ay K.Y y/\ao g 1 s H.length (aM H)/\ae g z.Y [I A,I B,Xo,Xp,Xq]/\ae g X.Y bX/\ae g m.Y [I A,I B,s,y,av]/\ad z.Y z g/\K.Y<=g.Y/\h.e=51/\h.N 1=ab z.Y 0 6/\h.N 2=ab X.Y 0 6/\h.N 3=ab m.Y 0 6/\h.N 17=Xp/\h.N 18=I (q.length:Sr)/\h.N 19=I (i:Sr))
  (fun Wy h g=>Wy= .bb 0/\∃(y:Sk) (L:Ss Sk),ao g 5 y q.length L/\aU aE 5 (W1 y) g q L/\ay K.Y y/\ao g 1 s H.length (aM H)/\ae g z.Y [I A,I B,Xo,Xp,Xq]/\ae g X.Y bX/\ae g m.Y [I A,I B,s,y,av]/\ad z.Y z g/\K.Y<=g.Y/\h.e=51/\h.N 1=ab z.Y 0 6/\h.N 2=ab X.Y 0 6/\h.N 3=ab m.Y 0 6)
  ⟨0,av,[],rfl,Z,.al,by rw[SL];exact aU.al,ay.al _,X4,X5,YF,W9,Xa,Su _,V f,aa,aa,aa,aa,aa,aa⟩ ?_ ?_
 ·clear f Yu h YD YE W9 X2 X3 W8 X4 X5 YF YA YB YC YG Yz Xr WL WM;rintro Y8 X7 Wy h g ⟨i,y,L,rfl,Y9,W2,Xc,WN,T,Xd,W,t,R,YH,f,Wz,D,S,YI,X8,X9⟩;have YJ:=Ys.C R;by_cases WA:i<q.length;rotate_left
  ·obtain rfl:i=q.length:=Z;rw[SN] at Xc;refine aW f X8 X9 (Z:¬((q.length:Sr):Sz)<((q.length:Sr):Sz)) ?_;exact X7 _ _ _ ⟨rfl,y,L,W2,Xc,WN,T,Xd,W,t,R,YH,V f,V Wz,V D,V S⟩
  have Xe:=YJ.r (k:= .i64) (x:=(i:Sz)) Sj aL Z Z;rw[Sm] at Xe;have W3:=YJ.dm bV aL WA;have E:=(Y0.H i WA).C R;have⟨WO,WQ⟩:=aO ((YY.drop (i*5)).take 5);rw[<-WQ] at W3 E;have WS:=E.aG;refine cX f YI X8 X9 (So (Z:(i:Sz)<(q.length:Sz))) Xe W3 @b8 @cy (aK fun Ya Xf Xg W4=> ?_);refine aq f XW (bh aL ai Xf rfl rfl WS E.K fun M WG Za Yb=> ?_);have WG:ae M g.Y WO:=WG;have r:=Xg.a ⟨Z,fun j a=>Yb j Z⟩;have t:=t.C r;have W2:=W2.C r;have E:=E.C r;refine ax f (LB.T 1 1 fun Yx WL WM _ Q Yy=> ?_);have E:=E.C Q;refine cX f S @c7 (LA.D WM t.n) (LA.D WM WG.n) ((t.C Q).o ft 3 6:aD Sg (aS M 1) 23 (ab m.Y 3 6)=some y) (ae.y bV (by rw[WS];exact aL) (WG.C Q) (by rw[WS]):aD Sg (aS M 1) 26 (ab g.Y 0 6)=some (.agg WO.toArray)) W2.m E.m ((Yr q[i] (ag (O.gD (k:=A) (n:=B) (b:=H) (l:=q) (d:=p) (Si WA))) Xn (aS M 1) _ E (Y2 _ (Si WA))).b fun Zb Zc Yc=> ?_);obtain⟨WT,rfl,WU,WV⟩:=Yc.kT;have Zd:=WV.Y;refine⟨fun _=>LA.ar.R WL (WV.q Z),?_⟩;have WR:=WU.aG;simp(disch:=omega)only[gC (a:=WT.toArray) Sj aL b8 cy rfl WR (by decide)];refine LB.fD (a:=M.Y) WR Z (Su _) ?_;intro Ze Yd Ye Zf Yf Yg Yh;have v:=(Q.d WV).a Yf;have Zg:=v.Y;have W5:aE (W1 y) Yd WT q[i]:=by
   refine(WU.j (u:=bI M.Y) (aF.f Yg Yh) (fun j a e=> ?_)).b (fun j a=> ?_)
   ·have e:some M.Y=some j:=e;injection e with e;omega
   rw[Xb];exact⟨Z,fun G=>G,fun e=>ag (W2.z _ e)⟩
  refine ax f (LB.jE Sj Sj (.inl ⟨_,rfl⟩) aL pZ b8 rfl (W2.C v) Ye.c.X WR ai W5.K Z Z (a:=K.Y) WN Z (fun G=>SC rfl G) (fun j a=>ag (WL j a)) fun WW Xh Yi Xi F Yj=> ?_);have Zh:=F.Y;have YK:=(Xc.C cm r).C cm v;rw[Xb] at YK W5;have YL:=YK.dO cm WR W5 F Yj;rw[show(fun j=>K.Y<=j/\¬(fun _=>False) j/\ak WW≠some j)=W1 WW by rw[Xb]] at YL;have Yk:∀j,ak y=some j->K.Y<=j:=WN
  refine aR f S @c7 (LB.gV nU ai ((t.C v).j F ((fun e=>ag (WN _ e)):ak y≠some m.Y)) (b:=3) (c:=6) rfl (a:=[WW]) Yi.c.gA rfl aA (by simp[Yi.c.aN]) (fun G=>SC rfl G) fun Xj Yl WB U=> ?_);have Xt:∀j,W1 WW j->ak (bI m.Y)≠some j:=fun j a e=>by
   have e:some m.Y=some j:=e;injection e with e;rw[Xb] at a;have:=a.1;omega
  refine aq f X9 ?_;refine aH (q.length-(i+1)) Z ⟨i+1,WW,L++WT,rfl,Z,Yi.f WB U ((fun e=>ag (Xi _ e)):ak WW≠some m.Y),?_,Xi,(((T.C r).C v).j F (fun j a e=>bq ((WE j a).2) (Yk _ e)):ao Xh 1 s H.length (aM H)).f WB U (fun e=>ag ((WE _ e).1)),(((Xd.C r).C v).j F (fun e=>ag (Yk _ e))).f WB U Z,(((W.C r).C v).j F (fun e=>ag (Yk _ e))).f WB U Z,(Yl:ae Xj m.Y [I A,I B,s,WW,av]),?_,Z,V f,V Wz,V D,V S,V YI,V X8,aa⟩
  ·rw[SV,SM WA];exact YL.j cm (aF.f WB U:aF (bI m.Y) Xh Xj) Xt
  exact(((R.d r).a (v.q (bq R.Y r.Y))).a ((F.C WN Z).q Xa.Y)).a ⟨Z,fun j a=>U j Z⟩
 rintro Wy h g ⟨rfl,y,L,WC,Xc,WN,T,Xd,W,t,R,YH,f,Wz,D,S⟩;have Xu:=Yt.C R;refine bp f Wz @bJ (Xd.o eh 4 6:aD Sg g 24 (ab z.Y 4 6)=some Xq) (Xu.g Se) ?_;have WX:∀j,ak y=some j->K.Y<=j/\j<g.Y:=fun j a=>⟨WN j a,WC.z j a⟩
 have WH:=Xc.eV cm;have⟨Ym,YM⟩:=aO (fun j=>W1 y j/\j<g.Y:Sr->Prop);rw[<-YM] at WH;have WY:∀j,Ym j->K.Y<=j/\j<g.Y/\ak y≠some j:=fun j a=>by rw[YM,Xb] at a;exact⟨a.1.1,a.2,a.1.2.2⟩
 have⟨Xv,W6⟩:=aO (fun X6 j=>g.Y<=j/\¬(fun _=>False) j/\ak X6≠some j:Sk->Sr->Prop);refine aZ.w (fun Wy h o=>∃(i:Sr) (w:Sk) (WI:Ss Sk),Wy=p.length-i/\i<=p.length/\ao o 6 w i WI/\aU cE 6 (Xv w) o (p.take i) WI/\ay g.Y w/\ao o 1 s H.length (aM H)/\ao o 5 y q.length L/\aU aE 5 Ym o q L/\ae o X.Y bX/\ae o m.Y [I A,I B,s,y,w]/\ad z.Y z o/\g.Y<=o.Y/\h.e=51/\h.N 2=ab X.Y 0 6/\h.N 3=ab m.Y 0 6/\h.N 32=Xq/\h.N 33=I (p.length:Sr)/\h.N 34=I (i:Sr))
  (fun Wy h o=>Wy= .bb 2/\∃(w:Sk) (WI:Ss Sk),ao o 6 w p.length WI/\aU cE 6 (Xv w) o p WI/\ay g.Y w/\ao o 1 s H.length (aM H)/\ao o 5 y q.length L/\aU aE 5 Ym o q L/\ae o X.Y bX/\ae o m.Y [I A,I B,s,y,w]/\ad z.Y z o/\g.Y<=o.Y/\h.e=51/\h.N 2=ab X.Y 0 6/\h.N 3=ab m.Y 0 6)
  ⟨0,av,[],rfl,Z,.al,by rw[SL];exact aU.al,ay.al _,T,WC,WH,W,t,R,Su _,V f,V D,V S,aa,aa,aa⟩ ?_ ?_
 ·clear f Wz D S h Xd W t T WC WH WN;rintro Y8 X7 Wy h o ⟨i,w,WI,rfl,Y9,WJ,WZ,WD,T,WC,WH,W,t,R,YN,f,D,S,YO,Yn,Yo⟩;have Xu:=Yt.C R;by_cases WA:i<p.length;rotate_left
  ·obtain rfl:i=p.length:=Z;rw[SN] at WZ;refine aW f Yn Yo (Z:¬((p.length:Sr):Sz)<((p.length:Sr):Sz)) ?_;exact X7 _ _ _ ⟨rfl,w,WI,WJ,WZ,WD,T,WC,WH,W,t,R,YN,V f,V D,V S⟩
  have Xe:=Xu.r (k:= .i64) (x:=(i:Sz)) Se bx Z Z;rw[Sm] at Xe;have W3:=Xu.dm gF bx WA;have⟨Yp,Zi,Xw,Zj⟩:=Y1.H i WA;have YP:=Xw.aG;have E:=Xw.C R;rw[Zi] at W3;have⟨WO,WQ⟩:=aO (SJ ⟨(p[i].1).toArray⟩::Yp);rw[<-WQ] at W3;have WS:WO.length=6:=by rw[WQ];simp[YP]
  have Zk:WO.all aN=true:=by rw[WQ,Sx,Xw.K];rfl
  have ZO:bn (.agg WO.toArray) (.agg WO.toArray)=true:=by
   have:=Xw.m;rw[WQ]
   match Yp,YP,this with
   |[Zl,H,Zm,p,e],_,this=>
    simp[bn,dF] at this|-
    exact⟨by simp[b9],this⟩
  refine cX f YO Yn Yo (So (Z:(i:Sz)<(p.length:Sz))) Xe W3 @eD @hE (aK fun Ya Xf Xg W4=> ?_);have Zn:lp.length+1=7:=rfl;refine aq f Zn (bh bx ai Xf rfl rfl WS Zk fun M WG Za Yb=> ?_);have WG:ae M o.Y WO:=WG;have r:=Xg.a ⟨Z,fun j a=>Yb j Z⟩;have W:=W.C r;have t:=t.C r;have WJ:=WJ.C r;have WZ:=WZ.C bY r;have WH:=WH.C cm r;have T:=T.C r;have WC:=WC.C r;have E:=E.C r;have ZP:=r.Y;refine ax f (LB.T 1 1 fun Yx WL WM _ Q Yy=> ?_);have Zo:=LA.D WM t.n;have Zp:=LA.D WM WG.n;have Zq:=(t.C Q).v eh 4 6 w;have Zr:aD Sg (aS M 1) 9 (ab o.Y 0 7)=some (.string ⟨(p[i].1).toArray⟩):=by
   have:=(WG.C Q).B fH (a:=0) (c:=7) (by rw[WS]) Z;rw[this,WQ];rfl
  have Zs:aD Sg (aS M 1) 26 (ab o.Y 1 7)=some (.agg Yp.toArray):=by
   have:=ae.ka bV aL (WG.C Q) (a:=1) (c:=7) (by rw[WS]) Z;rw[this,WQ,SA,Sy,Sp Z]
  have E:=E.C Q;refine hy f S @bJ @jH @kp Zo Zp Zq Zr Zs WJ.m E.m ?_;refine(Yr p[i].2 (ag (O.fs (k:=A) (n:=B) (b:=H) (l:=q) (d:=p) (Si WA))) Xn (aS M 1) _ E (Y3 _ (Si WA))).b ?_;intro Zb Zc Yc;obtain⟨WT,rfl,WU,WV⟩:=Yc.kT;have Zd:=WV.Y;refine⟨fun _=>LA.ar.R WL (WV.q Z),?_⟩;have WR:=WU.aG;have⟨W0,Xk⟩:=aO (SJ ⟨(p[i].1).toArray⟩::WT);have Xx:W0.length=6:=by rw[Xk];simp[WR]
  have Zt:bn (.agg W0.toArray) (.agg W0.toArray)=true:=by
   have:=WU.m;rw[Xk]
   match WT,WR,this with
   |[Zl,H,Zm,p,e],_,this=>
    simp[bn,dF] at this|-
    exact⟨by simp[b9],this⟩
  have YQ:=p0 p[i].1 WR;rw[<-Xk] at YQ;simp(disch:=omega)only[aI,dy,bC,SK,↓SS,f,YQ,Zt,gC (a:=W0.toArray) Se bx eD hE rfl Xx (by decide)];refine LB.fD (a:=M.Y) Xx Z (Su _) ?_;intro Ze Yd Ye Zf Yf Yg Yh;have v:=(Q.d WV).a Yf;have Zg:=v.Y;have W5:cE (Xv w) Yd W0 p[i]:=by
   refine⟨WT,Xk,(WU.j (u:=bI M.Y) (aF.f Yg Yh) (fun j a e=> ?_)).b (fun j a=> ?_),Zj⟩
   ·have e:some M.Y=some j:=e;injection e with e;omega
   rw[W6];exact⟨Z,fun G=>G,fun e=>ag (WJ.z _ e)⟩
  refine ax f (LB.jE Se Se (.inl ⟨_,rfl⟩) bx nm eD rfl (WJ.C v) Ye.c.X Xx ai (show W0.all aN=true by rw[Xk,Sx,WU.K];rfl) Z Z (a:=g.Y) WD Z (fun G=>SC rfl G) (fun j a=>ag (WL j a)) fun W7 Xh Yq Xi F Yj=> ?_);have Zh:=F.Y;have YR:=WZ.C bY v;rw[W6] at YR W5;have YS:=YR.dO bY Xx W5 F Yj;rw[show(fun j=>g.Y<=j/\¬(fun _=>False) j/\ak W7≠some j)=Xv W7 by rw[W6]] at YS;have Xy:∀j,ak w=some j->g.Y<=j:=WD
  have Zu:=(T.C v).j F (fun j a e=>bq ((WE j a).2) (Xy _ e));have Zv:ao Xh 5 y q.length L:=(WC.C v).j F (fun j a e=>bq ((WX j a).2) (Xy _ e));have Zw:=(WH.C cm v).j cm F (fun j a e=>bq ((WY j a).2.1) (Xy _ e));refine aR f S @bJ (LB.gV mC ai ((t.C v).j F ((fun e=>ag (WD _ e)):ak w≠some m.Y)) (b:=4) (c:=6) rfl (a:=[W7]) Yq.c.gA rfl aA (by simp[Yq.c.aN]) (fun G=>SC rfl G) fun Xj Yl WB U=> ?_);have YT:aF (bI m.Y) Xh Xj:=aF.f WB U;have Xt:∀j,K.Y<=j->ak (bI m.Y)≠some j:=fun j a e=>by
   have e:some m.Y=some j:=e;injection e with e;omega
  refine aq f Yo ?_;refine aH (p.length-(i+1)) Z ⟨i+1,W7,WI++W0,rfl,Z,Yq.f WB U ((fun e=>ag (Xi _ e)):ak W7≠some m.Y),?_,Xi,Zu.f WB U (fun e=>ag ((WE _ e).1)),Zv.f WB U (fun e=>ag ((WX _ e).1)),Zw.j cm YT (fun j a=>Xt j (WY j a).1),((W.C v).j F (fun e=>ag (Xy _ e))).f WB U Z,(Yl:ae Xj m.Y [I A,I B,s,y,W7]),?_,Z,V f,V D,V S,V YO,V Yn,aa⟩
  ·rw[SV,SM WA];exact YS.j bY YT (fun j a=>Xt j (by rw[W6] at a;have:=a.1;omega))
  exact(((R.d r).a (v.q (ag R.Y))).a ((F.C WD Z).q (ag Xa.Y))).a ⟨Z,fun j a=>U j Z⟩
 rintro Wy h o ⟨rfl,w,WI,WJ,WZ,WD,T,WC,WH,W,t,Xg,YN,f,D,S⟩;refine aW f D S (ae.y (a:=[I A,I B,s,y,w]) bV aL t (c:=6) rfl) ?_;refine bh aL ai W rfl rfl rfl (by simp only[Sx,Tb,(T.c.aN),(WC.c.aN),(WJ.c.aN)];rfl) ?_;intro Ya Xf W4 Xl;refine b0 f D (ae.y (P:=Sg) (a:=[I A,I B,s,y,w]) bV aL Xf (c:=6) rfl) @Tryz.results77 ?_;have YU:aF (bI X.Y) o Ya:=aF.f W4 Xl;have YV:∀j,K.Y<=j->ak (bI X.Y)≠some j:=fun j a e=>by
  have e:some X.Y=some j:=e;injection e with e;omega
 have ZQ:=Xa.Y;refine⟨s,y,w,L,WI,rfl,T.f W4 Xl (fun e=>ag ((WE _ e).1)),WC.f W4 Xl (fun e=>ag ((WX _ e).1)),WJ.f W4 Xl (fun e=>ag (WD _ e)),fun j a=>bq ((WE j a).1) XZ.Y,fun j a=>ag ((WX j a).1),fun j a=>ag (WD j a),fun j Wz D=>bq ((WE j Wz).2) ((WX j D).1),fun j Wz D=>bq ((WE j Wz).2) (WD j D),fun j Wz D=>bq ((WX j Wz).2) (WD j D),(WH.j cm YU (fun j a=>YV j (WY j a).1)).b cm (fun j a=>⟨ag ((WY j a).1),fun e=>bq ((WE j e).2) ((WY j a).1),(WY j a).2.2,fun e=>bq (WD j e) ((WY j a).2.1)⟩),?_,Xg.a ⟨Z,fun j a=>Xl j (ag Yv.Y)⟩⟩;exact(WZ.j bY YU (fun j a=>YV j (by rw[W6] at a;have:=a.1;omega))).b bY (fun j a=>by rw[W6] at a;exact⟨ag a.1,fun e=>bq ((WE j e).2) a.1,fun e=>bq ((WX j e).2) a.1,a.2.2⟩)
theorem wY (b:Sr)(o:O)(c:SizeOf.sizeOf o<=b)(F:Sr->Prop)(s:J)(a:Ss Sk)(d:aE F s a o)(e:bd o):
  Runs Sg aw 77 [.agg a.toArray] s (wX s o):=Ol b o c F s a d e.Gc
theorem z4 (s:J)(x y:Sk)(a b:Ss SF)(c:az s 1 x a.length (aM a))(d:az s 1 y b.length (aM b)):
  Runs Sg aw 37 [x,y] s fun v e=>v= .bool (decide (a=b))/\e=s:=by
 refine Runs.ef 10 Tryz.func37 rfl fun f a=> ?_
 exact uk a (c.wS SW S0 S1) (d.wS SW S0 S1) @ie @Tryz.results37
def z5 (s:J)(n m:Sr)(a:Sr->Prop)(v:Sk)(b:J):Prop:=iI (n=m/\∀i,i<n->a i) v/\ad s.Y s b
theorem Om (D:Sr)(s:J)(E y:Sk)(n m:Sr)(g l:Ss Sk)(r:az s 5 E n g)(t:az s 5 y m l)(W5:n<=140737488351232)(W6:m<=140737488351232)(o:Sr->Prop)
  (WJ:∀i,i<n->((g.drop (i*5)).take 5).all aN=true) (WK:∀i,i<m->((l.drop (i*5)).take 5).all aN=true)
  (h:∀i,i<n->i<m->∀c:J,ad s.Y s c->Runs Sg aw D [.agg ((g.drop (i*5)).take 5).toArray,.agg ((l.drop (i*5)).take 5).toArray] c fun WL WM=>iI (o i) WL/\ad c.Y c WM):
  Runs Sg aw 38 [E,y,.func (.func D) #[] #[]] s (z5 s n m o):=by
 refine Runs.iY 32 Tryz.func38 rfl fun f a F d p=> ?_
 by_cases WN:((n:Sr):Sz)=((m:Sr):Sz);rotate_left
 ·refine fS a F d (r.g Sj) (t.g Sj) WN @SQ ?_;exact⟨.ko (fun h=>ag h.1),ad.p _ _⟩
 obtain rfl:n=m:=Z;refine bp a F d (r.g Sj) (t.g Sj) ?_;refine aZ.w (fun z f c=>∃i:Sr,z=n-i/\i<=n/\(∀j,j<i->o j)/\ad s.Y s c/\f.e=32/\f.N 1=y/\f.N 2= .func (.func D) #[] #[]/\f.N 15=E/\f.N 16=I (n:Sr)/\f.N 17=I (i:Sr))
  (fun z f c=>(z= .bF/\ad s.Y s c/\f.e=32/\f.N 6= .bool false/\¬∀i,i<n->o i)\/(z= .bb 0/\(∀i,i<n->o i)/\ad s.Y s c/\f.e=32))
  ⟨0,rfl,Z,fun j h=>Z,ad.p _ _,V a,V d,V p,aa,aa,aa⟩ ?_ ?_
 ·clear a F d p f;rintro W7 R z f S ⟨i,rfl,W8,u,e,a,d,p,T,G,H⟩;by_cases b:i<n;rotate_left
  ·obtain rfl:i=n:=Z;refine aW a G H (Z:¬((i:Sr):Sz)<((i:Sr):Sz)) ?_;exact R _ _ _ (.inr ⟨rfl,u,e,V a⟩)
  have U:=r.C e;have v:=t.C e;have W:=U.r (k:= .i64) (x:=(i:Sz)) Sj aL Z Z;have X:=v.r (k:= .i64) (x:=(i:Sz)) Sj aL Z Z;rw[Sm] at W X;have Wy:=U.dm bV aL b;have Wz:=v.dm bV aL b;have WA:=WJ i b;have WB:=WK i b;have K:=h i b b;have w:((g.drop (i*5)).take 5).length=5:=by
   have L:=r.length;have:(i+1)*5<=n*5:=Sv 5 b;rw[Sq,St];omega
  have A:((l.drop (i*5)).take 5).length=5:=by
   have L:=t.length;have:(i+1)*5<=n*5:=Sv 5 b;rw[Sq,St];omega
  generalize (g.drop (i*5)).take 5=WC at Wy WA K w;generalize (l.drop (i*5)).take 5=M at Wz WB K A;have WD:bX.length+1=5+1:=rfl;refine cX a T G H (So (Z:((i:Sr):Sz)<((n:Sr):Sz))) W Wy @b8 @cy (aK fun W9 WO WQ Xa=> ?_);refine aq a WD (bh aL ai WO rfl rfl w WA fun B WR Xb WS=> ?_);have WE:=WQ.a ⟨Z,fun j WT=>WS j Z⟩;have WU:aD Sg B 26 (bM 5 y i)=some (.agg M.toArray):=by
   have L:=(v.C WE).dm bV aL b;rw[L,<-(v.dm bV aL b),Wz]
  refine cl a d X WU @b8 @cy (aK fun Xc WV WW Xd=> ?_);refine aq a WD (bh aL ai WV rfl rfl A WB fun q WX Xe WY=> ?_);have WG:=WW.a ⟨Z,fun j WT=>WY j Z⟩;have O:=WE.d WG;have WZ:aD Sg q 26 (ab S.Y 0 (5+1))=some (.agg WC.toArray):=ae.y bV (by rw[w];exact aL) ((WR:ae B S.Y WC).C WG) (by rw[w]);have W0:aD Sg q 26 (ab B.Y 0 (5+1))=some (.agg M.toArray):=ae.y bV (by rw[A];exact aL) (WX:ae q B.Y M) (by rw[A]);refine aW a p WZ W0 ((K q (e.d O)).b ?_);rintro _ Xf ⟨⟨W1,rfl,WH⟩,W2⟩;have WI:=(e.d O).a (W2.q (bq e.Y O.Y));cases W1 with
  |false=>
   refine ax a ?_;exact R _ _ _ (.inl ⟨rfl,WI,V a,aa,fun h=>by have:=WH.2 (h i b);cases this⟩)
  |true=>
   refine aq a H ?_;exact aH (n-(i+1)) Z ⟨i+1,rfl,Z,nn u (WH.1 rfl),WI,V a,V d,V p,V T,V G,aa⟩
 rintro z Xg q (⟨rfl,P,Q,W3,W4⟩|⟨rfl,u,P,Q⟩)
 ·refine bS Q W3 @SQ ?_;exact⟨.ko (fun h=>W4 h.2),P⟩
 refine bO Q @SQ ?_;exact⟨.mD ⟨rfl,u⟩,P⟩
theorem GG (D:Sr)(s:J)(E y:Sk)(n m:Sr)(g l:Ss Sk)(r:az s 6 E n g)(t:az s 6 y m l)(W5:n<=140737488351232)(W6:m<=140737488351232)(o:Sr->Prop)
  (WJ:∀i,i<n->((g.drop (i*6)).take 6).all aN=true) (WK:∀i,i<m->((l.drop (i*6)).take 6).all aN=true)
  (h:∀i,i<n->i<m->∀c:J,ad s.Y s c->Runs Sg aw D [.agg ((g.drop (i*6)).take 6).toArray,.agg ((l.drop (i*6)).take 6).toArray] c fun WL WM=>iI (o i) WL/\ad c.Y c WM):
  Runs Sg aw 40 [E,y,.func (.func D) #[] #[]] s (z5 s n m o):=by
 refine Runs.iY 32 Tryz.func40 rfl fun f a F d p=> ?_
 by_cases WN:((n:Sr):Sz)=((m:Sr):Sz);rotate_left
 ·refine fS a F d (r.g Se) (t.g Se) WN @SR ?_;exact⟨.ko (fun h=>ag h.1),ad.p _ _⟩
 obtain rfl:n=m:=Z;refine bp a F d (r.g Se) (t.g Se) ?_;refine aZ.w (fun z f c=>∃i:Sr,z=n-i/\i<=n/\(∀j,j<i->o j)/\ad s.Y s c/\f.e=32/\f.N 1=y/\f.N 2= .func (.func D) #[] #[]/\f.N 15=E/\f.N 16=I (n:Sr)/\f.N 17=I (i:Sr))
  (fun z f c=>(z= .bF/\ad s.Y s c/\f.e=32/\f.N 6= .bool false/\¬∀i,i<n->o i)\/(z= .bb 0/\(∀i,i<n->o i)/\ad s.Y s c/\f.e=32))
  ⟨0,rfl,Z,fun j h=>Z,ad.p _ _,V a,V d,V p,aa,aa,aa⟩ ?_ ?_
 ·clear a F d p f;rintro W7 R z f S ⟨i,rfl,W8,u,e,a,d,p,T,G,H⟩;by_cases b:i<n;rotate_left
  ·obtain rfl:i=n:=Z;refine aW a G H (Z:¬((i:Sr):Sz)<((i:Sr):Sz)) ?_;exact R _ _ _ (.inr ⟨rfl,u,e,V a⟩)
  have U:=r.C e;have v:=t.C e;have W:=U.r (k:= .i64) (x:=(i:Sz)) Se bx Z Z;have X:=v.r (k:= .i64) (x:=(i:Sz)) Se bx Z Z;rw[Sm] at W X;have Wy:=U.dm gF bx b;have Wz:=v.dm gF bx b;have WA:=WJ i b;have WB:=WK i b;have K:=h i b b;have w:((g.drop (i*6)).take 6).length=6:=by
   have L:=r.length;have:(i+1)*6<=n*6:=Sv 6 b;rw[Sq,St];omega
  have A:((l.drop (i*6)).take 6).length=6:=by
   have L:=t.length;have:(i+1)*6<=n*6:=Sv 6 b;rw[Sq,St];omega
  generalize (g.drop (i*6)).take 6=WC at Wy WA K w;generalize (l.drop (i*6)).take 6=M at Wz WB K A;have WD:lp.length+1=6+1:=rfl;refine cX a T G H (So (Z:((i:Sr):Sz)<((n:Sr):Sz))) W Wy @eD @hE (aK fun W9 WO WQ Xa=> ?_);refine aq a WD (bh bx ai WO rfl rfl w WA fun B WR Xb WS=> ?_);have WE:=WQ.a ⟨Z,fun j WT=>WS j Z⟩;have WU:aD Sg B 42 (bM 6 y i)=some (.agg M.toArray):=by
   have L:=(v.C WE).dm gF bx b;rw[L,<-(v.dm gF bx b),Wz]
  refine cl a d X WU @eD @hE (aK fun Xc WV WW Xd=> ?_);refine aq a WD (bh bx ai WV rfl rfl A WB fun q WX Xe WY=> ?_);have WG:=WW.a ⟨Z,fun j WT=>WY j Z⟩;have O:=WE.d WG;have WZ:aD Sg q 42 (ab S.Y 0 (6+1))=some (.agg WC.toArray):=ae.y gF (by rw[w];exact bx) ((WR:ae B S.Y WC).C WG) (by rw[w]);have W0:aD Sg q 42 (ab B.Y 0 (6+1))=some (.agg M.toArray):=ae.y gF (by rw[A];exact bx) (WX:ae q B.Y M) (by rw[A]);refine aW a p WZ W0 ((K q (e.d O)).b ?_);rintro _ Xf ⟨⟨W1,rfl,WH⟩,W2⟩;have WI:=(e.d O).a (W2.q (bq e.Y O.Y));cases W1 with
  |false=>
   refine ax a ?_;exact R _ _ _ (.inl ⟨rfl,WI,V a,aa,fun h=>by have:=WH.2 (h i b);cases this⟩)
  |true=>
   refine aq a H ?_;exact aH (n-(i+1)) Z ⟨i+1,rfl,Z,nn u (WH.1 rfl),WI,V a,V d,V p,V T,V G,aa⟩
 rintro z Xg q (⟨rfl,P,Q,W3,W4⟩|⟨rfl,u,P,Q⟩)
 ·refine bS Q W3 @SR ?_;exact⟨.ko (fun h=>W4 h.2),P⟩
 refine bO Q @SR ?_;exact⟨.mD ⟨rfl,u⟩,P⟩
def rl (s:J)(a b:O)(v:Sk)(c:J):Prop:=iI (cQ a b) v/\ad s.Y s c
theorem wZ:∀(Xx:Sr) (W7 W8:O),SizeOf.sizeOf W7<=Xx->∀(Xf Xg:Sr->Prop) (s:J) (XX XY:Ss Sk),aE Xf s XX W7->aE Xg s XY W8->bd W7->bd W8->
  Runs Sg aw 26 [.agg XX.toArray,.agg XY.toArray] s (rl s W7 W8):=by
 intro Xx
 induction Xx with
 |zero=>intro Ys W8 h;cases Ys;simp at h
 |succ Xx XZ=>
 intro W7 W8 YJ Xf Xg s XX XY Yt Yu Yv Yw;cases W7 with
 |au o H K w c=>
 cases W8 with
 |au Xy Q R S p=>
 obtain⟨WV,Xh,W9,YK,YL,rfl,Yx,Yf,X0,-,-,-,Yy,Yg⟩:=Yt.ea;obtain⟨WW,Xi,Xa,YM,YN,rfl,Yz,Yh,X1,-,-,-,YA,Yi⟩:=Yu.ea;cases Yv with
 |au YO YP YQ YR YB Yj=>
 cases Yw with
 |au YS YT YU YV YC Yk=>
 refine Runs.cS 119 Tryz.func26 rfl fun f a Xz B=> ?_
 refine aq a Xz (aK fun WX YD YE YW=> ?_);refine aW a B @Sf.{0} @Sh.{0} (aK fun X2 WM Yl YX=> ?_);have WN:=YD.C Yl;have z:=YE.d Yl;have E:=WN.v aB 0 6 (I o);have WY:=WN.v lq 1 6 (I H);have Xb:=WN.v cJ 2 6 WV;have Xj:=WN.v ft 3 6 Xh;have WZ:=WN.v eh 4 6 W9;have F:=WM.v aB 0 6 (I Xy);have W0:=WM.v lq 1 6 (I Q);have Xc:=WM.v cJ 2 6 WW;have Xk:=WM.v ft 3 6 Xi;have W1:=WM.v eh 4 6 Xa;have Xd:=Yx.C z;have Xe:=Yz.C z;have Xl:=Yf.C z;have Xm:=Yh.C z;have W2:=X0.C z;have W3:=X1.C z;have G:∀(f:an) (m:J) (WB:S2),ad s.Y s m->f.e=119->f.N 4= .bool WB->(WB=true↔cQ (.au o H K w c) (.au Xy Q R S p))->eW Sg Tryz.f26.results.toList (rl s (.au o H K w c) (.au Xy Q R S p)) .bF f m:=by
  intro f m WB g a W4 T;refine bS a W4 @SD ?_;exact⟨⟨WB,rfl,T⟩,g⟩
 by_cases X3:o=Xy;rotate_left
 ·refine eC a @a6 E F @Sf.{0} @Sh.{0} X3 ?_;exact G _ _ false z (V a) aa ⟨fun h=>by(cases h),fun h=>SC h.eg.1 X3⟩
 subst X3;by_cases U:o=1
 ·refine jF a @a6 @eE E F WY W0 @Sf.{0} @Sh.{0} (So U) ?_;exact G _ _ (decide (H=Q)) z (V a) aa ⟨fun h=> .au (fun _=>Sn h) (fun h=>Z) (fun h=>Z) (fun h=>Z) (fun h=>Z) (fun h=>Z) (fun h=>Z),fun h=>Sl (h.eg.2.1 Z)⟩
 by_cases X:o=2
 ·refine pT a @a6 @eE E F WY W0 @Sf.{0} @Sh.{0} U (So X) ?_;exact G _ _ (decide (H=Q)) z (V a) aa ⟨fun h=> .au (fun _=>Sn h) (fun h=>Z) (fun h=>Z) (fun h=>Z) (fun h=>Z) (fun h=>Z) (fun h=>Z),fun h=>Sl (h.eg.2.1 Z)⟩
 by_cases Wy:o=3
 ·refine sz a @a6 @eE E F WY W0 @Sf.{0} @Sh.{0} U X (So Wy) ?_;exact G _ _ (decide (H=Q)) z (V a) aa ⟨fun h=> .au (fun _=>Sn h) (fun h=>Z) (fun h=>Z) (fun h=>Z) (fun h=>Z) (fun h=>Z) (fun h=>Z),fun h=>Sl (h.eg.2.1 Z)⟩
 by_cases WC:o=9
 ·refine pV a @a6 @eE E F WY W0 @Sf.{0} @Sh.{0} U X Wy (So WC) ?_;exact G _ _ (decide (H=Q)) z (V a) aa ⟨fun h=> .au (fun _=>Sn h) (fun h=>Z) (fun h=>Z) (fun h=>Z) (fun h=>Z) (fun h=>Z) (fun h=>Z),fun h=>Sl (h.eg.2.1 Z)⟩
 by_cases WI:o=4
 ·refine ni a @a6 @c8 E F Xb Xc @Sf.{0} @Sh.{0} U X Wy WC (So WI) ((zN X2 WV WW K R Xd Xe Z Z).b ?_);rintro _ _ ⟨rfl,rfl⟩;refine ax a ?_;exact G _ _ (decide (K=R)) z (V a) aa ⟨fun h=> .au (fun h=>Z) (fun _=>Sn h) (fun h=>Z) (fun h=>Z) (fun h=>Z) (fun h=>Z) (fun h=>Z),fun h=>Sl (h.eg.2.2.1 Z)⟩
 by_cases WO:o=5
 ·refine kP a @a6 @c8 E F Xb Xc @Sf.{0} @Sh.{0} U X Wy WC WI (So WO) ?_;refine(zN X2 WV WW K R Xd Xe Z Z).b ?_;rintro _ _ ⟨rfl,rfl⟩;refine ax a ?_;exact G _ _ (decide (K=R)) z (V a) aa ⟨fun h=> .au (fun h=>Z) (fun _=>Sn h) (fun h=>Z) (fun h=>Z) (fun h=>Z) (fun h=>Z) (fun h=>Z),fun h=>Sl (h.eg.2.2.1 Z)⟩
 by_cases WJ:o=6
 ·by_cases WQ:((w.length:Sr):Sz)=((S.length:Sr):Sz);rotate_left
  ·refine sA a @a6 @c7 E F Xj Xk (Xl.g Sj) (Xm.g Sj) @Sf.{0} @Sh.{0} U X Wy WC WI WO (So WJ) WQ ?_;exact G _ _ false z (V a) aa ⟨fun h=>by(cases h),fun h=>SC (h.eg.2.2.2.1 WJ) Z⟩
  refine sA a @a6 @c7 E F Xj Xk (Xl.g Sj) (Xm.g Sj) @Sf.{0} @Sh.{0} U X Wy WC WI WO (So WJ) (So WQ) ?_;refine aZ.w (fun A f m=>∃i:Sr,A=w.length-i/\i<=w.length/\(∀e,e<i->∀(h:e<w.length) (Xn:e<S.length),cQ w[e] S[e])/\ae m s.Y [I o,I H,WV,Xh,W9]/\ae m WX.Y [I o,I Q,WW,Xi,Xa]/\ad s.Y s m/\f.e=119/\f.N 2=ab s.Y 0 6/\f.N 3=ab WX.Y 0 6/\f.N 5=I (i:Sr))
   (fun A f m=>(A= .bF/\ad s.Y s m/\f.e=119/\f.N 4= .bool false/\¬cQ (.au o H K w c) (.au o Q R S p))\/(A= .bb 1/\(∀e,e<w.length->∀(h:e<w.length) (Xn:e<S.length),cQ w[e] S[e])/\ad s.Y s m/\f.e=119))
   ⟨0,rfl,Z,fun e h=>Z,WN,WM,z,V a,aa,aa,aa⟩ ?_ ?_
  ·clear G E WY Xb Xj WZ F W0 Xc Xk W1 Xd Xe Xl Xm W2 W3 a Xz B f;rintro Ym WD A f m ⟨i,rfl,Yn,L,T,Wz,g,a,u,WE,M⟩;have q:=Yf.C g;have y:=Yh.C g;have W:=T.v ft 3 6 Xh;by_cases r:i<w.length;rotate_left
   ·obtain rfl:i=w.length:=Z;refine ch a u M @c7 W (q.g Sj) (Z:¬((w.length:Sr):Sz)<((w.length:Sr):Sz)) ?_;exact WD _ _ _ (.inr ⟨rfl,L,g,V a⟩)
   have v:i<S.length:=Z;refine ch a u M @c7 W (q.g Sj) (So (Z:(i:Sz)<(w.length:Sz))) (LB.T 0 0 fun Yo Yp D _ _ _=> ?_);have WG:=q.r (k:= .i64) (x:=(i:Sz)) Sj aL Z Z;have WH:=y.r (k:= .i64) (x:=(i:Sz)) Sj aL Z Z;rw[Sm] at WG WH;have WR:=(Yy.H i r).C g;have WS:=(YA.H i v).C g;refine wP @nf a u WE M @c7 ((LA.D D T.n)) ((LA.D D Wz.n)) W ((Wz.o ft 3 6:aD Sg m 23 (ab WX.Y 3 6)=some Xi)) q.m y.m WG WH ((q.dm bV aL r)) ((y.dm bV aL v)) (LA.iG q D r) (LA.iG y D v) WR.m WS.m ?_;refine(XZ w[i] S[i] (ag (O.gD (k:=o) (n:=H) (b:=K) (l:=w) (d:=c) (Si r))) Xf Xg m _ _ WR WS (YB _ (Si r)) (YC _ (Si v))).b ?_;rintro _ Yq ⟨⟨WB,rfl,WT⟩,WA⟩;have WU:=g.d WA;refine⟨fun h=>h.elim,?_⟩;cases WB with
   |false=>
    refine ax a ?_;exact WD _ _ _ (.inl ⟨rfl,WU,V a,aa,fun h=>by have:=WT.2 (h.eg.2.2.2.2.1 WJ i r v);cases this⟩)
   |true=>
    refine aq a M ?_;exact aH (w.length-(i+1)) Z ⟨i+1,rfl,Z,nn L (fun _ _=>WT.1 rfl),T.C WA,Wz.C WA,WU,V a,V u,V WE,aa⟩
  rintro A Yr m (⟨rfl,g,a,W4,Xo⟩|⟨rfl,L,g,a⟩)
  ·refine kN ?_;exact G _ _ false g a W4 ⟨fun h=>by(cases h),fun h=>SC h Xo⟩
  refine bO a @SD ?_;exact⟨.mD (.au (fun h=>Z) (fun h=>Z) (fun _=>(Z:w.length=S.length)) (fun _ i B u=>L i B B u) (fun h=>Z) (fun h=>Z) (fun h=>Z)),g⟩
 by_cases Xp:o=7
 ·by_cases WQ:((c.length:Sr):Sz)=((p.length:Sr):Sz);rotate_left
  ·refine NI a @a6 @bJ E F WZ W1 (W2.g Se) (W3.g Se) @Sf.{0} @Sh.{0} U X Wy WC WI WO WJ (So Xp) WQ ?_;exact G _ _ false z (V a) aa ⟨fun h=>by(cases h),fun h=>SC (h.eg.2.2.2.2.2.1 Z) Z⟩
  refine wQ a @a6 @bJ E F WZ W1 (W2.g Se) (W3.g Se) @Sf.{0} @Sh.{0} U X Wy WC WI WO WJ (So Xp) (So WQ) (SG (Z:¬o=8)) ?_;refine aZ.w (fun A f m=>∃i:Sr,A=c.length-i/\i<=c.length/\(∀e,e<i->∀(h:e<c.length) (Xn:e<p.length),c[e].1=p[e].1/\cQ c[e].2 p[e].2)/\ae m s.Y [I o,I H,WV,Xh,W9]/\ae m WX.Y [I o,I Q,WW,Xi,Xa]/\ad s.Y s m/\f.e=119/\f.N 2=ab s.Y 0 6/\f.N 3=ab WX.Y 0 6/\f.N 6=I (i:Sr))
   (fun A f m=>(A= .bF/\ad s.Y s m/\f.e=119/\f.N 4= .bool false/\¬cQ (.au o H K w c) (.au o Q R S p))\/(A= .bb 3/\(∀e,e<c.length->∀(h:e<c.length) (Xn:e<p.length),c[e].1=p[e].1/\cQ c[e].2 p[e].2)/\ad s.Y s m/\f.e=119))
   ⟨0,rfl,Z,fun e h=>Z,WN,WM,z,V a,aa,aa,aa⟩ ?_ ?_
  ·clear G E WY Xb Xj WZ F W0 Xc Xk W1 Xd Xe Xl Xm W2 W3 a Xz B f;rintro Ym WD A f m ⟨i,rfl,Yn,L,T,Wz,g,a,u,WE,M⟩;have q:=X0.C g;have y:=X1.C g;have W:=T.v eh 4 6 W9;have Xq:=Wz.v eh 4 6 Xa;by_cases r:i<c.length;rotate_left
   ·obtain rfl:i=c.length:=Z;refine ch a u M @bJ W (q.g Se) (Z:¬((c.length:Sr):Sz)<((c.length:Sr):Sz)) ?_;exact WD _ _ _ (.inr ⟨rfl,L,g,V a⟩)
   have v:i<p.length:=Z;refine ch a u M @bJ W (q.g Se) (So (Z:(i:Sz)<(c.length:Sz))) (LB.T 0 0 fun Yo Yp D _ _ _=> ?_);have Xr:=LA.D D T.n;have Xs:=LA.D D Wz.n;have WG:=q.r (k:= .i64) (x:=(i:Sz)) Se bx Z Z;have WH:=y.r (k:= .i64) (x:=(i:Sz)) Se bx Z Z;rw[Sm] at WG WH;have⟨Xt,X4⟩:=kS q r;have⟨Xu,X5⟩:=kS y v;have⟨YF,X6,X7,YG⟩:=Yg.H i r;have⟨YH,X8,X9,YI⟩:=Yi.H i v;have⟨Ya,Yb⟩:=kn X6;have⟨Yc,Yd⟩:=kn X8;have W5:=q.fE fH r (j:=0) Z;rw[SO,Ya] at W5;have Xv:=q.hC bV aL r (j:=1) Z;rw[Yb] at Xv;have W6:=y.fE fH v (j:=0) Z;rw[SO,Yc] at W6;have Xw:=y.hC bV aL v (j:=1) Z;rw[Yd] at Xw;have WR:=X7.C g;have WS:=X9.C g;have WK:=wR (P:=Sg) (t:=9) c[i].1 p[i].1;by_cases WL:c[i].1=p[i].1;rotate_left
   ·rw[Sl WL] at WK;refine zK @nf a u WE M @bJ Xr Xs W Xq q.m y.m WG WH Xt Xu W5 W6 WK @fT (LA.g0 q D r) (LA.g0 y D v) ?_;exact WD _ _ _ (.inl ⟨rfl,g,V a,aa,fun h=>WL (h.eg.2.2.2.2.2.2.1 Z i r v)⟩)
   rw[Sw (not_not_intro WL)] at WK;simp(disch:=omega)only[aI,bD,fi,dy,Ta,bB,SK,SE,↓SS,nf,a,u,WE,M,bJ,Xr,Xs,W,Xq,q.m,y.m,WG,WH,Xt,X4,Xu,X5,W5,Xv,W6,Xw,WK,fT,LA.g0 q D r,LA.g0 y D v,WR.m,WS.m];refine(XZ c[i].2 p[i].2 (ag (O.fs (k:=o) (n:=H) (b:=K) (l:=w) (d:=c) (Si r))) Xf Xg m _ _ WR WS (Yj _ (Si r)) (Yk _ (Si v))).b ?_;rintro _ Yq ⟨⟨WB,rfl,WT⟩,WA⟩;have WU:=g.d WA;refine⟨fun h=>h.elim,?_⟩;cases WB with
   |false=>
    refine c0 a ?_;exact WD _ _ _ (.inl ⟨rfl,WU,V a,aa,fun h=>by have:=WT.2 (h.eg.2.2.2.2.2.2.2 Z i r v);cases this⟩)
   |true=>
    refine e6 a M ?_;exact aH (c.length-(i+1)) Z ⟨i+1,rfl,Z,nn L (fun _ _=>⟨WL,WT.1 rfl⟩),T.C WA,Wz.C WA,WU,V a,V u,V WE,aa⟩
  rintro A Yr m (⟨rfl,g,a,W4,Xo⟩|⟨rfl,L,g,a⟩)
  ·refine kN ?_;exact G _ _ false g a W4 ⟨fun h=>by(cases h),fun h=>SC h Xo⟩
  refine bO a @SD ?_;exact⟨.mD (.au (fun h=>Z) (fun h=>((fun h=>Z):o=8->K=R) Z) (fun h=>Z) (fun h=>Z) (fun _=>(Z:c.length=p.length)) (fun _ i B u=>(L i B B u).1) (fun _ i B u=>(L i B B u).2)),g⟩
 by_cases Ye:o=8
 ·by_cases WQ:((c.length:Sr):Sz)=((p.length:Sr):Sz);rotate_left
  ·refine wQ a @a6 @bJ E F WZ W1 (W2.g Se) (W3.g Se) @Sf.{0} @Sh.{0} U X Wy WC WI WO WJ Xp (So Ye) WQ ?_;exact G _ _ false z (V a) aa ⟨fun h=>by(cases h),fun h=>SC (h.eg.2.2.2.2.2.1 Z) Z⟩
  simp(disch:=omega)only[aI,bD,bB,SK,SE,Nat.reduceAdd,↓SS,a,a6,c8,bJ,E,F,Xb,Xc,WZ,W1,W2.cd Se,W3.cd Se,Sf,Sh,SG U,SG X,SG Wy,SG WC,SG WI,SG WO,SG WJ,SG Xp,So Ye,So WQ];refine(zN X2 WV WW K R Xd Xe Z Z).b ?_;rintro _ _ ⟨rfl,rfl⟩;by_cases XW:K=R;rotate_left
  ·rw[Sw XW];refine c0 a ?_;exact G _ _ false z (V a) aa ⟨fun h=>by(cases h),fun h=>SC (h.eg.2.2.1 Z) XW⟩
  rw[Sl XW];refine c0 a ?_;refine aZ.w (fun A f m=>∃i:Sr,A=c.length-i/\i<=c.length/\(∀e,e<i->∀(h:e<c.length) (Xn:e<p.length),c[e].1=p[e].1/\cQ c[e].2 p[e].2)/\ae m s.Y [I o,I H,WV,Xh,W9]/\ae m WX.Y [I o,I Q,WW,Xi,Xa]/\ad s.Y s m/\f.e=119/\f.N 2=ab s.Y 0 6/\f.N 3=ab WX.Y 0 6/\f.N 6=I (i:Sr))
   (fun A f m=>(A= .bF/\ad s.Y s m/\f.e=119/\f.N 4= .bool false/\¬cQ (.au o H K w c) (.au o Q R S p))\/(A= .bb 3/\(∀e,e<c.length->∀(h:e<c.length) (Xn:e<p.length),c[e].1=p[e].1/\cQ c[e].2 p[e].2)/\ad s.Y s m/\f.e=119))
   ⟨0,rfl,Z,fun e h=>Z,WN,WM,z,V a,aa,aa,aa⟩ ?_ ?_
  ·clear G E WY Xb Xj WZ F W0 Xc Xk W1 Xd Xe Xl Xm W2 W3 a Xz B f;rintro Ym WD A f m ⟨i,rfl,Yn,L,T,Wz,g,a,u,WE,M⟩;have q:=X0.C g;have y:=X1.C g;have W:=T.v eh 4 6 W9;have Xq:=Wz.v eh 4 6 Xa;by_cases r:i<c.length;rotate_left
   ·obtain rfl:i=c.length:=Z;refine ch a u M @bJ W (q.g Se) (Z:¬((c.length:Sr):Sz)<((c.length:Sr):Sz)) ?_;exact WD _ _ _ (.inr ⟨rfl,L,g,V a⟩)
   have v:i<p.length:=Z;refine ch a u M @bJ W (q.g Se) (So (Z:(i:Sz)<(c.length:Sz))) (LB.T 0 0 fun Yo Yp D _ _ _=> ?_);have Xr:=LA.D D T.n;have Xs:=LA.D D Wz.n;have WG:=q.r (k:= .i64) (x:=(i:Sz)) Se bx Z Z;have WH:=y.r (k:= .i64) (x:=(i:Sz)) Se bx Z Z;rw[Sm] at WG WH;have⟨Xt,X4⟩:=kS q r;have⟨Xu,X5⟩:=kS y v;have⟨YF,X6,X7,YG⟩:=Yg.H i r;have⟨YH,X8,X9,YI⟩:=Yi.H i v;have⟨Ya,Yb⟩:=kn X6;have⟨Yc,Yd⟩:=kn X8;have W5:=q.fE fH r (j:=0) Z;rw[SO,Ya] at W5;have Xv:=q.hC bV aL r (j:=1) Z;rw[Yb] at Xv;have W6:=y.fE fH v (j:=0) Z;rw[SO,Yc] at W6;have Xw:=y.hC bV aL v (j:=1) Z;rw[Yd] at Xw;have WR:=X7.C g;have WS:=X9.C g;have WK:=wR (P:=Sg) (t:=9) c[i].1 p[i].1;by_cases WL:c[i].1=p[i].1;rotate_left
   ·rw[Sl WL] at WK;refine zK @nf a u WE M @bJ Xr Xs W Xq q.m y.m WG WH Xt Xu W5 W6 WK @fT (LA.g0 q D r) (LA.g0 y D v) ?_;exact WD _ _ _ (.inl ⟨rfl,g,V a,aa,fun h=>WL (h.eg.2.2.2.2.2.2.1 Z i r v)⟩)
   rw[Sw (not_not_intro WL)] at WK;simp(disch:=omega)only[aI,bD,fi,dy,Ta,bB,SK,SE,↓SS,nf,a,u,WE,M,bJ,Xr,Xs,W,Xq,q.m,y.m,WG,WH,Xt,X4,Xu,X5,W5,Xv,W6,Xw,WK,fT,LA.g0 q D r,LA.g0 y D v,WR.m,WS.m];refine(XZ c[i].2 p[i].2 (ag (O.fs (k:=o) (n:=H) (b:=K) (l:=w) (d:=c) (Si r))) Xf Xg m _ _ WR WS (Yj _ (Si r)) (Yk _ (Si v))).b ?_;rintro _ Yq ⟨⟨WB,rfl,WT⟩,WA⟩;have WU:=g.d WA;refine⟨fun h=>h.elim,?_⟩;cases WB with
   |false=>
    refine c0 a ?_;exact WD _ _ _ (.inl ⟨rfl,WU,V a,aa,fun h=>by have:=WT.2 (h.eg.2.2.2.2.2.2.2 Z i r v);cases this⟩)
   |true=>
    refine e6 a M ?_;exact aH (c.length-(i+1)) Z ⟨i+1,rfl,Z,nn L (fun _ _=>⟨WL,WT.1 rfl⟩),T.C WA,Wz.C WA,WU,V a,V u,V WE,aa⟩
  rintro A Yr m (⟨rfl,g,a,W4,Xo⟩|⟨rfl,L,g,a⟩)
  ·refine kN ?_;exact G _ _ false g a W4 ⟨fun h=>by(cases h),fun h=>SC h Xo⟩
  refine bO a @SD ?_;exact⟨.mD (.au (fun h=>Z) (fun h=>((fun _=>XW):o=8->K=R) Z) (fun h=>Z) (fun h=>Z) (fun _=>(Z:c.length=p.length)) (fun _ i B u=>(L i B B u).1) (fun _ i B u=>(L i B B u).2)),g⟩
 refine F5 a @a6 E F @Sf.{0} @Sh.{0} U X Wy WC WI WO WJ Xp Ye @SD ?_;exact⟨.mD (.au (fun h=>Z) (fun h=>Z) (fun h=>Z) (fun h=>Z) (fun h=>Z) (fun h=>Z) (fun h=>Z)),z⟩
theorem rm {F:Sr->Prop}{s:J}{a:Ss Sk}{e:Ss SF×O}(h:cE F s a e):a.all aN=true:=by
 have⟨r,e,a,_⟩:=h;rw[e,Sx,a.K];rfl
def On (s:J)(a b:Ss SF×O)(v:Sk)(c:J):Prop:=iI (a.1=b.1/\cQ a.2 b.2) v/\ad s.Y s c
theorem GH (s:J)(F G:Sr->Prop)(p q:Ss Sk)(a b:Ss SF×O)(m:cE F s p a)(B:cE G s q b)
  (h:∀(d:J) (e f:Ss Sk),ad s.Y s d->aE F d e a.2->aE G d f b.2->Runs Sg aw 21 [.agg e.toArray,.agg f.toArray] d (rl d a.2 b.2)):
  Runs Sg aw 39 [.agg p.toArray,.agg q.toArray] s (On s a b):=by
 obtain⟨e,rfl,r,-⟩:=m;obtain⟨f,rfl,t,-⟩:=B;have g:=r.aG;have i:=t.aG;refine Runs.cS 17 Tryz.func39 rfl fun M j u m=> ?_
 refine aq j u (aK fun v n D P=> ?_);refine aW j m @Sf.{0} g (aK fun k w x Q=> ?_);have n:=n.C x;have l:=D.d x;have y:aD Sg k 9 (ab s.Y 0 7)=some (.string ⟨a.1.toArray⟩):=n.B fH (a:=0) (c:=7) (by simp[g]) aA;have z:aD Sg k 9 (ab v.Y 0 7)=some (.string ⟨b.1.toArray⟩):=w.B fH (a:=0) (c:=7) (by simp[i]) aA;have E:aD Sg k 26 (ab s.Y 1 7)=some (.agg e.toArray):=by
  have:=ae.ka bV aL n (a:=1) (c:=7) (by simp[g]) (by simp[g]);rw[this,SA,Sy,Sp Z]
 have H:aD Sg k 26 (ab v.Y 1 7)=some (.agg f.toArray):=by
  have:=ae.ka bV aL w (a:=1) (c:=7) (by simp[i]) (by simp[i]);rw[this,SA,Sy,Sp Z]
 by_cases o:a.1=b.1;rotate_left
 ·refine ND j u m @Sf.{0} g i @jH @kp y z @oI @ie (Sw o) @S6 ?_;exact⟨.ko (fun h=>o h.1),l⟩
 refine pT j @Sf.{0} i @jH @kp y z E H @ie (Sl o) ((h k e f l (r.C l) (t.C l)).b ?_);rintro _ R ⟨⟨K,rfl,A⟩,L⟩;refine oR j @S6 ?_;exact⟨⟨K,rfl,⟨fun h=>⟨o,A.1 h⟩,fun h=>A.2 h.2⟩⟩,l.d L⟩
theorem Oo:∀(WE:Sr) (Q R:O),SizeOf.sizeOf Q<=WE->∀(G H:Sr->Prop) (s:J) (WL WM:Ss Sk),aE G s WL Q->aE H s WM R->bd Q->bd R->
  Runs Sg aw 21 [.agg WL.toArray,.agg WM.toArray] s (rl s Q R):=by
 intro WE
 induction WE with
 |zero=>intro Xi R h;cases Xi;simp at h
 |succ WE WN=>
 intro Q R X4 G H s WL WM Xj Xk Xl Xm;cases Q with
 |au g u q x m=>
 cases R with
 |au WG D z K p=>
 obtain⟨W,W0,WO,Xn,W1,rfl,Xo,Xp,Xq,-,-,-,W2,WH⟩:=Xj.ea;obtain⟨X,W3,WQ,Xr,W4,rfl,Xs,Xt,Xu,-,-,-,W5,WI⟩:=Xk.ea;cases Xl with
 |au X5 X6 X7 X8 Xv W6=>
 cases Xm with
 |au X9 Ya Yb Yc Xw W7=>
 refine Runs.cS 59 Tryz.func21 rfl fun Wy a Xx Xy=> ?_
 refine aq a Xx (aK fun Xz XW XX Yd=> ?_);refine aW a Xy @Sf.{0} @Sh.{0} (aK fun L S W8 Ye=> ?_);have M:=XW.C W8;have j:=XX.d W8;have v:=M.v aB 0 6 (I g);have WJ:=M.v lq 1 6 (I u);have W9:=M.v cJ 2 6 W;have Xa:=M.v eh 4 6 WO;have w:=S.v aB 0 6 (I WG);have WK:=S.v lq 1 6 (I D);have Xb:=S.v cJ 2 6 X;have Xc:=S.v eh 4 6 WQ;have WR:=Xo.C j;have WS:=Xs.C j;have Xd:=Xq.C j;have Xe:=Xu.C j;have r:∀(Wy:an) (WT:J) (t:S2),ad s.Y s WT->Wy.e=59->Wy.N 4= .bool t->(t=true↔cQ (.au g u q x m) (.au WG D z K p))->eW Sg Tryz.f21.results.toList (rl s (.au g u q x m) (.au WG D z K p)) .bF Wy WT:=by
  intro Wy WT t XY a XZ f;refine bS a XZ @S7 ?_;exact⟨⟨t,rfl,f⟩,XY⟩
 by_cases WU:g=WG;rotate_left
 ·refine eC a @a6 v w @Sf.{0} @Sh.{0} WU ?_;exact r _ _ false j (V a) aa ⟨fun h=>by(cases h),fun h=>SC h.eg.1 WU⟩
 subst WU;by_cases y:g=1
 ·refine jF a @a6 @eE v w WJ WK @Sf.{0} @Sh.{0} (So y) ?_;exact r _ _ (decide (u=D)) j (V a) aa ⟨fun h=> .au (fun _=>Sn h) (fun h=>Z) (fun h=>Z) (fun h=>Z) (fun h=>Z) (fun h=>Z) (fun h=>Z),fun h=>Sl (h.eg.2.1 Z)⟩
 by_cases A:g=2
 ·refine pT a @a6 @eE v w WJ WK @Sf.{0} @Sh.{0} y (So A) ?_;exact r _ _ (decide (u=D)) j (V a) aa ⟨fun h=> .au (fun _=>Sn h) (fun h=>Z) (fun h=>Z) (fun h=>Z) (fun h=>Z) (fun h=>Z) (fun h=>Z),fun h=>Sl (h.eg.2.1 Z)⟩
 by_cases E:g=3
 ·refine sz a @a6 @eE v w WJ WK @Sf.{0} @Sh.{0} y A (So E) ?_;exact r _ _ (decide (u=D)) j (V a) aa ⟨fun h=> .au (fun _=>Sn h) (fun h=>Z) (fun h=>Z) (fun h=>Z) (fun h=>Z) (fun h=>Z) (fun h=>Z),fun h=>Sl (h.eg.2.1 Z)⟩
 by_cases P:g=9
 ·refine pV a @a6 @eE v w WJ WK @Sf.{0} @Sh.{0} y A E (So P) ?_;exact r _ _ (decide (u=D)) j (V a) aa ⟨fun h=> .au (fun _=>Sn h) (fun h=>Z) (fun h=>Z) (fun h=>Z) (fun h=>Z) (fun h=>Z) (fun h=>Z),fun h=>Sl (h.eg.2.1 Z)⟩
 by_cases T:g=4
 ·refine ni a @a6 @c8 v w W9 Xb @Sf.{0} @Sh.{0} y A E P (So T) ((z4 L W X q z WR WS).b ?_);rintro _ _ ⟨rfl,rfl⟩;refine ax a ?_;exact r _ _ (decide (q=z)) j (V a) aa ⟨fun h=> .au (fun h=>Z) (fun _=>Sn h) (fun h=>Z) (fun h=>Z) (fun h=>Z) (fun h=>Z) (fun h=>Z),fun h=>Sl (h.eg.2.2.1 Z)⟩
 by_cases Wz:g=5
 ·refine kP a @a6 @c8 v w W9 Xb @Sf.{0} @Sh.{0} y A E P T (So Wz) ?_;refine(z4 L W X q z WR WS).b ?_;rintro _ _ ⟨rfl,rfl⟩;refine ax a ?_;exact r _ _ (decide (q=z)) j (V a) aa ⟨fun h=> .au (fun h=>Z) (fun _=>Sn h) (fun h=>Z) (fun h=>Z) (fun h=>Z) (fun h=>Z) (fun h=>Z),fun h=>Sl (h.eg.2.2.1 Z)⟩
 by_cases U:g=6
 ·refine wO a @a6 @c7 v w ((M.o ft 3 6:aD Sg L 23 (ab s.Y 3 6)=some W0)) ((S.o ft 3 6:aD Sg L 23 (ab Xz.Y 3 6)=some W3)) @Sf.{0} @Sh.{0} y A E P T Wz (So U) ?_;refine(Om 21 L W0 W3 x.length K.length Xn Xr (Xp.C j) (Xt.C j) Z Z (fun i=>∀(h:i<x.length) (c:i<K.length),cQ x[i] K[i]) (fun i h=>(W2.H i h).K) (fun i h=>(W5.H i h).K) (fun i h c WA WB=> ?_)).b ?_
  ·have F:=j.d WB;refine(WN x[i] K[i] (ag (O.gD (k:=g) (n:=u) (b:=q) (l:=x) (d:=m) (Si h))) G H WA _ _ ((W2.H i h).C F) ((W5.H i c).C F) (Xv _ (Si h)) (Xw _ (Si c))).b ?_;rintro _ B ⟨⟨t,rfl,f⟩,o⟩;exact⟨⟨t,rfl,⟨fun e _ _=>f.1 e,fun e=>f.2 (e h c)⟩⟩,o⟩
  rintro _ B ⟨⟨t,rfl,f⟩,o⟩;refine ax a ?_;exact r _ _ t (j.d o) (V a) aa ⟨fun e=> .au (fun h=>Z) (fun h=>Z) (fun _=>(f.1 e).1) (fun _ i h c=>(f.1 e).2 i h h c) (fun h=>Z) (fun h=>Z) (fun h=>Z),fun e=>f.2 ⟨e.eg.2.2.2.1 U,fun i Xf h c=>e.eg.2.2.2.2.1 U i h c⟩⟩
 by_cases WC:g=7
 ·have WV:¬g=8:=Z;refine pW a @a6 @bJ v w Xa Xc @Sf.{0} @Sh.{0} y A E P T Wz U (So WC) ?_;refine(GG 39 L WO WQ m.length p.length W1 W4 Xd Xe Z Z (fun i=>∀(h:i<m.length) (c:i<p.length),m[i].1=p[i].1/\cQ m[i].2 p[i].2) (fun i h=>rm (WH.H i h)) (fun i h=>rm (WI.H i h)) (fun i h c WA WB=> ?_)).b ?_
  ·have F:=j.d WB;refine(GH WA G H _ _ m[i] p[i] ((WH.H i h).C F) ((WI.H i c).C F) (fun WW X0 X1 X2 WX WY=>WN m[i].2 p[i].2 (ag (O.fs (k:=g) (n:=u) (b:=q) (l:=x) (d:=m) (Si h))) G H WW _ _ WX WY (W6 _ (Si h)) (W7 _ (Si c)))).b ?_;rintro _ B ⟨⟨t,rfl,f⟩,o⟩;exact⟨⟨t,rfl,⟨fun e _ _=>f.1 e,fun e=>f.2 (e h c)⟩⟩,o⟩
  rintro _ B ⟨⟨t,rfl,f⟩,o⟩;have WD:=j.d o;have Xg:(t=true↔cQ (.au g u q x m) (.au g D z K p)):=⟨fun e=> .au (fun h=>Z) (fun h=>Z) (fun h=>Z) (fun h=>Z) (fun _=>(f.1 e).1) (fun _ i h c=>((f.1 e).2 i h h c).1) (fun _ i h c=>((f.1 e).2 i h h c).2),fun e=>f.2 ⟨e.eg.2.2.2.2.2.1 Z,fun i Xf h c=>⟨e.eg.2.2.2.2.2.2.1 Z i h c,e.eg.2.2.2.2.2.2.2 Z i h c⟩⟩⟩;cases t with
  |false=>
   refine c0 a ?_;exact r _ _ false WD (V a) aa Xg
  |true=>
   refine fR a @a6 ((M.C o).o aB 0 6:aD Sg B 3 (ab s.Y 0 6)=some (I g)) (So WC) ?_;exact r _ _ true WD (V a) aa Xg
 by_cases WV:g=8
 ·refine zI a @a6 @bJ v w Xa Xc @Sf.{0} @Sh.{0} y A E P T Wz U WC (So WV) ?_;refine(GG 39 L WO WQ m.length p.length W1 W4 Xd Xe Z Z (fun i=>∀(h:i<m.length) (c:i<p.length),m[i].1=p[i].1/\cQ m[i].2 p[i].2) (fun i h=>rm (WH.H i h)) (fun i h=>rm (WI.H i h)) (fun i h c WA WB=> ?_)).b ?_
  ·have F:=j.d WB;refine(GH WA G H _ _ m[i] p[i] ((WH.H i h).C F) ((WI.H i c).C F) (fun WW X0 X1 X2 WX WY=>WN m[i].2 p[i].2 (ag (O.fs (k:=g) (n:=u) (b:=q) (l:=x) (d:=m) (Si h))) G H WW _ _ WX WY (W6 _ (Si h)) (W7 _ (Si c)))).b ?_;rintro _ B ⟨⟨t,rfl,f⟩,o⟩;exact⟨⟨t,rfl,⟨fun e _ _=>f.1 e,fun e=>f.2 (e h c)⟩⟩,o⟩
  rintro _ B ⟨⟨t,rfl,f⟩,o⟩;have WD:=j.d o;have Xh:=M.C o;have X3:=(S.C o).v cJ 2 6 X;cases t with
  |false=>
   refine c0 a ?_;exact r _ _ false WD (V a) aa ⟨fun h=>by(cases h),fun e=>f.2 ⟨e.eg.2.2.2.2.2.1 Z,fun i Xf h c=>⟨e.eg.2.2.2.2.2.2.1 Z i h c,e.eg.2.2.2.2.2.2.2 Z i h c⟩⟩⟩
  |true=>
   have WZ:=f.1 rfl;refine eC a @a6 @c8 (Xh.o aB 0 6:aD Sg B 3 (ab s.Y 0 6)=some (I g)) (Xh.o cJ 2 6:aD Sg B 22 (ab s.Y 2 6)=some W) X3 WC ((z4 B W X q z (WR.C o) (WS.C o)).b ?_);rintro _ _ ⟨rfl,rfl⟩;refine c0 a ?_;exact r _ _ (decide (q=z)) WD (V a) aa ⟨fun e=> .au (fun h=>Z) (fun _=>Sn e) (fun h=>Z) (fun h=>Z) (fun _=>WZ.1) (fun _ i h c=>(WZ.2 i h h c).1) (fun _ i h c=>(WZ.2 i h h c).2),fun e=>Sl (e.eg.2.2.1 Z)⟩
 refine F5 a @a6 v w @Sf.{0} @Sh.{0} y A E P T Wz U WC WV @S7 ?_;exact⟨.mD (.au (fun h=>Z) (fun h=>Z) (fun h=>Z) (fun h=>Z) (fun h=>Z) (fun h=>Z) (fun h=>Z)),j⟩
end Go.Proofs.YtgpmffbleaphkaaGreat
namespace Go.Cl
theorem GI {a:Ss Sk}(h:a.all aN=true):∀n,(cM a n).all aN=true
 |0=>rfl
 |n+1=>by rw[cM,S3,h,GI h n];rfl
theorem ao.Oq {P:Tc}{t e:TypeId}{z:Sr}{b:Sk}{a:Ss Sk}(c:P.underlying t=some (.slice e))(w:bc P e=some z)(x:bK P e=some b)(y:cp b=true)(A:b.cells.toList=a)(h:a.length=z)(j:0<z)(B:a.all aN=true)
  {s:J} {v:Sk} {n:Sr} {l:Ss Sk} (D:ao s z v n l) {k:Sr} (O:k<=n):
  ∃d,mZ P s t (cU z v k n)=some (undef,d)/\ao d z v n (l.take (k*z)++cM a (n-k))/\aF v s d:=by
 cases D with
 |al=>
  obtain rfl:k=0:=Z;refine⟨s,?_,by rw[SX,cM,SI,List.take_nil];exact .al,Su _,fun _ _ _=>rfl⟩;simp only[cU,mZ,c]
 |bu i n o l p q r E=>
  by_cases F:k=n
  ·subst F;refine⟨s,?_,?_,Su _,fun _ _ _=>rfl⟩
   ·simp only[cU,mZ,c,SX]
   rw[SX,cM,SI,Sp Z];exact .bu i k o l p q r E
  obtain⟨m,f⟩:∃m,n-k=m+1:=⟨n-k-1,Z⟩
  have Q:k*z+(n-k)*z=n*z:=by rw[<-Nat.add_mul];congr 1;omega
  have g:(cM a (m+1)).length=(n-k)*z:=by rw[oG,h,f]
  have G:(true&&Nat.ble o (l.length+1)&&Nat.beq (l.length+1) (l.length+1)&&(cM a (m+1)).all aN)=true:=by
   simp only[GI B,Bool.and_true,Bool.true_and,Bool.and_eq_true,Nat.ble_eq,Th];exact⟨r,trivial⟩
  have H:(cp b&&Nat.beq a.length z&&Nat.blt 0 z)=true:=by
   rw[y,h];simp only[Bool.true_and,Bool.and_eq_true,Th];exact⟨trivial,by rw[Nat.blt_eq];exact j⟩
  have u:s.la i (0+k*z) (l.length+1) (cM a (m+1))=some (s.u i (.bl ⟨l.take (0+k*z)++cM a (m+1)++l.drop (0+k*z+(cM a (m+1)).length),l.length+1,true,z⟩)):=by
   unfold J.la;simp only[q,G,if_true,(ng l (0+k*z) (cM a (m+1)) Z)];split
   ·rename_i K;rw[K] at g
    have:0<(n-k)*z:=Nat.mul_pos Z j;simp at g;omega
   rfl
  rw[(List.drop_eq_nil_of_le Z:l.drop (0+k*z+(cM a (m+1)).length)=[]),SI,Td] at u;have L:(l.take (k*z)++cM a (m+1)).length=l.length:=by rw[SB,Sq,g];omega
  refine⟨s.u i (.bl ⟨l.take (k*z)++cM a (m+1),l.length+1,true,z⟩),?_,?_,⟨by simp[J.u],fun R _ M=> ?_⟩⟩;rotate_left
  ·rw[f,<-L];exact .bu i n _ _ (by simpa [J.u] using p) (J.kA _ _ _ Z) (Su _) Z
  ·rw[J.gS];intro e;subst e;exact M rfl
  simp only[cU,mZ,c,f,w,x,A,H,if_true,Td,u]
section
variable {P:Tc} {aV:bg} {all r:Ss Oper} {f:an} {s:J} {d:Option Tmp} {Q:an->J->Prop}
theorem Ot {t e:TypeId}{z:Sr}{b:Sk}{a:Ss Sk}(g:P.underlying t=some (.slice e))(h:bc P e=some z)(i:bK P e=some b)(j:cp b=true)(m:b.cells.toList=a)(o:a.length=z)(p:0<z)(q:a.all aN=true)
  {v:Sk} {n:Sr} {l:Ss Sk} (u:ao s z v n l) {k:Sr} (w:k<=n)
  (K:∀c,ao c z v n (l.take (k*z)++cM a (n-k))->aF v s c->en P aV all r f s d Q (some (.a8 undef c))):en P aV all r f s d Q (dL (mZ P s t (cU z v k n))):=by
 have⟨a,b,c,e⟩:=u.Oq g h i j m o p q w;rw[b,lj];exact K a c e
end
theorem uv {P:Tc}{d:Option Tmp}{c:TypeId}{e:String}{h:Array Edge}{i:Option (Sr×S2)}{f:an}{s:J}(g:FuncId)(a b:Array Operand):a4 P ⟨d,.makeFunc (.func g) a b,c,e,h,i⟩ f s=match bB f a.toList,bB f b.toList with
  |some l,some m=>some (.a8 (.func (.func g) l.toArray m.toArray) s)
  |_,_=>none:=rfl
def Ou (p:Sr->S2)(n:Sr)(r:Sz):Prop:=(r= -1/\∀i,i<n->p i=false)\/∃k,k<n/\r=(k:Sr)/\p k=true/\∀i,i<k->p i=false
end Go.Cl
namespace Go.Proofs.YtgpmffbleaphkaaGreat
open Go.Cl Go.Lib
def z6 (s:J)(a b:Ss SF)(v:Sk)(c:J):Prop:=v=I (compareBytes a b)/\ad s.Y s c
theorem Ov (s:J)(a b:Ss SF):
  Runs Sg aw 157 [.string ⟨a.toArray⟩,.string ⟨b.toArray⟩] s (z6 s a b):=by
 refine Runs.ef 8 Tryz.func157 rfl fun f c=> ?_
 refine ax c (Runs.Gm (v:=I (compareBytes a b)) (a:=s) rfl zP ?_ ?_)
 ·show some (Value.int .i64 (Extern.BytealgCompare.cmp ⟨a.toArray⟩ ⟨b.toArray⟩),s)=_;rw[cmp_eq]
 refine bO c @Tryz.results157 ?_;exact⟨rfl,ad.p _ _⟩
theorem Ow (s:J)(a b:Ss SF):
  Runs Sg aw 134 [.string ⟨a.toArray⟩,.string ⟨b.toArray⟩] s (z6 s a b):=by
 refine Runs.ef 8 Tryz.func134 rfl fun f c=> ?_
 refine ax c ((Ov s a b).b ?_);rintro _ a ⟨rfl,a⟩;refine bO c @Tryz.results134 ?_;exact⟨rfl,a⟩
theorem GJ (s:J)(a b:Ss SF)(f g:Ss Sk)(h:f.length=5)(i:g.length=5):
  Runs Sg aw 90 [.agg (.string ⟨a.toArray⟩::f).toArray,.agg (.string ⟨b.toArray⟩::g).toArray] s (z6 s a b):=by
 refine Runs.cS 10 Tryz.func90 rfl fun t d k l=> ?_
 refine aq d k (aK fun m n o u=> ?_);refine aW d l @Sf.{0} h (aK fun e p j v=> ?_);have q:aD Sg e 9 (ab s.Y 0 7)=some (.string ⟨a.toArray⟩):=(n.C j).B fH (a:=0) (c:=7) (by simp[h]) aA;refine cl d @Sf.{0} i @jH q (p.B fH (a:=0) (c:=7) (by simp[i]) aA:aD Sg e 9 (ab m.Y 0 7)=some (.string ⟨b.toArray⟩)) ((Ow e a b).b ?_);rintro _ w ⟨rfl,r⟩;refine bO d @Tryz.results90 ?_;exact⟨rfl,(o.d j).d r⟩
theorem GK:c3 Sg 121=some false:=by kernel_rfl
def uw (s:J)(t:S2)(v:Sk)(a:J):Prop:=v= .bool t/\ad s.Y s a
theorem Ox (s:J)(a b:Ss SF)(c d:Ss Sk)(e:c.length=5)(f:d.length=5)(i j:Sr)
  (l:ae s i [.func (.func 90) #[] #[]]) (m:ae s j (.string ⟨b.toArray⟩::d)):
  Runs Sg aw 130 [.agg (.string ⟨a.toArray⟩::c).toArray,ab i 0 2,ab j 0 7] s (uw s (decide (0<=compareBytes a b))):=by
 refine Runs.oU 10 Tryz.func130 rfl fun r g=> ?_
 refine ax g (aK fun h n k t=> ?_);have o:=(l.C k).v GK 0 2 (.func (.func 90) #[] #[]);have p:aD Sg h 42 (ab j 0 7)=some (.agg (.string ⟨b.toArray⟩::d).toArray):=ae.y gF (by simp[f,bx]) (m.C k) (by simp[f]);refine cl g @Sf.{0} e o ((ae.y gF (by simp[e,bx]) n (by simp[e]):aD Sg h 42 (ab s.Y 0 7)=some (.agg (.string ⟨a.toArray⟩::c).toArray))) p ?_;refine(GJ h a b c d e f).b ?_;rintro _ u ⟨rfl,q⟩;refine bO g @Tryz.results130 ?_;exact⟨rfl,k.d q⟩
theorem GL (s:J)(a b:Ss SF)(c d:Ss Sk)(e:c.length=5)(f:d.length=5)(i j:Sr)
  (l:ae s i [.func (.func 90) #[] #[]]) (m:ae s j (.string ⟨b.toArray⟩::d)):
  Runs Sg aw 131 [.agg (.string ⟨a.toArray⟩::c).toArray,ab i 0 2,ab j 0 7] s (uw s (decide (compareBytes a b=0))):=by
 refine Runs.oU 10 Tryz.func131 rfl fun r g=> ?_
 refine ax g (aK fun h n k t=> ?_);have o:=(l.C k).v GK 0 2 (.func (.func 90) #[] #[]);have p:aD Sg h 42 (ab j 0 7)=some (.agg (.string ⟨b.toArray⟩::d).toArray):=ae.y gF (by simp[f,bx]) (m.C k) (by simp[f]);refine cl g @Sf.{0} e o ((ae.y gF (by simp[e,bx]) n (by simp[e]):aD Sg h 42 (ab s.Y 0 7)=some (.agg (.string ⟨a.toArray⟩::c).toArray))) p ?_;refine(GJ h a b c d e f).b ?_;rintro _ u ⟨rfl,q⟩;refine bO g @Tryz.results131 ?_;exact⟨rfl,k.d q⟩
def Oy (s:J)(p:Sr->S2)(n:Sr)(v:Sk)(a:J):Prop:=(∃r,v=I r/\Ou p n r)/\ad s.Y s a
theorem z7 (h:Sr)(l:Ss Sk)(s:J)(m:Sk)(n:Sr)(o:Ss Sk)(y:az s 6 m n o)(S:n<=140737488351232)(p:Sr->S2)
  (A:∀i,i<n->∀b:J,ad s.Y s b->Runs Sg aw h (.agg ((o.drop (i*6)).take 6).toArray::l) b (uw b (p i))):
  Runs Sg aw 129 [m,.func (.func h) #[] l.toArray] s (Oy s p n):=by
 refine Runs.cS 19 Tryz.func129 rfl fun f a c d=> ?_
 refine aR a c (y.g Se) ?_;refine aZ.w (fun z f b=>∃i:Sr,z=n-i/\i<=n/\(∀j,j<i->p j=false)/\ad s.Y s b/\f.e=19/\f.N 0=m/\f.N 1= .func (.func h) #[] l.toArray/\f.N 7=I (n:Sr)/\f.N 8=I (i:Sr))
  (fun z f b=>(z= .bF/\ad s.Y s b/\f.e=19/\∃r:Sr,f.N 4=I (r:Sr)/\r<n/\p r=true/\∀j,j<r->p j=false)\/(z= .bb 0/\(∀j,j<n->p j=false)/\ad s.Y s b/\f.e=19))
  ⟨0,rfl,Z,fun j A=>Z,ad.p _ _,V a,V c,V d,aa,aa⟩ ?_ ?_
 ·clear a c d f;rintro T B z f L ⟨i,rfl,U,e,g,a,c,d,q,t⟩;by_cases u:i<n;rotate_left
  ·obtain rfl:i=n:=Z;refine aW a q t (Z:¬((i:Sr):Sz)<((i:Sr):Sz)) ?_;exact B _ _ _ (.inr ⟨rfl,e,g,V a⟩)
  have D:=y.C g;have E:=D.r (k:= .i64) (x:=(i:Sz)) Se bx Z Z;rw[Sm] at E;have F:=D.dm gF bx u;have G:=A i u L g;generalize (o.drop (i*6)).take 6=W at F G;refine c1 a c d q t (So (Z:((i:Sr):Sz)<((n:Sr):Sz))) E F (G.b ?_);rintro _ X ⟨rfl,M⟩;have H:=g.d M;cases K:p i with
  |true=>
   refine ax a ?_;exact B _ _ _ (.inl ⟨rfl,H,V a,i,aa,u,K,e⟩)
  |false=>
   refine aq a t ?_;exact aH (n-(i+1)) Z ⟨i+1,rfl,Z,nn e K,H,V a,V c,V d,V q,aa⟩
 rintro z Wy Wz (⟨rfl,v,w,r,O,P,Q,R⟩|⟨rfl,e,v,w⟩)
 ·refine bS w O @S4 ?_;exact⟨⟨_,rfl,.inr ⟨r,P,rfl,Q,R⟩⟩,v⟩
 refine bO w @S4 ?_;exact⟨⟨_,rfl,.inl ⟨rfl,e⟩⟩,v⟩
end Go.Proofs.YtgpmffbleaphkaaGreat
namespace Go.Cl
theorem w0 {z:Sr}(a:0<z):∀(n:Sr) (l:Ss Sk),l.length=n*z->(∀i,i<n->((l.drop (i*z)).take z).all aN=true)->l.all aN=true
 |0,l,h,_=>by
  have:l=[]:=SH Z;rw[this];rfl
 |n+1,l,h,k=>by
  have b:(l.take z).all aN=true:=by
   have:=k 0 Z
   rwa [SY,Sy] at this
  have c:(l.drop z).all aN=true:=by
   refine w0 a n _ (by rw[St,h,Te];omega) (fun a d=> ?_);have:=k (a+1) Z;rw[List.drop_drop]
   rwa [Te,Nat.add_comm] at this
  rw[<-List.take_append_drop z l,S3,b,c];rfl
end Go.Cl
namespace Go.Proofs.YtgpmffbleaphkaaGreat
open Go.Cl
def Oz (s:J)(n:Sr)(b:Ss Sk)(v:Sk)(a:J):Prop:=ao a 6 v n b/\ay s.Y v/\ad s.Y s a
theorem z8 (s:J)(x:Sk)(n:Sr)(b:Ss Sk)(a:az s 6 x n b)(m:n<=1000000)(e:b.all aN=true):
  Runs Sg aw 133 [x] s (Oz s n b):=by
 refine Runs.dZ 8 Tryz.func133 rfl fun o c=> ?_
 refine aq c (a.uh Se) (sj (fun h=> ?_) (fun h=> ?_))
 ·have⟨f,p,_⟩:=a.zA h;subst f;have:b=[]:=SH (ag a.length);subst this;refine bO c @S5 ?_;exact⟨.al,ay.al _,ad.p _ _⟩
 simp(disch:=omega)only[aI,bC,wC Se bx eD hE rfl];refine du (by rfl) ?_;intro q r g i d;refine ax c (hv Se Se (.inl ⟨_,rfl⟩) bx nm eD rfl g (a.C d).X a.length ai e Z Z i d.Y fun t u j k l _ _=> ?_);refine bO c @S5 ?_;exact⟨by simpa using j,k,d.a l⟩
end Go.Proofs.YtgpmffbleaphkaaGreat
namespace Go.Cl
theorem aF.a {v:Sk}{s a b:J}(h:aF v s a)(k:aF v a b):aF v s b:=
 ⟨Nat.le_trans h.Y k.Y,fun i c d=>(k.N i (Nat.lt_of_lt_of_le c h.Y) d).trans (h.N i c d)⟩
end Go.Cl
namespace Go.Proofs.YtgpmffbleaphkaaGreat
open Go.Cl
def OA (s:J)(x:Sk)(v:Sk)(a:J):Prop:=v=x/\ad s.Y s a
theorem OB (g:Sr)(a:Ss Sk)(s:J)(x:Sk)(n:Sr)(b:Ss Sk)(f:az s 6 x n b)(q:n<=1000000)(p:Sr->S2)
  (h:∀i,i<n->∀c:J,ad s.Y s c->Runs Sg aw g (.agg ((b.drop (i*6)).take 6).toArray::a) c (uw c (p i))) (j:∀i,i<n->p i=false):
  Runs Sg aw 132 [x,.func (.func g) #[] a.toArray] s (OA s x):=by
 refine Runs.ef 42 Tf rfl fun r d=> ?_
 refine ax d ((z7 g a s x n b f Z p h).b ?_);rintro _ t ⟨⟨u,rfl,k⟩,l⟩;rcases k with ⟨rfl,-⟩|⟨m,o,-,e,-⟩
 ·refine bO d @SP ?_;exact⟨rfl,l⟩
 rw[j m o] at e;cases e
def OC (s:J)(x:Sk)(n:Sr)(b:Ss Sk)(p:Sr->S2)(v:Sk)(a:J):Prop:=az a 6 v (dp p n) (hW b 6 p n)/\aF x s a/\(∀j,ak v=some j->ak x=some j)
theorem OD (K:Sr)(M:Ss Sk)(s:J)(g:Sk)(b:Sr)(d:Ss Sk)(W:ao s 6 g b d)(Xm:b<=1000000)(W5:∀i,i<b->((d.drop (i*6)).take 6).all aN=true)(c:Sr->S2)
  (WN:∀i,i<b->∀m:J,aF g s m->Runs Sg aw K (.agg ((d.drop (i*6)).take 6).toArray::M) m (uw m (c i))):
  Runs Sg aw 132 [g,.func (.func K) #[] M.toArray] s (OC s g b d c):=by
 have WO:=W.length;refine Runs.cS 42 Tf rfl fun h e o t=> ?_
 refine aR e o t ((z7 K M s g b d W.c Z c (fun i W6 m WQ=>WN i W6 m ⟨WQ.Y,fun q r _=>WQ.N q r⟩)).b ?_);rintro _ W7 ⟨⟨Xn,rfl,W8⟩,O⟩;have X:aF g s W7:=⟨O.Y,fun q r _=>O.N q r⟩;have Wy:=W.C O;rcases W8 with ⟨rfl,W9⟩|⟨v,Xo,rfl,WR,Xa⟩
 ·refine bS e o @SP ?_;have⟨P,Wz⟩:=zZ (a:=d) (b:=6) b W9;refine⟨?_,X,fun a B=>B⟩;rw[P,Wz,Sp Z];exact Wy.c
 refine aq e (Z:¬((v:Sr):Sz)= -1) ?_;have⟨P,Wz⟩:=zZ (a:=d) (b:=6) v Xa;have⟨Xb,Xp⟩:=Gv (l:=d) (L:=d) (z:=6) (j:=v) (by rw[P,Wz]) rfl WR;refine aZ.w (fun D h m=>∃(a:Sr) (f:Ss Sk),D=b-a/\a<=b/\ao m 6 g b f/\f.take (dp c a*6)=hW d 6 c a/\f.drop (a*6)=d.drop (a*6)/\aF g s m/\h.e=42/\h.N 0=g/\h.N 1= .func (.func K) #[] M.toArray/\h.N 5=I (dp c a:Sr)/\h.N 6=I (a:Sr))
  (fun D h m=>D= .bb 0/\∃f:Ss Sk,ao m 6 g b f/\f.take (dp c b*6)=hW d 6 c b/\aF g s m/\h.e=42/\h.N 0=g/\h.N 5=I (dp c b:Sr))
  ⟨v+1,d,rfl,Z,Wy,Xb,rfl,X,V e,V o,V t,V (show dp c (v+1)=v by simp[dp,WR,P]),aa⟩ ?_ ?_
 ·clear e o t h Wy X O;rintro Xq Xc D h WA ⟨a,f,rfl,B,w,E,WB,Q,e,o,t,R,S⟩;have F:=w.c;by_cases G:a<b;rotate_left
  ·obtain rfl:a=b:=Z;refine bp e o S (F.g Se) (Z:¬((a:Sr):Sz)<((a:Sr):Sz)) ?_;exact Xc _ _ _ ⟨rfl,f,w,E,Q,V e,V o,V R⟩
  have Xd:((a:Sr):Sz)<((b:Sr):Sz):=Z;have WS:=F.r (k:= .i64) (x:=(a:Sz)) Se bx Z Z;rw[Sm] at WS;have WC:=F.dm gF bx G;rw[(show(f.drop (a*6)).take 6=(d.drop (a*6)).take 6 by rw[WB])] at WC;have u:((d.drop (a*6)).take 6).length=6:=by
   have:(a+1)*6<=b*6:=Sv 6 G;rw[Sq,St];omega
  have WD:=W5 a G;have WT:=WN a G;have WU:=fun A=>Oa (l:=d) (L:=f) (z:=6) (n:=b) (j:=a) (p:=c) F.length WO G E WB A
  generalize (d.drop (a*6)).take 6=WE at WC u WD WT WU;have Xe:lp.length+1=7:=rfl;refine cX e o S (F.g Se) (So Xd) WS WC @eD @hE (aK fun Xr Xf Xg Xs=> ?_);refine aq e Xe (bh bx ai Xf rfl rfl u WD fun WG T Xt Xh=> ?_);have T:ae WG WA.Y WE:=T;have WH:=Xg.a ⟨Z,fun q r=>Xh q Z⟩;have Xi:=w.C WH;have Xj:aD Sg WG 42 (ab WA.Y 0 7)=some (.agg WE.toArray):=ae.y gF (by rw[u];exact bx) T (by rw[u]);have WV:=Q.a ⟨WH.Y,fun q r _=>WH.N q r⟩;refine aR e t Xj ?_;refine(WT WG WV).b ?_;rintro _ WW ⟨rfl,U⟩;have WX:=WV.a ⟨U.Y,fun q r _=>U.N q r⟩;have WI:=Xi.C U;cases A:c a with
  |true=>
   have⟨WJ,WK⟩:=Gv E WB A;refine aq e S ?_;exact aH (b-(a+1)) Z ⟨a+1,f,rfl,Z,WI,WJ,WK,WX,V e,V o,V t,F2 R (show dp c (a+1)=dp c a by simp[dp,A]),aa⟩
  |false=>
   have⟨WJ,WK⟩:=WU A;have WL:=uu c a;have WY:=WI.c.r (k:= .i64) (x:=(dp c a:Sz)) Se bx Z Z;rw[Sm] at WY;refine bp e o R (ae.y gF (by rw[u];exact bx) (T.C U) (by rw[u]):aD Sg WW 42 (ab WA.Y 0 7)=some (.agg WE.toArray)) WY ?_;refine Nz bx ai WI Z u WD ?_;intro Xk H WM;refine aR e R S ?_;exact aH (b-(a+1)) Z ⟨a+1,_,rfl,Z,H,WJ,WK,WX.a WM,V e,V o,V t,V (show dp c (a+1)=dp c a+1 by simp[dp,A]),aa⟩
 rintro D Xu WW ⟨rfl,f,w,E,Q,WZ,W0,W1⟩;have WL:=uu c b;have W2:=w.c.oJ Se bx (k:= .i64) (x:=(dp c b:Sz)) Z Z;rw[Sm] at W2;refine aW WZ W0 W1 W2 (Ot (a:=lp) Se bx eD hE rfl rfl ai rfl w WL fun Xk H WM=> ?_);have W3:=H.c.pP Se bx (k:= .i64) (y:=(dp c b:Sz)) Z Z;rw[Sm] at W3;refine eo WZ W0 W1 W3 @SP ?_;refine⟨?_,Q.a WM,fun a B=> ?_⟩
 ·have Xl:((f.take (dp c b*6)++cM lp (b-dp c b)).drop (0*6)).take ((dp c b-0)*6)=hW d 6 c b:=by
   rw[SY,Sy,SZ,E];have:=wV c WO b (Su _);rw[List.take_append_of_le_length Z,Sp Z]
  have W4:=H.c.nP (a:=0) (b:=dp c b) Z WL;rw[Xl,SZ] at W4;exact W4
 cases H with
 |al=>exact B
 |bu=>exact B
end Go.Proofs.YtgpmffbleaphkaaGreat
namespace Go.Cl
theorem ux {P:Tc}{a:bg}{b c:Code}{f:an}{s:J}{Q:dw->an->J->Prop}{d:S2}(e:an->J->Prop)(l:∀g:dw->an->J->Prop,(∀h i,e h i->g .b2 h i)->nb P a b c f s g d)(m:∀j k,e j k->Q .b2 j k):nb P a b c f s Q d:=l Q m
end Go.Cl
namespace Go.Proofs.YtgpmffbleaphkaaGreat
open Go.Cl Go.Lib
def OE (s:J)(F:Sr->Prop)(D:Ss (Ss SF×O))(e:Ss SF×O)(b:S2)(v:Sk)(a:J):Prop:=∃c,ao a 6 v (rk D e b).length c/\ay s.Y v/\ad s.Y s a/\aU cE 6 (fun j=>F j/\j<s.Y) a (rk D e b) c
theorem OF
  (Wz:Sr->Prop) (s:J) (H:Sk) (b:Ss (Ss SF×O)) (j:Ss Sk) (WS:az s 6 H b.length j) (Q:aU cE 6 Wz s b j) (YE:b.length<=500000) (e:Ss SF×O) (W6:Ss Sk) (X6:cE Wz s W6 e) (w:S2):
  Runs Sg aw 88 [H,.agg W6.toArray,.func (.func 90) #[] #[],.bool w] s (OE s Wz b e w):=by
 obtain⟨A,rfl,WT,X7⟩:=X6;have B:=WT.aG;refine Runs.NJ 39 Tryz.func88 rfl fun W7 d o WA WB WC=> ?_
 refine aq d WA (aK fun p X8 X9 YF=> ?_);refine aW d WB @Sf.{0} B (aK fun K R W8 YG=> ?_);have WD:=X8.C W8;have L:=X9.d W8;have W9:=WS.C L;have R:ae K p.Y [.func (.func 90) #[] #[]]:=R;refine aW d o (rfl:(Value.func (Fn.func 90) #[] #[]).cells.toList.length+1=2) @uv ?_;have⟨Ya,WE⟩:=aO (p3 b (fun f=> !(gG f.1 e.1)));have⟨YH,YI⟩:=aO (fun f=>f.1==e.1:Ss SF×O->S2);refine(z7 130 [ab p.Y 0 2,ab s.Y 0 7] K H b.length j W9 Z Ya (fun c g m M=> ?_)).b ?_
 ·obtain⟨r,S,T,-⟩:=Q.H c g;rw[S];refine(Ox m b[c].1 e.1 r A T.aG B p.Y s.Y (R.C M) (WD.C M)).b ?_;rintro _ Xa ⟨rfl,E⟩;refine⟨?_,E⟩;rw[WE,sF g]
  congr 1
  cases WU:gG b[c].1 e.1 with
  |false=>exact Sl ((zX _ _).2 WU)
  |true=>exact Sw (fun E=>by rw[(zX _ _).1 E] at WU;cases WU)
 rintro _ Yb ⟨⟨r,rfl,Yc⟩,WG⟩;have Yd:(r<0/\gk b e.1=b.length)\/(r=(gk b e.1:Sr)/\¬r<0):=by
  rcases Yc with ⟨rfl,Ye⟩|⟨a,U,rfl,Xb,Yf⟩
  ·exact .inl ⟨Z,Oc (fun c g=>by have:=Ye c g;rwa [WE] at this)⟩
  rw[WE] at Xb;have:=Od U Xb (fun c g=>by have:=Yf c g;rwa [WE] at this);exact .inr ⟨by rw[this],Z⟩
 have t:=z0 b e.1;have Xc:=L.d WG;refine ax d (ux (fun h m=>m=Yb/\h.e=39/\h.N 0=H/\h.N 3= .bool w/\h.N 5=ab s.Y 0 7/\h.N 6=ab p.Y 0 2/\h.N 9=I (gk b e.1:Sr)) ?_ ?_)
 ·intro Yg W;rcases Yd with ⟨WV,WW⟩|⟨WV,WW⟩
  ·refine aW d o (So WV) ((W9.C WG).g Se) ?_;exact W _ _ ⟨rfl,V d,V o,V WC,aa,aa,V WW⟩
  refine ax WW ?_;exact W _ _ ⟨rfl,V d,V o,V WC,aa,aa,V WV⟩
 rintro W7 Yh ⟨rfl,d,o,WC,Xd,Yi,P⟩;have⟨a,U⟩:=aO (gk b e.1);rw[<-U] at P t;have Xe:=WS.C Xc;have Xf:=Xe.pP Se bx (k:= .i64) (y:=(a:Sz)) Z Z;rw[Sm] at Xf;have Xg:=Xe.nP (a:=0) (b:=a) Z t;rw[SY,Sy,SZ] at Xg;have Xh:=Q.qY a t;have Xi:=Q.nN a t;refine ch d o Xd Yi P @uv Xf ?_;have Xj:=Q.aG;have YJ:a*6<=b.length*6:=Sv 6 t;have Xk:(b.take a).length=a:=by rw[Sq];omega
 have YK:(b.drop a).length=b.length-a:=St ..;refine(z8 Yh (cU 6 H 0 a) a (j.take (a*6)) Xg Z (w0 ai a _ (by rw[Sq];omega) (fun c g=>rm (Xh.H c Z)))).b ?_;rintro f Yj ⟨Xl,F,Xm⟩;have Xn:=WG.d Xm;refine ax d ((OB 131 [ab p.Y 0 2,ab s.Y 0 7] Yj f a (j.take (a*6)) Xl.c Z (fun _=>false) (fun c g m M=> ?_) (fun _ _=>rfl)).b ?_)
 ·obtain⟨r,S,T,-⟩:=Xh.H c Z;rw[S];have X:=Xn.d M;refine(GL m _ e.1 r A T.aG B p.Y s.Y (R.C X) (WD.C X)).b ?_;rintro _ Xa ⟨rfl,E⟩;refine⟨?_,E⟩
  congr 1
  refine Sw (fun Yk=> ?_);have WA:=Gx (D:=b) (k:=e.1) (i:=c) Z Z;have WB:=(zY _ _).1 Yk;rw[(List.getElem_take .. :(b.take a)[c]'(Z)=b[c]'(Z))] at WB;rw[WB,Gy] at WA;cases WA
 rintro Xo Yl ⟨rfl,WX⟩;have Ym:=(Xc.d Xm).d WX;have WH:=Xn.d WX;have Xp:=Xl.C WX;have F:ay K.Y Xo:=fun n G=>bq (F n G) WG.Y
 have YL:=L.Y;have⟨WI,WJ⟩:=aO (fun n=>Wz n/\n<s.Y:Sr->Prop);have WY:aU cE 6 WI s b j:=by rw[WJ];exact Q.eV bY
 have Xq:cE WI s (.string ⟨e.1.toArray⟩::A) e:=by rw[WJ];exact bY.eV ⟨A,rfl,WT,X7⟩
 have YM:∀Wy:Sk,ay s.Y Wy->∀n,WI n->ak Wy≠some n:=fun Wy WZ n G e=>by rw[WJ] at G;have:=WZ _ e;omega
 refine aq d WC ?_;have⟨WK,v⟩:=aO (b.take a++(if w then [e] else []));have YN:WK.length<=b.length+1:=by
  rw[v,SB,Sq];cases w<;>simp<;>omega
 refine ux (fun h m=>∃(f:Sk) (WL:Ss Sk),ao m 6 f WK.length WL/\aU cE 6 WI m WK WL/\ay K.Y f/\ad K.Y K m/\h.e=39/\h.N 0=H/\h.N 9=I (a:Sr)/\h.N 10= .func (.func 131) #[] #[ab p.Y 0 2,ab s.Y 0 7]/\h.N 11=f) ?_ ?_
 ·intro Yg W;cases w with
  |false=>
   rw[if_neg ai,SI] at v;refine ax d ?_;exact W _ _ ⟨Xo,_,by rw[v,Xk];exact Xp,by rw[v];exact((WY.qY a t).C bY Ym),F,WH,V d,V o,V P,aa,aa⟩
  |true=>
   rw[if_pos rfl] at v;have Xr:aD Sg Yl 42 (ab s.Y 0 7)=some (.agg (.string ⟨e.1.toArray⟩::A).toArray):=ae.y gF (by simp[B,bx]) (WD.C WH) (by simp[B]);have⟨W0,W1⟩:=aO (SJ ⟨e.1.toArray⟩::A);have WM:W0.length=6:=by rw[W1];simp[B]
   rw[<-W1] at Xr Xq;simp(disch:=omega)only[aI,bC,SK,SE,↓SS,d,Xd,Xr,gC (a:=W0.toArray) Se bx eD hE rfl WM (by decide)];refine du (by rw[WM]) ?_;intro YO Xs Yn YP W2;refine ax d (hv Se Se (.inl ⟨_,rfl⟩) bx nm eD rfl (Xp.C W2) Yn.c.X WM ai (show W0.all aN=true by rw[W1,Sx,WT.K];rfl) Z Z F (bq WH.Y W2.Y) fun Xt Xu Yo Yp Yq YQ _=> ?_);have WN:=(WH.d W2).a Yq;have Xv:=L.d WN;refine ax d ?_;exact W _ _ ⟨Xt,_,by rw[v,SB,Xk];exact Yo,by rw[v];exact((WY.qY a t).C bY Xv).hB WM (bY.C Xq Xv),Yp,WN,V d,V o,V P,aa,aa⟩
 rintro W7 Xs ⟨f,WL,Yr,Ys,F,WO,d,o,P,Yt,Yu⟩;have Xw:=L.d WO;have Xx:=WS.C Xw;have Xy:=Xx.oJ Se bx (k:= .i64) (x:=(a:Sz)) Z Z;rw[Sm] at Xy;have Xz:=Xx.nP (a:=a) (b:=b.length) t (Su _);rw[Sp (by rw[St,Xj,Tg];omega)] at Xz;refine bp d o P Yu Xy ?_;have XW:(j.drop (a*6)).length=(b.length-a)*6:=by rw[St,Xj,Tg]
 have XX:∀c,c<b.length-a->(((j.drop (a*6)).drop (c*6)).take 6).all aN=true:=fun c g=>rm (Xi.H c Z)
 refine(z8 Xs _ (b.length-a) _ Xz Z (w0 ai _ _ XW XX)).b ?_;rintro Wy Xu ⟨WZ,XY,W3⟩;refine aq d Yt ?_;have WN:=WO.d W3;have Yv:=WO.Y;have XZ:=W3.Y;refine(OD 131 [ab p.Y 0 2,ab s.Y 0 7] Xu Wy (b.length-a) _ WZ Z XX (p3 (b.drop a) (fun f=>f.1==e.1)) (fun c g m M=> ?_)).b ?_
 ·obtain⟨r,S,T,-⟩:=Xi.H c Z;rw[S];have X:=WN.a ((M.C XY XZ).q Yv);refine(GL m _ e.1 r A T.aG B p.Y s.Y (R.C X) (WD.C X)).b ?_;rintro _ Xa ⟨rfl,E⟩;refine⟨?_,E⟩;rw[sF Z]
  congr 1
  rw[decide_eq_decide.2 (zY _ _)];by_cases WQ:(b.drop a)[c].1=e.1
  ·rw[Sl WQ];exact(beq_iff_eq.2 WQ).symm
  rw[Sw WQ];exact(beq_eq_false_iff_ne.2 WQ).symm
 rintro YR YS ⟨X0,Yw,YT⟩;have WR:=W3.a (Yw.C XY XZ);have X1:=Xw.d WR;have⟨u,X2⟩:=aO (p3 (b.drop a) (fun f=>f.1==e.1));rw[<-X2] at X0;have W4:=((WY.nN a t).C bY X1).hX u (b.length-a) Z;have X3:=wV (l:=j.drop (a*6)) (z:=6) u XW (b.length-a) (Su _);have Yx:(p2 (b.drop a) u (b.length-a)).length=dp u (b.length-a):=ag W4.aG;have YU:=uu u (b.length-a);have X4:p2 (b.drop a) u (b.length-a)=jh e.1 (b.drop a):=by
  rw[Gw (a:=fun f=>f.1==e.1) (b.length-a) Z (fun c g=>by rw[X2,sF g]),Sp Z];rfl
 have Yy:(hW (j.drop (a*6)) 6 u (b.length-a)).all aN=true:=w0 ai (dp u (b.length-a)) _ X3 (fun c g=>rm (W4.H c Z));refine ax d (hv Se Se (.inl ⟨_,rfl⟩) bx nm eD rfl (Yr.C WR) X0.X X3 ai Yy Z Z F (bq WO.Y WR.Y) fun Xt YV Yz YA YB YC _=> ?_);refine bO d @Tryz.results88 ?_;have X5:rk b e w=WK++jh e.1 (b.drop a):=by
  unfold rk;rw[<-U,v]
  congr 2
  rw[U,Oe]
 have W5:=(Ys.C bY WR).hQ W4;rw[X4,<-X5] at W5;refine⟨WL++hW (j.drop (a*6)) 6 u (b.length-a),?_,fun n G=>ag (YA n G),(X1.a (YB.q L.Y)),?_⟩
 ·rw[X5,SB,<-X4,Yx];exact Yz
 rw[WJ] at W5;exact W5.j bY YC (fun n G YD=>bq (F _ YD) G.2)
def GM (s:J)(o:O)(v:Sk)(a:J):Prop:=v= .bool o.lu/\ad s.Y s a
theorem z9 (F:Sr->Prop)(s:J)(a:Ss Sk)(o:O)(b:aE F s a o):
  Runs Sg aw 87 [.agg a.toArray] s (GM s o):=by
 cases o with
 |au c a d l e=>
 obtain⟨a,d,e,f,g,rfl,-⟩:=b.ea;refine Runs.ey 11 Tryz.func87 rfl fun f b a=> ?_
 refine aq b a (aK fun e a d f=> ?_);have e:=a.v aB 0 6 (I c);by_cases a:c=7
 ·refine fS b @Sf.{0} @Sh.{0} @a6 e (So a) S8 ?_;exact⟨by simp[O.lu,O.a9,a],d⟩
 refine fS b @Sf.{0} @Sh.{0} @a6 e a S8 ?_;exact⟨by simp[O.lu,O.a9,a];congr,d⟩
def GN (s:J)(k:Ss SF)(o:O)(v:Sk)(a:J):Prop:=∃b,v= .agg (.string ⟨k.toArray⟩::b).toArray/\aE (fun j=>s.Y<=j) a b o/\ad s.Y s a
theorem OG (F:Sr->Prop)(s:J)(k:Ss SF)(b:Ss Sk)(o:O)(n:aE F s b o)(B:bd o):
  Runs Sg aw 89 [.string ⟨k.toArray⟩,.agg b.toArray] s (GN s k o):=by
 have g:=n.aG;refine Runs.ef 9 Tryz.func89 rfl fun Q a=> ?_
 refine ax a (aK fun c D p R=> ?_);refine aW a g @eD @hE (aK fun q E h S=> ?_);have r:=p.d h;have G:aD Sg q 26 (ab s.Y 0 6)=some (.agg b.toArray):=ae.y bV (by rw[g];exact aL) (D.C h) (by rw[g]);have H:lp.length+1=7:=rfl;refine aR a G H ((wY _ o (Su _) F q b (n.C r) B).b fun T U K=> ?_);obtain⟨t,rfl,i,v⟩:=K.kT;have w:=i.aG;have⟨d,e⟩:=aO (SJ ⟨k.toArray⟩::t);have l:d.length=6:=by rw[e];simp[w]
 have L:d.all aN=true:=by rw[e,Sx,i.K];rfl
 have x:=p0 k w;rw[<-e] at x;refine aq a x (bh bx ai (E.C v) rfl rfl l L fun y m M z=> ?_);have m:ae y c.Y d:=m;have P:aD Sg y 42 (ab c.Y 0 7)=some (.agg d.toArray):=ae.y gF (by rw[l];exact bx) m (by rw[l]);refine bS a P Tryz.results89 ?_;have W:=p.Y;have X:=h.Y;refine⟨t,by rw[e],(i.j (u:=bI c.Y) (aF.f M z) (fun j A f=> ?_)).b (fun j A=>Z),(r.d v).a ⟨Z,fun j A=>z j Z⟩⟩;have f:some c.Y=some j:=f;injection f with f;omega
theorem OH
  (R:Sr->Prop) (B:J) (S:Ss Sk) (o:O) (WW:aE R B S o) (Xl:bd o) (WX:Sk) (L:Ss (Ss SF×O)) (Xm:Ss Sk) (Xn:az B 6 WX L.length Xm) (Yg:aU cE 6 R B L Xm) (Y1:L.length<=100000) (Yh:∀f∈L,bd f.2):
  Runs Sg aw 64 [.agg S.toArray,WX] B (ei B (kb o L)):=by
 have WY:=WW.aG;refine Runs.ef 35 Tryz.func64 rfl fun g a=> ?_
 refine ax a (aK fun n Yi Yj Y2=> ?_);refine aW a WY @b8 @cy (aK fun p Xo WZ Y3=> ?_);have WH:=Yj.d WZ;have Xp:bX.length+1=6:=rfl;have Xq:∀M,ad p.Y p M->aD Sg M 26 (ab B.Y 0 6)=some (.agg S.toArray):=fun M D=>ae.y bV (by rw[WY];exact aL) ((Yi.C WZ).C D) (by rw[WY])
 refine aR a (Xq p (ad.p _ _)) Xp ((wY _ o (Su _) R p S (WW.C WH) Xl).b fun W0 d Yk=> ?_);obtain⟨T,rfl,WI,WJ⟩:=Yk.kT;have P:=WI.aG;refine aR a @b8 @cy (aK fun Y4 Yl Ym Y5=> ?_);refine aq a Xp (bh aL ai Yl rfl rfl P WI.K fun W1 Yn Y6 Yo=> ?_);have Xr:=Ym.a ⟨Z,fun j b=>Yo j Z⟩;have W2:=WJ.d Xr;have Xs:=WH.d W2;refine aq a (Xq W1 W2) ((z9 R W1 S o (WW.C Xs)).b ?_);rintro _ Xt ⟨rfl,WK⟩;have U:=Xr.d WK;have Xu:=W2.d WK;have Xv:=(Yn:ae W1 d.Y T).C WK;have Xw:=WI.C U;have Y7:=WJ.Y;have Y8:=WZ.Y;have Y9:=U.Y;have Xx:∀(t:J) (W3:O) (W:Ss Sk) (G:Sr->Prop) (WL:Sk->J->Prop),(∀j,G j->p.Y<=j)->aE G t W W3->ad p.Y p t->(∀W0 M,ei B W3 W0 M->WL W0 M)->∀X,ae X n.Y W->X.Y=t.Y->(∀j,j≠n.Y->X.i.N j=t.i.N j)->WL (.agg W.toArray) X:=by
  intro t W3 W G WL z Yp Yq W4 X Za Yr Xy;refine W4 _ _ ⟨W,rfl,(Yp.j (u:=bI n.Y) (aF.f Yr Xy) (fun j b f=> ?_)).b (fun j b=>ag (z j b)),(WH.d Yq).a ⟨Z,fun j b=>Xy j Z⟩⟩;have f:some n.Y=some j:=f;injection f with f;have:=z j b;omega
 cases Xz:o.lu with
 |false=>
  refine aq a (ae.y bV (by rw[P];exact aL) Xv (by rw[P]):aD Sg Xt 26 (ab d.Y 0 6)=some (.agg T.toArray)) (bh aL ai (Xo.C Xu) rfl rfl P Xw.K fun E q W5 W6=> ?_);have q:ae E n.Y T:=q;refine bS a (ae.y bV (by rw[P];exact aL) q (by rw[P]):aD Sg E 26 (ab n.Y 0 6)=some (.agg T.toArray)) S9 ?_;rw[(show kb o L=o by unfold kb;rw[Xz];rfl)];exact Xx Xt o T _ _ (fun j b=>b) Xw Xu (fun _ _ D=>D) E q W5 W6
 |true=>
 have Ys:=Xn.C (Xs.d WK);refine aq a (Ys.g Se) ?_;cases o with
 |au h l WM W7 m=>
 obtain⟨r,s,Yt,Zb,Yu,rfl,Yv,Yw,Yx,Yy,Yz,YA,YB,YC⟩:=(WI.fF).ea;have⟨G,z⟩:=aO (fun j=>p.Y<=j/\j≠d.Y:Sr->Prop);have Wy:∀j,p.Y<=j/\j<d.Y->G j:=fun j b=>by rw[z];exact⟨b.1,Z⟩
 refine aZ.w (fun Wz g t=>∃(e:Sr) (w:Sk) (v:Ss Sk),Wz=L.length-e/\e<=L.length/\az t 6 w (ep m (L.take e)).length v/\bA G w/\aU cE 6 G t (ep m (L.take e)) v/\ae t d.Y [I h,I l,r,s,w]/\ad d.Y d t/\g.e=35/\g.N 4=ab n.Y 0 6/\g.N 5=ab d.Y 0 6/\g.N 14=WX/\g.N 15=I (L.length:Sr)/\g.N 16=I (e:Sr))
  (fun Wz g t=>Wz= .bb 0/\∃(w:Sk) (v:Ss Sk),az t 6 w (ep m L).length v/\bA G w/\aU cE 6 G t (ep m L) v/\ae t d.Y [I h,I l,r,s,w]/\ad d.Y d t/\g.e=35/\g.N 4=ab n.Y 0 6/\g.N 5=ab d.Y 0 6)
  ⟨0,Yt,Yu,rfl,Z,by rw[SL];exact Yx.C U,YA.b Wy,by rw[SL];exact(YC.b bY Wy).C bY U,Xv,U,V a⟩ ?_ ?_
 ·clear a g;rintro WL W4 Wz g t ⟨e,w,v,rfl,Zc,WA,W8,WB,WC,y,a⟩;by_cases WN:e<L.length;rotate_left
  ·obtain rfl:e=L.length:=Z;rw[SN] at WA WB;refine aq a (Z:¬((L.length:Sr):Sz)<((L.length:Sr):Sz)) ?_;exact W4 _ _ _ ⟨rfl,w,v,WA,W8,WB,WC,y,V a⟩
  have W9:=WH.d (WJ.d y);have XW:=Xn.C W9;have XX:=XW.r (k:= .i64) (x:=(e:Sz)) Se bx Z Z;rw[Sm] at XX;have Zd:=y.Y;have Xa:=XW.dm gF bx WN;have⟨YD,YE,WD,XY⟩:=Yg.H e WN;rw[YE] at Xa;have⟨Xb,F⟩:=aO (SJ ⟨(L[e].1).toArray⟩::YD);rw[<-F] at Xa;have WO:Xb.length=6:=by rw[F];simp[(WD.aG)]
  have YF:Xb.all aN=true:=by rw[F,Sx,WD.K];rfl
  refine cl a (So (Z:(e:Sz)<(L.length:Sz))) XX Xa @eD @hE (aK fun Ze YG YH Zf=> ?_);have YI:lp.length+1=7:=rfl;refine aq a YI (bh bx ai YG rfl rfl WO YF fun WQ WR Zg YJ=> ?_);have WR:ae WQ t.Y Xb:=WR;have XZ:=YH.a ⟨Z,fun j b=>YJ j Z⟩;refine ax a (LB.T 2 0 fun X0 X1 X2 _ X3 Zh=> ?_);have WE:=XZ.d X3;have X4:=WC.C WE;have Xc:=WR.C X3;have X5:=WA.C WE;have YK:=WB.C bY WE;have Zi:=XZ.Y;have YL:∀X6,LA.c4 X0 (some (ab d.Y X6 6))=true:=fun X6=>LA.hT (A:=X0) (i:=d.Y) (X2 _ (by have:=WC.n;omega))
  have X7:=LA.D X2 WR.n;cases Xd:L[e] with
  |mk Q YM=>
  rw[Xd] at WD XY F;cases YM with
  |au H WS Xe Xf Xg=>
  obtain⟨YN,YO,YP,Zj,Zk,rfl,-⟩:=WD.ea;have YQ:=X4.v eh 4 6 w;have YR:aD Sg (aS WQ 0) 9 (ab t.Y 0 7)=some (.string ⟨Q.toArray⟩):=by
   have:=Xc.B fH (a:=0) (c:=7) (by rw[WO]) Z;rw[this,F];rfl
  have YS:aD Sg (aS WQ 0) 26 (ab t.Y 1 7)=some (.agg #[I H,I WS,YN,YO,YP]):=by
   have:=ae.ka bV aL Xc (a:=1) (c:=7) (by rw[WO]) Z;rw[this,F,SA,Sy,Sp aA]
  have X8:=WD.C (W9.a (WE.q W9.Y));refine hy a @a6 @bJ @jH @kp YL X7 YQ YR YS X5.m X8.m ?_;refine(OG R (aS WQ 0) Q _ _ X8 (by have:=Yh _ (Si WN);rw[Xd] at this;exact this)).b ?_;rintro _ WT ⟨WG,rfl,Xh,K⟩;have Xi:=X4.C K;have YT:=YK.C bY K;have Zl:=K.Y;refine⟨fun _=>LA.ar.R X1 (K.q Z),?_⟩;have YU:aD Sg WT 3 (ab t.Y 1 7)=some (I H):=by
   have:=(Xc.C K).B aB (a:=1) (c:=7) (by rw[WO]) Z;rw[this,F];rfl
  have Zm:bn (.agg (.string ⟨Q.toArray⟩::WG).toArray) (.agg (.string ⟨Q.toArray⟩::WG).toArray)=true:=by
   have:=Xh.m
   match WG,(Xh.aG),this with
   |[Zn,WM,Zo,m,f],_,this=>
    simp[bn,dF] at this|-
    exact⟨by simp[b9],this⟩
  refine aW a @bJ X7 YU ?_;have YV:=z1 m (L.take e);have Zp:m.length<=100000:=by cases Xl;assumption
  rw[Sq] at YV;refine(OF G WT w _ v (X5.C K) YT Z (Q,.au H WS Xe Xf Xg) _ ⟨WG,rfl,(Xh.b (fun j b=>by rw[z];exact⟨Z,ag Xi.n⟩):aE G WT WG (.au H WS Xe Xf Xg)),XY⟩ (decide (H≠0))).b ?_;rintro WU YW ⟨YX,WV,YY,Xj,X9⟩;refine⟨fun _=>LA.ar.R X1 (Xj.q Z),?_⟩;have YZ:ep m (L.take (e+1))=rk (ep m (L.take e)) (Q,.au H WS Xe Xf Xg) (decide (H≠0)):=by
   rw[GB WN,Xd,Of];rfl
  rw[<-YZ] at WV X9;refine LB.gV mC ai (Xi.C Xj) (b:=4) (c:=6) rfl (a:=[WU]) WV.c.gA rfl aA (by simp[WV.c.aN]) (fun D=>SC rfl D) ?_;intro Ya Y0 Yb Xk;have Yc:∀j,G j->ak (bI d.Y)≠some j:=fun j b f=>by
   have f:some d.Y=some j:=f;injection f with f;rw[z] at b;exact b.2 f.symm
  have Yd:∀j,ak WU=some j->G j:=fun j b=>((fun j b=>by rw[z];exact⟨Z,ag Xi.n⟩):∀j,WT.Y<=j->G j) j (YY j b)
  refine ax a ?_;exact aH (L.length-(e+1)) Z ⟨e+1,WU,YX,rfl,Z,(WV.f Yb Xk (fun f=>Yc _ (Yd _ f) rfl)).c,bA.gE Yd,((X9.b bY (fun j b=>b.1)).j bY (aF.f Yb Xk) Yc),(Y0:ae Ya d.Y [I h,I l,r,s,WU]),(((y.d WE).a (K.q Z)).a (Xj.q Z)).a (⟨Z,fun j b=>Xk j Z⟩:ad d.Y YW Ya),V a⟩
 clear a g;rintro Wz g t ⟨rfl,w,v,WA,W8,WB,WC,y,a⟩;have Ye:aE G t [I h,I l,r,s,w] (.au h l WM W7 (ep m L)):=aE.lZ (Yv.C y) (Yw.C y) WA (Yy.b Wy) (Yz.b Wy) W8 ((YB.b cm Wy).C cm y) WB;have Yf:=WJ.d y;refine aq a (ae.y bV (a:=[I h,I l,r,s,w]) aL WC rfl:aD Sg t 26 (ab d.Y 0 6)=some (.agg #[I h,I l,r,s,w])) (bh aL ai (Xo.C Yf) rfl rfl rfl Ye.K fun E q W5 W6=> ?_);have q:ae E n.Y [I h,I l,r,s,w]:=q;refine bS a (ae.y bV (a:=[I h,I l,r,s,w]) aL q rfl:aD Sg E 26 (ab n.Y 0 6)=some (.agg #[I h,I l,r,s,w])) S9 ?_;rw[(show kb (.au h l WM W7 m) L= .au h l WM W7 (ep m L) by unfold kb;rw[Xz];rfl)];exact Xx t _ _ G _ (fun j b=>by rw[z] at b;exact b.1) Ye Yf (fun _ _ D=>D) E q W5 W6
end Go.Proofs.YtgpmffbleaphkaaGreat