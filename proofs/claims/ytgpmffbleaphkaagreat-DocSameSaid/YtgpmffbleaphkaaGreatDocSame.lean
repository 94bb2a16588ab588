/-
  The statement DocSame: two documents are the same up to numbers, or not; alike, if streams that decode are held by what they decode to; by other numbers a document is the same: the law returns true.
  Conditions: none.
-/
import Derived.Test.YtgpmffbleaphkaaGreatRows
import Derived.Test.YtgpmffbleaphkaaGreatDsE
open Go.Proofs.Tryz renaming prog->Se,underlying27->Sf,params3->Sg,f3->Sm,underlying30->Sn,checked->So,func3->Sp
open Nat renaming le_refl->Sh,add_zero->Sq
open Go renaming Value->Si
open List renaming getElem_mem->Sj,all_eq_true->Sk,length_map->Sl
set_option linter.unusedSimpArgs false
set_option linter.unusedVariables false
set_option maxRecDepth 100000
namespace Go.Cl
theorem acD (m:Int){D:List (Int×O)}{i:Nat}(h:i<D.length):(iz m D).take (i+1)=(iz m D).take i++[(D[i].1+m,cK m D[i].2)]:=by
 rw[List.take_add_one,List.getElem?_eq_getElem (show i<(iz m D).length by unfold iz;rw[Sl];exact h)];simp[iz]
end Go.Cl
namespace Go.Proofs.YtgpmffbleaphkaaGreat.docSame
open Go.ChangeShapes Go.WideShapes Go.ChangeAt Go.RowKit Go.Cl Go.Lib Go.Cl.Ch
theorem acE {D:cz}{b c:Si}{d a:List Si}(e:d.length=5)(f:a.length=5):eB (bk D b d c) 3 a=bk D b a c:=by
 obtain⟨a,b,c,d,g,rfl⟩:=kV e;obtain⟨a,b,c,d,e,rfl⟩:=kV f;rfl
set_option maxHeartbeats 16000000 in
theorem acF (s:J)(f:Si)(h:List Si)(l:Si)(B:List Si)(A:cz)(E:c2 (fun _=>True) s f h l B A)(YY:sL A)(P:Si)(U:List Si)(Q:Si)(WI:List Si)(F:cz)(XX:c2 (fun _=>True) s P U Q WI F)(YZ:sL F)(WW:Int)(Y0:(Lit.int .u16 WW).wf=true):
  Runs Se aw 3 [.agg (bk A f h l).toArray,.agg (bk F P U Q).toArray,.int .u16 WW] s fun XY _=>XY= .bool true:=by
 refine Runs.gZ fun Y1 Y2=> ?_
 have d:=E.a7.aG;have WJ:=XX.a7.aG;have XZ:=c9 (D:=A) (mv:=f) (iv:=l) d;refine Runs.iY 105 Sp rfl fun g a Yf Yg Yh=> ?_
 refine aq a Yf (aK fun Yi Y3 Yj ZT=> ?_);refine aR a Yg XZ (aK fun Yk Y4 X0 Wz=> ?_);have ZU:=Yj.Y;have ZV:=X0.Y;have WX:∀(g:an) (t:J),g.e=105->g.N 6= .bool true->eW Se Sm.results.toList Y1 .bF g t:=by
  intro g t a X1;refine bS a X1 Tryz.results3 ?_;rw[Y2]
 refine aq a (c9 (D:=F) (mv:=P) (iv:=Q) WJ) ((aby BJ Yk).b ?_);rintro _ Y5 ⟨rfl,Xk⟩;have ZW:=Xk.Y;have Yl:=(Yj.d X0).d Xk;have Ym:=((Y3:ae Yi s.Y (bk A f h l)).C X0).C Xk;have Yn:=(Y4:ae Yk Yi.Y (bk F P U Q)).C Xk;refine e6 a (dV Ym d) ((Hq _ Y5 A f h l B (E.fF.C Yl) YY).b ?_);rintro _ Y6 ⟨⟨WY,rfl,X2⟩,WZ⟩;have ZX:=WZ.Y;have Yo:=Yl.d WZ;cases WY with
 |false=>
  refine c0 a ?_;exact WX _ _ (V a) aa
 |true=>
 have W0:=X2 rfl;refine e6 a (dV (Yn.C WZ) WJ) ((Hq _ Y6 F P U Q WI (XX.fF.C Yo) YZ).b ?_);rintro _ Y7 ⟨⟨WY,rfl,X2⟩,Xl⟩;have ZY:=Xl.Y;have Xm:=Yo.d Xl;cases WY with
 |false=>
  refine c0 a ?_;exact WX _ _ (V a) aa
 |true=>
 have p:=W0.pJ;have WK:=(X2 rfl).pJ;have⟨K,L,G,ZZ⟩:=Ke p;have⟨Xn,W1,W2,Z0⟩:=Ke WK;obtain⟨Yp,-⟩:=k7 G;obtain⟨Yq,-⟩:=k7 W2;have Yr:=mW p Yp.kg Yp.kr;have Ys:=mW WK Yq.kg Yq.kr;have Xo:∀e∈(ew A L).aj,py 65536 e.2:=fun e W3=>KY (Yr.aj e W3) (Yr.cj e W3)
 have Yt:∀e∈(ew F W1).aj,py 65536 e.2:=fun e W3=>KY (Ys.aj e W3) (Ys.cj e W3)
 have Yu:=(Ym.C WZ).C Xl;have Yv:=(Yn.C WZ).C Xl;refine c0 a (LB.T 6 0 fun Z1 WL Yw _ W4 Z2=> ?_);have WM:=LA.D Yw Yu.n;have Xp:=LA.D Yw Yv.n;have M:=(E.fF.C Xm).C W4;have WA:=(XX.fF.C Xm).C W4;have W5:=Yu.C W4;have X3:=Yv.C W4;have Xq:∀Xr,bn (.bool Xr) (.bool Xr)=true:=fun Xr=>by cases Xr<;>rfl
 have Yx:∀H:Bool,bN Se .neq 4 (.bool H) (.bool H)=some (.bool false):=fun H=>by cases H<;>kernel_rfl
 refine eC a WM Xp (dV W5 d) (dV X3 WJ) M.m WA.m ((BD _ _ (aS Y7 0) A F f h l B P U Q WI M WA p WK K L G Z Xn W1 W2 Z).b ?_);rintro _ Y8 ⟨⟨X4,rfl,Y9⟩,n⟩;have Yy:=n.Y;refine⟨fun _=>LA.ar.R WL (n.q Z),?_⟩;refine eC a WM Xp (dV (W5.C n) d) (dV (X3.C n) WJ) M.m WA.m ?_;have Za:=M.C n;have Zb:=WA.C n;refine(acq _ _ Y8 A F f h l B P U Q WI Za Zb p WK K L G Z Xn W1 W2 Z).b ?_;rintro _ Zc ⟨⟨Zd,rfl,X5⟩,W6⟩;have Ze:=W6.Y;obtain rfl:Zd=X4:=Bool.eq_iff_iff.2 (X5.trans Y9.symm);refine⟨fun _=>LA.ar.R WL (W6.q Z),?_⟩;have W7:=n.d W6;have Yz:=W5.C W7;have YA:=X3.C W7;have YB:=M.C W7;have YC:=WA.C W7;refine je a WM Xp (dV Yz d) (dV YA WJ) M.m WA.m Xq Yx ((KC _ _ Zc A F f h l B P U Q WI YB YC p WK K L G Z Xn W1 W2 Z 65536 ai Xo Yt).b ?_);rintro _ Zf ⟨⟨Zg,rfl,Zh⟩,q⟩;have YD:=q.Y;refine⟨fun _=>LA.ar.R WL (q.q Z),?_⟩;refine eC a WM Xp (dV (Yz.C q) d) (dV (YA.C q) WJ) M.m WA.m ((acC _ _ Zf A F f h l B P U Q WI (YB.C q) (YC.C q) p WK K L G Z Xn W1 W2 Z 65536 ai Xo Yt).b ?_);rintro _ Zi ⟨⟨Zj,rfl,Zk⟩,Xs⟩;have Z3:=Xs.Y;obtain rfl:Zj=Zg:=Bool.eq_iff_iff.2 (Zk.trans Zh.symm);refine⟨fun _=>LA.ar.R WL (Xs.q Z),?_⟩;have X6:=W7.a ((q.d Xs).q Z);have YE:=W5.C X6;have Xt:=M.C X6;refine ib a WM (dV YE d) M.m Xq Yx ((BD _ _ Zi A A f h l B f h l B Xt Xt p p K L G Z K L G Z).b ?_);rintro _ Zl ⟨⟨Zm,rfl,Zn⟩,WN⟩;have Z4:=WN.Y;obtain rfl:Zm=true:=Zn.2 ⟨cQ.m _,rfl,fun i _ _=>cQ.m _⟩;refine⟨fun _=>LA.ar.R WL (WN.q Z),?_⟩;refine gX a WM (dV (YE.C WN) d) M.m Xq ((KC _ _ Zl A A f h l B f h l B (Xt.C WN) (Xt.C WN) p p K L G Z K L G Z 65536 ai Xo Xo).b ?_);rintro _ Xu ⟨⟨Zo,rfl,Zp⟩,X7⟩;have Z5:=X7.Y;obtain rfl:Zo=true:=Zp.2 ⟨cQ.m _,rfl,fun i _ _=>by unfold lN;split<;>exact cQ.m _⟩;refine⟨fun _=>LA.ar.R WL (X7.q Z),?_⟩;have YF:=X6.a ((WN.d X7).q Z);have X8:=Xm.a ((W4.d YF).q Xm.Y);have W8:=W5.C YF;have Zq:nE.length+1=10:=rfl;refine gX a Xq (dV W8 d) @qD @qE (aK fun Zr Zs Zt Z6=> ?_);have Zu:=nY E;have Zv:=nX E;have Z7:=X8.Y;refine e6 a Zq ?_;refine bh mH ai Zs rfl rfl (by simpa using Zv) Zu ?_;intro Zw X9 Z8 Zx;have X9:ae Zw Xu.Y (bk A f h l):=X9;refine e6 a @dA (su uE ai X9 (b:=8) (c:=10) (by rw[XZ]) (a:=[av]) rfl rfl (by rw[XZ];exact Sh _) rfl fun O Ya Z9 Zy=> ?_);rw[yu d] at Ya;obtain⟨zaa,zab⟩:0<=WW/\WW<65536:=by
  simp[Lit.wf,IntKind.min,IntKind.max,IntKind.bits,IntKind.signed] at Y0;omega
 have⟨m,Zz⟩:=aO (WW+1);refine nh a Yh (dH Sn Tryz.underlying3) ?_;rw[<-Zz];have ZA:∀b,b≠Xu.Y->O.i.N b=Zr.i.N b:=fun b r=>by rw[Zy b r,Zx b r]
 have ZB:Xu.Y+1<=O.Y:=Z;have YG:=Zt.a ⟨Z,fun b r=>ZA b Z⟩;have W9:=X8.d YG;have YH:=W8.C YG;have zac:=E.C W9;have⟨o,ZC⟩:=aO Xu.Y;rw[<-ZC] at Ya ZB|-
 have⟨Xa,Xb⟩:=aO (fun XY b=>O.Y<=b/\¬(fun _=>False) b/\ak XY≠some b:Si->Nat->Prop);have zad:=p.aG;refine aZ.w (fun WO g t=>∃(i:Nat) (y:Si) (w:List Si),WO=A.aj.length-i/\i<=A.aj.length/\ao t 6 y i w/\aU g7 6 (Xa y) t ((iz m A.aj).take i) w/\ay O.Y y/\ae t o (bk A f h y)/\aF (bI o) O t/\g.e=105/\g.N 3=ab s.Y 0 10/\g.N 7=ab o 0 10/\g.N 8=I m/\g.N 9=I (i:Nat))
  (fun WO g t=>(WO= .bF/\g.e=105/\g.N 6= .bool true)\/(WO= .bb 0/\∃(y:Si) (w:List Si),ao t 6 y A.aj.length w/\aU g7 6 (Xa y) t (iz m A.aj) w/\ay O.Y y/\ae t o (bk A f h y)/\aF (bI o) O t/\g.e=105/\g.N 3=ab s.Y 0 10/\g.N 7=ab o 0 10/\g.N 8=I m))
  ⟨0,av,[],rfl,Z,.al,by rw[List.take_zero];exact aU.al,ay.al _,Ya,aF.p _ _,V a,aa,aa,aa,aa⟩ ?_ ?_
 ·clear a Yf Yg Yh g;rintro zae YI WO g t ⟨i,y,w,rfl,zaf,WQ,Xc,WR,WB,R,a,S,W,WC,Xd⟩;have ZD:=R.Y;have Xe:=W9.a ⟨ZD,fun b r=>R.N b (ag W9.Y) (fun e=>by
   have e:some o=some b:=e;injection e with e;omega)⟩
  have T:=E.C Xe;have X:ae t s.Y (bk A f h l):=YH.j R (fun e=>by
   have e:some o=some s.Y:=e;injection e with e;have:=W8.n;omega)
  by_cases z:i<A.aj.length;rotate_left
  ·obtain rfl:i=A.aj.length:=Z;rw[List.take_of_length_le (by unfold iz;rw[Sl];exact Sh _)] at Xc;have Xv:¬((A.aj.length:Nat):Int)<((A.aj.length:Nat):Int):=Z;refine ch a S Xd @dA (dB X d) (T.aj.g Sf) Xv ?_;exact YI _ _ _ (.inr ⟨rfl,y,w,WQ,Xc,WR,WB,R,V a,V S,V W,V WC⟩)
  have Xv:(i:Int)<(A.aj.length:Int):=Z;have WS:=T.aj.r (k:= .i64) (x:=(i:Int)) Sf eG Z Z;rw[Int.toNat_natCast] at WS;obtain⟨Xw,-⟩:=ly T.aj z;obtain⟨YJ,-⟩:=mI (T.dz.H i z);have WT:=T.aj.fE aB z (j:=0) Z;rw[Sq,YJ] at WT;have zag:=W0.O9 _ (Sj z);by_cases YK:A.aj[i].1+m>8388607
  ·refine hy a S WC Xd @dA (dB X d) (T.aj.g Sf) (eq_true Xv) WS Xw WT (eq_true YK) ?_;exact YI _ _ _ (.inl ⟨rfl,V a,aa⟩)
  refine hy a S WC Xd @dA (dB X d) (T.aj.g Sf) (eq_true Xv) WS Xw WT YK (LB.T 1 1 fun zah YL Yb _ Xx zai=> ?_);have ZE:=LA.D Yb X.n;have ZF:=LA.D Yb WB.n;have WU:=T.C Xx;have WS:=WU.aj.r (k:= .i64) (x:=(i:Int)) Sf eG Z Z;rw[Int.toNat_natCast] at WS;have⟨Xw,X4⟩:=ly WU.aj z;obtain⟨-,-,YM,-⟩:=mI (WU.dz.H i z);have WT:=WU.aj.fE aB z (j:=0) Z;rw[Sq,YJ] at WT;have ZG:=WU.aj.hC bV aL z (j:=1) Z;refine wP a S W WC Xd @dA ZE ZF (dB (X.C Xx) d) (dB (WB.C Xx) d) WU.aj.m WQ.m WS Xw X4 WT ZG YM.m @fT (LA.g0 T.aj Yb z) ?_;refine(K5 m Z Z _ A.aj[i].2 (Sh _) _ (aS t 1) _ 28 YM (p.aj _ (Sj z)) (W0.Hl _ (Sj z))).b ?_;rintro _ ZH ⟨YN,rfl,Wy,n⟩;have Yy:=n.Y;have WD:=Wy.aG;refine⟨fun _=>LA.ar.R YL (n.q Z),?_⟩;have⟨WE,Xf⟩:=aO (Value.int .i64 (A.aj[i].1+m)::YN);have Xy:WE.length=6:=by rw[Xf];simp[WD]
  have ZI:WE.all aN=true:=by rw[Xf,List.all_cons,Wy.K];rfl
  have ZJ:bn (.agg WE.toArray) (.agg WE.toArray)=true:=by rw[Xf];exact BB _ Wy.m
  have YO:=tu (A.aj[i].1+m) WD;rw[<-Xf] at YO;simp(disch:=omega)only[aI,dy,bC,Nat.reduceLT,↓reduceIte,a,YO,ZJ,gC (a:=WE.toArray) Sf eG nZ rr rfl Xy (by decide)];refine LB.fD (a:=t.Y) Xy Z (Sh _) ?_;intro zaj Xg ZK zak W6 Wz WG;have Xh:ad t.Y t Xg:=(Xx.d n).a W6;have Ze:=Xh.Y;have YP:g7 (Xa y) Xg WE (A.aj[i].1+m,cK m A.aj[i].2):=by
   refine⟨YN,Xf,?_⟩;refine(Wy.f Wz WG Z).b (fun b r=> ?_);rw[Xb];exact⟨Z,fun Xi=>Xi,fun e=>ag (WQ.z _ e)⟩
  refine ax a (LB.jE Sf Sf (.inl ⟨_,rfl⟩) eG Ai nZ rfl (WQ.C Xh) ZK.c.X Xy ai ZI Z Z (a:=O.Y) WR Z (fun Xi=>absurd rfl Xi) (fun b r=>ag (YL b r)) fun WV WH Yc YQ Xz ZL=> ?_);have YD:=Xz.Y;have YR:=Xc.C hY Xh;rw[Xb] at YR YP;have XW:=YR.dO hY Xy YP Xz ZL;rw[show(fun b=>O.Y<=b/\¬(fun _=>False) b/\ak WV≠some b)=Xa WV by rw[Xb]] at XW;have ZM:ak WV≠some o:=fun e=>ag (YQ _ e)
  have ZN:ak y≠some o:=fun e=>ag (WR _ e)
  refine aR a W @dA (LB.gV uE ai ((WB.C Xh).j Xz ZN) (b:=8) (c:=10) (by rw[c9 d]) (a:=[WV]) Yc.c.gA rfl (by rw[c9 d];exact Sh _) (by simp[Yc.c.aN]) (fun Xi=>absurd rfl Xi) fun YS YT YU Yd=> ?_);rw[yu d] at YT;have ZO:aF (bI o) WH YS:=aF.f YU Yd;have ZP:∀b,Xa WV b->ak (bI o)≠some b:=fun b r e=>by
   have e:some o=some b:=e;injection e with e;rw[Xb] at r;have:=r.1;omega
  refine aq a Xd ?_;refine aH (A.aj.length-(i+1)) Z ⟨i+1,WV,w++WE,rfl,Z,Yc.f YU Yd ZM,?_,YQ,YT,?_,V a,V S,V W,V WC,aa⟩
  ·rw[acD m z];exact XW.j hY ZO ZP
  exact⟨Z,fun H ZQ YV=>by rw[Yd H (fun e=>YV (by rw[e];rfl)),Xz.N H Z (fun e=>ag (WR _ e)),Xh.N H Z,R.N H ZQ YV]⟩
 rintro WO g t (⟨rfl,a,X1⟩|⟨rfl,y,w,WQ,Xc,WR,WB,R,a,S,W,WC⟩)
 ·refine kN ?_;exact WX _ _ a X1
 have Xe:=W9.a ⟨(R.Y),fun b r=>R.N b (ag W9.Y) (fun e=>by
  have e:some o=some b:=e;injection e with e;omega)⟩
 have X:ae t s.Y (bk A f h l):=YH.j R (fun e=>by
  have e:some o=some s.Y:=e;injection e with e;have:=W8.n;omega)
 refine bp a S WC @lx (lz X d) ((K5 m Z Z _ A.a7 (Sh _) _ t _ 28 (E.C Xe).a7 p.a7 W0.xA).b ?_);rintro _ ZH ⟨Xj,rfl,Wy,n⟩;have Yy:=n.Y;have WD:=Wy.aG;refine aR a W @lx (su aL ai (WB.C n) (b:=3) (c:=10) (by rw[c9 d]) (v:= .agg Xj.toArray) (a:=Xj) rfl WD (by rw[c9 d];decide) Wy.K fun Xg Ye Wz WG=> ?_);rw[acE d WD] at Ye;refine fR a W @lx (lz Ye WD) ?_;have zal:o<O.Y:=Z;have YW:=Wy.f Wz WG (ag WB.n);refine(Ag (cK m A.a7) _ Xg Xj YW (BI m p.a7).Gc).b ?_;rintro _ WH ⟨⟨WY,rfl,-⟩,q⟩;cases WY with
 |false=>
  refine c0 a ?_;exact WX _ _ (V a) aa
 |true=>
 have YD:=q.Y;have YX:ad s.Y s WH:=(Xe.a ⟨Z,fun b r=>by rw[WG b (ag X8.Y),n.N b (ag Xe.Y)]⟩:ad s.Y s Xg).d q;have ZR:c2 (fun _=>True) WH f Xj y w (tA m A):=by
  have XW:=((Xc.C hY n).j (u:=bI o) hY (aF.f Wz WG) (fun b r e=>by
   have e:some o=some b:=e;injection e with e;rw[Xb] at r;have:=r.1;omega)).C hY q
  refine⟨E.eb.C YX,E.sK,(YW.C q).b (fun _ _=>trivial),?_,bA.gE (fun _ _=>trivial),XW.b hY (fun _ _=>trivial)⟩;show az WH 6 y (iz m A.aj).length w;unfold iz;rw[Sl];exact(((WQ.C n).f Wz WG (fun e=>ag (WR _ e))).C q).c
 refine gX a S W (dV (((X.C n).f Wz WG (ag W8.n)).C q:ae WH s.Y (bk A f h l)) d) (dV (Ye.C q) WD) ?_;have⟨ZS,X5⟩:=acz m W0 G;refine(BD _ _ WH A (tA m A) f h l B f Xj y w (E.C YX) ZR p (acy m p) K L G Z K _ ZS Z).b ?_;rw[X5];rintro _ YS ⟨⟨H,rfl,e⟩,Xs⟩;obtain rfl:H=true:=e.2 ⟨cQ.m _,rfl,fun i _ _=>cQ.m _⟩;refine c0 a ?_;exact WX _ _ (V a) aa
theorem br:ownKnob Se.godebug=none:=by kernel_rfl
theorem acG:tF Se aw=true:=by kernel_rfl
theorem H5:laidOutB Se=true:=by kernel_rfl
theorem acH:∀t∈Sm.params.toList,Se.readableRec t=true/\t<Se.types.size:=by
 have:(Sm.params.toList.all fun t=>Se.readableRec t&&decide (t<Se.types.size))=true:=by kernel_rfl
 intro t a
 simpa using Sk.mp this t a
theorem acI (g:Os)(r:g.Started)(H:Type)(a:TypeId×Si->H):
  ReturnsInHanded {} So g 3 .any (Rows.docSameSpec.pre6 a Se Sm Rows.docSameRow.domain false) (Rows.docSameSpec.post a Se Sm false true false false):=by
 refine returnsInHanded_of_change_sized (C:=So) br r cW Sp
  (ChangeSpec.witness6 (enc:=a) (C:=So) false ⟨#[], #[.agg #[I 0,av,I 0,I 0,I 0,av,av,av,av],.agg #[I 0,av,I 0,I 0,I 0,av,av,av,av],.int .u16 0],[]⟩ 8 cW cW cW cW) ?_
 intro W c s u WH WI e h WJ i _;have⟨v,WK,b,_,_,_,_⟩:=id h;have b:DataW.TrodAll a Se W 0 (fun _=>true) true Sm.params.toList s.toList u v:=b;rw[Sg] at b;obtain⟨k,l,w,m,n,WL,WM,WN,WO,rfl,rfl,rfl,x,y,z⟩:=trodAll_three b;have⟨WQ,A,B,D,E,F,G,K,L,M⟩:=Hy (jC.jA W) (e 0 _ _ (by rw[Sg];rfl) rfl:Value.okWide Se W .any c 29 k) x ((fun o O=>by simpa using Sk.1 i o (DataW.weights_mem_each (j:=0) (t:=29) (d:=m) (by rw[Sg];rfl) rfl o O)):fG Se 29 m);have⟨P,Q,R,S,T,U,f,X,Wy,Wz⟩:=Hy G.nQ (e 1 _ _ (by rw[Sg];rfl) rfl:Value.okWide Se W .any c 29 l) y ((fun p WA=>by simpa using Sk.1 i p (DataW.weights_mem_each (j:=1) (t:=29) (d:=n) (by rw[Sg];rfl) rfl p WA)):fG Se 29 n);obtain⟨q,rfl,_,_,WB⟩:=open_int Sn (e 2 _ _ (by rw[Sg];rfl) rfl:Value.okWide Se W .any c 30 w) z;refine(Runs.N1 N3 (N4 _) acG rfl f.nQ (acF P.h A B D E F (L.C f.A) M Q R S T U Wy Wz q WB) (c:= #[k,l,.int .u16 q]) (bo.ed (K.b f.gv) (bo.ed X (bo.ed (.gf _ _) bo.al)))).mono fun WR WS ⟨WC,WD⟩=> ?_
 subst WC;exact Nc H5 acH rfl Tryz.underlying4 rfl (fun WE WG=>by match WE,WG with|[WT,WU,WV],_=>rfl) h WD
theorem eB:Rows.docSameRow.holds Tryz.pinned (OpenSpec.ofChange Rows.docSameSpec):=
 OpenClaim.holds_of_wide 3 Sm rfl rfl rfl rfl rfl rfl rfl ⟨rfl,rfl,rfl,rfl,rfl⟩ rfl rfl rfl rfl rfl cW Sp cW
  (of_decide_eq_true cW) (by unfold Func.isWrapper;first|(rw[if_pos (by decide+kernel)];kernel_rfl)|(rw[if_neg (by decide+kernel)];exact⟨rfl,rfl⟩))
  (fun a b H c _=>acI a b H c)
theorem proved:Rows.DocSameSaid:=eB
#print axioms proved
end Go.Proofs.YtgpmffbleaphkaaGreat.docSame