import Derived.Test.YtgpmffbleaphkaaGreatBitsP
open _root_ renaming Nat->Se,List->Sg,UInt8->Sh,Int->Si,eq_true->Sk,if_pos->Sn,if_neg->Sp,Except->Sv,reduceIte->SF,eq_false->SS
open Go.Proofs.Tryz renaming prog->Sf,underlying3->Sl,underlying22->Sm,underlying124->Ss,results136->Sw,underlying193->SC,results135->SE,underlying5->SH,results175->SI,underlying200->SJ,underlying145->SK,underlying178->SL,underlying180->SM,results161->SO,func135->SW,results158->SX,results160->SY,results163->SZ,results162->S0,func158->S8,results138->Tf,func160->Tj,func161->Tl,func162->Tm
open List renaming getD_eq_getElem?_getD->Sj,length_append->Sr,getElem?_eq_getElem->SA,replicate->SP,length_cons->SR,take_length->SU,getElem?_eq_none->S1,length_singleton->S2,take_add_one->S9,cons_append->Tc,take_zero->Th,count_nil->Ti
open Go renaming Value->So
open Int renaming toNat_natCast->Sq,tdiv_eq_ediv_of_nonneg->Sx,tmod_eq_emod_of_nonneg->Sy
open Nat renaming reduceEqDiff->St,le_trans->Su,le_refl->Sz,lt_of_lt_of_le->SB,reduceLT->SD,pow_le_pow_right->SG,mul_le_mul->SN,zero_le->S5,lt_of_le_of_lt->S7,sub_self->Ta,mod_eq_of_lt->Tb,min_eq_left->Td,div_le_self->Te,mod_lt->Tg,add_zero->Tk
open Go.IntKind renaming i64->SQ
open BitVec renaming ofInt->SV,ofInt_natCast->S3,toNat_ofNat->S6
open UInt8 renaming ofNat->S4
set_option maxHeartbeats 16000000
set_option linter.unusedSimpArgs false
set_option linter.unusedVariables false
set_option maxRecDepth 100000
namespace Go.Cl.Bt
structure bj (jx ic:Se) (s s' :J):Prop where
 Y:s.Y<=s'.Y
 N:∀i,i<s.Y->i≠jx->i≠ic->s'.i.N i=s.i.N i
theorem bj.p (a b:Se)(s:J):bj a b s s:=⟨Sz _,fun _ _ _ _=>rfl⟩
theorem bj.a {a b:Se}{s c d:J}(h:bj a b s c)(k:bj a b c d):bj a b s d:=⟨Su h.Y k.Y,fun i e f g=>(k.N i (SB e h.Y) f g).trans (h.N i e f g)⟩
theorem bj.u {c a:Se}{s b:J}(e:b.Y=s.Y)(d:∀j,j≠c->b.i.N j=s.i.N j):bj c a s b:=⟨Z,fun i _ h _=>d i h⟩
end Go.Cl.Bt
namespace Go.Proofs.YtgpmffbleaphkaaGreat
open Go.Cl Go.Cl.Sto Go.Cl.Bt Go.Cl.Rw
theorem gL.j {a b:Se}{s c:J}(h:aF (eS b) s c):bj a b s c:=⟨h.Y,fun i d _ f=>h.N i d (fun e=>f (by injection e with e;exact e.symm))⟩
theorem u6:c3 Sf 145=some false:=by kernel_rfl
theorem IN:bc Sf 145=some 1:=by kernel_rfl
theorem qs (i o c:Se):aY Sf 200 (ab i o c) 0=some (ab i (o+0) c):=by
 unfold aY;rw[SJ];simp[IN]
theorem tb (i o c:Se):aY Sf 200 (ab i o c) 1=some (ab i (o+1) c):=by
 unfold aY;rw[SJ];simp[aQ]
theorem mc (i o c:Se):aY Sf 200 (ab i o c) 2=some (ab i (o+2) c):=by
 unfold aY;rw[SJ];simp[aQ]
abbrev jK (j:Se):So:=ab j 0 4
theorem Rx (i:Se):cP Sf 200 [(0,eS i)]=some (.agg #[eS i,I 0,I 0]):=by
 unfold cP;rw[SJ]
 rw[(show bK Sf 200=some (.agg #[.pointer none,I 0,I 0]) by kernel_rfl)];have a:(eS i).cells.toList=[eS i]:=rfl;simp only[eT,jW,a];simp[IN,aQ,cp,hO,eP,di]
structure td (base:Se) (s:J) (jx ic:Se) (b:Sg Sh) (a p now left:Se):Prop where
 iO:im base s ic b p
 F:ae s jx [eS ic,I now,I left]
 l:a+left=8*p
 qt:left<=8
 qu:0<left->now=qq b p left
 oi:now<256
 gn:base<=jx
 me:base<=ic
 U:jx≠ic
def hg (b:Se)(s:J)(c d:Se)(e:Sg Sh)(f:Se):Prop:=∃p g a,td b s c d e f p g a/\a<=7
theorem Ry (a:Se)(s:J)(x:So)(b:Sg Sh)(g:kL a s 1 x b.length (aM b))(h:a<=s.Y):
  Runs Sf aw 144 [x] s fun v d=>∃e i,v=jK e/\hg a d e i b 0/\ad s.Y s d:=by
 refine Runs.ey 7 Tryz.func144 rfl fun o c j=> ?_
 refine aq c j ((AU a s x b g h).b ?_);rintro _ k ⟨rfl,l,m,p⟩;refine aq c @Rx (aK fun q n f r=> ?_);refine b0 c @SR.{0} @List.length_nil.{0} @Tryz.results144 ?_;exact⟨k.Y,s.Y,rfl,⟨0,0,0,⟨l.C Z f,n,rfl,Z,fun t=>Z,Z,Z,Z,Z⟩,Z⟩,m.d f⟩
theorem Rz (c:Se)(s:J)(a b:Se)(e:Sg Sh)(d:Se)(h:hg c s a b e d)(j:c<=s.Y):
  Runs Sf aw 176 [jK a] s fun _ f=>hg c f a b e (8*((d+7)/8))/\bj a b s f:=by
 have⟨p,k,q,h,r⟩:=h;have t:=h.l;refine Runs.ey 7 Tryz.func176 rfl fun u l m=> ?_
 refine aW l m (M8 SC) @mc ?_;refine db aQ h.F rfl aA rfl ?_;intro n o g i;refine lo @Tryz.results176 ?_;have v:8*((d+7)/8)=8*p:=Z;exact⟨⟨p,k,0,⟨h.iO.j j (kd h.gn) (aF.f g i) (iq h.U),o,Z,Z,fun h=>Z,h.oi,h.gn,h.me,h.U⟩,Z⟩,(bj.u g i:bj a b s n)⟩
def oj (b:Sg Sh)(a:Se)(n:Si):Prop:=0<=n/\n<=16/\n<=8*(b.length:Si)-a
instance (b:Sg Sh) (a:Se) (n:Si):Decidable (oj b a n):=by unfold oj;infer_instance
def om (b:Sg Sh)(a:Se)(n:Si):Si:=if oj b a n then(bZ b a n.toNat:Se) else-1
def IP (f:Se)(s:J)(c d:Se)(b:Sg Sh)(a:Se)(n:Si)(v:So)(e:J):Prop:=
 v=I (om b a n)/\hg f e c d b (if oj b a n then a+n.toNat else a)/\bj c d s e
theorem IQ
  (x:Se) (O:J) (n l:Se) (d:Sg Sh) (f:Se) (P:Si) (h:hg x O n l d f) (Q:x<=O.Y) (Xh:d.length<=4000000):
  Runs Sf aw 175 [jK n,I P] O (IP x O n l d f P):=by
 have⟨p,S,o,h,T⟩:=id h;have W2:=h.l;have W3:p<=d.length:=h.iO.choose_spec.2.2.2;have WQ:=h.F.o u6 0 4;have R:=h.F.o aB 2 4;refine Runs.cS 93 Tryz.func175 rfl fun v e j U=> ?_
 have WT:¬oj d f P->IP x O n l d f P (I (-1)) O:=fun W4=>⟨by unfold om;rw[Sp W4],by rw[Sp W4];exact⟨p,S,o,h,T⟩,bj.p _ _ _⟩
 refine ax e ?_;have⟨WB,W5⟩:=aO (fun WC=>decide (WC<O.Y):Se->Bool);have W7:∀WC,WB WC=true->WC<O.Y:=by
  intro WC h;rw[W5] at h;exact of_decide_eq_true h
 have WD:∀W6,LA.c4 WB (some (ab n W6 4))=true:=fun W6=>LA.hT (A:=WB) (i:=n) (by rw[W5];exact decide_eq_true (h.F.n))
 have Xi:LA.c4 WB (some (jK n))=true:=WD 0;refine LB.kQ.hx WB W7 1 0 cW cW ?_;by_cases WR:P<0
 ·refine jF e j U (kK SC) (kK SK) @qs WQ WD @nf (Sk WR) ?_;refine bO e @SI ?_;exact WT (fun w=>ag w.1)
 by_cases WU:16<P
 ·refine pT e j U (kK SC) (kK SK) @qs WQ WD @nf WR (Sk WU) ?_;refine bO e @SI ?_;exact WT (fun w=>ag w.2.1)
 obtain⟨m,rfl⟩:∃m:Se,P=m:=⟨P.toNat,Z⟩
 have WS:(m:Si)<=8*(d.length:Si)-f->oj d f m:=fun w=>⟨Z,Z,w⟩
 by_cases Xj:o<m
 ·have WV:(o:Si)<(m:Si):=Z;have W8:(m:Si)-(o:Si)+7=((m-o+7:Se):Si):=Z;refine NG e j U (kK SC) (kK SK) @qs @mc WQ R WD @nf WR WU (Sk WV) W8 @kI @rA ?_;refine(AV x O l d p h.iO Z).b ?_;rintro _ W9 ⟨rfl,k⟩;subst k;refine⟨fun _=>LA.dU.p _ _,?_⟩;by_cases Xk:d.length-p<(m-o+7)/8
  ·have WW:((d.length-p:Se):Si)<(((m-o+7)/8:Se):Si):=Z;refine e6 e (Sk WW) ?_;refine bO e @SI ?_;exact WT (fun w=>ag w.2.2)
  have WW:¬((d.length-p:Se):Si)<(((m-o+7)/8:Se):Si):=Z;have WE:(m:Si)<=8*(d.length:Si)-f:=Z;refine nh e U WW ?_;refine aZ.eO (fun w v WG=>∃(c p S o:Se),w=m-c/\c<=m/\td x WG n l d (f+c) p S o/\o<=7/\bj n l W9 WG/\v.e=93/\v.N 0=jK n/\v.N 5=I (bZ d f c:Se)/\v.N 48=I m/\v.N 49=I c)
   ⟨0,p,S,o,rfl,Z,h,T,bj.p _ _ _,V e,V j,aa,V U,aa⟩ ?_
  rintro w v WX ⟨c,p,W,t,rfl,Xa,h,T,y,e,j,X,z,B⟩;have W2:=h.l;have W3:p<=d.length:=h.iO.choose_spec.2.2.2;by_cases Xb:c<m
  ·have WH:(c:Si)<m:=Z;have R:=h.F.o aB 2 4;by_cases Xc:t=0
   ·have Wy:(t:Si)=0:=Z;have Xd:p<d.length:=Z;refine gY e j z B (Sk WH) @qs @mc (h.F.o u6 0 4) R (Sk Wy) ((x1 x WX l d p h.iO (Su Q y.Y) Z).b ?_);rintro _ Xe ⟨rfl,WI,WJ⟩;have WK:=y.a (gL.j (a:=n) WJ);rw[Td Z] at WI;refine aR e (show gK d p=((d.getD p 0).toNat:Si) by unfold gK;rw[Sn Z,Sq]) @tb ?_;refine db aQ (h.F.j WJ (iq (fun WY=>h.U WY.symm))) rfl aA rfl ?_;intro WL u q k;refine aq e @mc ?_;refine db aQ u rfl aA rfl ?_;intro Wz D r s;have Xf:=Su Q WK.Y;have WZ:=WI.j Xf (kd h.gn) (aF.f q k) (iq h.U);have Xg:=WZ.j Z (kd h.gn) (aF.f r s) (iq h.U);have WM:=WK.a ((bj.u (a:=l) q k).a (bj.u r s));have g:td x Wz n l d (f+c) (p+1) (d.getD p 0).toNat 8:=⟨Xg,D,Z,Z,fun _=>(IM d p).symm,(d.getD p 0).toNat_lt,h.gn,h.me,h.U⟩;refine aR e j X ?_;have E:=(g).qt;have F:=(g).qu Z;have G:=x7 (b:=d) (a:=f+c) Z E ((g).l);rw[<-F] at G;have H:=oa d (f+c);have K:c<32:=Z;have L:=sP (fx d f c) H K;rw[(rfl:bZ d f c+cD d (f+c)*2^c=bZ d f (c+1))] at L;have W0:=(g).oi;have M:=x4 ((d.getD p 0).toNat) Z;rw[G] at M;refine gY e j @tb ((g).F.o aB 1 4) @jc M (qf Sf 3 .i64 H K) @j4 L @x5 ?_;refine db aQ (g).F rfl aA rfl ?_;intro WL u q k;simp(disch:=omega)only[aI,bD,SD,St,↓SF,e,j,mc,(u.o aB 2 4),(Z:((8:Se):Si)-1=((8-1:Se):Si)),cg];refine db aQ u rfl (by simp) rfl ?_;intro Wz D r s;simp(disch:=omega)only[aI,SD,St,↓SF,e,B,cg];have WN:=Su Q (WM).Y;have WA:=(g).iO.j WN (kd (g).gn) (aF.f q k) (iq (g).U);have WO:=WA.j (by omega) (kd (g).gn) (aF.f r s) (iq (g).U);refine aH (m-(c+1)) (by omega) ⟨c+1,_,(d.getD p 0).toNat/2,8-1,rfl,by omega,⟨WO,D,Z,Z,fun W1=>by rw[F];exact x6 Z E,Z,(g).gn,(g).me,(g).U⟩,Z,((WM).a ((bj.u (a:=l) q k).a (bj.u r s))),V e,V j,aa,V z,aa⟩
   have Wy:¬(t:Si)=0:=Z;refine cX e j z B X (Sk WH) @mc R Wy ?_;have E:=(h).qt;have F:=(h).qu Z;have G:=x7 (b:=d) (a:=f+c) Z E ((h).l);rw[<-F] at G;have H:=oa d (f+c);have K:c<32:=Z;have L:=sP (fx d f c) H K;rw[(rfl:bZ d f c+cD d (f+c)*2^c=bZ d f (c+1))] at L;have W0:=(h).oi;have M:=x4 (W) Z;rw[G] at M;refine gY e j @tb ((h).F.o aB 1 4) @jc M (qf Sf 3 .i64 H K) @j4 L @x5 ?_;refine db aQ (h).F rfl aA rfl ?_;intro WL u q k;refine bp e j @mc (u.o aB 2 4) (Z:((t:Se):Si)-1=((t-1:Se):Si)) ?_;refine db aQ u rfl aA rfl ?_;intro Wz D r s;refine aq e B ?_;have WN:=Su Q (y).Y;have WA:=(h).iO.j WN (kd (h).gn) (aF.f q k) (iq (h).U);have WO:=WA.j Z (kd (h).gn) (aF.f r s) (iq (h).U);refine aH (m-(c+1)) Z ⟨c+1,_,W/2,t-1,rfl,Z,⟨WO,D,Z,Z,fun W1=>by rw[F];exact x6 Z E,Z,(h).gn,(h).me,(h).U⟩,Z,((y).a ((bj.u (a:=l) q k).a (bj.u r s))),V e,V j,aa,V z,aa⟩
  obtain rfl:c=m:=Z;refine e8 e z B X (Z:¬(c:Si)<c) @SI ?_;refine⟨by unfold om;rw[Sn (WS WE),Sq],?_,y⟩;rw[Sn (WS WE),Sq];exact⟨p,W,t,h,T⟩
 have WV:¬(o:Si)<(m:Si):=Z;have WE:(m:Si)<=8*(d.length:Si)-f:=Z;refine ni e j U (kK SC) (kK SK) @qs @mc WQ R WD @nf WR WU WV ?_;refine aZ.eO (fun w v WG=>∃(c p S o:Se),w=m-c/\c<=m/\td x WG n l d (f+c) p S o/\o<=7/\bj n l O WG/\v.e=93/\v.N 0=jK n/\v.N 5=I (bZ d f c:Se)/\v.N 48=I m/\v.N 49=I c)
  ⟨0,p,S,o,rfl,Z,h,T,bj.p _ _ _,V e,V j,aa,V U,aa⟩ ?_
 rintro w v WX ⟨c,p,W,t,rfl,Xa,h,T,y,e,j,X,z,B⟩;have W2:=h.l;have W3:p<=d.length:=h.iO.choose_spec.2.2.2;by_cases Xb:c<m
 ·have WH:(c:Si)<m:=Z;have R:=h.F.o aB 2 4;by_cases Xc:t=0
  ·have Wy:(t:Si)=0:=Z;have Xd:p<d.length:=Z;refine gY e j z B (Sk WH) @qs @mc (h.F.o u6 0 4) R (Sk Wy) ((x1 x WX l d p h.iO (Su Q y.Y) Z).b ?_);rintro _ Xe ⟨rfl,WI,WJ⟩;have WK:=y.a (gL.j (a:=n) WJ);rw[Td Z] at WI;refine aR e (show gK d p=((d.getD p 0).toNat:Si) by unfold gK;rw[Sn Z,Sq]) @tb ?_;refine db aQ (h.F.j WJ (iq (fun WY=>h.U WY.symm))) rfl aA rfl ?_;intro WL u q k;refine aq e @mc ?_;refine db aQ u rfl aA rfl ?_;intro Wz D r s;have WZ:=WI.j (Su Q WK.Y) (kd h.gn) (aF.f q k) (iq h.U);have WM:=WK.a ((bj.u (a:=l) q k).a (bj.u r s));have g:td x Wz n l d (f+c) (p+1) (d.getD p 0).toNat 8:=⟨(WZ.j Z (kd h.gn) (aF.f r s) (iq h.U)),D,Z,Z,fun _=>(IM d p).symm,(d.getD p 0).toNat_lt,h.gn,h.me,h.U⟩;refine aR e j X ?_;have E:=(g).qt;have F:=(g).qu Z;have G:=x7 (b:=d) (a:=f+c) Z E ((g).l);rw[<-F] at G;have H:=oa d (f+c);have K:c<32:=Z;have L:=sP (fx d f c) H K;rw[(rfl:bZ d f c+cD d (f+c)*2^c=bZ d f (c+1))] at L;have W0:=(g).oi;have M:=x4 ((d.getD p 0).toNat) Z;rw[G] at M;refine gY e j @tb ((g).F.o aB 1 4) @jc M (qf Sf 3 .i64 H K) @j4 L @x5 ?_;refine db aQ (g).F rfl aA rfl ?_;intro WL u q k;simp(disch:=omega)only[aI,bD,SD,St,↓SF,e,j,mc,(u.o aB 2 4),(Z:((8:Se):Si)-1=((8-1:Se):Si)),cg];refine db aQ u rfl (by simp) rfl ?_;intro Wz D r s;simp(disch:=omega)only[aI,SD,St,↓SF,e,B,cg];have WA:=(g).iO.j (Su Q (WM).Y) (kd (g).gn) (aF.f q k) (iq (g).U);refine aH (m-(c+1)) (by omega) ⟨c+1,_,(d.getD p 0).toNat/2,8-1,rfl,by omega,⟨(WA.j (by omega) (kd (g).gn) (aF.f r s) (iq (g).U)),D,Z,Z,fun W1=>by rw[F];exact x6 Z E,Z,(g).gn,(g).me,(g).U⟩,Z,((WM).a ((bj.u (a:=l) q k).a (bj.u r s))),V e,V j,aa,V z,aa⟩
  have Wy:¬(t:Si)=0:=Z;refine cX e j z B X (Sk WH) @mc R Wy ?_;have E:=(h).qt;have F:=(h).qu Z;have G:=x7 (b:=d) (a:=f+c) Z E ((h).l);rw[<-F] at G;have H:=oa d (f+c);have K:c<32:=Z;have L:=sP (fx d f c) H K;rw[(rfl:bZ d f c+cD d (f+c)*2^c=bZ d f (c+1))] at L;have W0:=(h).oi;have M:=x4 (W) Z;rw[G] at M;refine gY e j @tb ((h).F.o aB 1 4) @jc M (qf Sf 3 .i64 H K) @j4 L @x5 ?_;refine db aQ (h).F rfl aA rfl ?_;intro WL u q k;refine bp e j @mc (u.o aB 2 4) (Z:((t:Se):Si)-1=((t-1:Se):Si)) ?_;refine db aQ u rfl aA rfl ?_;intro Wz D r s;refine aq e B ?_;have WN:=Su Q (y).Y;have WA:=(h).iO.j WN (kd (h).gn) (aF.f q k) (iq (h).U);have WO:=WA.j Z (kd (h).gn) (aF.f r s) (iq (h).U);refine aH (m-(c+1)) Z ⟨c+1,_,W/2,t-1,rfl,Z,⟨WO,D,Z,Z,fun W1=>by rw[F];exact x6 Z E,Z,(h).gn,(h).me,(h).U⟩,Z,((y).a ((bj.u (a:=l) q k).a (bj.u r s))),V e,V j,aa,V z,aa⟩
 obtain rfl:c=m:=Z;refine e8 e z B X (Z:¬(c:Si)<c) @SI ?_;refine⟨by unfold om;rw[Sn (WS WE),Sq],?_,y⟩;rw[Sn (WS WE),Sq];exact⟨p,W,t,h,T⟩
end Go.Proofs.YtgpmffbleaphkaaGreat
namespace Go.Proofs.YtgpmffbleaphkaaGreat
open Go.Cl Go.Cl.Sto Go.Cl.Rw
abbrev cH (j:Se):So:=ab j 0 4
theorem IS:bc Sf 176=some 1:=by kernel_rfl
theorem dD:c3 Sf 176=some false:=by kernel_rfl
theorem te (i o c:Se):aY Sf 178 (ab i o c) 0=some (ab i (o+0) c):=by
 unfold aY;rw[SL];simp[dI]
theorem qv (i o c:Se):aY Sf 178 (ab i o c) 1=some (ab i (o+1) c):=by
 unfold aY;rw[SL];simp[aQ]
theorem cq (i o c:Se):aY Sf 178 (ab i o c) 2=some (ab i (o+2) c):=by
 unfold aY;rw[SL];simp[aQ]
theorem bP (i o c:Se):aY Sf 180 (ab i o c) 0=some (ab i (o+0) c):=by
 unfold aY;rw[SM];simp[IS]
theorem rG (i o c:Se):aY Sf 180 (ab i o c) 1=some (ab i (o+1) c):=by
 unfold aY;rw[SM];simp[dI]
theorem IT (i o c:Se):aY Sf 180 (ab i o c) 2=some (ab i (o+2) c):=by
 unfold aY;rw[SM];simp[aQ]
structure dQ (base:Se) (s:J) (jf jb:Se) (D:Sg Sh) (p:Se) (P:Sg Sh) (M:Si) (bv o:So):Prop where
 E:ae s jb [bv,I (p:Se),I 0]
 G:ae s jf [cH jb,o,I M]
 bT:kL base s 1 bv D.length (aM D)
 br:ao s 1 o P.length (aM P)
 Q:ay base o
 lF:ak o≠some jb
 qw:ak o≠some jf
 U:jb≠jf
 ir:base<=jb
 iu:base<=jf
theorem dQ.M {j:Se}{s d:J}{k a:Se}{D P:Sg Sh}{p b:Se}{M:Si}{e l:So}(h:dQ j s k a D p P M e l)(m:ae d a [e,I (b:Se),I 0])(f:d.Y=s.Y)(g:∀i,i≠a->d.i.N i=s.i.N i):dQ j d k a D b P M e l:=
 ⟨m,h.G.j (aF.f (i:=a) (o:=0) (c:=none) f g) (fun n=>h.U (by injection n)),h.bT.A (ad.f f g h.ir),h.br.f f g h.lF,h.Q,h.lF,h.qw,h.U,h.ir,h.iu⟩
theorem RA {v:So}(a:v.cells.toList=[v]):cP Sf 178 [(0,v)]=some (.agg #[v,I 0,I 0]):=by
 unfold cP;rw[SL]
 rw[(show bK Sf 178=some (.agg #[av,I 0,I 0]) by kernel_rfl)];simp only[eT,jW,a];simp[dI,aQ,cp,hO,eP,di]
theorem RB (j:Se)(m:Si):cP Sf 180 [(0,cH j),(2,I m)]=some (.agg #[cH j,av,I m]):=by
 unfold cP;rw[SM]
 rw[(show bK Sf 180=some (.agg #[.pointer none,av,I 0]) by kernel_rfl)];have a:(cH j).cells.toList=[cH j]:=rfl;have b:(Value.int .i64 m).cells.toList=[I m]:=rfl;simp only[eT,jW,a,b];simp[IS,dI,aQ,cp,hO,eP,di]
end Go.Proofs.YtgpmffbleaphkaaGreat
namespace Go.Cl.Fx
open Go.Cl.Rw Go.Cl.Sto
theorem rH (z j:Se):z/2^j%2=(z.testBit j).toNat:=by
 rw[Nat.testBit_eq_decide_div_mod_eq];have:z/2^j%2<2:=Tg _ Z;generalize z/2^j%2=q at this;have:q=0\/q=1:=Z;rcases this with rfl|rfl<;>rfl
def RC (p:Sg Sh×Se):Prop:=∀i,p.2<=i->cD p.1 i=0
structure g6 (p q:Sg Sh×Se):Prop where
 mu:p.2<=q.2
 ji:∀i,i<p.2->cD q.1 i=cD p.1 i
structure adr (p:Sg Sh×Se):Prop where
 K:At p
 ads:RC p
def dC (D:Sg Sh)(a:Se):Se->Se
 |0=>0
 |k+1=>2*dC D a k+cD D (a+k)
def jL (s x:Se):Se:=if s<=264 then s-254 else if s=285 then 258 else(4+(s-265)%4)*2^((s-261)/4)+3+x
def dR (s:Se):Se:=if s<=264\/s=285 then 0 else(s-261)/4
def jM (c x:Se):Se:=if c<=3 then c+1 else(2+c%2)*2^(c/2-1)+1+x
def fa (c:Se):Se:=if c<=3 then 0 else c/2-1
structure cr (jf jb:Se) (o:So) (s:J) (o' :So) (s' :J):Prop where
 Y:s.Y<=s'.Y
 N:∀i,i<s.Y->i≠jf->i≠jb->ak o≠some i->s'.i.N i=s.i.N i
 jB:ak o' =ak o\/∃i,ak o' =some i/\s.Y<=i
theorem cr.p (a b:Se)(o:So)(s:J):cr a b o s o s:=⟨Sz _,fun _ _ _ _ _=>rfl,.inl rfl⟩
theorem cr.a {b c:Se}{o f g:So}{s i j:J}(h:cr b c o s f i)(k:cr b c f i g j):cr b c o s g j:=by
 refine⟨Su h.Y k.Y,fun l m n p r=> ?_,?_⟩
 ·rw[k.N l (SB m h.Y) n p ?_,h.N l m n p r];rcases h.jB with e|⟨q,e,a⟩
  ·rw[e];exact r
  rw[e];intro t;injection t with t;omega
 rcases k.jB with e|⟨q,e,a⟩
 ·rcases h.jB with d|⟨q,d,a⟩
  ·exact .inl (by rw[e,d])
  exact .inr ⟨q,by rw[e,d],a⟩
 exact .inr ⟨q,e,Su h.Y a⟩
theorem cr.A {b c a:Se}{o e:So}{s d:J}(h:cr b c o s e d)(j:a<=b)(k:a<=c)(f:ay a o)(l:a<=s.Y):ad a s d:=
 ⟨h.Y,fun i m=>h.N i Z Z Z (fun g=>ag (f i g))⟩
def x8 (a b:Se)(o c:So):Prop:=∀i,ak c=some i->i≠a/\i≠b/\ak o≠some i
theorem x8.br {c d:Se}{o f b:So}{s g:J}{n:Se}{L:Sg So}(h:x8 c d o b)(j:ao s 1 b n L)(k:cr c d o s f g):ao g 1 b n L/\x8 c d f b:=by
 refine⟨?_,fun i a=>⟨(h i a).1,(h i a).2.1,?_⟩⟩
 ·cases j with
  |al=>exact .al
  |bu i n m t a p q r=>
   have:=h i rfl;refine .bu i _ m _ (SB a k.Y) ?_ q r;simp only[J.t,k.N i a this.1 this.2.1 this.2.2];exact p
 rcases k.jB with e|⟨u,e,v⟩
 ·rw[e];exact(h i a).2.2
 rw[e];intro l;injection l with l;have:=j.z i a;omega
theorem x9 (D:Sg Sh)(a:Se):∀k,dC D a k<2^k
 |0=>by simp[dC]
 |b+1=>by
  have c:=x9 D a b;have c:=oa D (a+b);simp only[dC];rw[Nat.pow_succ];omega
theorem IU (D:Sg Sh)(a:Se):bZ D a 1=cD D a:=by simp[bZ]
theorem IV {x a:Se}(c:x<1000000)(d:a<2):SQ.wrap (((SV SQ.bits ((x*2^1:Se):Si)|||SV SQ.bits (a:Si)).toNat:Se):Si)=((2*x+a:Se):Si):=by
 have c:SQ.bits=64:=rfl;rw[c];have:(SV 64 ((x*2^1:Se):Si)|||SV 64 (a:Si)).toNat=2*x+a:=by
  rw[BitVec.toNat_or,S3,S3,S6,S6,Tb Z,Tb Z];have:=Nat.shiftLeft_add_eq_or_of_lt (i:=1) (b:=a) Z x;rw[Nat.shiftLeft_eq] at this;rw[<-this];omega
 rw[this,cg Z]
theorem ya (P:Program)(t:TypeId)(a:IntKind){x:Se}(b:x<1000000):bN P .shl t (I ((x:Se):Si)) (.int a 1)=some (I ((x*2^1:Se):Si)):=by
 rw[pN P t .i64 _ _ a Z];rw[(show min (1:Si).toNat SQ.bits=1 by decide)];rw[(Z:((x:Se):Si)*(2:Si)^1=((x*2^1:Se):Si)),cg Z]
end Go.Cl.Fx
namespace Go.Proofs.YtgpmffbleaphkaaGreat
open Go.Cl Go.Cl.Rw Go.Cl.Sto Go.Cl.Fx
theorem tf (j:Se)(s:J)(d a:Se)(D P:Sg Sh)(p n:Se)(M:Si)(l o:So)(b:dQ j s d a D p P M l o)(WA:n<=16)(WB:p+n<=8*D.length)(WC:D.length<=1000000000):
  Runs Sf aw 135 [cH a,I n] s fun K q=>K=I (bZ D p n:Se)/\dQ j q d a D (p+n) P M l o/\cr d a o s o q:=by
 refine Runs.cS 72 SW rfl fun WD r t c=> ?_
 have L:=b.E.o cJ 0 4;have O:=b.E.o aB 1 4;refine hy r t c @te @qv @cq L O (b.E.o aB 2 4) (b.bT.c.g Sm) b.bT.c.m (Z:¬(8*(D.length:Si)-(p:Si)<n)) ?_;refine aZ.eO (fun Q f u=>∃(e:Se),Q=n-e/\e<=n/\dQ j u d a D (p+e) P M l o/\cr d a o s o u/\f.e=72/\f.N 0=cH a/\f.N 1=I n/\f.N 5=I (bZ D p e:Se)/\f.N 6=I e)
  ⟨0,rfl,Z,b,cr.p _ _ _ _,V r,V t,V c,aa,aa⟩ ?_
 rintro WE WG WH ⟨i,rfl,WI,h,v,g,w,c,y,m⟩;by_cases WJ:i<n
 ·have R:(i:Si)<n:=Z;have WK:(p+i)%8<8:=Tg _ Z;have z:(p+i)/8<D.length:=Z;have A:=h.bT.c.P de z;rw[dn z] at A;have WL:(D.getD ((p+i)/8) 0).toNat/2^((p+i)%8)<256:=S7 (Te _ _) (D.getD ((p+i)/8) 0).toNat_lt;have S:(D.getD ((p+i)/8) 0).toNat/2^((p+i)%8)%2=cD D (p+i):=rfl;have B:=oa D (p+i);have E:i<32:=Z;have F:=sP (fx D p i) B E;rw[(rfl:bZ D p i+cD D (p+i)*2^i=bZ D p (i+1))] at F;have G:=h.bT.c.r (k:= .i64) (x:=(((p+i)/8:Se):Si)) Sm bw Z Z;rw[Sq] at G;have T:=qf Sf 3 .u64 B E;simp(disch:=omega)only[aI,bD,SD,St,↓SF,g,w,c,y,m,Sk R,te,qv,(h.E.o cJ 0 4),(h.E.o aB 1 4),(h.bT.c.m),kI,rA,gy,xH,cg,G,A,gU Sl Ss,rB,HP,jc,HQ,S,gU SH Sl,T,j4,F,Sl,Ss];refine db aQ h.E rfl aA rfl ?_;intro WM U W H;refine aq g m ?_;refine aH (n-(i+1)) Z ⟨i+1,rfl,Z,h.M (b:=p+(i+1)) U W H,v.a ⟨Z,fun X _ _ Wy _=>H X Wy,.inl rfl⟩,V g,V w,V c,aa,aa⟩
 obtain rfl:i=n:=Z;have Wz:¬(i:Si)<i:=Z;refine e8 g c y m Wz @SE ?_;exact⟨h,v⟩
theorem A0 (l:Se)(s:J)(a b:Se)(D P:Sg Sh)(r:Se)(M:Si)(t:Sh)(u m:So)(h:dQ l s a b D r P M u m)(Q:(P.length:Si)<M)(R:P.length<=1000000000)(F:l<=s.Y):
  Runs Sf aw 158 [cH a,.int .u8 t.toNat] s fun _ v=>∃w,dQ l v a b D r (P++[t]) M u w/\cr a b m s w v:=by
 refine Runs.cS 47 S8 rfl fun S d G n=> ?_
 simp(disch:=omega)only[aI,bD,bB,bC,SD,St,↓SF,d,G,n,cq,bP,rG,IT,(h.E.o aB 2 4),(h.G.o dD 0 4),(h.G.o cJ 1 4),(h.G.o aB 2 4),h.br.c.cd Sm,h.br.m,SS (show¬M<=(P.length:Si) by omega),gh Sm bw dN];refine ll Sm bw jg dN rfl h.br aa ai (by simp only[dG,d];decide) (by simp only[dG,d];decide) (by rfl) ai rfl Z Z h.Q F ?_;intro T x U y H K f z;have g:∀j,j<s.Y->ak m≠some j->ak x≠some j:=fun j W g=>by
  rcases z with e|⟨p,e,A⟩
  ·rw[e];exact g
  rw[e];intro B;injection B with B;omega
 have E:=g a h.G.n h.qw;refine aq d @rG ?_;refine db dI (h.G.j f h.qw) rfl aA y.c.aN ?_;intro X L q k;simp(disch:=omega)only[aI,wu,SX];refine⟨x,⟨(h.E.j f h.lF).j (aF.f (i:=a) (o:=0) (c:=none) q k) (fun e=>h.U (by injection e with e;exact e.symm)),L,h.bT.A (K.a (ad.f q k h.iu)),?_,H,(g b h.E.n h.lF),E,h.U,h.ir,h.iu⟩,⟨ag f.Y,fun p A n _ O=>by rw[k p n,f.N p A O],z⟩⟩;rw[km,Sr];exact y.f q k E
end Go.Proofs.YtgpmffbleaphkaaGreat
namespace Go.Cl.Nf
open Go.Cl.Sto Go.Cl.Fx
def dh (D:Sg Sh)(p n:Se):Sv Se Se:=if p+n<=8*D.length then .ok (bZ D p n) else .error 2
theorem gp {D:Sg Sh}{p n:Se}(h:p+n<=8*D.length):dh D p n= .ok (bZ D p n):=Sn h
theorem hH {D:Sg Sh}{p n:Se}(h:¬p+n<=8*D.length):dh D p n= .error 2:=Sp h
def gq (a:Sg Se)(n:Se):Se:=if n=0 then 0 else a.count n
def eJ (a:Sg Se):Se->Se
 |0=>0
 |n+1=>2*(eJ a n+gq a n)
def e0 (a:Sg Se)(n:Se):Se->Sg Se
 |0=>[]
 |k+1=>e0 a n k++if a.getD k 0=n then [k] else []
def np (a:Sg Se)(n:Se):Sg Se:=e0 a n a.length
def cR (a:Sg Se):Se->Sg Se
 |0=>[]
 |n+1=>cR a n++np a (n+1)
theorem u7 {a:Sg Se}{k n:Se}(h:k<a.length):(a.take (k+1)).count n=(a.take k).count n+if a.getD k 0=n then 1 else 0:=by
 rw[S9,SA h,List.count_append,Sj,SA h];simp[List.count_singleton,beq_iff_eq]
theorem yb (a:Sg Se)(n:Se):∀k,k<=a.length->(e0 a n k).length=(a.take k).count n
 |0,_=>by simp[e0]
 |b+1,h=>by
  rw[e0,Sr,yb a n b Z,u7 Z];split<;>simp
theorem A1 (a:Sg Se)(n:Se):(np a n).length=a.count n:=by
 unfold np;rw[yb a n _ (Sz _),SU]
theorem IW (a:Sg Se)(n:Se):∀k,k<=a.length->∀r,r<(e0 a n k).length->(e0 a n k).getD r 0<k/\a.getD ((e0 a n k).getD r 0) 0=n/\(a.take ((e0 a n k).getD r 0)).count n=r
 |0,_,r,c=>by simp[e0] at c
 |b+1,h,r,c=>by
  have d:=yb a n b Z;by_cases d:r<(e0 a n b).length
  ·have⟨g,e,f⟩:=IW a n b Z r d;have g:(e0 a n (b+1)).getD r 0=(e0 a n b).getD r 0:=by
    rw[e0,Sj,List.getElem?_append_left d,Sj]
   rw[g];exact⟨Z,e,f⟩
  rw[e0,Sr] at c;by_cases d:a.getD b 0=n
  ·rw[Sn d] at c;have e:r=(e0 a n b).length:=by simp at c;omega
   have f:(e0 a n (b+1)).getD r 0=b:=by
    rw[e0,Sn d,e,Sj,List.getElem?_append_right (Sz _),Ta];rfl
   rw[f];exact⟨Z,d,Z⟩
  rw[Sp d] at c;simp at c;omega
theorem RD (a:Sg Se)(n r:Se)(b:r<a.count n):(np a n).getD r 0<a.length/\a.getD ((np a n).getD r 0) 0=n/\(a.take ((np a n).getD r 0)).count n=r:=
 IW a n a.length (Sz _) r (by have:=A1 a n;unfold np at this;omega)
theorem A2 (a:Sg Se)(n:Se):∀{i j},i<=j->(a.take i).count n<=(a.take j).count n:=by
 intro a j h;exact List.Sublist.count_le _ ((List.take_prefix_take_left h).sublist)
theorem RE {a:Sg Se}{n i j:Se}(e:i<a.length)(f:j<a.length)(g:a.getD i 0=n)(h:a.getD j 0=n)(b:(a.take i).count n=(a.take j).count n):i=j:=by
 have c:∀{b d},b<a.length->a.getD b 0=n->b<d->(a.take b).count n<(a.take d).count n:=by
  intro b d k l m;have:=A2 a n (show b+1<=d from Z);rw[u7 k,Sn l] at this;omega
 by_cases a:i<j
 ·have:=c e g a;omega
 by_cases a:j<i
 ·have:=c f h a;omega
 omega
theorem RF {a:Sg Se}{n i:Se}(b:i<a.length)(c:a.getD i 0=n):(a.take i).count n<a.count n:=by
 have:=A2 a n (show i+1<=a.length from Z);rw[u7 b,Sn c,SU] at this;omega
def oo (D:Sg Sh)(a:Sg Se)(p n:Se):Prop:=eJ a n<=dC D p n/\dC D p n<eJ a n+a.count n
instance (D:Sg Sh) (a:Sg Se) (p n:Se):Decidable (oo D a p n):=by unfold oo;infer_instance
def tg (D:Sg Sh)(a:Sg Se)(p n:Se):Se:=(np a n).getD (dC D p n-eJ a n) 0
def nw (D:Sg Sh)(a:Sg Se)(p:Se):Se->Se->Sv Se (Se×Se)
 |0,_=> .error 4
 |k+1,n=>if p+(n+1)<=8*D.length then(if oo D a p (n+1) then .ok (tg D a p (n+1),p+(n+1)) else nw D a p k (n+1)) else .error 2
def dS (D:Sg Sh)(a:Sg Se)(p:Se):Sv Se (Se×Se):=nw D a p 15 0
theorem A3 {D:Sg Sh}{a:Sg Se}{p n:Se}(h:oo D a p n):tg D a p n<a.length/\a.getD (tg D a p n) 0=n/\eJ a n+(a.take (tg D a p n)).count n=dC D p n:=by
 have⟨b,c⟩:=h;have⟨b,c,d⟩:=RD a n (dC D p n-eJ a n) Z;exact⟨b,c,by show eJ a n+(a.take ((np a n).getD (dC D p n-eJ a n) 0)).count n=_;rw[d];omega⟩
theorem RG {D:Sg Sh}{a:Sg Se}{p n i:Se}(b:i<a.length)(c:a.getD i 0=n)(d:eJ a n+(a.take i).count n=dC D p n):oo D a p n/\tg D a p n=i:=by
 have d:=RF b c;have h:oo D a p n:=⟨Z,Z⟩;have⟨a,d,e⟩:=A3 h;exact⟨h,RE a b d c Z⟩
theorem IX {D:Sg Sh}{a:Sg Se}{p:Se}:∀{k n:Se} {x q:Se},nw D a p k n= .ok (x,q)->p+n<q/\q<=8*D.length/\q<=p+n+k/\x<a.length
 |0,n,x,q,h=>by simp[nw] at h
 |k+1,n,x,q,h=>by
  unfold nw at h;split at h
  ·split at h
   ·rename_i c b;injection h with h;injection h with h1 h2
    have:=(A3 b).1;omega
   have:=IX h;omega
  cases h
theorem pb {D:Sg Sh}{a:Sg Se}{p x q:Se}(h:dS D a p= .ok (x,q)):p<q/\q<=8*D.length/\q<=p+15/\x<a.length:=by
 have:=IX h;omega
theorem IY {D:Sg Sh}{a:Sg Se}{p:Se}:∀{k n e:Se},nw D a p k n= .error e->e=2\/e=4
 |0,n,e,h=>by injection h with h;exact .inr h.symm
 |a+1,n,e,h=>by
  unfold nw at h;split at h
  ·split at h
   ·cases h
   exact IY h
  injection h with h;exact .inl h.symm
def h5 (M a:Se):Se->Sg Sh->Sv Se (Sg Sh)
 |0,P=> .ok P
 |n+1,P=>if M<=P.length then .error 7 else h5 M a n (P++[P.getD (P.length-a) 0])
def jN (D:Sg Sh)(M:Se):Se->Se->Sg Sh->Sv Se (Se×Sg Sh)
 |0,a,P=> .ok (8*a,P)
 |k+1,a,P=>if a<D.length then(if M<=P.length then .error 7 else jN D M k (a+1) (P++[D.getD a 0])) else .error 2
def jO (D:Sg Sh)(M p:Se)(P:Sg Sh):Sv Se (Se×Sg Sh):=
 if 8*((p+7)/8)+32<=8*D.length then
  if bZ D (8*((p+7)/8)) 16+bZ D (8*((p+7)/8)+16) 16=65535 then jN D M (bZ D (8*((p+7)/8)) 16) ((p+7)/8+4) P else .error 4
 else .error 2
def nx (D:Sg Sh)(M:Se)(B:Sg Se)(s p:Se)(P:Sg Sh):Sv Se (Se×Sg Sh):=
 if 285<s then .error 4 else
 match dh D p (dR s) with
 | .error e=> .error e
 | .ok x=>match dS D B (p+dR s) with
  | .error e=> .error e
  | .ok (c,q)=>if 30<=c then .error 4 else match dh D q (fa c) with
   | .error e=> .error e
   | .ok y=>if P.length<jM c y then .error 4 else match h5 M (jM c y) (jL s x) P with
    | .error e=> .error e
    | .ok a=> .ok (q+fa c,a)
def iP (D:Sg Sh)(M:Se)(A B:Sg Se):Se->Se->Sg Sh->Sv Se (Se×Sg Sh)
 |0,_,_=> .error 2
 |k+1,p,P=>match dS D A p with
  | .error e=> .error e
  | .ok (s,q)=>if s=256 then .ok (q,P) else if s<256 then(if M<=P.length then .error 7 else iP D M A B k q (P++[S4 s])) else match nx D M B s q P with
   | .error e=> .error e
   | .ok (r,a)=>iP D M A B k r a
def mf (D:Sg Sh)(p:Se):Sv Se (Se×Se×Se):=
 match dh D p 5 with
 | .error e=> .error e
 | .ok n=>if 29<n then .error 4 else match dh D (p+5) 5 with
  | .error e=> .error e
  | .ok d=>if 29<d then .error 4 else match dh D (p+10) 4 with
   | .error e=> .error e
   | .ok k=> .ok (n+257,d+1,k+4)
def ej:Sg Se:=[16,17,18,0,8,7,9,6,10,5,11,4,12,3,13,2,14,1,15]
def lG (D:Sg Sh):Sg Se->Se->Sg Se->Sv Se (Sg Se×Se)
 |[],p,o=> .ok (o,p)
 |i::r,p,o=>match dh D p 3 with
  | .error e=> .error e
  | .ok x=>lG D r (p+3) (o.set i x)
def dJ:Sg Se->Se
 |[]=>0
 |n::r=>(if 0<n then 2^(15-n) else 0)+dJ r
def gN:Sg Se->Se
 |[]=>0
 |n::r=>(if 0<n then 1 else 0)+gN r
def fK (a:Sg Se):Prop:=dJ a=32768\/(dJ a<32768/\gN a<=1)
instance (a:Sg Se):Decidable (fK a):=by unfold fK;infer_instance
def mN (D:Sg Sh)(s p:Se)(l:Sg Se):Sv Se (Se×Se×Se):=
 if s=16 then(if l.length=0 then .error 4 else match dh D p 2 with| .error e=> .error e| .ok n=> .ok (l.getD (l.length-1) 0,3+n,p+2))
 else if s=17 then(match dh D p 3 with| .error e=> .error e| .ok n=> .ok (0,3+n,p+3))
 else if s=18 then(match dh D p 7 with| .error e=> .error e| .ok n=> .ok (0,11+n,p+7))
 else .ok (s,1,p)
def hI (D:Sg Sh)(b:Sg Se)(a:Se):Se->Se->Sg Se->Sv Se (Sg Se×Se)
 |0,_,_=> .error 2
 |k+1,p,l=>if a<=l.length then .ok (l,p) else match dS D b p with
  | .error e=> .error e
  | .ok (s,q)=>match mN D s q l with
   | .error e=> .error e
   | .ok (x,n,r)=>if a<l.length+n then .error 4 else hI D b a k r (l++SP n x)
def lH (a:Se)(D:Sg Sh)(p:Se):Sv Se ((Sg Se×Sg Se)×Se):=
 match mf D p with
 | .error e=> .error e
 | .ok (n,d,k)=>match lG D (ej.take k) (p+14) (SP 19 0) with
  | .error e=> .error e
  | .ok (o,q)=>if fK o then(match hI D o (n+d) a q [] with
   | .error e=> .error e
   | .ok (l,r)=>if fK (l.take n)/\fK (l.drop n)/\l.getD 256 0≠0 then .ok ((l.take n,l.drop n),r) else .error 4) else .error 4
def iQ:Sg Se:=(List.range 288).map fun s=>(nu s).2
def k0:Sg Se:=SP 32 5
def hJ (a:Se)(D:Sg Sh)(M b p:Se)(P:Sg Sh):Sv Se (Se×Sg Sh):=
 if b=0 then jO D M p P
 else if b=1 then iP D M iQ k0 a p P
 else if b=2 then(match lH a D p with
  | .error e=> .error e
  | .ok ((b,c),q)=>iP D M b c a q P)
 else .error 4
def lI (a:Se)(D:Sg Sh)(M p:Se)(P:Sg Sh):Sv Se (Se×Se×Sg Sh):=
 match dh D p 1 with
 | .error e=> .error e
 | .ok b=>match dh D (p+1) 2 with
  | .error e=> .error e
  | .ok c=>match hJ a D M c (p+3) P with
   | .error e=> .error e
   | .ok (q,a)=> .ok (b,q,a)
def ny (a:Se)(D:Sg Sh)(M:Se):Se->Se->Sg Sh->Sv Se (Se×Sg Sh)
 |0,_,_=> .error 2
 |k+1,p,P=>match lI a D M p P with
  | .error e=> .error e
  | .ok (c,q,b)=>if c=1 then .ok (q,b) else ny a D M k q b
def pc (a:Se)(D:Sg Sh)(M:Se):Sv Se (Se×Sg Sh):=ny a D M a 0 []
def hr {a:Type}(x y:Sv Se a):Prop:=x= .error 2\/x=y
theorem qx {D:Sg Sh}{p n x:Se}(h:dh D p n= .ok x):p+n<=8*D.length/\x=bZ D p n:=by
 unfold dh at h;split at h
 ·rename_i c;injection h with h;exact⟨c,h.symm⟩
 cases h
theorem IZ {M c:Se}:∀{n:Se} {P a:Sg Sh},h5 M c n P= .ok a->P.length<=M->a.length<=M
 |0,P,a,h,b=>by injection h with h;subst h;exact b
 |n+1,P,a,h,b=>by
  unfold h5 at h;split at h
  ·cases h
  rename_i d;exact IZ h (by rw[Sr];simp;omega)
theorem I0 {D:Sg Sh}{M:Se}:∀{k a:Se} {P:Sg Sh} {q:Se} {b:Sg Sh},jN D M k a P= .ok (q,b)->a<=D.length->P.length<=M->8*a<=q/\q<=8*D.length/\b.length<=M
 |0,b,P,q,c,h,d,a=>by injection h with h;injection h with h1 b;subst b;exact⟨Z,Z,a⟩
 |a+1,b,P,q,c,h,d,e=>by
  unfold jN at h;split at h
  ·split at h
   ·cases h
   have:=I0 h Z (by rw[Sr];simp;omega);omega
  cases h
theorem I1 {D:Sg Sh}{M p:Se}{P:Sg Sh}{q:Se}{a:Sg Sh}(h:jO D M p P= .ok (q,a))(b:P.length<=M):p<=q/\q<=8*D.length/\a.length<=M:=by
 unfold jO at h;split at h
 ·split at h
  ·have:=I0 h Z b;omega
  cases h
 cases h
theorem I2 {D:Sg Sh}{M:Se}{B:Sg Se}{s p:Se}{P:Sg Sh}{q:Se}{a:Sg Sh}(h:nx D M B s p P= .ok (q,a))(e:P.length<=M):p<=q/\q<=8*D.length/\a.length<=M:=by
 unfold nx at h;split at h
 ·cases h
 cases a:dh D p (dR s) with
 |error b=>rw[a] at h;cases h
 |ok x=>
  rw[a] at h;dsimp only at h;cases a:dS D B (p+dR s) with
  |error b=>rw[a] at h;cases h
  |ok c=>
   rw[a] at h;dsimp only at h;split at h
   ·cases h
   cases b:dh D c.2 (fa c.1) with
   |error d=>rw[b] at h;cases h
   |ok y=>
    rw[b] at h;dsimp only at h;split at h
    ·cases h
    cases d:h5 M (jM c.1 y) (jL s x) P with
    |error c=>rw[d] at h;cases h
    |ok c=>
     rw[d] at h;injection h with h;injection h with ey c
     subst c;have:=pb a;have:=qx b;have:=IZ d e;omega
theorem th {D:Sg Sh}{M:Se}{A B:Sg Se}:∀{k p:Se} {P:Sg Sh} {q:Se} {a:Sg Sh},iP D M A B k p P= .ok (q,a)->P.length<=M->p<=q/\q<=8*D.length/\a.length<=M
 |0,p,P,q,a,h,b=>by cases h
 |a+1,p,P,q,c,h,b=>by
  unfold iP at h;cases a:dS D A p with
  |error e=>rw[a] at h;cases h
  |ok c=>
   rw[a] at h;have d:=pb a;dsimp only at h;split at h
   ·injection h with h;injection h with ey a
    subst a;exact⟨Z,Z,b⟩
   split at h
   ·split at h
    ·cases h
    have:=th h (by rw[Sr];simp;omega);omega
   cases a:nx D M B c.1 c.2 P with
   |error e=>rw[a] at h;cases h
   |ok c=>
    rw[a] at h;have:=I2 a b;have:=th h Z;omega
theorem RH {b:Se}{D:Sg Sh}{M d p:Se}{P:Sg Sh}{q:Se}{c:Sg Sh}(h:hJ b D M d p P= .ok (q,c))(a:P.length<=M):q<=8*D.length/\c.length<=M:=by
 unfold hJ at h;split at h
 ·exact(I1 h a).2
 split at h
 ·exact(th h a).2
 split at h
 ·cases c:lH b D p with
  |error e=>rw[c] at h;cases h
  |ok b=>rw[c] at h;exact(th h a).2
 cases h
theorem A4 {c:Se}{D:Sg Sh}{M p:Se}{P:Sg Sh}{a q:Se}{b:Sg Sh}(h:lI c D M p P= .ok (a,q,b))(d:P.length<=M):q<=8*D.length/\b.length<=M/\a<2:=by
 unfold lI at h;cases a:dh D p 1 with
 |error e=>rw[a] at h;cases h
 |ok b=>
  rw[a] at h;dsimp only at h;cases b:dh D (p+1) 2 with
  |error e=>rw[b] at h;cases h
  |ok e=>
   rw[b] at h;dsimp only at h;cases b:hJ c D M e (p+3) P with
   |error e=>rw[b] at h;cases h
   |ok r=>
    rw[b] at h;injection h with h;injection h with c h;injection h with e f
    have:=RH b d;have b:=(qx a).2;have a:=fx D p 1;subst c e f;exact⟨this.1,this.2,Z⟩
theorem I3 {b:Se}{D:Sg Sh}{M:Se}:∀{k p:Se} {P:Sg Sh} {q:Se} {a:Sg Sh},ny b D M k p P= .ok (q,a)->P.length<=M->q<=8*D.length/\a.length<=M
 |0,p,P,q,a,h,c=>by cases h
 |a+1,p,P,q,d,h,c=>by
  unfold ny at h;cases a:lI b D M p P with
  |error e=>rw[a] at h;cases h
  |ok b=>
   rw[a] at h;have b:=A4 a c;dsimp only at h;split at h
   ·injection h with h;injection h with a c
    subst a c;exact⟨b.1,b.2.1⟩
   exact I3 h b.2.1
theorem A5 {a:Se}{D:Sg Sh}{M q:Se}{P:Sg Sh}(h:pc a D M= .ok (q,P)):q<=8*D.length/\P.length<=M:=I3 h (S5 _)
def fz (D:Sg Sh)(x:Sv Se Se)(n:Se):Se:=match x with| .ok p=>if p+n<=8*D.length then bZ D p n else 0| .error _=>0
def hh (D:Sg Sh)(x:Sv Se Se)(n:Se):Sv Se Se:=match x with| .ok p=>if p+n<=8*D.length then .ok (p+n) else .error 2| .error e=> .error e
theorem oq (D:Sg Sh)(x:Sv Se Se)(n:Se):fz D x n<2^n:=by
 have:=Nat.two_pow_pos n;unfold fz;split
 ·split
  ·exact fx ..
  exact this
 exact this
def iw:Sv Se Se->Se
 | .ok _=>0
 | .error e=>e
theorem A6 (a:Sg Se)(l:Se):∀(f i:Se) (o:Sg Se) (b:Se),i+f=a.length->o.length=a.length->
  (jI a l f i o b).2+(a.take i).count l=b+a.count l/\∀j,j<a.length->(jI a l f i o b).1.getD j 0=if i<=j/\a.getD j 0=l then b+(a.take j).count l-(a.take i).count l else o.getD j 0
 |0,b,o,c,h,d=>by
  have:b=a.length:=Z;subst this;refine⟨by simp[jI],fun j b=> ?_⟩;rw[Sp Z];rfl
 |f+1,b,o,d,h,g=>by
  have h:=u7 (n:=l) (Z:b<a.length);unfold jI;by_cases e:a.getD b 0=l
  ·rw[Sn e] at h|-
   have⟨j,c⟩:=A6 a l f (b+1) (o.set b d) (d+1) Z (by simpa using g);refine⟨Z,fun j k=> ?_⟩;rw[c j k];by_cases c:j=b
   ·subst c;rw[Sp Z,Sn ⟨Sz _,e⟩,Sj,List.getElem?_set_self Z];show d=_;omega
   by_cases c:b+1<=j/\a.getD j 0=l
   ·have:=A2 a l c.1;rw[Sn c,Sn ⟨Z,c.2⟩];omega
   rw[Sp c,Sp (fun q=>c ⟨Z,q.2⟩),Sj,List.getElem?_set_ne Z,Sj]
  rw[Sp e] at h|-
  have⟨h,c⟩:=A6 a l f (b+1) o d Z g;refine⟨Z,fun j d=> ?_⟩;rw[c j d];by_cases c:j=b
  ·subst c;rw[Sp Z,Sp (fun q=>e q.2)]
  by_cases c:b+1<=j/\a.getD j 0=l
  ·rw[Sn c,Sn ⟨Z,c.2⟩];omega
  rw[Sp c,Sp (fun q=>c ⟨Z,q.2⟩)]
theorem I4 (a:Sg Se):∀(f l:Se) (o:Sg Se) (n:Se),l+f=16->1<=l->o.length=a.length->n=eJ a (l-1)+gq a (l-1)->
  ∀j,j<a.length->(qg a f l o n).getD j 0=if l<=a.getD j 0/\a.getD j 0<=15 then eJ a (a.getD j 0)+(a.take j).count (a.getD j 0) else o.getD j 0
 |0,l,o,n,h,c,d,b,j,e=>by
  rw[Sp Z];rfl
 |f+1,l,o,n,h,e,c,b,j,d=>by
  have⟨g,h⟩:=A6 a l a.length 0 o (2*n) Z c;have e:2*n=eJ a l:=by
   obtain⟨i,rfl⟩:∃m,l=m+1:=⟨l-1,Z⟩
   rw[b];rfl
  have b:gq a l=a.count l:=Sp Z;rw[Th,Ti] at g;unfold qg;rw[I4 a f (l+1) _ _ Z Z (by rw[uT];exact c) (by rw[Nat.add_sub_cancel,b,<-e];omega) j d,h j d];by_cases c:a.getD j 0=l
  ·rw[Sp Z,Sn ⟨S5 _,c⟩,Sn Z,c,e,Th,Ti];rfl
  by_cases b:l+1<=a.getD j 0/\a.getD j 0<=15
  ·rw[Sn b,Sn Z]
  rw[Sp b,Sp (fun q=>c q.2),Sp Z]
def I5 (a K:Sg Se):Prop:=K.length=a.length/\∀i,i<a.length->1<=a.getD i 0->a.getD i 0<=15->K.getD i 0=eJ a (a.getD i 0)+(a.take i).count (a.getD i 0)
theorem yc (a:Sg Se):(gH a).length=a.length:=by
 unfold gH;have:∀(f l:Se) (o:Sg Se) (n:Se),(qg a f l o n).length=o.length:=by
  intro f
  induction f with
  |zero=>intro l o n;rfl
  |succ f a=>intro l o n;unfold qg;rw[a,uT]
 rw[this];simp
theorem A7 (a:Sg Se):I5 a (gH a):=⟨yc a,fun i b c d=>by
 unfold gH;rw[I4 a 15 1 (SP a.length 0) 0 rfl (Sz _) aA rfl i b,Sn ⟨c,d⟩]⟩
def jo (a:Sg Se):Prop:=∀i,a.getD i 0<=15
theorem RI (A B:Sg Se):dJ (A++B)=dJ A+dJ B:=by
 induction A with
 |nil=>simp[dJ]
 |cons b r a=>simp only[Tc,dJ,a];omega
theorem RJ (A B:Sg Se):gN (A++B)=gN A+gN B:=by
 induction A with
 |nil=>simp[gN]
 |cons b r a=>simp only[Tc,gN,a];omega
theorem A8:∀a:Sg Se,dJ a<=32768*a.length
 |[]=>Sz _
 |a::r=>by
  have:=A8 r;have h:2^(15-a)<=2^15:=SG Z Z;have a:(2:Se)^15=32768:=by decide
  simp only[dJ,SR];split<;>omega
theorem A9:∀a:Sg Se,gN a<=a.length
 |[]=>Sz _
 |a::r=>by
  have:=A9 r;simp only[gN,SR];split<;>omega
theorem I6 {a:Sg Se}{i:Se}(h:i<a.length):a.take (i+1)=a.take i++[a.getD i 0]:=by
 rw[S9,SA h,Sj,SA h];rfl
theorem I7 {a:Sg Se}{i:Se}(h:i<a.length):dJ (a.take (i+1))=dJ (a.take i)+if 0<a.getD i 0 then 2^(15-a.getD i 0) else 0:=by
 rw[I6 h,RI];simp[dJ]
theorem I8 {a:Sg Se}{i:Se}(h:i<a.length):gN (a.take (i+1))=gN (a.take i)+if 0<a.getD i 0 then 1 else 0:=by
 rw[I6 h,RJ];simp[gN]
theorem RK:jo iQ:=by
 intro i;by_cases h:i<288
 ·have:iQ.getD i 0=(nu i).2:=by simp[iQ,Sj,List.getElem?_map,List.getElem?_range h]
  rw[this];have:=PW i;omega
 rw[Sj,S1 (by simp[iQ];omega)];exact S5 _
theorem RL:jo k0:=by
 intro i;by_cases h:i<32
 ·have b:∀a,a<32->k0.getD a 0<=15:=by decide
  exact b i h
 rw[Sj,S1 (by simp[k0];omega)];exact S5 _
end Go.Cl.Nf
namespace Go.Proofs.YtgpmffbleaphkaaGreat
open Go.Cl Go.Cl.Rw Go.Cl.Sto Go.Cl.Fx Go.Cl.Nf
structure RM (base:Se) (s:J) (jf jb e:Se) (bv pv o m:So):Prop where
 E:ae s jb [bv,pv,I (e:Se)]
 G:ae s jf [cH jb,o,m]
 k1:0<e
 U:jb≠jf
 ir:base<=jb
 iu:base<=jf
def iR (a:Se)(s:J)(b c e:Se):Prop:=∃d f o m,RM a s b c e d f o m
theorem pd (s:J)(a:Se)(c d:So)(e:Se)(h:ae s a [c,d,I 0]):
  Runs Sf aw 140 [cH a,I (e:Se)] s fun _ b=>ae b a [c,d,I (e:Se)]/\b.Y=s.Y/\∀i,i≠a->b.i.N i=s.i.N i:=by
 refine Runs.cS 13 Tryz.func140 rfl fun n f g j=> ?_
 refine bp f g j @cq (h.o aB 2 4) ?_;refine db aQ h rfl aA rfl ?_;intro o k l m;refine lo @Tryz.results140 ?_;exact⟨k,l,m⟩
theorem dQ.ke {g:Se}{s b:J}{d a:Se}{D P:Sg Sh}{p:Se}{M:Si}{j f:So}(h:dQ g s d a D p P M j f){e:Se}{l:So}(m:0<e)(n:ae b a [j,l,I (e:Se)])(q:b.Y=s.Y)(k:∀i,i≠a->b.i.N i=s.i.N i):iR g b d a e/\cr d a f s f b:=
 ⟨⟨_,_,_,_,⟨n,h.G.j (aF.f (i:=a) (o:=0) (c:=none) q k) (fun e=>h.U (by injection e)),m,h.U,h.ir,h.iu⟩⟩,⟨Z,fun i _ _ r _=>k i r,.inl rfl⟩⟩
theorem ti (c:Se)(s:J)(b a:Se)(D P:Sg Sh)(p n:Se)(M:Si)(d o:So)(h:dQ c s b a D p P M d o)(f:n<=16)(g:¬p+n<=8*D.length)(i:p<=8*D.length)(j:D.length<=1000000000):
  Runs Sf aw 135 [cH a,I n] s fun v e=>v=I 0/\iR c e b a 2/\cr b a o s o e:=by
 refine Runs.ef 72 SW rfl fun f b=> ?_
 have c:=h.E.o aB 2 4;refine gY b @te @qv @cq (h.E.o cJ 0 4) (h.E.o aB 1 4) c (h.bT.c.g Sm) h.bT.c.m (Sk (Z:(8*(D.length:Si)-(p:Si)<n))) ((pd s a d _ 2 h.E).b ?_);rintro _ a ⟨a,c,d⟩;have⟨e,f⟩:=h.ke ai a c d;refine oS b @cq (a.o aB 2 4) (show¬((2:Se):Si)=0 by decide) @SE ?_;exact⟨e,f⟩
theorem I9 (b:Se)(s:J)(c a e:Se)(n:Se)(d:iR b s c a e):
  Runs Sf aw 135 [cH a,I n] s fun v f=>v=I 0/\f=s:=by
 have⟨a,b,o,m,h⟩:=d;refine Runs.ef 72 SW rfl fun f a=> ?_
 have b:=h.k1;exact uk a @cq ((h.E.o aB 2 4)) (SS (Z:¬(e:Si)=0)) @SE
theorem Ba (e:Se)(s:J)(b a:Se)(D P:Sg Sh)(p:Se)(M:Si)(j:Sh)(f d:So)(h:dQ e s b a D p P M f d)(k:M<=(P.length:Si)):
  Runs Sf aw 158 [cH b,.int .u8 j.toNat] s fun _ g=>iR e g b a 7/\cr b a d s d g:=by
 refine Runs.ef 47 S8 rfl fun d b=> ?_
 have d:=h.E.o aB 2 4;have e:=h.G.o dD 0 4;refine hy b @cq @bP @rG @IT d e (h.G.o cJ 1 4) (h.G.o aB 2 4) (h.br.c.g Sm) h.br.m (Sk k) ((pd s a f _ 7 h.E).b ?_);rintro _ d ⟨d,e,f⟩;have⟨g,j⟩:=h.ke ai d e f;have k:=(h.G.j (aF.f (i:=a) (o:=0) (c:=none) e f) (fun e=>h.U (by injection e))).o dD 0 4;refine oT b @bP k @cq (d.o aB 2 4) (show¬((7:Se):Si)=0 by decide) @SX ?_;exact⟨g,j⟩
theorem RN (b:Se)(s:J)(a c e:Se)(d:So)(f:iR b s a c e):
  Runs Sf aw 158 [cH a,d] s fun _ g=>g=s:=by
 have⟨a,b,o,m,h⟩:=f;refine Runs.ef 47 S8 rfl fun f a=> ?_
 have b:=h.k1;exact zH a @cq @bP ((h.E.o aB 2 4)) ((h.G.o dD 0 4)) (SS (Z:¬(e:Si)=0)) @SX
def eI (c d:Se)(o:So)(s:J)(a:So)(b:Sg Se):Prop:=az s 1 a b.length (bf b)/\∀i,ak a=some i->i<s.Y/\i≠c/\i≠d/\ak o≠some i
theorem eI.fm {d e:Se}{o j l:So}{s m:J}{c:Sg Se}(p:eI d e o s l c)(k:cr d e o s j m):eI d e j m l c:=by
 have⟨f,b⟩:=p;refine⟨?_,fun i a=>⟨SB (b i a).1 k.Y,(b i a).2.1,(b i a).2.2.1,?_⟩⟩
 ·generalize bf c=L at f;generalize c.length=q at f;cases f with
  |al=>exact .al
  |cI i g=>exact .cI i g
  |bu i g q r t B a u v w x y z A=>
   have:=b i rfl;refine .bu i g _ r t _ (SB a k.Y) ?_ v w x y z A;simp only[J.t,k.N i a this.2.1 this.2.2.1 this.2.2.2];exact u
 rcases k.jB with h|⟨D,h,E⟩
 ·rw[h];exact(b i a).2.2.2
 rw[h];intro n;injection n with n;have:=(b i a).1;omega
def Bb (d a b:Se)(D P:Sg Sh)(M:Si)(e o:So)(s:J)(v:So)(c:J):Sv Se (Se×Se)->Prop
 | .ok (x,q)=>v=I (x:Se)/\dQ d c a b D q P M e o/\cr a b o s o c
 | .error e=>v=I 0/\iR d c a b e/\cr a b o s o c
theorem Bc (t:Se)(s:J)(i g:Se)(a P:Sg Sh)(d:Se)(M:Si)(r o:So)(q:dQ t s i g a d P M r o)(j:d<=8*a.length)(E:a.length<=1000000000)
  (v u:So) (f K:Sg Se) (z:eI i g o s v f) (A:eI i g o s u K) (c:I5 f K) (l:f.length<=1000):
  Runs Sf aw 160 [cH g,v,u] s fun e h=>Bb t i g a P M r o s e h (dS a f d):=by
 have⟨L,O⟩:=c;refine Runs.iY 47 Tj rfl fun w e h j l=> ?_
 refine ax e ?_;refine aZ.w (fun y m n=>∃c:Se,y=15-c/\c<=15/\d+c<=8*a.length/\nw a f d (15-c) c=dS a f d/\dQ t n i g a (d+c) P M r o/\cr i g o s o n/\eI i g o n v f/\eI i g o n u K/\m.e=47/\m.N 0=cH g/\m.N 1=v/\m.N 2=u/\m.N 7=I (dC a d c:Se)/\m.N 8=I ((c:Si)+1))
  (fun n c m=>(n= .bF/\c.e=47/\Bb t i g a P M r o s (c.N 6) m (dS a f d))\/(n= .bb 0/\dS a f d= .error 4/\dQ t m i g a (d+15) P M r o/\cr i g o s o m/\c.e=47/\c.N 0=cH g))
  ⟨0,rfl,Z,Z,rfl,q,cr.p _ _ _ _,z,A,V e,V h,V j,V l,aa,aa⟩ ?_ ?_
 ·clear e h j l w q z A;rintro Q B c Q F ⟨c,rfl,m,s,n,w,y,z,A,e,h,j,l,q,m⟩;by_cases G:c<15;rotate_left
  ·obtain rfl:c=15:=Z;refine aR e m (Z:¬((15:Se):Si)+1<=15) ?_;exact B _ _ _ (.inr ⟨rfl,n.symm,w,y,V e,V h⟩)
  have G:2^c<=2^15:=SG Z Z;have G:(2:Se)^15=32768:=by decide
  have G:=x9 a d c;rw[show 15-c=(15-(c+1))+1 from Z,nw] at n;refine cl e h q m (Sk (Z:(c:Si)+1<=15)) (ya Sf 3 .u64 (x:=dC a d c) Z) ?_;by_cases G:d+(c+1)<=8*a.length;rotate_left
  ·rw[Sp G] at n;refine(ti t F i g a P (d+c) 1 M r o w Z Z s E).b ?_;rintro _ s ⟨rfl,H,s⟩;have⟨S,T,U,W,R⟩:=id H;refine cl e h @j4 @cq (R.E.o aB 2 4) (show¬((2:Se):Si)=0 by decide) ?_;exact B _ _ _ (.inl ⟨rfl,V e,by rw[<-n];exact⟨aa,H,y.a s⟩⟩)
  rw[Sn G] at n;refine(tf t F i g a P (d+c) 1 M r o w Z Z E).b ?_;rintro _ t ⟨rfl,E,s⟩;rw[IU];have i:=IV (x:=dC a d c) (a:=cD a (d+c)) Z (oa _ _);rw[(rfl:2*dC a d c+cD a (d+c)=dC a d (c+1))] at i;have o:=z.fm s;have M:=A.fm s;have P:az t 1 u f.length (bf K):=by rw[<-L];exact M.1
  have s:=y.a s;refine cl e h @j4 i @cq (E.E.o aB 2 4) ?_;refine aZ.w (fun A i F=>∃z:Se,A=f.length-z/\z<=f.length/\(∀A,A<z->f.getD A 0=c+1->K.getD A 0≠dC a d (c+1))/\F=t/\i.e=47/\i.N 0=cH g/\i.N 1=v/\i.N 2=u/\i.N 7=I (dC a d (c+1):Se)/\i.N 8=I ((c:Si)+1)/\i.N 9=I (z:Se))
   (fun z i A=>(z= .bF/\oo a f d (c+1)/\A=t/\i.e=47/\i.N 6=I (tg a f d (c+1):Se))\/(z= .bb 2/\¬oo a f d (c+1)/\A=t/\i.e=47/\i.N 0=cH g/\i.N 1=v/\i.N 2=u/\i.N 7=I (dC a d (c+1):Se)/\i.N 8=I ((c:Si)+1)))
   ⟨0,rfl,Z,fun i t=>absurd t (Nat.not_lt_zero i),rfl,V e,V h,V j,V l,aa,V m,aa⟩ ?_ ?_
  ·clear e h j l q m Q;rintro i Q z i i ⟨i,rfl,t,F,rfl,e,h,j,l,q,m,z⟩;by_cases u:i<f.length;rotate_left
   ·obtain rfl:i=f.length:=Z;have A:¬oo a f d (c+1):=fun G=>by
     have⟨t,v,H⟩:=A3 G;have G:=O _ t Z Z;rw[v] at G;exact F _ t v Z
    refine bp e j z (o.1.g ec) (Z:¬((f.length:Se):Si)<((f.length:Se):Si)) ?_;exact Q _ _ _ (.inr ⟨rfl,A,rfl,V e,V h,V j,V l,V q,V m⟩)
   have G:(i:Si)<(f.length:Si):=Z;have A:=o.1.r (k:= .i64) (x:=(i:Si)) ec aQ Z Z;have H:=P.r (k:= .i64) (x:=(i:Si)) eH aQ Z Z;rw[Sq] at A H;have t:=o.1.P rC u;have v:=P.P rC u;rw[l3 u] at t;rw[l3 (by rw[L];exact u)] at v;by_cases L:f.getD i 0=c+1
   ·have P:((f.getD i 0:Se):Si)=(c:Si)+1:=Z;by_cases R:K.getD i 0=dC a d (c+1)
    ·have S:((K.getD i 0:Se):Si)=((dC a d (c+1):Se):Si):=Z;have T:=O i u Z Z;rw[L] at T;have⟨O,T⟩:=RG (D:=a) (p:=d) u L Z;refine ni e j l q m z (o.1.g ec) (Sk G) A H t v (Sk P) (Sk S) ?_;exact Q _ _ _ (.inl ⟨rfl,O,rfl,V e,by simp only[cx,↓SF];rw[T]⟩)
    have u:¬((K.getD i 0:Se):Si)=((dC a d (c+1):Se):Si):=Z;refine ni e j l q m z (o.1.g ec) (Sk G) A H t v (Sk P) u ?_;exact aH (f.length-(i+1)) Z ⟨i+1,rfl,Z,fun a u d=>by
     by_cases u:a=i
     ·subst u;exact R
     exact F a Z d,rfl,V e,V h,V j,V l,V q,V m,aa⟩
   have a:¬((f.getD i 0:Se):Si)=(c:Si)+1:=Z;refine je e j m z (o.1.g ec) (Sk G) A t a ?_;exact aH (f.length-(i+1)) Z ⟨i+1,rfl,Z,fun a f d=>by
    by_cases f:a=i
    ·subst f;exact absurd d L
    exact F a Z d,rfl,V e,V h,V j,V l,V q,V m,aa⟩
  rintro z f a (⟨rfl,a,rfl,e,d⟩|⟨rfl,f,rfl,e,h,j,l,q,m⟩)
  ·rw[Sn a] at n;refine ax e ?_;exact B _ _ _ (.inl ⟨rfl,V e,by rw[<-n];exact⟨V d,E,s⟩⟩)
  rw[Sp f] at n;refine aq e m ?_;exact aH (15-(c+1)) Z ⟨c+1,rfl,Z,Z,n,E,s,o,M,V e,V h,V j,V l,V q,aa⟩
 rintro z f t (⟨rfl,e,a⟩|⟨rfl,n,w,y,e,h⟩)
 ·refine bO e @SY ?_;exact a
 refine aq e h ((pd t g r _ 4 w.E).b ?_);rintro _ a ⟨a,c,d⟩;have⟨f,g⟩:=w.ke ai a c d;refine bO e @SY ?_;rw[n];exact⟨rfl,f,y.a g⟩
theorem RO (c:Se)(s:J)(d a e:Se)(b f:So)(h:iR c s d a e):
  Runs Sf aw 160 [cH a,b,f] s fun v g=>v=I 0/\g=s:=by
 have⟨b,f,o,m,g⟩:=id h;refine Runs.oU 47 Tj rfl fun i b=> ?_
 have f:=g.k1;have j:¬(e:Si)=0:=Z;have f:=ya Sf 3 .u64 (x:=0) Z;have k:bN Sf .shl 3 (I 0) (.int .u64 1)=some (I 0):=f;have l:(1:Si)<=15:=by decide
 refine ax b ?_;refine aZ.w (fun z f t=>z=0/\t=s/\f.e=47/\f.N 0=cH a/\f.N 7=I 0/\f.N 8=I 1)
  (fun z f t=>z= .bF/\t=s/\f.e=47/\f.N 6=I 0) ⟨rfl,rfl,V b⟩ ?_ ?_
 ·clear b i;rintro Q f z b _ ⟨rfl,rfl,b⟩;refine aR b (Sk l) k ((I9 c _ d a e 1 h).b ?_);rintro _ a ⟨rfl,rfl⟩;have a:=g.E.o aB 2 4;refine bp b @j4 @cq a j ?_;exact f _ _ _ ⟨rfl,rfl,V b⟩
 rintro z f t ⟨rfl,rfl,a⟩;exact F3 a @SY
def eK (a b c:Se)(D P:Sg Sh)(M:Si)(d o:So)(t:J):Sv Se Se->Prop
 | .ok p=>dQ a t b c D p P M d o/\p<=8*D.length
 | .error e=>iR a t b c e
theorem eK.C {a b c:Se}{D P:Sg Sh}{M:Si}{d o:So}{t e:J}{x:Sv Se Se}(h:eK a b c D P M d o t x)(k:ad t.Y t e)(f:a<=t.Y):eK a b c D P M d o e x:=by
 cases x with
 |ok p=>exact⟨⟨h.1.E.C k,h.1.G.C k,h.1.bT.A (k.q f),h.1.br.C k,h.1.Q,h.1.lF,h.1.qw,h.1.U,h.1.ir,h.1.iu⟩,h.2⟩
 |error m=>
  have⟨g,i,j,l,h⟩:=h;exact⟨g,i,j,l,⟨h.E.C k,h.G.C k,h.k1,h.U,h.ir,h.iu⟩⟩
def gr (j:Se)(t a:J):Prop:=a.Y=t.Y/\∀i,i≠j->a.i.N i=t.i.N i
theorem gr.p (j:Se)(t:J):gr j t t:=⟨rfl,fun _ _=>rfl⟩
theorem gr.a {j:Se}{t a b:J}(h:gr j t a)(k:gr j a b):gr j t b:=⟨k.1.trans h.1,fun i a=>(k.2 i a).trans (h.2 i a)⟩
theorem gr.qy {c a:Se}{o:So}{t b:J}(h:gr a t b):cr c a o t o b:=⟨by rw[h.1];exact Sz _,fun i _ _ a _=>h.2 i a,.inl rfl⟩
theorem eK.mO {b c a:Se}{D P:Sg Sh}{M:Si}{d o:So}{t:J}{x:Sv Se Se}(h:eK b c a D P M d o t x):aD Sf t 3 (ab a 2 4)=some (I (iw x:Se)):=by
 cases x with
 |ok p=>exact h.1.E.o aB 2 4
 |error e=>
  have⟨a,b,c,d,h⟩:=h;exact h.E.o aB 2 4
theorem eK.fA {c a b:Se}{D P:Sg Sh}{M:Si}{d o:So}{t:J}{x:Sv Se Se}(h:eK c a b D P M d o t x):aD Sf t 176 (ab a 0 4)=some (cH b):=by
 cases x with
 |ok p=>exact h.1.G.o dD 0 4
 |error e=>
  have⟨a,b,c,d,h⟩:=h;exact h.G.o dD 0 4
theorem eK.ke {a b c:Se}{D P:Sg Sh}{M:Si}{d o:So}{t:J}{x:Sv Se Se}(h:eK a b c D P M d o t x):iw x=0↔∃p,x= .ok p:=by
 cases x with
 |ok p=>exact⟨fun _=>⟨p,rfl⟩,fun _=>rfl⟩
 |error e=>
  have⟨a,b,c,d,h⟩:=h;have:=h.k1;exact⟨fun e=>by simp only[iw] at e;omega,fun⟨p,e⟩=>by cases e⟩
theorem pe (t:Se)(s:J)(u b:Se)(D P:Sg Sh)(q:Sv Se Se)(n:Se)(M:Si)(e v:So)(h:eK t u b D P M e v s q)(WL:n<=16)(WM:D.length<=1000000000):
  Runs Sf aw 135 [cH b,I n] s fun Wz y=>Wz=I (fz D q n:Se)/\eK t u b D P M e v y (hh D q n)/\gr b s y:=by
 have WA:=h;refine Runs.cS 72 SW rfl fun WN f g d=> ?_
 cases q with
 |error WB=>
  have⟨WO,WQ,WR,WS,h⟩:=h;have WT:=h.k1;refine rf f g @cq (h.E.o aB 2 4) (Z:¬(WB:Si)=0) @SE ?_;exact⟨rfl,WA,gr.p _ _⟩
 |ok p=>
 have⟨h,WU⟩:=h;have z:=h.E.o cJ 0 4;have A:=h.E.o aB 1 4;have B:=h.E.o aB 2 4;by_cases j:p+n<=8*D.length;rotate_left
 ·have WC:(8*(D.length:Si)-(p:Si)<n):=Z;refine hy f g d @te @qv @cq z A B (h.bT.c.g Sm) h.bT.c.m (Sk WC) ((pd s b e _ 2 h.E).b ?_);rintro _ WV ⟨E,F,G⟩;refine rf f g @cq (E.o aB 2 4) (show¬((2:Se):Si)=0 by decide) @SE ?_;refine⟨by simp only[fz];rw[Sp j];rfl,?_,⟨F,G⟩⟩;simp only[hh];rw[Sp j]
  exact⟨e,_,_,_,⟨E,(h.G.j (aF.f (i:=b) (o:=0) (c:=none) F G) (fun WD=>h.U (by injection WD))),ai,h.U,h.ir,h.iu⟩⟩
 rw[(show fz D (.ok p) n=bZ D p n by simp only[fz];rw[Sn j]),(show hh D (.ok p) n= .ok (p+n) by simp only[hh];rw[Sn j])];refine hy f g d @te @qv @cq z A B (h.bT.c.g Sm) h.bT.c.m (Z:¬(8*(D.length:Si)-(p:Si)<n)) ?_;refine aZ.eO (fun WE l H=>∃(m:Se),WE=n-m/\m<=n/\dQ t H u b D (p+m) P M e v/\gr b s H/\l.e=72/\l.N 0=cH b/\l.N 1=I n/\l.N 5=I (bZ D p m:Se)/\l.N 6=I m)
  ⟨0,rfl,Z,h,gr.p _ _,V f,V g,V d,aa,aa⟩ ?_
 rintro WW WX WY ⟨a,rfl,WZ,h,K,r,L,d,O,w⟩;by_cases W0:a<n
 ·have WG:(a:Si)<n:=Z;have W1:(p+a)%8<8:=Tg _ Z;have Q:(p+a)/8<D.length:=Z;have R:=h.bT.c.P de Q;rw[dn Q] at R;have W2:(D.getD ((p+a)/8) 0).toNat/2^((p+a)%8)<256:=S7 (Te _ _) (D.getD ((p+a)/8) 0).toNat_lt;have WH:(D.getD ((p+a)/8) 0).toNat/2^((p+a)%8)%2=cD D (p+a):=rfl;have S:=oa D (p+a);have T:a<32:=Z;have U:=sP (fx D p a) S T;rw[(rfl:bZ D p a+cD D (p+a)*2^a=bZ D p (a+1))] at U;have W:=h.bT.c.r (k:= .i64) (x:=(((p+a)/8:Se):Si)) Sm bw Z Z;rw[Sq] at W;have WI:=qf Sf 3 .u64 S T;simp(disch:=omega)only[aI,bD,SD,St,↓SF,r,L,d,O,w,Sk WG,te,qv,(h.E.o cJ 0 4),(h.E.o aB 1 4),(h.bT.c.m),kI,rA,gy,xH,cg,W,R,gU Sl Ss,rB,HP,jc,HQ,WH,gU SH Sl,WI,j4,U,Sl,Ss];refine db aQ h.E rfl aA rfl ?_;intro W3 WJ X Wy;refine aq r w ?_;refine aH (n-(a+1)) Z ⟨a+1,rfl,Z,h.M (b:=p+(a+1)) WJ X Wy,K.a ⟨X,Wy⟩,V r,V L,V d,aa,aa⟩
 obtain rfl:a=n:=Z;have WK:¬(a:Si)<a:=Z;refine e8 r d O w WK @SE ?_;exact⟨⟨h,j⟩,K⟩
theorem pf (d:Se)(s:J)(f a:Se)(D P:Sg Sh)(p e:Se)(M:Si)(b g:So)(j:eK d f a D P M b g s (.ok p))(k:0<e):
  Runs Sf aw 140 [cH a,I (e:Se)] s fun _ h=>eK d f a D P M b g h (.error e)/\gr a s h:=by
 obtain⟨h,-⟩:=j;refine(pd s a b _ e h.E).b ?_;rintro _ d ⟨f,d,e⟩;exact⟨⟨b,_,_,_,⟨f,(h.G.j (aF.f (i:=a) (o:=0) (c:=none) d e) (fun a=>h.U (by injection a))),k,h.U,h.ir,h.iu⟩⟩,⟨d,e⟩⟩
theorem Bd (s:J)(c:So)(a:Sg Se)(d:az s 1 c a.length (bf a))(f:a.length<=1000)(m:jo a):
  Runs Sf aw 163 [c] s fun v e=>v= .bool (decide (fK a))/\e=s:=by
 refine Runs.ey 38 Tryz.func163 rfl fun f e g=> ?_
 refine ax e ?_;refine aZ.eO (fun z f t=>∃i:Se,z=a.length-i/\i<=a.length/\t=s/\f.e=38/\f.N 0=c/\f.N 3=I (dJ (a.take i):Se)/\f.N 4=I (gN (a.take i):Se)/\f.N 5=I (i:Se))
  ⟨0,rfl,Z,rfl,V e,V g,aa,aa,aa⟩ ?_
 rintro z f t ⟨i,rfl,c,rfl,e,f,g,n,j⟩;by_cases c:i<a.length
 ·have h:(i:Si)<(a.length:Si):=Z;have p:=d.r (k:= .i64) (x:=(i:Si)) ec aQ Z Z;rw[Sq] at p;have q:=d.P rC c;rw[l3 c] at q;have o:=I7 c;have l:=I8 c;have c:=m i;have c:=A8 (a.take i);have c:=A9 (a.take i);have c:(a.take i).length=i:=by rw[List.length_take];omega
  by_cases r:0<a.getD i 0
  ·have c:((a.getD i 0:Se):Si)>0:=Z;rw[Sn r] at o l;have m:=qf Sf 3 .u64 (b:=1) ai (k:=15-a.getD i 0) Z;rw[Nat.one_mul] at m;have m:bN Sf .shl 3 (I 1) (.int .u64 ((15-a.getD i 0:Se):Si))=some (I ((2^(15-a.getD i 0):Se):Si)):=m;have s:2^(15-a.getD i 0)<=2^15:=SG Z Z;have t:(2:Se)^15=32768:=by decide
   generalize 2^(15-a.getD i 0)=W at o m s;refine wO e f g n j (d.g ec) (Sk h) p q (Sk c) (Z:(15:Si)-((a.getD i 0:Se):Si)=((15-a.getD i 0:Se):Si)) (dH Sl Ss) @rB m (Z:((dJ (a.take i):Se):Si)+((W:Se):Si)=((dJ (a.take (i+1)):Se):Si)) (Z:((gN (a.take i):Se):Si)+1=((gN (a.take (i+1)):Se):Si)) ?_;exact aH (a.length-(i+1)) Z ⟨i+1,rfl,Z,rfl,V e,V f,aa,aa,aa⟩
  have c:¬((a.getD i 0:Se):Si)>0:=Z;rw[Sp r] at o l;refine c1 e f j (d.g ec) (Sk h) p q c ?_;exact aH (a.length-(i+1)) Z ⟨i+1,rfl,Z,rfl,V e,V f,by simp only[cx,↓SF,St,g];rw[o,Tk],by simp only[cx,↓SF,St,n];rw[l,Tk],aa⟩
 obtain rfl:i=a.length:=Z;have h:¬((a.length:Se):Si)<((a.length:Se):Si):=Z;rw[SU] at g n;by_cases i:dJ a<=32768
 ·have c:((dJ a:Se):Si)<=32768:=Z;by_cases i:dJ a=32768
  ·have m:((dJ a:Se):Si)=32768:=Z;have l:fK a:= .inl i;exact NB e f g j (d.g ec) h (Sk c) (Sk m) (Sk l) @SZ
  have i:¬((dJ a:Se):Si)=32768:=Z;refine F4 e f g n j (d.g ec) h (Sk c) i @SZ ?_;simp only[(propext ⟨fun i=> .inr ⟨Z,Z⟩,fun i=>by rcases i with i|i<;>omega⟩:(((gN a:Se):Si)<=1)=fK a)]
 have c:¬((dJ a:Se):Si)<=32768:=Z;exact NA e f g j (d.g ec) h c (SS ((fun h=>by rcases h with h|h<;>omega):¬fK a)) @SZ
end Go.Proofs.YtgpmffbleaphkaaGreat
namespace Go.Proofs.YtgpmffbleaphkaaGreat
open Go.Cl Go.Cl.Rw Go.Cl.Sto Go.Cl.Fx
theorem RP (f:Se)(s:J)(a b:Se)(D P:Sg Sh)(p:Se)(M:Si)(g o:So)(h:dQ f s a b D p P M g o)(r:D.length<=1000000000)(q:Se)(d:257<=q)(e:q<=285)(l:p+dR q<=8*D.length):
  Runs Sf aw 161 [cH a,I (q:Se)] s fun v c=>v=I (jL q (bZ D p (dR q)):Se)/\dQ f c a b D (p+dR q) P M g o/\cr a b o s o c:=by
 refine Runs.ef 32 Tl rfl fun d c=> ?_
 by_cases d:q<=264
 ·have e:(q:Si)<=264:=Z;refine bS c (Sk e) @SO ?_;rw[(show((jL q (bZ D p (dR q)):Se):Si)=(q:Si)-254 by unfold jL;rw[Sn d];omega),(show dR q=0 by unfold dR;rw[Sn (.inl d)])];exact⟨rfl,h,cr.p _ _ _ _⟩
 have e:¬(q:Si)<=264:=Z;by_cases i:q=285
 ·have j:(q:Si)=285:=Z;refine b0 c e (Sk j) @SO ?_;rw[(show jL q (bZ D p (dR q))=258 by unfold jL;rw[Sp d,Sn i]),(show dR q=0 by unfold dR;rw[Sn (.inr i)])];exact⟨rfl,h,cr.p _ _ _ _⟩
 have j:¬(q:Si)=285:=Z;have m:dR q=(q-261)/4:=by unfold dR;rw[Sp Z]
 have t:(q:Si)-261=((q-261:Se):Si):=Z;have u:(q:Si)-265=((q-265:Se):Si):=Z;have v:((q-261:Se):Si).tdiv 4=(((q-261)/4:Se):Si):=by rw[Sx Z];omega
 have w:((q-265:Se):Si).tmod 4=(((q-265)%4:Se):Si):=by rw[Sy Z];omega
 have y:(4:Si)+(((q-265)%4:Se):Si)=((4+(q-265)%4:Se):Si):=Z;have n:=xJ (show(q-261)/4<=5 from Z);have z:(4+(q-265)%4)*2^((q-261)/4)<=7*2^5:=SN (Z:4+(q-265)%4<=7) n;have n:=uU Sf 3 .u64 (x:=4+(q-265)%4) (k:=(q-261)/4) Z Z;have A:jL q (bZ D p (dR q))=(4+(q-265)%4)*2^((q-261)/4)+3+bZ D p ((q-261)/4):=by unfold jL;rw[Sp d,Sp i,m]
 have d:=fx D p ((q-261)/4);rw[A];rw[m] at l|-
 generalize d:(4+(q-265)%4)*2^((q-261)/4)=X at z n;have d:=h.G.o dD 0 4;refine kP c e j t @kI v u @gy w y (dH Sl Ss) @rB n @bP d ?_;refine(tf f s a b D P p ((q-261)/4) M g o h Z l r).b ?_;rintro _ a ⟨rfl,a,b⟩;have d:((X:Se):Si)+3+((bZ D p ((q-261)/4):Se):Si)=((X+3+bZ D p ((q-261)/4):Se):Si):=Z;refine bS c d @SO ?_;exact⟨a,b⟩
theorem RQ (d:Se)(s:J)(a b:Se)(D P:Sg Sh)(p:Se)(M:Si)(e o:So)(h:dQ d s a b D p P M e o)(m:D.length<=1000000000)(q:Se)(f:q<=29)(i:p+fa q<=8*D.length):
  Runs Sf aw 162 [cH a,I (q:Se)] s fun v c=>v=I (jM q (bZ D p (fa q)):Se)/\dQ d c a b D (p+fa q) P M e o/\cr a b o s o c:=by
 refine Runs.ef 27 Tm rfl fun c f=> ?_
 by_cases c:q<=3
 ·have g:(q:Si)<=3:=Z;refine bS f (Sk g) @S0 ?_;rw[(show((jM q (bZ D p (fa q)):Se):Si)=(q:Si)+1 by unfold jM;rw[Sn c];omega),(show fa q=0 by unfold fa;rw[Sn c])];exact⟨rfl,h,cr.p _ _ _ _⟩
 have g:¬(q:Si)<=3:=Z;have j:fa q=q/2-1:=by unfold fa;rw[Sp c]
 have n:(q:Si).tdiv 2=((q/2:Se):Si):=by rw[Sx Z];omega
 have r:((q/2:Se):Si)-1=((q/2-1:Se):Si):=Z;have t:(q:Si).tmod 2=((q%2:Se):Si):=by rw[Sy Z];omega
 have u:(2:Si)+((q%2:Se):Si)=((2+q%2:Se):Si):=Z;have l:=xJ (show q/2-1<=13 from Z);have v:(2+q%2)*2^(q/2-1)<=3*2^13:=SN (Z:2+q%2<=3) l;have l:=uU Sf 3 .u64 (x:=2+q%2) (k:=q/2-1) Z Z;have w:jM q (bZ D p (fa q))=(2+q%2)*2^(q/2-1)+1+bZ D p (q/2-1):=by unfold jM;rw[Sp c,j]
 have c:=fx D p (q/2-1);rw[w];rw[j] at i|-
 generalize c:(2+q%2)*2^(q/2-1)=X at v l;have c:=h.G.o dD 0 4;refine mA f g @kI n r @gy t u (dH Sl Ss) @rB l @bP c ((tf d s a b D P p (q/2-1) M e o h Z i m).b ?_);rintro _ a ⟨rfl,a,b⟩;have c:((X:Se):Si)+1+((bZ D p (q/2-1):Se):Si)=((X+1+bZ D p (q/2-1):Se):Si):=Z;refine bS f c @S0 ?_;exact⟨a,b⟩
end Go.Proofs.YtgpmffbleaphkaaGreat
namespace Go.Proofs.YtgpmffbleaphkaaGreat
open Go.Cl Go.Cl.Rw Go.Cl.Sto Go.Cl.Fx Go.Cl.Nf
def u9 (b c d:Se)(D:Sg Sh)(M:Si)(f o:So)(s a:J):Sv Se (Se×Sg Sh)->Prop
 | .ok (q,P)=>∃e,dQ b a c d D q P M f e/\cr c d o s e a
 | .error e=>iR b a c d e/\ad b s a
theorem oP.HN {c b:Se}{o:So}{s a:J}(f:a.Y=s.Y)(d:∀i,i≠b->a.i.N i=s.i.N i):cr c b o s o a:=⟨Z,fun i _ _ e _=>d i e,.inl rfl⟩
theorem RR (j:Se)(y:J)(d g:Se)(D l:Sg Sh)(s h:Se)(u o:So)(x:dQ j y d g D s l (h:Se) u o)(Xg:s<=8*D.length)(Xh:D.length<=100000000)(W1:l.length<=h)(Xi:h<=100000000)(WB:j<=y.Y):
  Runs Sf aw 136 [cH d] y fun _ W2=>u9 j d g D (h:Se) u o y W2 (jO D h s l):=by
 have⟨b,T⟩:=aO ((s+7)/8);refine Runs.ey 75 Tryz.func136 rfl fun f a e=> ?_
 have r:=x.G.B (P:=Sf) dD (a:=0) (c:=4) rfl aA;refine ax a ?_;obtain⟨W3,W4,WO,-⟩:=zC y;refine LB.kQ.hx W3 W4 0 0 cW cW ?_;rw[nf];refine mA a e (LA.D WO x.G.n) (LA.D WO x.E.n) @ez @bP @qv r (x.E.o aB 1 4) (Z:(s:Si)+7=((s+7:Se):Si)) @kI @rA (show(((s+7)/8:Se):Si)*8=((8*b:Se):Si) by rw[T];omega) ?_;refine LB.gV aQ ai x.E (a:=[I ((8*b:Se):Si)]) rfl rfl rfl aA rfl (fun x=>absurd rfl x) ?_;intro WC W5 WQ WR;have WD:=x.M (b:=8*b) W5 WQ WR;have WS:cr d g o y o WC:=oP.HN WQ WR;have r:=WD.G.o dD 0 4;have G:∀(z:Se) (k:So) (t:J),iR j t d g z->cr d g o y k t->jO D h s l= .error z->u9 j d g D (h:Se) u o y t (jO D h s l):=fun z k t p W6 Wz=>by
  rw[Wz];exact⟨p,W6.A x.iu x.ir x.Q WB⟩
 refine aW a e @bP r ?_;by_cases Xj:8*b+16<=8*D.length;rotate_left
 ·have A:jO D h s l= .error 2:=by unfold jO;rw[<-T,Sp Z]
  refine(ti j WC d g D l (8*b) 16 _ u o WD Z Z Z Z).b ?_;rintro _ O ⟨rfl,p,Q⟩;have⟨WE,WG,WH,WI,w⟩:=id p;have r:=w.G.o dD 0 4;refine aW a e @bP r ((I9 j O d g 2 16 p).b ?_);rintro _ O ⟨rfl,rfl⟩;refine eC a e @bP @cq r (w.E.o aB 2 4) (show¬((2:Se):Si)=0 by decide) ?_;refine aZ.eO (fun H f t=>H=0/\O=t/\f.e=75/\f.N 0=cH d/\f.N 2=I 0/\f.N 4=I 0) ⟨rfl,rfl,V a,V e,aa,aa⟩ ?_;rintro H f _ ⟨rfl,rfl,a,e,q,v⟩;refine oS a q v (SS (show¬(0:Si)<0 by decide)) @Sw ?_;exact G 2 o O p (WS.a Q) A
 refine(tf j WC d g D l (8*b) 16 _ u o WD Z Z Z).b ?_;rintro _ O ⟨rfl,WJ,Q⟩;have Q:=WS.a Q;have W7:=fx D (8*b) 16;have⟨n,WK⟩:=aO (bZ D (8*b) 16);rw[<-WK] at W7|-
 have r:=WJ.G.o dD 0 4;refine aW a e @bP r ?_;by_cases Xk:8*b+16+16<=8*D.length;rotate_left
 ·have A:jO D h s l= .error 2:=by unfold jO;rw[<-T,Sp Z]
  refine(ti j O d g D l (8*b+16) 16 _ u o WJ Z Z Z Z).b ?_;rintro _ U ⟨rfl,p,K⟩;have⟨WE,WG,WH,WI,w⟩:=id p;have r:=w.G.o dD 0 4;have W:=w.E.o aB 2 4;have WT:¬((2:Se):Si)=0:=by decide
  refine eC a e @bP @cq r W WT ?_;refine aZ.eO (fun H f t=>H=0/\U=t/\f.e=75/\f.N 0=cH d/\f.N 2=I (n:Se)/\f.N 4=I 0) ⟨rfl,rfl,V a,V e,aa,aa⟩ ?_;rintro H f _ ⟨rfl,rfl,a,e,q,v⟩;by_cases L:(0:Si)<(n:Si)
  ·refine sy a e q v (Sk L) @bP @cq r W WT @Sw ?_;exact G 2 o U p (Q.a K) A
  refine oS a q v L @Sw ?_;exact G 2 o U p (Q.a K) A
 refine(tf j O d g D l (8*b+16) 16 _ u o WJ Z Z Z).b ?_;rintro _ U ⟨rfl,X,K⟩;have K:=Q.a K;have W8:=fx D (8*b+16) 16;have⟨WA,WL⟩:=aO (bZ D (8*b+16) 16);rw[<-WL] at W8|-
 have Xl:(2:Se)^16=65536:=by decide
 have WU:=HR (m:=WA) Z;have r:=X.G.o dD 0 4;have W:=X.E.o aB 2 4;by_cases WV:n+WA=65535;rotate_left
 ·have W9:¬(n:Si)=((65535-WA:Se):Si):=Z;have A:jO D h s l= .error 4:=by unfold jO;rw[<-T,Sn Z,<-WK,<-WL,Sp WV]
  refine je a e @bP @cq r W @wy WU W9 ((pd U g u _ 4 X.E).b ?_);rintro _ F ⟨WW,Xa,Xb⟩;have⟨p,B⟩:=X.ke ai WW Xa Xb;have⟨WE,WG,WH,WI,w⟩:=id p;refine c0 a ?_;refine aZ.eO (fun H f t=>H=0/\F=t/\f.e=75/\f.N 0=cH d/\f.N 2=I (n:Se)/\f.N 4=I 0) ⟨rfl,rfl,V a,V e,aa,aa⟩ ?_;rintro H f _ ⟨rfl,rfl,a,e,q,v⟩;by_cases L:(0:Si)<(n:Si)
  ·refine sy a e q v (Sk L) @bP @cq (w.G.o dD 0 4) (w.E.o aB 2 4) (show¬((4:Se):Si)=0 by decide) @Sw ?_;exact G 4 o F p (K.a B) A
  refine oS a q v L @Sw ?_;exact G 4 o F p (K.a B) A
 have A:jO D h s l=jN D h n (b+4) l:=by unfold jO;rw[<-T,Sn Z,<-WK,<-WL,Sn WV]
 simp(disch:=omega)only[aI,bD,SD,St,↓SF,undef,a,e,bP,cq,r,W,wy,WU,<-(Z:(n:Si)=((65535-WA:Se):Si))];rw[A];rw[A] at G;refine aZ.eO (fun WM f t=>∃(i:Se),f.e=75/\f.N 0=cH d/\f.N 2=I (n:Se)/\f.N 4=I (i:Se)/\((∃(M:Sg Sh) (k:So),WM=n-i/\i<=n/\b+4+i<=D.length/\jN D h (n-i) (b+4+i) M=jN D h n (b+4) l/\M.length<=h/\dQ j t d g D (8*(b+4+i)) M (h:Se) u k/\cr d g o y k t)\/(WM=0/\∃(z:Se) (k:So),iR j t d g z/\cr d g o y k t/\jN D h n (b+4) l= .error z)))
  ⟨0,V a,V e,aa,aa,.inl ⟨l,o,rfl,Z,Z,rfl,W1,by rw[show 8*(b+4+0)=8*b+16+16 from Z];exact X,K⟩⟩ ?_
 rintro WM f F ⟨i,a,e,q,R,(⟨M,k,rfl,Xm,Xn,E,Xo,v,B⟩|⟨rfl,z,k,p,B,Wz⟩)⟩;rotate_left
 ·have⟨WE,WG,WH,WI,w⟩:=id p;have Xp:=w.k1;by_cases L:(i:Si)<(n:Si)
  ·refine sy a e q R (Sk L) @bP @cq (w.G.o dD 0 4) (w.E.o aB 2 4) (Z:¬(z:Si)=0) @Sw ?_;exact G z k F p B Wz
  refine oS a q R L @Sw ?_;exact G z k F p B Wz
 have WW:j<=F.Y:=Su WB B.Y;by_cases Xq:i<n;rotate_left
 ·obtain rfl:i=n:=Z;rw[Ta,jN] at E;refine oS a q R (Z:¬(i:Si)<i) @Sw ?_;rw[<-E];exact⟨k,v,B⟩
 rw[show n-i=(n-(i+1))+1 from Z,jN] at E;refine je a e q R (Sk (Z:(i:Si)<n)) @bP @cq (v.G.o dD 0 4) (v.E.B (P:=Sf) aB (a:=2) (c:=4) rfl aA) ?_;by_cases WX:b+4+i<D.length;rotate_left
 ·rw[Sp WX] at E;refine(ti j F d g D _ (8*(b+4+i)) 8 _ u k v Z Z Z Z).b ?_;rintro _ Wy ⟨rfl,WY,S⟩;refine nh a e (dH Sl SH) ?_;refine(RN j Wy d g 2 _ WY).b ?_;rintro _ Wy rfl;refine aq a R ?_;exact aH 0 Z ⟨i+1,V a,V e,V q,aa,.inr ⟨rfl,2,k,WY,B.a S,E.symm⟩⟩
 rw[Sn WX] at E;refine(tf j F d g D _ (8*(b+4+i)) 8 _ u k v Z Z Z).b ?_;rintro _ Wy ⟨rfl,WZ,S⟩;have S:=B.a S;rw[PV];have Xr:=(D.getD (b+4+i) 0).toNat_lt;refine fR a e (dH Sl SH) (show IntKind.u8.wrap (((D.getD (b+4+i) 0).toNat:Se):Si)=(((D.getD (b+4+i) 0).toNat:Se):Si) by rw[gz];omega) ?_;by_cases W0:h<=M.length
 ·rw[Sn W0] at E;refine(Ba j Wy d g D M _ _ (D.getD (b+4+i) 0) u k WZ Z).b ?_;rintro _ Xc ⟨Xd,WN⟩;refine aq a R ?_;exact aH 0 Z ⟨i+1,V a,V e,V q,aa,.inr ⟨rfl,7,k,Xd,S.a WN,E.symm⟩⟩
 rw[Sp W0] at E;refine(A0 j Wy d g D M _ _ (D.getD (b+4+i) 0) u k WZ Z Z (Su WB S.Y)).b ?_;rintro _ Xc ⟨Xe,Xf,WN⟩;refine aq a R ?_;exact aH (n-(i+1)) Z ⟨i+1,V a,V e,V q,aa,.inl ⟨M++[D.getD (b+4+i) 0],Xe,rfl,Z,Z,E,by rw[Sr];simp;omega,by rw[show 8*(b+4+(i+1))=8*(b+4+i)+8 from Z];exact Xf,S.a WN⟩⟩
theorem RS (d:Se)(s:J)(b c:Se)(D P:Sg Sh)(p:Se)(M:Si)(e o:So)(h:dQ d s b c D p P M e o)(i:p<=8*D.length)(j:D.length<=1000000000)(q:Se)(g:257<=q)(l:q<=285)(a:¬p+dR q<=8*D.length):
  Runs Sf aw 161 [cH b,I (q:Se)] s fun v f=>(∃n:Se,v=I (n:Se))/\iR d f b c 2/\cr b c o s o f:=by
 refine Runs.ef 32 Tl rfl fun g f=> ?_
 have g:¬q<=264:=fun g=>by unfold dR at a;rw[Sn (.inl g)] at a;omega
 have g:¬q=285:=fun g=>by unfold dR at a;rw[Sn (.inr g)] at a;omega
 have l:(4+(q-265)%4)*2^((q-261)/4)<=7*2^5:=SN (Z:4+(q-265)%4<=7) (xJ (show(q-261)/4<=5 from Z));have g:=uU Sf 3 .u64 (x:=4+(q-265)%4) (k:=(q-261)/4) Z Z;rw[(show dR q=(q-261)/4 by unfold dR;rw[Sp Z])] at a;generalize m:(4+(q-265)%4)*2^((q-261)/4)=X at l g;refine kP f (SS (Z:¬(q:Si)<=264)) (SS (Z:¬(q:Si)=285)) ((Z:(q:Si)-261=((q-261:Se):Si))) @kI ((show((q-261:Se):Si).tdiv 4=(((q-261)/4:Se):Si) by rw[Sx Z];omega)) ((Z:(q:Si)-265=((q-265:Se):Si))) @gy ((show((q-265:Se):Si).tmod 4=(((q-265)%4:Se):Si) by rw[Sy Z];omega)) ((Z:(4:Si)+(((q-265)%4:Se):Si)=((4+(q-265)%4:Se):Si))) (dH Sl Ss) @rB g @bP ((h.G.o dD 0 4)) ?_;refine(ti d s b c D P p ((q-261)/4) M e o h Z a i j).b ?_;rintro _ a ⟨rfl,a,b⟩;refine bS f (Z:((X:Se):Si)+3+0=((X+3:Se):Si)) @SO ?_;exact⟨⟨_,rfl⟩,a,b⟩
theorem RT (d:Se)(s:J)(a b:Se)(D P:Sg Sh)(p:Se)(M:Si)(e o:So)(h:dQ d s a b D p P M e o)(i:p<=8*D.length)(j:D.length<=1000000000)(q:Se)(g:q<=29)(c:¬p+fa q<=8*D.length):
  Runs Sf aw 162 [cH a,I (q:Se)] s fun v f=>(∃n:Se,v=I (n:Se))/\iR d f a b 2/\cr a b o s o f:=by
 refine Runs.ef 27 Tm rfl fun g f=> ?_
 have l:fa q=q/2-1:=by unfold fa;rw[Sp ((fun g=>by unfold fa at c;rw[Sn g] at c;omega):¬q<=3)]
 have m:(2+q%2)*2^(q/2-1)<=3*2^13:=SN (Z:2+q%2<=3) (xJ (show q/2-1<=13 from Z));have g:=uU Sf 3 .u64 (x:=2+q%2) (k:=q/2-1) Z Z;rw[l] at c;generalize l:(2+q%2)*2^(q/2-1)=X at m g;refine mA f (Z:¬(q:Si)<=3) @kI (show(q:Si).tdiv 2=((q/2:Se):Si) by rw[Sx Z];omega) (Z:((q/2:Se):Si)-1=((q/2-1:Se):Si)) @gy (show(q:Si).tmod 2=((q%2:Se):Si) by rw[Sy Z];omega) (Z:(2:Si)+((q%2:Se):Si)=((2+q%2:Se):Si)) (dH Sl Ss) @rB g @bP (h.G.o dD 0 4) ((ti d s a b D P p (q/2-1) M e o h Z c i j).b ?_);rintro _ a ⟨rfl,a,b⟩;refine bS f (Z:((X:Se):Si)+1+0=((X+1:Se):Si)) @S0 ?_;exact⟨⟨_,rfl⟩,a,b⟩
end Go.Proofs.YtgpmffbleaphkaaGreat
namespace Go.Cl.Nf
open Go.Cl.Fx
theorem Ja {x b:Se}(c:x<=285)(a:b<2^dR x):jL x b<=1000:=by
 unfold jL;split
 ·omega
 split
 ·omega
 have e:dR x=(x-261)/4:=by unfold dR;rw[Sp Z]
 rw[e] at a;have a:2^((x-261)/4)<=2^6:=SG Z Z;have b:(4+(x-265)%4)*2^((x-261)/4)<=7*2^6:=SN Z a;have a:(2:Se)^6=64:=by decide
 omega
end Go.Cl.Nf
namespace Go.Proofs.YtgpmffbleaphkaaGreat
open Go.Cl Go.Cl.Rw Go.Cl.Sto Go.Cl.Fx Go.Cl.Nf
theorem Jb
  (j:Se) (W:J) (c d:Se) (D W4:Sg Sh) (W5 q Xq:Se) (s L:So) (u:dQ j W c d D W5 W4 (q:Se) s L) (Xr:W5<=8*D.length) (YC:D.length<=100000000) (Xs:W4.length<=q) (YD:q<=100000000) (YE:8*D.length<Xq) (X1:j<=W.Y)
  (WI Wy:So) (S T:Sg Se) (WM:eI c d L W WI S) (WN:eI c d L W Wy T) (Ym:S.length<=300) (X2:T.length<=300):
  Runs Sf aw 138 [cH c,WI,Wy] W fun _ Yn=>u9 j c d D (q:Se) s L W Yn (iP D q S T Xq W5 W4):=by
 refine Runs.iY 147 Tryz.func138 rfl fun f a b B y=> ?_
 refine aq a B ((Ay W WI S WM.1 Ym).b ?_);rintro W6 Yo ⟨WO,-,Xt,W7⟩;have YF:=W7.Y;refine aq a y ((Ay Yo Wy T (WN.1.C W7) X2).b ?_);rintro WQ WJ ⟨WR,-,Xu,Xn⟩;have YG:=Xn.Y;have WS:=W7.d Xn;have WT:dQ j WJ c d D W5 W4 (q:Se) s L:=⟨u.E.C WS,u.G.C WS,u.bT.A (WS.q X1),u.br.C WS,u.Q,u.lF,u.qw,u.U,u.ir,u.iu⟩;have YH:=u.G.n;have YI:=u.E.n;have X3:∀i,ak L=some i->i<W.Y:=fun i F=>u.br.z i F
 have Xv:cr c d L W L WJ:=⟨WS.Y,fun i F _ _ _=>WS.N i F,.inl rfl⟩;have X4:=WM.fm Xv;have X5:=WN.fm Xv;have X6:eI c d L WJ W6 (gH S):=⟨by rw[yc];exact(WO.C Xn).c,fun i F=>⟨ag ((WO.C Xn).z i F),ag (Xt i F),ag (Xt i F),fun o=>bq (X3 i o) (Xt i F)⟩⟩;have X7:eI c d L WJ WQ (gH T):=⟨by rw[yc];exact WR.c,fun i F=>⟨ag (WR.z i F),ag (Xu i F),ag (Xu i F),fun o=>bq (X3 i o) (Xu i F)⟩⟩;have⟨Xw,X8⟩:=aO (iP D q S T Xq W5 W4);have W8:∀(g:So) (t:J),cr c d L WJ g t->ad j W t:=fun g t E=>(WS.q X1).a (E.A u.iu u.ir u.Q (Z:j<=WJ.Y))
 rw[<-X8];refine ax a ?_;refine aZ.w (fun z f t=>f.e=147/\f.N 0=cH c/\((∃(WU:Se) (P:Sg Sh) (g:So),iP D q S T z WU P=Xw/\8*D.length<WU+z/\WU<=8*D.length/\P.length<=q/\dQ j t c d D WU P (q:Se) s g/\cr c d L WJ g t/\eI c d g t WI S/\eI c d g t Wy T/\eI c d g t W6 (gH S)/\eI c d g t WQ (gH T)/\f.N 1=WI/\f.N 2=Wy/\f.N 6=W6/\f.N 7=WQ)\/(z=0/\∃(o:Se) (g:So),iR j t c d o/\cr c d L WJ g t/\Xw= .error o)))
  (fun z f t=>(z= .bF\/z= .bb 0)/\f.e=147/\u9 j c d D (q:Se) s L W t Xw)
  ⟨V a,V b,.inl ⟨W5,W4,L,X8.symm,Z,Xr,Xs,WT,cr.p _ _ _ _,X4,X5,X6,X7,V B,V y,aa,aa⟩⟩ ?_ ?_
 rotate_left
 ·clear a b B y f WT WM WN X4 X5 WO X6 WR X7;rintro z f t ⟨rfl|rfl,a,X9⟩
  ·refine lo @Tf ?_;exact X9
  refine lo @Tf ?_;exact X9
 rintro YJ WV z f t ⟨a,b,(⟨WU,P,g,e,YK,Xr,Xs,Xx,E,WM,WN,WO,WR,B,y,O,M⟩|⟨rfl,o,g,h,E,W9⟩)⟩;rotate_left
 ·have⟨WW,WX,WY,WZ,l⟩:=id h;have Xy:=l.k1;refine ch a b @bP @cq (l.G.o dD 0 4) (l.E.o aB 2 4) (Z:¬(o:Si)=0) ?_;exact WV _ _ _ ⟨.inr rfl,V a,by rw[W9];exact⟨h,W8 g t E⟩⟩
 obtain⟨Xa,rfl⟩:∃Xa,z=Xa+1:=⟨z-1,Z⟩
 have v:=Xx.G.o dD 0 4;have G:=Xx.E.o aB 2 4;rw[iP] at e;have YL:j<=t.Y:=ag E.Y;refine c1 a b B O @bP @cq v G ((Bc j t c d D P WU _ s g Xx Xr Z WI W6 S (gH S) WM WO (A7 S) Z).b fun Yp W0 Wz=> ?_);cases Xz:dS D S WU with
 |error o=>
  rw[Xz] at Wz e;obtain⟨rfl,h,WA⟩:=Wz;have⟨WW,WX,WY,WZ,l⟩:=id h;have Xy:=l.k1;refine eC a b @bP @cq (l.G.o dD 0 4) (l.E.o aB 2 4) (Z:¬(o:Si)=0) ?_;exact WV _ _ _ ⟨.inl rfl,V a,by rw[<-e];exact⟨h,W8 g W0 (E.a WA)⟩⟩
 |ok r=>
 have⟨r,W1⟩:=r;rw[Xz] at Wz e;obtain⟨rfl,WB,WA⟩:=Wz;have YM:=pb Xz;have v:=WB.G.o dD 0 4;have G:=WB.E.o aB 2 4;dsimp only at e;by_cases Ya:r=256
 ·have Xd:((r:Se):Si)=256:=Z;rw[Sn Ya] at e;refine eC a b @bP @cq v G (Sk Xd) ?_;exact WV _ _ _ ⟨.inl rfl,V a,by rw[<-e];exact⟨g,WB,Xv.a (E.a WA)⟩⟩
 have Xd:¬((r:Se):Si)=256:=Z;rw[Sp Ya] at e;by_cases Yb:r<256
 ·have Xo:((r:Se):Si)<256:=Z;rw[Sn Yb] at e;refine jF a b @bP @cq v G Xd (Sk Xo) (dH Sl SH) @HO ?_;by_cases Xe:q<=P.length
  ·rw[Sn Xe] at e;refine(Ba j W0 c d D P _ _ (S4 r) s g WB Z).b ?_;rintro _ WC ⟨h,Q⟩;refine ax a ?_;exact aH 0 Z ⟨V a,V b,.inr ⟨rfl,7,g,h,(E.a WA).a Q,e.symm⟩⟩
  rw[Sp Xe] at e;refine(A0 j W0 c d D P _ _ (S4 r) s g WB Z Z (ag WA.Y:j<=W0.Y)).b ?_;rintro _ WC ⟨Yq,WT,Q⟩;have Xf:=WA.a Q;refine ax a ?_;exact aH Xa Z ⟨V a,V b,.inl ⟨W1,P++[S4 r],Yq,e,Z,Z,by rw[Sr,S2];omega,WT,E.a Xf,WM.fm Xf,WN.fm Xf,WO.fm Xf,WR.fm Xf,V B,V y,V O,V M⟩⟩
 have Xo:¬((r:Se):Si)<256:=Z;rw[Sp Yb] at e;unfold nx at e;by_cases Yc:285<r
 ·have Yr:((r:Se):Si)>285:=Z;rw[Sn Yc] at e;refine je a b @bP @cq v G Xd Xo (Sk Yr) ((pd W0 d s _ 4 WB.E).b ?_);rintro _ WC ⟨Xg,Xh,Xi⟩;have⟨h,Q⟩:=WB.ke ai Xg Xh Xi;refine ax a ?_;exact WV _ _ _ ⟨.inl rfl,V a,by rw[<-e];exact⟨h,W8 g WC ((E.a WA).a Q)⟩⟩
 rw[Sp Yc] at e;refine je a b @bP @cq v G Xd Xo (Z:¬((r:Se):Si)>285) ?_;by_cases Xj:W1+dR r<=8*D.length;rotate_left
 ·rw[hH Xj] at e;refine(RS j W0 c d D P W1 _ s g WB Z Z r Z Z Xj).b ?_;rintro _ WC ⟨⟨w,rfl⟩,h,Q⟩;have⟨WW,WX,WY,WZ,l⟩:=id h;have v:=l.G.o dD 0 4;refine ib a b y M @bP v ((RO j WC c d 2 Wy WQ h).b ?_);rintro _ WC ⟨rfl,rfl⟩;refine eC a b @bP @cq (l.G.o dD 0 4) (l.E.o aB 2 4) (show¬((2:Se):Si)=0 by decide) ?_;exact WV _ _ _ ⟨.inl rfl,V a,by rw[<-e];exact⟨h,W8 g WC ((E.a WA).a Q)⟩⟩
 rw[gp Xj] at e;dsimp only at e;refine(RP j W0 c d D P W1 _ s g WB Z r Z Z Xj).b ?_;rintro _ WC ⟨rfl,WT,Q⟩;have Q:=WA.a Q;have v:=WT.G.o dD 0 4;have Ys:=Ja (x:=r) Z (fx D W1 (dR r));generalize YN:jL r (bZ D W1 (dR r))=w at e Ys;refine ib a b y M @bP v ((Bc j WC c d D P _ _ s g WT Xj Z Wy WQ T (gH T) (WN.fm Q) (WR.fm Q) (A7 T) Z).b fun Yp Xp Wz=> ?_);cases XW:dS D T (W1+dR r) with
 |error o=>
  rw[XW] at Wz e;obtain⟨rfl,h,W2⟩:=Wz;have⟨WW,WX,WY,WZ,l⟩:=id h;have Xy:=l.k1;refine eC a b @bP @cq (l.G.o dD 0 4) (l.E.o aB 2 4) (Z:¬(o:Si)=0) ?_;exact WV _ _ _ ⟨.inl rfl,V a,by rw[<-e];exact⟨h,W8 g Xp (E.a (Q.a W2))⟩⟩
 |ok Yt=>
 have⟨R,WD⟩:=Yt;rw[XW] at Wz e;obtain⟨rfl,Xb,W2⟩:=Wz;have W2:=Q.a W2;have YO:=pb XW;have v:=Xb.G.o dD 0 4;have G:=Xb.E.o aB 2 4;dsimp only at e;by_cases Yd:30<=R
 ·have Yu:((R:Se):Si)>29:=Z;rw[Sn Yd] at e;refine eC a b @bP @cq v G (Sk Yu) ((pd Xp d s _ 4 Xb.E).b ?_);rintro _ WK ⟨Xg,Xh,Xi⟩;have⟨h,WE⟩:=Xb.ke ai Xg Xh Xi;have⟨WW,WX,WY,WZ,l⟩:=id h;refine eC a b @bP @cq (l.G.o dD 0 4) (l.E.o aB 2 4) (show¬((4:Se):Si)=0 by decide) ?_;exact WV _ _ _ ⟨.inl rfl,V a,by rw[<-e];exact⟨h,W8 g WK (E.a (W2.a WE))⟩⟩
 rw[Sp Yd] at e;refine eC a b @bP @cq v G (Z:¬((R:Se):Si)>29) ?_;by_cases Xk:WD+fa R<=8*D.length;rotate_left
 ·rw[hH Xk] at e;refine(RT j Xp c d D P WD _ s g Xb Z Z R Z Xk).b ?_;rintro _ WK ⟨⟨YP,rfl⟩,h,WE⟩;have⟨WW,WX,WY,WZ,l⟩:=id h;have v:=l.G.o dD 0 4;have G:=l.E.o aB 2 4;have Ye:¬((2:Se):Si)=0:=by decide
  refine eC a b @bP @cq v G Ye ?_;refine aZ.w (fun z f m=>z=0/\WK=m/\f.e=147/\f.N 0=cH c/\f.N 9=I (w:Se)/\f.N 12=I 0)
   (fun z f m=>z= .bb 2/\WK=m/\f.e=147/\f.N 0=cH c) ⟨rfl,rfl,V a,V b,aa,aa⟩ ?_ ?_
  ·clear a b B y O M f;rintro Yf WG z f _ ⟨rfl,rfl,a,b,U,X⟩;by_cases WL:(0:Si)<(w:Si)
   ·refine jF a b U X (Sk WL) @bP @cq v G Ye ?_;exact WG _ _ _ ⟨rfl,rfl,V a,V b⟩
   refine fR a U X WL ?_;exact WG _ _ _ ⟨rfl,rfl,V a,V b⟩
  rintro z f _ ⟨rfl,rfl,a,b⟩;refine ax a ?_;exact aH 0 Z ⟨V a,V b,.inr ⟨rfl,2,g,h,(E.a (W2.a WE)),e.symm⟩⟩
 rw[gp Xk] at e;dsimp only at e;refine(RQ j Xp c d D P WD _ s g Xb Z R Z Xk).b ?_;rintro _ WK ⟨rfl,W3,WE⟩;have WE:=W2.a WE;have Yv:1<=jM R (bZ D WD (fa R)):=by unfold jM;split<;>omega
 generalize YQ:jM R (bZ D WD (fa R))=H at e Yv;have v:=W3.G.o dD 0 4;have XX:=W3.G.o cJ 1 4;have G:=W3.E.o aB 2 4;have XY:=W3.br.c.cd Sm (a:=WK);by_cases Yg:P.length<H
 ·have Yw:((H:Se):Si)>((P.length:Se):Si):=Z;rw[Sn Yg] at e;refine jF a b @bP @rG @cq v XX G XY (Sk Yw) ((pd WK d s _ 4 W3.E).b ?_);rintro _ Yh ⟨Xg,Xh,Xi⟩;have⟨h,K⟩:=W3.ke ai Xg Xh Xi;have⟨WW,WX,WY,WZ,l⟩:=id h;refine c0 a ?_;refine aZ.w (fun z f m=>z=0/\Yh=m/\f.e=147/\f.N 0=cH c/\f.N 9=I (w:Se)/\f.N 12=I 0)
   (fun z f m=>z= .bb 2/\Yh=m/\f.e=147/\f.N 0=cH c) ⟨rfl,rfl,V a,V b,aa,aa⟩ ?_ ?_
  ·clear a b B y O M f;rintro Yf WG z f _ ⟨rfl,rfl,a,b,U,X⟩;by_cases WL:(0:Si)<(w:Si)
   ·refine jF a b U X (Sk WL) @bP @cq (l.G.o dD 0 4) (l.E.o aB 2 4) (show¬((4:Se):Si)=0 by decide) ?_;exact WG _ _ _ ⟨rfl,rfl,V a,V b⟩
   refine fR a U X WL ?_;exact WG _ _ _ ⟨rfl,rfl,V a,V b⟩
  rintro z f _ ⟨rfl,rfl,a,b⟩;refine ax a ?_;exact aH 0 Z ⟨V a,V b,.inr ⟨rfl,4,g,h,(E.a (WE.a K)),e.symm⟩⟩
 rw[Sp Yg] at e;refine jF a b @bP @rG @cq v XX G XY (Z:¬((H:Se):Si)>((P.length:Se):Si)) ?_;refine aZ.w (fun z f m=>∃i:Se,j<=m.Y/\f.e=147/\f.N 0=cH c/\f.N 1=WI/\f.N 2=Wy/\f.N 6=W6/\f.N 7=WQ/\f.N 9=I (w:Se)/\f.N 11=I (H:Se)/\f.N 12=I (i:Se)/\((∃(n:Sg Sh) (p:So),z=w-i/\i<=w/\h5 q H (w-i) n=h5 q H w P/\H<=n.length/\n.length<=q/\dQ j m c d D (WD+fa R) n (q:Se) s p/\cr c d g t p m)\/(z=0/\∃(o:Se) (p:So),iR j m c d o/\cr c d g t p m/\h5 q H w P= .error o)))
  (fun z f m=>z= .bb 2/\f.e=147/\f.N 0=cH c/\f.N 1=WI/\f.N 2=Wy/\f.N 6=W6/\f.N 7=WQ/\((∃(n:Sg Sh) (p:So),h5 q H w P= .ok n/\n.length<=q/\dQ j m c d D (WD+fa R) n (q:Se) s p/\cr c d g t p m)\/(∃(o:Se) (p:So),iR j m c d o/\cr c d g t p m/\h5 q H w P= .error o)))
  ⟨0,(ag WE.Y:j<=WK.Y),V a,V b,V B,V y,V O,V M,aa,aa,aa,.inl ⟨P,g,rfl,Z,rfl,Z,Xs,W3,WE⟩⟩ ?_ ?_
 ·clear a b B y O M f v XX G XY;rintro Yf WG z f m ⟨i,Yx,a,b,B,y,O,M,U,XZ,X,(⟨n,p,rfl,F,WH,YR,X0,A,K⟩|⟨rfl,o,p,h,K,W9⟩)⟩;rotate_left
  ·have⟨WW,WX,WY,WZ,l⟩:=id h;have Xy:=l.k1;by_cases WL:(i:Si)<(w:Si)
   ·refine jF a b U X (Sk WL) @bP @cq (l.G.o dD 0 4) (l.E.o aB 2 4) (Z:¬(o:Si)=0) ?_;exact WG _ _ _ ⟨rfl,V a,V b,V B,V y,V O,V M,.inr ⟨o,p,h,K,W9⟩⟩
   refine fR a U X WL ?_;exact WG _ _ _ ⟨rfl,V a,V b,V B,V y,V O,V M,.inr ⟨o,p,h,K,W9⟩⟩
  by_cases YS:i<w;rotate_left
  ·obtain rfl:i=w:=Z;rw[Ta,h5] at WH;refine fR a U X (Z:¬((i:Se):Si)<((i:Se):Si)) ?_;exact WG _ _ _ ⟨rfl,V a,V b,V B,V y,V O,V M,.inl ⟨n,p,WH.symm,X0,A,K⟩⟩
  rw[show w-i=(w-(i+1))+1 from Z,h5] at WH;refine je a b U X (Sk (Z:((i:Se):Si)<((w:Se):Si))) @bP @cq (A.G.o dD 0 4) (A.E.o aB 2 4) (LB.T 0 0 fun YT X2 Yi _ Xl YU=> ?_);have Yj:cr c d p m p (aS m 0):=⟨Z,fun i F _ _ _=>Xl.N i F,.inl rfl⟩;have Xc:dQ j (aS m 0) c d D (WD+fa R) n (q:Se) s p:=⟨A.E.C Xl,A.G.C Xl,A.bT.A (Xl.q Yx),A.br.C Xl,A.Q,A.lF,A.qw,A.U,A.ir,A.iu⟩;have Yk:n.length-H<n.length:=Z;have Yl:=Xc.br.c.r (k:= .i64) (x:=((n.length-H:Se):Si)) Sm bw Z Z;rw[Sq] at Yl;have W7:=Xc.br.c.P de Yk;rw[dn Yk] at W7;refine nS a b XZ X @rG ((Xc.G.o cJ 1 4)) ((LA.D Yi A.G.n)) ((fun Xa=>LA.iG A.br.c Yi (k:=Xa))) ((LA.q9 A.br.c)) ((Xc.br.c.cd Sm (a:=aS m 0))) A.br.m ((Z:((n.length:Se):Si)-(H:Si)=((n.length-H:Se):Si))) Yl W7 ?_;by_cases Xe:q<=n.length
  ·rw[Sn Xe] at WH;refine(Ba j (aS m 0) c d D n _ _ (n.getD (n.length-H) 0) s p Xc Z).b ?_;rintro _ Yy ⟨h,Xm⟩;refine⟨fun u=>u.elim,?_⟩;have Yz:=Xm.Y;exact aH 0 Z ⟨i+1,Z,V a,V b,V B,V y,V O,V M,V U,V XZ,aa,.inr ⟨rfl,7,p,h,K.a (Yj.a Xm),WH.symm⟩⟩
  rw[Sp Xe] at WH;refine(A0 j (aS m 0) c d D n _ _ (n.getD (n.length-H) 0) s p Xc Z Z Z).b ?_;rintro _ Yy ⟨YA,YB,Xm⟩;refine⟨fun u=>u.elim,?_⟩;have Yz:=Xm.Y;exact aH (w-(i+1)) Z ⟨i+1,Z,V a,V b,V B,V y,V O,V M,V U,V XZ,aa,.inl ⟨_,YA,rfl,Z,WH,by rw[Sr];omega,by rw[Sr,S2];omega,YB,K.a (Yj.a Xm)⟩⟩
 rintro z f m ⟨rfl,a,b,B,y,O,M,(⟨n,p,WH,X0,A,K⟩|⟨o,p,h,K,W9⟩)⟩
 ·rw[WH] at e;refine ax a ?_;exact aH Xa Z ⟨V a,V b,.inl ⟨WD+fa R,n,p,e,Z,Xk,X0,A,E.a K,WM.fm K,WN.fm K,WO.fm K,WR.fm K,V B,V y,V O,V M⟩⟩
 rw[W9] at e;refine ax a ?_;exact aH 0 Z ⟨V a,V b,.inr ⟨rfl,o,p,h,E.a K,e.symm⟩⟩
end Go.Proofs.YtgpmffbleaphkaaGreat