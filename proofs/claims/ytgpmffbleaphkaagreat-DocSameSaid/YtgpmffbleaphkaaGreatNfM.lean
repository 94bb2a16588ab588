import Derived.Test.YtgpmffbleaphkaaGreatNfH
open _root_ renaming Nat->Se,Int->Si,eq_true->Sl,if_neg->Sm,reduceIte->Sq,if_pos->Sr,List->Ss,decide_eq_true->Sv,of_decide_eq_true->SB,UInt8->SF,decide_eq_false->SN,eq_false->SS,Except->S2,Bool->To
open Nat renaming reduceEqDiff->Sf,reduceLT->Sk,reduceAdd->SE,mod_eq_of_lt->SG,pow_le_pow_right->SK,mul_one->SP,add_zero->SR,add_one_sub_one->S1,xor_lt_two_pow->S3,sub_self->S4,mul_le_mul->Tf,xor_assoc->Th,le_trans->Ti,xor_self->Tk,xor_zero->Tl,sub_zero->Tm,le_refl->Tn
open Go.Proofs.Tryz renaming prog->Sg,results181->Sw,results187->Sx,results170->Sy,results182->SH,results167->SO,results185->SQ,underlying22->SU,results178->SX,results186->SY,underlying3->S9,underlying5->Ta,results183->Te
open Go renaming Value->Sh
open List renaming getD_eq_getElem?_getD->Sj,replicate->So,length_append->Sp,length_replicate->St,length_take->Su,getElem?_eq_getElem->SD,length_singleton->SI,append_assoc->SJ,toList_toArray->SM,count_le_length->SZ,replicate_succ'->S0,ext_getElem->S5,getElem_set->S6,take_length->S7,length_cons->S8,length_drop->Tb,length_set->Tc,append_nil->Td,drop_zero->Tg
open Int renaming toNat_natCast->Sn
open BitVec renaming ofInt->Sz,toNat_ofNat->SA,ofInt_natCast->SL,toNat_xor->SW,ofNat->Tj
open Go.IntKind renaming i64->SC
open Go.Value renaming int->SV
set_option maxHeartbeats 16000000
set_option linter.unusedSimpArgs false
set_option linter.unusedVariables false
set_option maxRecDepth 100000
namespace Go.Cl.Nf
open Go.Cl.Fx Go.Cl.Sto
theorem Bm {a:Ss Se}{i:Se}(b:i<a.length)(n:Se):gq (a.take (i+1)) n=gq (a.take i) n+if a.getD i 0=n/\n≠0 then 1 else 0:=by
 unfold gq;by_cases h:n=0
 ·subst h;simp
 rw[Sm h,Sm h,u7 b];by_cases c:a.getD i 0=n
 ·rw[Sr c,Sr ⟨c,h⟩]
 rw[Sm c,Sm (fun q=>c q.1)]
theorem Sd (a:Ss Se)(i n:Se):gq (a.take i) n<=a.length:=by
 unfold gq;split
 ·omega
 exact Ti SZ (by rw[Su];omega)
theorem aaa (a:Ss Se)(n:Se):cR a n++e0 a (n+1) a.length=cR a (n+1):=rfl
def h6:Ss (Se×Se)->Ss Se
 |[]=>[]
 |(a,b)::r=>So a b++h6 r
def ve (L:Ss (Se×Se)):Ss Sh:=L.flatMap fun p=>[I (p.1:Se),I (p.2:Se)]
theorem JA:∀{a:Ss (Se×Se)} {i:Se},i<a.length->((ve a).drop (i*2)).take 2=[I ((a.getD i (0,0)).1:Se),I ((a.getD i (0,0)).2:Se)]
 |[],a,h=>by simp at h
 |p::r,0,h=>rfl
 |p::r,a+1,h=>by
  have:=JA (a:=r) (i:=a) (by simpa using h);show((List.drop ((a+1)*2) ([SV .i64 (p.1:Se),SV .i64 (p.2:Se)]++ve r))).take 2=_;rw[show(a+1)*2=2+a*2 from Z,<-List.drop_drop];exact this
theorem JB:∀{a:Ss (Se×Se)} {i:Se},i<a.length->h6 (a.take (i+1))=h6 (a.take i)++So (a.getD i (0,0)).1 (a.getD i (0,0)).2
 |[],a,h=>by simp at h
 |(a,b)::r,0,h=>by simp[h6]
 |(b,c)::r,a+1,h=>by
  have:=JB (a:=r) (i:=a) (by simpa using h);simp only[List.take_succ_cons,h6];rw[this,SJ];rfl
end Go.Cl.Nf
namespace Go.Proofs.YtgpmffbleaphkaaGreat
open Go.Cl Go.Cl.Rw Go.Cl.Sto Go.Cl.Fx Go.Cl.Nf Go.Cl.Bt
theorem k5:bK Sg 210=some (.agg (bt [] (av)).toArray):=by kernel_rfl
theorem k6:cp (.agg (bt [] (av)).toArray)=true:=by kernel_rfl
theorem aab {a:Ss Se}{i:Se}(d:i<a.length)(c:0<a.getD i 0)(e:a.getD i 0<=15)(b:Sh):(bt (a.take i) b).set (a.getD i 0) (I ((gq (a.take i) (a.getD i 0)+1:Se):Si))=bt (a.take (i+1)) b:=by
 refine S5 (by rw[Tc,aP,aP]) (fun j e c=> ?_);rw[aP] at c;have e:∀(T:Ss Se) (c:j<(bt T b).length),(bt T b)[j]=(bt T b).getD j undef:=fun T b=>by rw[Sj,SD b];rfl
 rw[S6];by_cases c:a.getD i 0=j
 ·rw[Sr c,e,rJ _ _ Z,Bm d,Sr ⟨c,Z⟩,c]
 rw[Sm c,e,e];by_cases a:j<16
 ·rw[rJ _ _ a,rJ _ _ a,Bm d,Sm (fun q=>c q.1),SR]
 obtain rfl:j=16:=Z;rw[vd,vd]
theorem aac {a:Ss Se}{i:Se}(c:i<a.length)(d:¬0<a.getD i 0)(b:Sh):bt (a.take (i+1)) b=bt (a.take i) b:=by
 unfold bt
 congr 1
 refine List.map_congr_left (fun n _=> ?_);rw[Bm c,Sm (fun q=>Z),SR]
theorem aad (a:Ss Se)(c b:Sh):(bt a c).set 16 b=bt a b:=by
 refine S5 (by rw[Tc,aP,aP]) (fun j c b=> ?_);rw[aP] at b;have e:∀(T:Sh) (b:j<(bt a T).length),(bt a T)[j]=(bt a T).getD j undef:=fun T a=>by rw[Sj,SD a];rfl
 rw[S6];by_cases c:16=j
 ·subst c;rw[Sr rfl,e,vd]
 rw[Sm c,e,e,rJ _ _ Z,rJ _ _ Z]
theorem e1 (b:Ss Se){a:Sh}(h:aN a=true):(bt b a).all aN=true:=by
 unfold bt;rw[List.all_append,Bool.and_eq_true];exact⟨by rw[List.all_map,List.all_eq_true];intro n _;rfl,by simp[h]⟩
theorem JC:∀{l:Ss Sh},(∀v∈l,b9 v v=true)->dF l l=true
 |[],_=>rfl
 |v::l,h=>by
  simp only[dF,Bool.and_eq_true];exact⟨h v (List.mem_cons_self ..),JC (fun w a=>h w (List.mem_cons_of_mem _ a))⟩
theorem tk {s:J}{a:Sh}{n:Se}{L:Ss Sh}(b:Ss Se)(h:az s 1 a n L):bn (.agg (bt b a).toArray) (.agg (bt b a).toArray)=true:=by
 show dF (bt b a) (bt b a)=true;refine JC (fun v a=> ?_);unfold bt at a;rcases List.mem_append.1 a with a|b
 ·obtain⟨n,-,rfl⟩:=List.mem_map.1 a;simp[b9]
 rw[List.mem_singleton.1 b];cases h<;>simp[b9]
def JD (s:J)(a:Ss Se)(v:Sh)(c:J):Prop:=∃b,v= .tuple #[.agg (bt a b).toArray,.bool (decide (fK a))]/\ao c 1 b (cR a 15).length (bf (cR a 15))/\ay s.Y b/\ad s.Y s c
theorem vf (Xc:jq aw)(s:J)(D:Sh)(a:Ss Se)(WG:az s 1 D a.length (bf a))(Xr:a.length<=1000)(Xd:jo a):
  Runs Sg aw 178 [D] s (JD s a):=by
 refine Runs.dY 67 Tryz.func178 rfl (Xc _ rfl) rfl rfl ?_;intro f d W1;have n:f.N 0=D:=W1 0;clear W1;refine aR @k5 @k6 @eP (aK fun Xe WN W2 Xs=> ?_);obtain⟨q,W3⟩:∃WO,WO=s.Y:=⟨_,rfl⟩
 rw[<-W3] at WN;refine bp d W3.symm @aP @k5 @k6 ?_;refine aK ?_;intro E W WA Xt;obtain⟨r,W4⟩:∃WO,WO=Xe.Y:=⟨_,rfl⟩
 rw[<-W4] at W;have B:=WN.C WA;have WQ:ad s.Y s E:=W2.d WA;have W5:=WG.C WQ;refine bp d n W4.symm @aP (W5.g eH) ?_;refine aZ.w (fun z f t=>∃i:Se,z=a.length-i/\i<=a.length/\ae t q (bt [] (av))/\ae t r (bt (a.take i) (av))/\ad s.Y s t/\t.Y=E.Y/\f.e=67/\f.N 0=D/\f.N 2=ab q 0 18/\f.N 4=ab r 0 18/\f.N 5=I (dJ (a.take i):Se)/\f.N 6=I (gN (a.take i):Se)/\f.N 12=D/\f.N 13=I (a.length:Se)/\f.N 14=I (i:Se))
  (fun z f t=>z= .bb 0/\ae t q (bt [] (av))/\ae t r (bt a (av))/\ad s.Y s t/\t.Y=E.Y/\f.e=67/\f.N 0=D/\f.N 2=ab q 0 18/\f.N 4=ab r 0 18/\f.N 5=I (dJ a:Se)/\f.N 6=I (gN a:Se))
  ⟨0,rfl,Z,B,W,WQ,rfl,V d,V n,aa,aa,aa,aa,aa,aa,aa⟩ ?_ ?_
 ·clear d n f WN B W W2 WA WQ W5;rintro Xf WR z f t ⟨i,rfl,WS,o,j,l,w,d,n,g,h,m,p,WH,WB,WI⟩;have G:=WG.C l;by_cases F:i<a.length;rotate_left
  ·obtain rfl:i=a.length:=Z;rw[S7] at j m p;refine aW d WB WI (Z:¬((a.length:Se):Si)<((a.length:Se):Si)) ?_;exact WR _ _ _ ⟨rfl,o,j,l,w,V d,V n,V g,V h,V m,V p⟩
  have O:(i:Si)<((a.length:Se):Si):=Z;have P:=G.r (k:= .i64) (x:=(i:Si)) eH aQ Z Z;rw[Sn] at P;have Q:=G.P aB F;rw[l3 F] at Q;have WJ:=I7 F;have WT:=I8 F;have Xg:=Xd i;have Xu:=A8 (a.take i);have Xv:=A9 (a.take i);have Xw:(a.take i).length=i:=by rw[Su];omega
  by_cases H:0<a.getD i 0
  ·have R:((a.getD i 0:Se):Si)>0:=Z;rw[Sr H] at WJ WT;have Xh:(15:Si)-((a.getD i 0:Se):Si)=((15-a.getD i 0:Se):Si):=Z;have WC:=qf Sg 3 .i64 (b:=1) ai (k:=15-a.getD i 0) Z;rw[Nat.one_mul] at WC;have WC:bN Sg .shl 3 (I 1) (I ((15-a.getD i 0:Se):Si))=some (I ((2^(15-a.getD i 0):Se):Si)):=WC;have Xi:2^(15-a.getD i 0)<=2^15:=SK Z Z;have Xx:(2:Se)^15=32768:=by decide
   generalize 2^(15-a.getD i 0)=Xj at WJ WC Xi;have Xk:((dJ (a.take i):Se):Si)+((Xj:Se):Si)=((dJ (a.take (i+1)):Se):Si):=Z;have Xl:((gN (a.take i):Se):Si)+1=((gN (a.take (i+1)):Se):Si):=Z;have W6:=yf Jw aQ r 0 18 (x:=((a.getD i 0:Se):Si)) Z Z .i64;rw[Sn,Nat.zero_add] at W6;have W7:=j.B aB (a:=a.getD i 0) (c:=18) (by rw[aP]) (by rw[aP];omega);rw[rJ _ _ Z] at W7;have Xy:=Sd a i (a.getD i 0);have Xm:((gq (a.take i) (a.getD i 0):Se):Si)+1=((gq (a.take i) (a.getD i 0)+1:Se):Si):=Z;simp(disch:=omega)only[aI,Sk,Sf,↓Sq,d,h,WH,WB,WI,Sl O,P,Q,Sl R,Bh,W6,W7,cg,Xm];refine db aQ j (by rw[aP]) (by rw[aP];omega) rfl ?_;intro S W K L;rw[aab F H Xg] at W;refine c1 d m p WI Xh WC Xk Xl ?_;exact aH (a.length-(i+1)) Z ⟨i+1,rfl,Z,o.f K L Z,W,l.a (ad.f K L Z),Z,V d,V n,V g,V h,aa,aa,V WH,V WB,aa⟩
  have R:¬((a.getD i 0:Se):Si)>0:=Z;rw[Sm H] at WJ WT;refine c1 d WH WB WI (Sl O) P Q R ?_;exact aH (a.length-(i+1)) Z ⟨i+1,rfl,Z,o,by rw[aac F H];exact j,l,w,V d,V n,V g,V h,by simp only[cx,↓Sq,Sf,m];rw[WJ,SR],by simp only[cx,↓Sq,Sf,p];rw[WT,SR],V WH,V WB,aa⟩
 rintro z f t ⟨rfl,o,j,l,w,d,n,g,h,m,p⟩;refine ax d ?_;refine aZ.w (fun z f t=>∃(e:Se) (y:Sh),z=15-e/\e<=15/\ae t q (bt [] (av))/\ae t r (bt a y)/\ao t 1 y (cR a e).length (bf (cR a e))/\ay E.Y y/\ad s.Y s t/\E.Y<=t.Y/\f.e=67/\f.N 0=D/\f.N 2=ab q 0 18/\f.N 4=ab r 0 18/\f.N 5=I (dJ a:Se)/\f.N 6=I (gN a:Se)/\f.N 9=I ((e:Si)+1))
  (fun z f t=>z= .bb 2/\∃y:Sh,ae t q (bt [] (av))/\ae t r (bt a y)/\ao t 1 y (cR a 15).length (bf (cR a 15))/\ay E.Y y/\ad s.Y s t/\f.e=67/\f.N 2=ab q 0 18/\f.N 4=ab r 0 18/\f.N 5=I (dJ a:Se)/\f.N 6=I (gN a:Se))
  ⟨0,_,rfl,Z,o,j,.al,ay.al _,l,Z,V d,V n,V g,V h,V m,V p,aa⟩ ?_ ?_
 ·clear d n g h m p f o j l w;rintro Xf WR z f t ⟨e,y,rfl,Xz,o,j,u,v,l,w,d,n,g,h,m,p,A⟩;by_cases XW:e<15;rotate_left
  ·obtain rfl:e=15:=Z;refine aR d A (Z:¬((15:Se):Si)+1<=15) ?_;exact WR _ _ _ ⟨rfl,y,o,j,u,v,l,V d,V g,V h,V m,V p⟩
  have G:=WG.C l;refine bp d n A (Sl (Z:(e:Si)+1<=15)) (G.g eH) ?_;refine aZ.w (fun z f t=>∃(i:Se) (y:Sh),z=a.length-i/\i<=a.length/\ae t q (bt [] (av))/\ae t r (bt a y)/\ao t 1 y (cR a e++e0 a (e+1) i).length (bf (cR a e++e0 a (e+1) i))/\ay E.Y y/\ad s.Y s t/\E.Y<=t.Y/\f.e=67/\f.N 0=D/\f.N 2=ab q 0 18/\f.N 4=ab r 0 18/\f.N 5=I (dJ a:Se)/\f.N 6=I (gN a:Se)/\f.N 9=I ((e:Si)+1)/\f.N 39=D/\f.N 40=I (a.length:Se)/\f.N 41=I (i:Se))
   (fun z f t=>z= .bb 4/\∃y:Sh,ae t q (bt [] (av))/\ae t r (bt a y)/\ao t 1 y (cR a (e+1)).length (bf (cR a (e+1)))/\ay E.Y y/\ad s.Y s t/\E.Y<=t.Y/\f.e=67/\f.N 0=D/\f.N 2=ab q 0 18/\f.N 4=ab r 0 18/\f.N 5=I (dJ a:Se)/\f.N 6=I (gN a:Se)/\f.N 9=I ((e:Si)+1))
   ⟨0,y,rfl,Z,o,j,by simp only[e0,Td];exact u,v,l,w,V d,V n,V g,V h,V m,V p,V A,aa,aa,aa⟩ ?_ ?_
  ·clear d n g h m p A f o j u v l w G;rintro XX Xn z f t ⟨i,y,rfl,WS,o,j,u,v,l,w,d,n,g,h,m,p,A,WK,WD,WL⟩;have G:=WG.C l;by_cases F:i<a.length;rotate_left
   ·obtain rfl:i=a.length:=Z;rw[aaa] at u;refine aW d WD WL (Z:¬((a.length:Se):Si)<((a.length:Se):Si)) ?_;exact Xn _ _ _ ⟨rfl,y,o,j,u,v,l,w,V d,V n,V g,V h,V m,V p,V A⟩
   have X:(i:Si)<((a.length:Se):Si):=Z;have P:=G.r (k:= .i64) (x:=(i:Si)) eH aQ Z Z;rw[Sn] at P;have Q:=G.P aB F;rw[l3 F] at Q;by_cases H:a.getD i 0=e+1
   ·have R:((a.getD i 0:Se):Si)=(e:Si)+1:=Z;have W8:=j.B Jv (a:=16) (c:=18) (by rw[aP]) (by rw[aP];omega);rw[vd] at W8;have XY:(cR a e++e0 a (e+1) i).length<=3000:=by
     have Xo:=(Js a) e;have g:=yb a (e+1) i Z;have WM:(a.take i).count (e+1)<=(a.take i).length:=SZ;rw[Su] at WM;rw[Sp];omega
    simp(disch:=omega)only[aI,bC,Sk,Sf,↓Sq,d,h,A,WK,WD,WL,Sl X,P,Q,Sl R,Bi,W8,gh eH aQ lB];refine ll eH aQ o3 lB rfl u aa ai (by simp only[dG,d];decide) (by simp only[dG,d];decide) (by rfl) ai rfl Z Z v w ?_;intro XZ W9 S WU Xa WA WV X0;have Xp:bf (cR a e++e0 a (e+1) i)++[SV .i64 (i:Se)]=bf (cR a e++e0 a (e+1) (i+1)):=by
     simp only[e0];rw[Sr H,<-SJ];exact ye _ [i]
    have Xq:(cR a e++e0 a (e+1) i).length+1=(cR a e++e0 a (e+1) (i+1)).length:=by
     simp only[e0];rw[Sr H,<-SJ];simp only[Sp,SI]
    rw[Xp,Xq] at WU;refine aR d h @Bi ?_;refine db Ju (j.j WV ((fun T=>ag (v _ T)):ak y≠some r)) (by rw[aP]) (by rw[aP];omega) WU.c.aN ?_;intro X1 Xb WW WX;rw[aad] at Xb;refine aq d WL ?_;have X2:=WV.Y;exact aH (a.length-(i+1)) Z ⟨i+1,W9,rfl,Z,(o.j WV ((fun T=>ag (v _ T)):ak y≠some q)).f WW WX Z,Xb,WU.f WW WX ((fun T=>ag (Xa _ T)):ak W9≠some r),Xa,(l.a (WA.q (by omega))).a (ad.f WW WX Z),Z,V d,V n,V g,V h,V m,V p,V A,V WK,V WD,aa⟩
   have R:¬((a.getD i 0:Se):Si)=(e:Si)+1:=Z;refine cX d A WK WD WL (Sl X) P Q R ?_;exact aH (a.length-(i+1)) Z ⟨i+1,y,rfl,Z,o,j,by rw[(show e0 a (e+1) (i+1)=e0 a (e+1) i by simp only[e0];rw[Sm H,Td])];exact u,v,l,w,V d,V n,V g,V h,V m,V p,V A,V WK,V WD,aa⟩
  rintro z f t ⟨rfl,y,o,j,u,v,l,w,d,n,g,h,m,p,A⟩;refine aq d A ?_;exact aH (15-(e+1)) Z ⟨e+1,y,rfl,Z,o,j,u,v,l,w,V d,V n,V g,V h,V m,V p,aa⟩
 rintro z f t ⟨rfl,y,o,j,u,v,l,d,g,h,m,p⟩;have WY:=j.y dT (by rw[aP];exact b1) (c:=18) (by rw[aP]);have U:(if dJ a=32768 then true else if dJ a<32768 then decide (((gN a:Se):Si)<=1) else false)=decide (fK a):=by
  by_cases Wy:dJ a=32768
  ·rw[Sr Wy];exact(Sv (.inl Wy)).symm
  rw[Sm Wy];by_cases Wz:dJ a<32768
  ·rw[Sr Wz];exact decide_eq_decide.2 ⟨fun M=> .inr ⟨Wz,Z⟩,fun M=>by rcases M with M|M<;>omega⟩
  rw[Sm Wz];exact(SN (fun M=>by rcases M with M|M<;>omega)).symm
 have WZ:∀(WE:J) (W0:To),ae WE q (bt a y)->WE.Y=t.Y->(∀i,i≠q->WE.i.N i=t.i.N i)->W0=decide (fK a)->JD s a (.tuple #[.agg (bt a y).toArray,.bool W0]) WE:=fun WE W0 Xo g WM h=>by
  subst h;exact⟨y,rfl,u.f g WM (fun T=>ag (v _ T)),fun i WS=>ag (v i WS),l.a (ad.f g WM Z)⟩
 by_cases Wy:dJ a=32768
 ·have O:((dJ a:Se):Si)=32768:=Z;rw[Sr Wy] at U;refine ib d g h m WY (Sl O) ?_;refine bh b1 ai o (aP _ _) rfl (aP _ _) (e1 a u.c.aN) ?_;intro S B K L;refine nR d g (B.y dT (by rw[aP];exact b1) (c:=18) (by rw[aP])) @SX ?_;exact WZ S true B K L U
 have O:¬((dJ a:Se):Si)=32768:=Z;rw[Sm Wy] at U;by_cases Wz:dJ a<32768
 ·have X:((dJ a:Se):Si)<32768:=Z;rw[Sr Wz] at U;refine kO d g h m p WY O (Sl X) ?_;refine bh b1 ai o (aP _ _) rfl (aP _ _) (e1 a u.c.aN) ?_;intro S B K L;refine nR d g (B.y dT (by rw[aP];exact b1) (c:=18) (by rw[aP])) @SX ?_;exact WZ S _ B K L U
 have X:¬((dJ a:Se):Si)<32768:=Z;rw[Sm Wz] at U;refine eC d g h m WY O X ?_;refine bh b1 ai o (aP _ _) rfl (aP _ _) (e1 a u.c.aN) ?_;intro S B K L;refine nR d g (B.y dT (by rw[aP];exact b1) (c:=18) (by rw[aP])) @SX ?_;exact WZ S false B K L U
theorem vg:bc Sg 152=some 2:=by kernel_rfl
theorem aae:c3 Sg 152=some true:=by kernel_rfl
theorem yh:bK Sg 152=some (.agg #[I 0,I 0]):=by kernel_rfl
theorem aaf:cp (.agg #[I 0,I 0])=true:=rfl
theorem Bn:Sg.underlying 152=some (.array 2 3):=Tryz.underlying152
theorem yi:Sg.underlying 151=some (.slice 152):=Tryz.underlying151
theorem JE:∀L:Ss (Se×Se),(∀x∈L,x.1<=200)->(h6 L).length<=200*L.length
 |[],_=>Tn _
 |(a,b)::r,h=>by
  have c:=h (a,b) aA;have b:=JE r (fun x b=>h x (by simp[b]));simp only[h6,Sp,St,S8];have b:a<=200:=c;omega
def JF (s:J)(a:Ss Se)(v:Sh)(b:J):Prop:=ao b 1 v a.length (bf a)/\ay s.Y v/\ad s.Y s b
theorem JG (WG:jq aw)(s:J)(h:Sh)(L:Ss (Se×Se))(B:az s 2 h L.length (ve L))(WT:L.length<=10)(O:∀h∈L,h.1<=200):
  Runs Sg aw 179 [h] s (JF s (h6 L)):=by
 refine Runs.dY 24 Tryz.func179 rfl (WG _ rfl) rfl rfl ?_;intro f a P;have Q:f.N 0=h:=P 0;clear P;refine aR a Q (B.g yi) ?_;refine aZ.w (fun z f t=>∃(i:Se) (y:Sh),z=L.length-i/\i<=L.length/\ao t 1 y (h6 (L.take i)).length (bf (h6 (L.take i)))/\ay s.Y y/\ad s.Y s t/\f.e=24/\f.N 3=y/\f.N 6=h/\f.N 7=I (L.length:Se)/\f.N 8=I (i:Se))
  (fun z f t=>z= .bb 0/\f.e=24/\∃y,f.N 3=y/\JF s (h6 L) y t)
  ⟨0,_,rfl,Z,.al,ay.al _,ad.p _ _,V a,aa,aa,aa,aa⟩ ?_ ?_
 ·clear a Q f;rintro WU WH z f t ⟨i,y,rfl,WV,g,q,d,a,l,p,m,n⟩;have R:=B.C d;by_cases A:i<L.length;rotate_left
  ·obtain rfl:i=L.length:=Z;rw[S7] at g;refine aW a m n (Z:¬((L.length:Se):Si)<((L.length:Se):Si)) ?_;exact WH _ _ _ ⟨rfl,V a,y,by simp only[cx,↓Sq,Sf,l],g,q,d⟩
  have S:=R.r (k:= .i64) (x:=(i:Si)) yi vg (by omega) (by omega);rw[Sn] at S;have E:=R.dm aae vg A;rw[JA A] at E;have WI:=O _ (show L.getD i (0,0)∈L by rw[Sj,SD A];exact List.getElem_mem A);have T:=JB A;have WW:=JE (L.take i) (fun h B=>O h (List.mem_of_mem_take B));have WX:(L.take i).length=i:=by rw[Su];omega
  generalize WY:L.getD i (0,0)=b at E WI T;simp(disch:=omega)only[aI,Sk,Sf,↓Sq,a,p,m,n,Sl (show(i:Si)<((L.length:Se):Si) by omega),S,E,yh,aaf];refine aK ?_;intro WZ U W W0;obtain⟨e,X⟩:∃j,j=t.Y:=⟨_,rfl⟩
  rw[<-X] at U;simp(disch:=omega)only[aI,Sk,Sf,↓Sq,a,<-X];refine bh vg (by decide) U rfl rfl rfl rfl ?_;intro WJ u Wy Wz;have D:=(g.C W).f Wy Wz (fun r=>by have:=g.z _ r;omega);have u:ae WJ e [I (b.1:Se),I (b.2:Se)]:=u;have F:=(d.a (W.q (by have:=d.Y;omega))).a (ad.f Wy Wz (by have:=d.Y;omega));have WK:=u.B aB (a:=0) (c:=3) rfl (by simp);have WA:=u.B aB (a:=1) (c:=3) rfl (by simp);have G:=yf Bn aQ e 0 3 (x:=0) (by omega) (by omega) .i64;have H:=yf Bn aQ e 0 3 (x:=1) (by omega) (by omega) .i64;have G:eM Sg 152 (ab e 0 3) (I 0)=some (ab e 0 3):=G;have H:eM Sg 152 (ab e 0 3) (I 1)=some (ab e 1 3):=H;simp(disch:=omega)only[aI,bD,Sk,SE,↓Sq,a,S8,List.length_nil,G,WK];refine aZ.w (fun z f o=>∃(j:Se) (y:Sh),z=b.1-j/\j<=b.1/\ao o 1 y (h6 (L.take i)++So j b.2).length (bf (h6 (L.take i)++So j b.2))/\ay s.Y y/\(∀v,ak y=some v->v≠e)/\ae o e [I (b.1:Se),I (b.2:Se)]/\ad s.Y s o/\e<o.Y/\f.e=24/\f.N 3=y/\f.N 5=ab e 0 3/\f.N 6=h/\f.N 7=I (L.length:Se)/\f.N 8=I (i:Se)/\f.N 13=I (b.1:Se)/\f.N 14=I (j:Se))
   (fun z f o=>z= .bb 2/\∃(y:Sh),ao o 1 y (h6 (L.take (i+1))).length (bf (h6 (L.take (i+1))))/\ay s.Y y/\ad s.Y s o/\f.e=24/\f.N 3=y/\f.N 6=h/\f.N 7=I (L.length:Se)/\f.N 8=I (i:Se))
   ⟨0,y,rfl,Z,by simpa using D,q,fun v w=>ag (g.z v w),u,F,u.n,V a,V l,aa,V p,V m,V n,aa,aa⟩ ?_ ?_
  ·clear a l p m n f;rintro W1 WL z f o ⟨j,y,rfl,W2,g,q,WB,WC,d,W3,a,l,WD,p,m,n,K,M⟩;by_cases W4:j<b.1;rotate_left
   ·obtain rfl:j=b.1:=Z;rw[<-T] at g;refine aW a K M (Z:¬((b.1:Se):Si)<((b.1:Se):Si)) ?_;exact WL _ _ _ ⟨rfl,y,g,q,d,V a,V l,V p,V m,V n⟩
   have WA:=WC.B aB (a:=1) (c:=3) rfl (by simp);have W5:(h6 (L.take i)++So j b.2).length<=3000:=by rw[Sp,St];omega
   simp(disch:=omega)only[aI,bD,bC,Sk,Sf,↓Sq,a,l,WD,K,M,Sl (Z:(j:Si)<((b.1:Se):Si)),H,WA,gh eH aQ lB];refine ll eH aQ o3 lB rfl g aa ai (by simp only[dG,a];decide) (by simp only[dG,a];decide) (by rfl) ai rfl Z Z q d.Y ?_;intro W6 WM W7 D WN F WE WO;have WQ:bf (h6 (L.take i)++So j b.2)++[SV .i64 (b.2:Se)]=bf (h6 (L.take i)++So (j+1) b.2):=by
    rw[S0,<-SJ];exact ye _ [b.2]
   have WR:(h6 (L.take i)++So j b.2).length+1=(h6 (L.take i)++So (j+1) b.2).length:=by
    simp only[Sp,St];omega
   rw[WQ,WR] at D;refine aq a M ?_;have W8:=WE.Y;exact aH (b.1-(j+1)) Z ⟨j+1,WM,rfl,Z,D,WN,fun v w=>by
    rcases WO with r|⟨W9,r,Xa⟩
    ·exact WB v (by rw[<-r];exact w)
    rw[r] at w;injection w with w;omega,WC.j WE (fun r=>WB e r rfl),d.a (F.q (by have:=d.Y;omega)),Z,V a,aa,V WD,V p,V m,V n,V K,aa⟩
  rintro z f o ⟨rfl,y,g,q,d,a,l,p,m,n⟩;refine aq a n ?_;exact aH (L.length-(i+1)) Z ⟨i+1,y,rfl,Z,g,q,d,V a,V l,V p,V m,aa⟩
 rintro z f t ⟨rfl,a,y,l,WS⟩;refine bS a l @Tryz.results179 ?_;exact WS
theorem aag:h6 [(144,8),(112,9),(24,7),(8,8)]=iQ:=by decide+kernel
theorem aah:h6 [(32,5)]=k0:=by decide+kernel
theorem JH (a b:Si):cP Sg 152 [(0,I a),(1,I b)]=some (.agg #[I a,I b]):=by
 unfold cP;rw[Bn,yh]
 have b:∀a:Si,(SV .i64 a).cells.toList=[I a]:=fun _=>rfl
 simp only[eT,b];simp[aQ,cp,hO,eP,di]
theorem aai (s:J):dj Sg s 151 4 [(0,.agg #[I 144,I 8]),(1,.agg #[I 112,I 9]),(2,.agg #[I 24,I 7]),(3,.agg #[I 8,I 8])]=cL s (ve [(144,8),(112,9),(24,7),(8,8)]) 4 2:=by
 unfold dj;rw[yi];simp only[vg,yh];rfl
theorem aaj (s:J):dj Sg s 151 1 [(0,.agg #[I 32,I 5])]=cL s (ve [(32,5)]) 1 2:=by
 unfold dj;rw[yi];simp only[vg,yh];rfl
def aak (s:J)(v:Sh)(a:J):Prop:=∃b c,v= .tuple #[.agg (bt iQ b).toArray,.agg (bt k0 c).toArray]/\ao a 1 b (cR iQ 15).length (bf (cR iQ 15))/\ao a 1 c (cR k0 15).length (bf (cR k0 15))/\ay s.Y b/\ay s.Y c/\ad s.Y s a
theorem aal (l:jq aw)(E:J):Runs Sg aw 168 [] E (aak E):=by
 refine Runs.dY 25 Tryz.func168 rfl (l _ rfl) rfl rfl ?_;intro Xj a Xk;refine aR @k5 @k6 @eP (aK fun WY P WZ Xl=> ?_);obtain⟨F,Q⟩:∃j,j=E.Y:=⟨_,rfl⟩
 rw[<-Q] at P;refine bp a Q.symm @aP @k5 @k6 ?_;refine aK ?_;intro Xm R S Xn;obtain⟨G,T⟩:∃j,j=WY.Y:=⟨_,rfl⟩
 rw[<-T] at R;simp(disch:=omega)only[aI,bC,Sk,Sf,SE,↓Sq,a,<-T,aP,JH,aai];refine du (by rfl) ?_;intro W0 W1 W2 Xo U;refine ax a ((JG l W1 W0 [(144,8),(112,9),(24,7),(8,8)] W2.c ai ai).b ?_);rintro W3 W4 ⟨W,Xp,X⟩;rw[aag] at W;refine ax a ((vf l W4 W3 iQ W.c (by rw[show iQ.length=288 from xI];decide) RK).b ?_);rintro _ W5 ⟨W6,rfl,p,Wy,Wz⟩;have Xq:=U.Y;have Xr:=X.Y;have Xs:=Wz.Y;refine cl a @ct @cu @k5 @k6 @eP (aK fun Xt WA WB Xu=> ?_);obtain⟨WC,WD⟩:∃j,j=W5.Y:=⟨_,rfl⟩
 rw[<-WD] at WA;simp(disch:=omega)only[aI,Sk,Sf,SE,↓Sq,a,<-WD,aP];refine bh b1 ai WA (aP _ _) rfl (aP _ _) (e1 _ p.c.aN) ?_;intro Xv W7 WE WG;have q:=(((U.d X).a (Wz.q Z)).d WB).a (ad.f WE WG Z);refine aR a @JH @aaj ?_;refine du (by rfl) ?_;intro W8 W9 Xa Xw WH;refine ax a ((JG l W9 W8 [(32,5)] Xa.c ai ai).b ?_);rintro Xb Xc ⟨WI,Xx,WJ⟩;rw[aah] at WI;refine ax a ((vf l Xc Xb k0 WI.c ai RL).b ?_);rintro _ Xd ⟨Xe,rfl,r,WK,WL⟩;have Xy:=WH.Y;have Xz:=WJ.Y;have XW:=WL.Y;have H:=(WH.d WJ).a (WL.q Z);have WM:=W7.C H;have WN:=((p.C WB).f WE WG (fun e=>ag (p.z _ e))).C H;refine cl a @ct @cu @k5 @k6 @eP (aK fun XX WO s XY=> ?_);obtain⟨WQ,WR⟩:∃j,j=Xd.Y:=⟨_,rfl⟩
 rw[<-WR] at WO;simp(disch:=omega)only[aI,Sk,Sf,SE,↓Sq,a,<-WR,aP];refine bh b1 ai WO (aP _ _) rfl (aP _ _) (e1 _ r.c.aN) ?_;intro f t u v;have WS:=(r.C s).f u v (fun e=>ag (r.z _ e));have WT:=(WN.C s).f u v (fun e=>ag (WN.z _ e));have K:=(WM.C s).f u v (ag WM.n);have w:=((q.d H).a (s.q (ag q.Y))).a (ad.f u v (ag q.Y));have XZ:=K.y dT (by rw[aP];exact b1) (c:=18) (by rw[aP]);have X0:=t.y dT (by rw[aP];exact b1) (c:=18) (by rw[aP]);refine ax a ?_;have⟨d,m⟩:=aO (fun j=>decide (j<f.Y/\j≠F/\j≠G):Se->To);have Xf:∀j,d j=true->j<f.Y:=by
  intro j h;rw[m] at h;exact(SB h).1
 have g:=ad.aS f 0;have X1:(aS f 0).Y=f.Y+0:=gg _ _;have WU:∀(x:Ss Se) (y:Sh) (n:Se) (L:Ss Sh),ao f 1 y n L->bn (.agg (bt x y).toArray) (.agg (bt x y).toArray)=true:=fun x y n L h=>tk x h.c
 refine LB.kQ.hx d Xf 2 0 (by kernel_rfl) (by kernel_rfl) ?_;simp(disch:=omega)only[aI,fi,dy,Sk,Sf,↓Sq,a,((K.C g).y dT (by rw[aP];exact b1) (c:=18) (by rw[aP])),((t.C g).y dT (by rw[aP];exact b1) (c:=18) (by rw[aP])),((fun o=>LA.hT (A:=d) (i:=WC) (by rw[m];exact Sv ⟨(K.n),Z,Z⟩)):∀o,LA.c4 d (some (ab WC o 18))=true),((fun o=>LA.hT (A:=d) (i:=WQ) (by rw[m];exact Sv ⟨(t.n),Z,by omega⟩)):∀o,LA.c4 d (some (ab WQ o 18))=true),WU _ _ _ _ WT,WU _ _ _ _ WS];refine LB.eY b1 ai (((P.C S).C w).C g) (aP _ _) rfl (aP _ _) (e1 _ p.c.aN) (fun _=>(show d F=false by rw[m];exact SN (fun h=>h.2.1 rfl))) ?_;intro X2 Xg z B;have X3:=((t.C g).f z B Z).y dT (by rw[aP];exact b1) (c:=18) (by rw[aP])
 try simp(disch:=omega)only[aI,dy,S1,Sk,Sf,↓Sq,a]
 refine LB.eY b1 ai (((R.C w).C g).f z B Z) (aP _ _) rfl (aP _ _) (e1 _ r.c.aN) (fun _=>(show d G=false by rw[m];exact SN (fun h=>h.2.2 rfl))) ?_;intro WV Xh M O;simp(disch:=omega)only[aI,dy,S4,b6,Sk,Sf,↓Sq,aI,cO,b6,Sk,Sf,↓Sq,a,wH,((Xg.f M O Z:ae WV F _).y dT (by rw[SM,aP];exact b1) (c:=18) (by rw[SM,aP])),(Xh.y dT (by rw[SM,aP];exact b1) (c:=18) (by rw[SM,aP])),Tryz.results168];have WW:∀D (n:Se) (L:Ss Sh),ao f 1 D n L->(∀b,ak D=some b->G<b)->ao WV 1 D n L:=fun D n L Xi WX=>((Xi.C g).f z B (fun e=>ag (WX _ e))).f M O (fun e=>ag (WX _ e))
 have X4:=q.Y;exact⟨W6,Xe,rfl,WW _ _ _ WT (fun b k=>ag (Wy b k)),WW _ _ _ WS (fun b k=>ag (WK b k)),fun b k=>ag (Wy b k),fun b k=>ag (WK b k),((((WZ.d S).d w).a (g.q (ag w.Y))).a (ad.f z B Z)).a (ad.f M O Z)⟩
end Go.Proofs.YtgpmffbleaphkaaGreat
namespace Go.Cl.Nf
open Go.Cl.Fx Go.Cl.Sto
def rQ (D:Ss SF)(s g a p:Se):S2 Se (Se×Se):=
 if s<2*g then .ok (a+s,p) else match dh D p (s/g-1) with
  | .error e=> .error e
  | .ok x=> .ok (a+(g+s%g)*2^(s/g-1)+x,p+(s/g-1))
def pn (D:Ss SF)(s p:Se):S2 Se (Se×Se):=match dh D p (dR s) with| .error e=> .error e| .ok x=> .ok (jL s x,p+dR s)
def tl (D:Ss SF)(s p:Se):S2 Se (Se×Se):=match dh D p (fa s) with| .error e=> .error e| .ok x=> .ok (jM s x,p+fa s)
theorem aam (D:Ss SF){s p:Se}(a:257<=s)(b:s<285)(c:p<=8*D.length):rQ D (s-257) 4 3 p=pn D s p:=by
 unfold rQ pn;by_cases c:s<=264
 ·have a:dR s=0:=by unfold dR;rw[Sr (.inl c)]
  rw[Sr Z,a,gp Z];dsimp only;rw[(show jL s (bZ D p 0)=s-254 by unfold jL;rw[Sr c]),show 3+(s-257)=s-254 from Z,SR]
 have a:dR s=(s-261)/4:=by unfold dR;rw[Sm Z]
 rw[Sm Z,a,(Z:(s-257)/4-1=(s-261)/4),(Z:(s-257)%4=(s-265)%4)];cases dh D p ((s-261)/4) with
 |error e=>rfl
 |ok x=>
  dsimp only;rw[(show jL s x=(4+(s-265)%4)*2^((s-261)/4)+3+x by unfold jL;rw[Sm c,Sm Z])];generalize (4+(s-265)%4)*2^((s-261)/4)=X;rw[show 3+X+x=X+3+x from Z]
theorem aan (D:Ss SF){s p:Se}(a:p<=8*D.length):rQ D s 2 1 p=tl D s p:=by
 unfold rQ tl;by_cases c:s<=3
 ·have a:fa s=0:=by unfold fa;rw[Sr c]
  rw[Sr Z,a,gp Z];dsimp only;rw[(show jM s (bZ D p 0)=s+1 by unfold jM;rw[Sr c]),Nat.add_comm 1 s];rfl
 have a:fa s=s/2-1:=by unfold fa;rw[Sm c]
 rw[Sm Z,a];cases dh D p (s/2-1) with
 |error e=>rfl
 |ok x=>
  dsimp only;rw[(show jM s x=(2+s%2)*2^(s/2-1)+1+x by unfold jM;rw[Sm c])];generalize (2+s%2)*2^(s/2-1)=X;rw[show 1+X+x=X+1+x from Z]
theorem aao (D:Ss SF)(M:Se)(B:Ss Se)(s p:Se)(P:Ss SF):nx D M B s p P=if 285<s then .error 4 else lJ (pn D s p) fun a=>lJ (dS D B a.2) fun c=>if 30<=c.1 then .error 4 else lJ (tl D c.1 c.2) fun b=>if P.length<b.1 then .error 4 else lJ (h5 M b.1 a.1 P) fun d=> .ok (b.2,d):=by
 unfold nx pn;split
 ·rfl
 cases dh D p (dR s) with
 |error e=>rfl
 |ok x=>
  dsimp only;rw[mg];dsimp only;cases dS D B (p+dR s) with
  |error e=>rfl
  |ok c=>
   rw[mg];dsimp only;split
   ·rfl
   unfold tl;cases dh D c.2 (fa c.1) with
   |error e=>rfl
   |ok y=>
    dsimp only;rw[mg];dsimp only;split
    ·rfl
    cases h5 M (jM c.1 y) (jL s x) P with
    |error e=>rfl
    |ok a=>rfl
end Go.Cl.Nf
namespace Go.Proofs.YtgpmffbleaphkaaGreat
open Go.Cl Go.Cl.Rw Go.Cl.Sto Go.Cl.Fx Go.Cl.Nf Go.Cl.Bt
def JI (d e a b:Se)(D P:Ss SF)(M:Si)(o:Sh)(s:J)(v:Sh)(c:J):S2 Se (Se×Se)->Prop
 | .ok (x,q)=>v= .tuple #[I (x:Se),I 0]/\cY d c e a b D q P M o/\bj a b s c
 | .error e=>0<e/\(∃n:Si,v= .tuple #[I n,I (e:Se)])/\bj a b s c
theorem JJ (w:jq aw)(e:Se)(s:J)(f o r:Se)(D P:Ss SF)(p:Se)(M:Si)(y:Sh)(h:cY e s f o r D p P M y)(H:e<=s.Y)(K:D.length<=4000000)(q g a:Se)(z:(g=4/\q<=27)\/(g=2/\q<=29))(S:a<=10):
  Runs Sg aw 186 [fc f,I (q:Se),I (g:Se),I (a:Se)] s fun A L=>JI e f o r D P M y s A L (rQ D q g a p):=by
 refine Runs.dY 45 Tryz.func186 rfl (w _ rfl) rfl rfl ?_;intro i j l;have b:i.N 1=I (q:Se):=l 1;have c:i.N 2=I (g:Se):=l 2;have d:i.N 3=I (a:Se):=l 3;unfold rQ;by_cases B:q<2*g
 ·have O:(q:Si)<2*(g:Si):=Z;rw[Sr B];refine fS j b c d (Sl O) (Z:(a:Si)+(q:Si)=((a+q:Se):Si)) @SY ?_;exact⟨rfl,h,bj.p _ _ _⟩
 rw[Sm B];have t:¬(g:Si)=0:=Z;have E:(q:Si).tmod (g:Si)=((q%g:Se):Si):=by rw[Int.tmod_eq_emod_of_nonneg Z];rfl
 have T:2<=q/g/\q/g<=14/\q%g<=3/\(g=4->q/g<=6):=by rcases z with ⟨rfl,h⟩|⟨rfl,h⟩<;>omega
 have F:(g:Si)+((q%g:Se):Si)=((g+q%g:Se):Si):=Z;have Q:(g+q%g)*2^(q/g-1)<=100000:=by
  rcases z with ⟨rfl,h⟩|⟨rfl,h⟩
  ·have b:2^(q/4-1)<=2^5:=SK Z Z;have c:(4+q%4)*2^(q/4-1)<=7*2^5:=Tf Z b;have d:(2:Se)^5=32:=by decide
   omega
  have b:2^(q/2-1)<=2^13:=SK Z Z;have c:(2+q%2)*2^(q/2-1)<=3*2^13:=Tf Z b;have d:(2:Se)^13=8192:=by decide
  omega
 have u:=uU Sg 3 .i64 (x:=g+q%g) (k:=q/g-1) Z Z;have U:=fx D p (q/g-1);have W:2^(q/g-1)<=2^13:=SK Z Z;have Wy:(2:Se)^13=8192:=by decide
 generalize Wz:(g+q%g)*2^(q/g-1)=X at Q u;refine jG j (l 0:i.N 0=fc f) b c (Z:¬(q:Si)<2*(g:Si)) @kI t (show(q:Si).tdiv (g:Si)=((q/g:Se):Si) by rw[Int.tdiv_eq_ediv_of_nonneg Z];rfl) (Z:((q/g:Se):Si)-1=((q/g-1:Se):Si)) @jQ (h.F.o jP 0 4) ((mR w e s o r D p (q/g-1) h.cD H Z K).b fun A WA m=> ?_);cases v:dh D p (q/g-1) with
 |error WB=>
  rw[v] at m;obtain⟨rfl,rfl,n⟩:=m;refine wN j b c d @ct @cu @gy t E F u (Z:(a:Si)+((X:Se):Si)+0=((a+X:Se):Si)) @SY ?_;exact⟨ai,⟨_,rfl⟩,n⟩
 |ok G=>
  rw[v] at m;obtain⟨rfl,R,n⟩:=m;have WC:=(qx v).2;refine wN j b c d @ct @cu @gy t E F u (Z:(a:Si)+((X:Se):Si)+((G:Se):Si)=((a+X+G:Se):Si)) @SY ?_;exact⟨rfl,h.ji R n,n⟩
theorem aap (l:jq aw)(c:Se)(s:J)(a f g:Se)(D P:Ss SF)(p:Se)(M:Si)(o:Sh)(h:cY c s a f g D p P M o)(w:c<=s.Y)(x:D.length<=4000000)(q:Se)(z:257<=q)(O:q<=400):
  Runs Sg aw 185 [fc a,I (q:Se)] s fun v A=>JI c a f g D P M o s v A (if 285<q then .error 4 else pn D q p):=by
 refine Runs.dY 16 Tryz.func185 rfl (l _ rfl) rfl rfl ?_;intro m b n;have B:m.N 0=fc a:=n 0;have i:m.N 1=I (q:Se):=n 1;have E:=h.cD.mu;by_cases F:q=285
 ·have d:(q:Si)=285:=Z;rw[Sm Z];have r:pn D q p= .ok (258,p):=by
   subst F;unfold pn;have G:dR 285=0:=rfl;rw[G,gp Z];rfl
  rw[r];refine b0 b i (Sl d) @SQ ?_;exact⟨rfl,h,bj.p _ _ _⟩
 have d:¬(q:Si)=285:=Z;by_cases t:285<q
 ·have j:(q:Si)>285:=Z;rw[Sr t];refine eo b i d (Sl j) @SQ ?_;exact⟨ai,⟨_,rfl⟩,bj.p _ _ _⟩
 have j:¬(q:Si)>285:=Z;rw[Sm t,<-aam D z Z E];refine cl b B i d j (Z:(q:Si)-257=((q-257:Se):Si)) ((JJ l c s a f g D P p M o h w x (q-257) 4 3 (.inl ⟨rfl,Z⟩) Z).b fun v Q e=> ?_);cases u:rQ D (q-257) 4 3 p with
 |error r=>
  rw[u] at e;obtain⟨H,⟨K,rfl⟩,k⟩:=e;refine b0 b @ct @cu @SQ ?_;exact⟨H,⟨K,rfl⟩,k⟩
 |ok y=>
  have⟨y,R⟩:=y;rw[u] at e;obtain⟨rfl,L,k⟩:=e;refine b0 b @ct @cu @SQ ?_;exact⟨rfl,L,k⟩
def rR (c d e:Se)(o:Sh)(s:J)(v:Sh)(b:Ss Se):Prop:=∃a,v= .agg (bt b a).toArray/\mS d e s a b/\(∀i,ak a=some i->i≠c/\ak o≠some i)
theorem po (k:IntKind)(a b:Si):bn (.tuple #[.int k a,.int k b]) (.tuple #[.int k a,.int k b])=true:=by simp[bn,mn,oD,b9]
theorem aaq (WA:jq aw)(e:Se)(s:J)(d f g:Se)(D q:Ss SF)(U v:Se)(M:Si)(Xs:v=M.toNat)(o:Sh)(h:cY e s d f g D U q M o)(W0:e<=s.Y)(WI:D.length<=4000000)(Xt:q.length<=v)(Ym:v<=100000000)(B:Se)(Xu:257<=B)(Xv:B<=400)(H:Sh)(O:Ss Se)(Xw:rR d f g o s H O)(Xx:O.length<=1000):
  Runs Sg aw 181 [fc d,I (B:Se),H] s fun H Xy=>pk e d f g D M o s H Xy (nx D v O B U q):=by
 obtain⟨W1,rfl,Xz,XW⟩:=Xw;rw[aao];have W2:=h.cD.n;refine Runs.dY 72 Tryz.func181 rfl (WA _ rfl) rfl rfl ?_;intro l a WD;have w:l.N 0=fc d:=WD 0;have WJ:l.N 1=I (B:Se):=WD 1;have WK:l.N 2= .agg (bt O W1).toArray:=WD 2;clear WD;refine aR a WK @eP (aK fun WL WM W3 Yn=> ?_);obtain⟨XX,W4⟩:∃j,j=s.Y:=⟨_,rfl⟩
 rw[<-W4] at WM;have Q:eL d f g o s o WL:=(eL.p d f g o s).hX W3;have Yo:∀i,ak o=some i->i<s.Y:=fun i W=>h.br.z i W
 have R:∀W5 t,eL d f g o s W5 t->ad e s t:=fun W5 t WN=>WN.A h.mT W2.2.2.1 W2.2.2.2.1 h.Q W0
 refine bp a w WJ W4.symm @aP ?_;refine(aap WA e WL d f g D q U M o (h.C W0 W3) (Z:e<=WL.Y) WI B Xu Xv).b ?_;intro H E S;by_cases W6:285<B
 ·rw[Sr W6] at S|-
  obtain⟨-,⟨n,rfl⟩,p⟩:=S;refine eo a @ct @cu (SS (show¬((4:Se):Si)=0 by decide)) @Sw ?_;exact⟨ai,rfl,R _ _ (Q.a (ix p))⟩
 rw[Sm W6] at S|-
 cases y:pn D B U with
 |error r=>
  rw[y] at S;obtain⟨T,⟨n,rfl⟩,p⟩:=S;refine eo a @ct @cu (Z:¬(r:Si)=0) @Sw ?_;rw[rI];exact⟨T,rfl,R _ _ (Q.a (ix p))⟩
 |ok XY=>
 have⟨n,W7⟩:=XY;rw[y] at S;obtain⟨rfl,WO,WB⟩:=S;rw[mg];dsimp only;have Yp:n<=1000:=by
  unfold pn at y;cases F:dh D U (dR B) with
  |error r=>rw[F] at y;cases y
  |ok XZ=>
   rw[F] at y;injection y with y;injection y with y _;have:=(qx F).2;have Yq:=fx D U (dR B);rw[<-y];exact Ja Z Z
 have W8:=Q.a (ix WB);have X0:e<=E.Y:=ag WB.Y;have W9:=kf WM WB.Y (WB.N XX WM.n Z Z);have Xa:=(Xz.yg XW Q).fm WB;have Yr:=WO.F.B (P:=Sg) jP (a:=0) (c:=4) rfl aA;refine aR a @ct @cu ?_;have⟨WC,Xb⟩:=aO (fun j=>decide (j<E.Y):Se->To);have X1:∀j,WC j=true->j<E.Y:=by
  intro j h;rw[Xb] at h;exact SB h
 have Xc:∀j,j<E.Y->WC j=true:=fun j h=>by rw[Xb];exact Sv h
 have X:=ad.aS E 0;have X2:(aS E 0).Y=E.Y+0:=gg _ _;have G:=WO.C X0 X;have X3:=W9.C X;have X4:=LA.D Xc WO.F.n;have X5:=LA.D Xc W9.n;have X6:=G.F.B (P:=Sg) jP (a:=0) (c:=4) rfl aA;have X7:=X3.y (P:=Sg) dT (by rw[aP];exact b1) (c:=18) (by rw[aP]);have Wy:bj f g E (aS E 0):=⟨Z,fun i W _ _=>X.N i W⟩;refine LB.kQ.hx WC X1 0 0 cW cW ?_;refine c1 a w @jQ X6 X7 X4 X5 (tk O Xa.1) ((Bk WA e (aS E 0) f g D W7 G.cD Z WI O W1 (Xa.fm Wy) Xx).b fun H Xd WE=> ?_);refine⟨fun h=>h.elim,?_⟩;cases F:dS D O W7 with
 |error r=>
  rw[F] at WE;obtain⟨T,rfl,p⟩:=WE;have X8:¬(r:Si)=0:=Z;refine fS a @ct @cu @ez @po X8 @Sw ?_;rw[rI];exact⟨T,rfl,R _ _ (W8.a (ix (Wy.a p)))⟩
 |ok K=>
 have⟨K,WQ⟩:=K;rw[F] at WE;obtain⟨rfl,Xe,WR⟩:=WE;rw[mg];dsimp only;have X9:=G.ji Xe WR;have WS:=W8.a (ix (Wy.a WR));have Ya:e<=Xd.Y:=ag WR.Y;by_cases Xf:30<=K
 ·have Yb:((K:Se):Si)>=30:=Z;rw[Sr Xf];refine fS a @ct @cu @ez @po (Sl Yb) @Sw ?_;exact⟨ai,rfl,R _ _ WS⟩
 rw[Sm Xf];refine ch a w @ct @cu @ez @po (Z:¬((K:Se):Si)>=30) ((JJ WA e Xd d f g D q WQ M o X9 Ya WI K 2 1 (.inr ⟨rfl,Z⟩) Z).b ?_);rw[aan D Xe.mu];intro H Xg WG;cases z:tl D K WQ with
 |error r=>
  rw[z] at WG;obtain⟨T,⟨Ys,rfl⟩,p⟩:=WG;refine eo a @ct @cu (Z:¬(r:Si)=0) @Sw ?_;rw[rI];exact⟨T,rfl,R _ _ (WS.a (ix p))⟩
 |ok Yc=>
 have⟨m,WT⟩:=Yc;rw[z] at WG;obtain⟨rfl,WU,Xh⟩:=WG;rw[mg];dsimp only;have Xi:=WS.a (ix Xh);have Yd:e<=Xg.Y:=ag Xh.Y;have Yt:1<=m:=by
  unfold tl at z;cases F:dh D WQ (fa K) with
  |error r=>rw[F] at z;cases z
  |ok XZ=>
   rw[F] at z;injection z with z;injection z with z _;rw[<-z];unfold jM;split<;>omega
 have WV:=WU.F.B (P:=Sg) cJ (a:=2) (c:=4) rfl aA;have WW:=WU.br.c.cd (P:=Sg) SU (a:=Xg);by_cases Xj:q.length<m
 ·have Ye:((m:Se):Si)>((q.length:Se):Si):=Z;rw[Sr Xj];refine wL a w @ct @cu @rK WV WW (Sl Ye) @Sw ?_;exact⟨ai,rfl,R _ _ Xi⟩
 rw[Sm Xj];refine c1 a w @ct @cu @rK WV WW (Z:¬((m:Se):Si)>((q.length:Se):Si)) ?_;refine aZ.w (fun Wz l t=>∃(i:Se) (b:Ss SF) (u:Sh),Wz=n-i/\i<=n/\h5 v m (n-i) b=h5 v m n q/\m<=b.length/\b.length<=v/\cY e t d f g D WT b M u/\eL d f g o s u t/\e<=t.Y/\l.e=72/\l.N 0=fc d/\l.N 9=I (m:Se)/\l.N 50=I (n:Se)/\l.N 51=I (i:Se))
  (fun Wz l t=>l.e=72/\((Wz= .bb 0/\∃(b:Ss SF) (u:Sh),h5 v m n q= .ok b/\cY e t d f g D WT b M u/\eL d f g o s u t)\/(Wz= .bF/\∃r:Se,h5 v m n q= .error r/\0<r/\l.N 6=I (r:Se)/\ad e s t)))
  ⟨0,q,o,rfl,Z,rfl,Z,Xt,WU,Xi,Yd,V a,V w,aa,aa,aa⟩ ?_ ?_
 rotate_left
 ·clear a w WJ WK l;rintro Wz l t ⟨a,(⟨rfl,b,u,A,L,p⟩|⟨rfl,r,A,T,Yf,Yg⟩)⟩
  ·refine bO a @Sw ?_;rw[A];exact⟨rfl,u,L,p⟩
  refine bS a Yf @Sw ?_;rw[A];exact⟨T,rfl,Yg⟩
 clear a w WJ WK l WV WW;rintro Yu Xk Wz l t ⟨i,b,u,rfl,W,A,Yv,Yw,L,p,Yh,a,w,Xl,WX,WY⟩;by_cases Yx:i<n;rotate_left
 ·obtain rfl:i=n:=Z;rw[S4,h5] at A;refine aW a WX WY (Z:¬((i:Se):Si)<((i:Se):Si)) ?_;exact Xk _ _ _ ⟨V a,.inl ⟨rfl,b,u,A.symm,L,p⟩⟩
 rw[show n-i=(n-(i+1))+1 from Z,h5] at A;refine aW a WX WY (Sl (Z:((i:Se):Si)<((n:Se):Si))) ?_;obtain⟨WZ,Xm⟩:∃WC:Se->To,WC=fun j=>decide (j<t.Y):=⟨_,rfl⟩
 have Yi:∀j,WZ j=true->j<t.Y:=by
  intro j h;rw[Xm] at h;exact SB h
 have Xn:∀j,j<t.Y->WZ j=true:=fun j h=>by rw[Xm];exact Sv h
 refine LB.kQ.hx WZ Yi 0 0 cW cW ?_;have X:=ad.aS t 0;have X2:(aS t 0).Y=t.Y+0:=gg _ _;have Wy:eL d f g u t u (aS t 0):=⟨Z,fun i W _ _ _ _=>X.N i W,.inl rfl⟩;have G:=L.C Yh X;have Xo:b.length-m<b.length:=Z;have Xp:=G.br.c.r (k:= .i64) (x:=((b.length-m:Se):Si)) SU bw Z Z;rw[Sn] at Xp;have Q:=G.br.c.P de Xo;rw[dn Xo] at Q;refine mA a w Xl @rK ((G.F.B (P:=Sg) cJ (a:=2) (c:=4) rfl aA)) ((LA.D Xn L.F.n)) ((fun WN=>LA.iG L.br.c Xn (k:=WN))) ((LA.q9 L.br.c)) ((G.br.c.cd SU (a:=aS t 0))) L.br.m ((Z:((b.length:Se):Si)-(m:Si)=((b.length-m:Se):Si))) Xp Q ?_;refine(Bl WA e (aS t 0) d f g D b WT v M Xs (b.getD (b.length-m) 0) u G Z Z).b ?_;intro H Yy WH;refine⟨fun h=>h.elim,?_⟩;by_cases Xq:v<=b.length
 ·rw[Sr Xq] at WH A;obtain⟨-,rfl,Yj⟩:=WH;refine aR a @ez (SS (show¬((7:Se):Si)=0 by decide)) ?_;exact Xk _ _ _ ⟨V a,.inr ⟨rfl,7,A.symm,ai,aa,(R _ _ (p.a Wy)).a Yj⟩⟩
 rw[Sm Xq] at WH A;obtain⟨rfl,Yk,Yl,Xr⟩:=WH;refine aR a WY @ez ?_;have Yz:=Xr.Y;exact aH (n-(i+1)) Z ⟨i+1,_,Yk,rfl,Z,A,by rw[Sp];omega,by rw[Sp,SI];omega,Yl,p.a (Wy.a Xr),Z,V a,V w,V Xl,V WX,aa⟩
def rS (b c d:Se)(o:Sh)(s:J)(j:Se)(e:Ss Se):Prop:=∃a,ae s j (bt e a)/\mS c d s a e/\(∀i,ak a=some i->i≠b/\ak o≠some i)/\j≠b/\j≠c/\j≠d/\ak o≠some j
theorem rS.fm {b c d j:Se}{o e:Sh}{s l:J}{m:Ss Se}(w:rS b c d o s j m)(k:eL b c d o s e l):rS b c d e l j m:=by
 have⟨x,f,n,g,p,q,r,t⟩:=w;have u:∀i,i<s.Y->ak o≠some i->ak e≠some i:=fun i a y=>by
  rcases k.jB with h|⟨z,h,A⟩
  ·rw[h];exact y
  rw[h];intro v;injection v with v;omega
 exact⟨x,kf f k.Y (k.N j f.n p q r t),n.yg g k,fun i a=>⟨(g i a).1,u i (n.2 i a).1 (g i a).2⟩,p,q,r,u j f.n t⟩
theorem JK (H:jq aw)(i:Se)(s:J)(b d e:Se)(D y:Ss SF)(K m Wz:Se)(M:Si)(W0:m=M.toNat)(o:Sh)(h:cY i s b d e D K y M o)(W1:i<=s.Y)(W2:D.length<=4000000)(L:y.length<=m)(Xu:m<=100000000)(Ym:8*D.length<Wz)(W3 W4:Sh)(A B:Ss Se)(Xv:rR b d e o s W3 A)(Xw:rR b d e o s W4 B)(Yn:A.length<=300)(Xx:B.length<=1000):
  Runs Sg aw 169 [fc b,W3,W4] s fun v Xy=>pk i b d e D M o s v Xy (iP D m A B Wz K y):=by
 obtain⟨W5,rfl,Xz,W6⟩:=Xv;obtain⟨W7,rfl,XW,W8⟩:=Xw;have W9:=h.cD.n;have Yo:=h.F.n;have Xa:∀r,ak o=some r->r<s.Y:=fun r WA=>h.br.z r WA
 refine Runs.dY 39 Tryz.func169 rfl (H _ rfl) rfl rfl ?_;intro g a O;have n:g.N 0=fc b:=O 0;have Xb:g.N 1= .agg (bt A W5).toArray:=O 1;have Xc:g.N 2= .agg (bt B W7).toArray:=O 2;clear O;refine aR a Xb @eP (aK fun XX Xd XY Yp=> ?_);obtain⟨WB,Xe⟩:∃j,j=s.Y:=⟨_,rfl⟩
 rw[<-Xe] at Xd;refine aW a Xc Xe.symm @aP ?_;refine aK ?_;intro Q Xf Xg Yq;obtain⟨WC,Xh⟩:∃j,j=XX.Y:=⟨_,rfl⟩
 rw[<-Xh] at Xf;have Xi:ad s.Y s Q:=XY.d Xg;have WD:eL b d e o s o Q:=(eL.p b d e o s).hX Xi;have E:rS b d e o Q WB A:=⟨W5,Xd.C Xg,Xz.yg W6 WD,W6,Z,Z,Z,fun p=>ag (Xa _ p)⟩;have F:rS b d e o Q WC B:=⟨W7,Xf,XW.yg W8 WD,W8,Z,Z,Z,fun p=>ag (Xa _ p)⟩;have⟨Xj,Xk⟩:=aO (iP D m A B Wz K y);rw[<-Xk];have WE:∀Xl t,eL b d e o s Xl t->ad i s t:=fun Xl t u=>u.A h.mT W9.2.2.1 W9.2.2.2.1 h.Q W1
 refine aR a Xh.symm @aP ?_;refine aZ.w (fun z g t=>∃(w:Se) (P:Ss SF) (l:Sh),iP D m A B z w P=Xj/\8*D.length<w+z/\P.length<=m/\cY i t b d e D w P M l/\eL b d e o s l t/\rS b d e l t WB A/\rS b d e l t WC B/\i<=t.Y/\g.e=39/\g.N 0=fc b/\g.N 4=ab WB 0 18/\g.N 5=ab WC 0 18)
  (fun z g t=>z= .bF/\g.e=39/\∃v,g.N 6=v/\pk i b d e D M o s v t Xj)
  ⟨K,y,o,Xk.symm,Z,L,(h.C W1 Xi),WD,E,F,Z,V a,V n,aa,aa⟩ ?_ ?_
 rotate_left
 ·clear a n Xb Xc g;rintro z g t ⟨rfl,a,v,XZ,k⟩;refine bS a XZ @Tryz.results169 ?_;exact k
 rintro Yr R z g t ⟨w,P,l,f,Ys,L,WG,S,E,F,X0,a,n,WH,WI⟩;have Yt:=WG.cD.mu;obtain⟨u,rfl⟩:∃u,z=u+1:=⟨z-1,Z⟩
 rw[iP] at f;have X1:=E;obtain⟨X2,Xm,Xn,Yu,-,-,-,-⟩:=X1;refine ax a ?_;obtain⟨WJ,Xo⟩:∃A:Se->To,A=fun j=>decide (j<t.Y):=⟨_,rfl⟩
 have X3:∀j,WJ j=true->j<t.Y:=by
  intro j h;rw[Xo] at h;exact SB h
 have Xp:∀j,j<t.Y->WJ j=true:=fun j h=>by rw[Xo];exact Sv h
 have WK:=ad.aS t 0;have Yv:(aS t 0).Y=t.Y+0:=gg _ _;have WL:=WG.C X0 WK;have X4:=Xm.C WK;have WM:bj d e t (aS t 0):=⟨Z,fun r WA _ _=>WK.N r WA⟩;have X5:=LA.D Xp WG.F.n;have X6:=LA.D Xp Xm.n;have X7:=WL.F.o jP 0 4;have X8:=X4.y dT (by rw[aP];exact b1) (c:=18) (by rw[aP]);refine LB.kQ.hx WJ X3 0 0 cW cW ?_;refine cX a n WH @jQ X7 X8 X5 X6 (tk A Xn.1) ((Bk H i (aS t 0) d e D w WL.cD Z W2 A X2 (Xn.fm WM) Z).b fun v T U=> ?_);refine⟨fun h=>h.elim,?_⟩;cases WN:dS D A w with
 |error p=>
  rw[WN] at U f;obtain⟨WO,rfl,X9⟩:=U;have WQ:¬(p:Si)=0:=Z;refine cl a @ct @cu @ez @po WQ ?_;exact R _ _ _ ⟨rfl,V a,_,aa,by rw[<-f];exact⟨WO,rfl,WE _ _ (S.a (ix (WM.a X9)))⟩⟩
 |ok WR=>
 have⟨x,W⟩:=WR;rw[WN] at U f;obtain⟨rfl,Ya,WS⟩:=U;have Yw:=pb WN;have WT:=WL.ji Ya WS;have X:eL b d e l t l T:=ix (WM.a WS);have WU:=S.a X;have Xq:i<=T.Y:=ag WS.Y;dsimp only at f;by_cases Xr:x=256
 ·have Wy:((x:Se):Si)=256:=Z;rw[Sr Xr] at f;refine cl a @ct @cu @ez @po (Sl Wy) ?_;exact R _ _ _ ⟨rfl,V a,_,aa,by rw[<-f];exact⟨rfl,l,WT,WU⟩⟩
 have Wy:¬((x:Se):Si)=256:=Z;rw[Sm Xr] at f;by_cases Xs:x<256
 ·have WV:((x:Se):Si)<256:=Z;rw[Sr Xs] at f;refine gY a n @ct @cu @ez @po Wy (Sl WV) (dH S9 Ta) @HO ((Bl H i T b d e D P W m M W0 (UInt8.ofNat x) l WT Xq Z).b fun v Yb k=> ?_);by_cases Xt:m<=P.length
  ·rw[Sr Xt] at k f;obtain⟨-,rfl,WW⟩:=k;refine aq a (SS (show¬((7:Se):Si)=0 by decide)) ?_;exact R _ _ _ ⟨rfl,V a,_,aa,by rw[<-f];exact⟨ai,rfl,(WE _ _ WU).a WW⟩⟩
  rw[Sm Xt] at k f;obtain⟨rfl,WX,WY,G⟩:=k;have q:=X.a G;refine ax a ?_;have Yc:=G.Y;exact aH u Z ⟨W,_,WX,f,Z,by rw[Sp,SI];omega,WY,S.a q,E.fm q,F.fm q,Z,V a,V n,V WH,V WI⟩
 have WV:¬((x:Se):Si)<256:=Z;rw[Sm Xs] at f;have Yd:=F.fm X;obtain⟨Ye,Yf,Yg,Yh,-,-,-,-⟩:=id Yd;have Yi:=Yf.y dT (by rw[aP];exact b1) (c:=18) (by rw[aP]);refine gY a n WI @ct @cu @ez @po Wy WV Yi ((aaq H i T b d e D P W m M W0 l WT Xq W2 L Xu x Z Z _ B ⟨Ye,rfl,Yg,Yh⟩ Xx).b fun v Yb k=> ?_);cases WZ:nx D m B x W P with
 |error p=>
  rw[WZ] at k f;obtain⟨WO,rfl,WW⟩:=k;have WQ:¬(p:Si)=0:=Z;refine aq a WQ ?_;exact R _ _ _ ⟨rfl,V a,_,aa,by rw[<-f];exact⟨WO,rfl,(WE _ _ WU).a WW⟩⟩
 |ok WR=>
  have⟨Yj,Yk⟩:=WR;rw[WZ] at k f;obtain⟨rfl,WX,WY,G⟩:=k;have q:=X.a G;have Yl:=I2 WZ L;refine ax a ?_;have Yc:=G.Y;exact aH u Z ⟨Yj,Yk,WX,f,Z,Yl.2.2,WY,S.a q,E.fm q,F.fm q,Z,V a,V n,V WH,V WI⟩
theorem aar {a k:Se}(d:a<65536)(b:k<65536):(SC.wrap (((Sz SC.bits (a:Si)^^^Sz SC.bits (k:Si)).toNat:Se):Si)=65535)=(a+k=65535):=by
 have c:SC.bits=64:=rfl;rw[c];have e:(Sz 64 (a:Si)^^^Sz 64 (k:Si)).toNat=a^^^k:=by
  rw[SW,SL,SL,SA,SA,SG Z,SG Z]
 have f:a^^^k<65536:=S3 (n:=16) d b;rw[e,cg Z];have d:(65535^^^k)=65535-k:=by
  have:=HR (m:=k) b;rw[c,cg (by
   rw[SW,SL];have c:(Sz 64 65535)=Tj 64 65535:=rfl;rw[c,SA,SA,SG Z,SG Z];have:k^^^65535<2^16:=S3 (n:=16) b Z;have:(2:Se)^16=65536:=by decide
   omega)] at this
  rw[SW,SL] at this;have b:(Sz 64 65535)=Tj 64 65535:=rfl;rw[b,SA,SA,SG Z,SG Z] at this;rw[Nat.xor_comm];omega
 refine propext ⟨fun h=> ?_,fun h=> ?_⟩
 ·have h:a^^^k=65535:=Z;have:a=65535^^^k:=by rw[<-h,Th,Tk,Tl]
  omega
 have:a=65535^^^k:=Z;rw[this,Th,Tk,Tl];rfl
theorem aas {b:Se}{s:J}{c d:Se}{D:Ss SF}{a:Se}(h:hg b s c d D (8*a)):∃e,td b s c d D (8*a) a e 0:=by
 have⟨q,b,c,h,d⟩:=h;have d:=h.l;obtain rfl:c=0:=Z;obtain rfl:q=a:=Z;exact⟨b,h⟩
theorem aat (Q:jq aw)(d:Se)(s:J)(l g f:Se)(D x:Ss SF)(R m:Se)(M:Si)(W0:m=M.toNat)(A:Sh)(w:cY d s l g f D R x M A)(WI:d<=s.Y)(WJ:D.length<=4000000)(W1:x.length<=m)(Xh:m<=100000000):
  Runs Sg aw 167 [fc l] s fun S W2=>pk d l g f D M A s S W2 (jO D m R x):=by
 have⟨a,WK⟩:=aO ((R+7)/8);have Xi:=w.cD.mu;have WL:=w.cD.n;have K:∀WM t,eL l g f A s WM t->ad d s t:=fun WM t B=>B.A w.mT WL.2.2.1 WL.2.2.2.1 w.Q WI
 refine Runs.dY 60 Tryz.func167 rfl (Q _ rfl) rfl rfl ?_;intro h b WN;have p:h.N 0=fc l:=WN 0;clear WN;have E:=w.F.B (P:=Sg) jP (a:=0) (c:=4) rfl aA;refine aW b p @jQ E ((Rz d s g f D R w.cD WI).b ?_);rintro _ WO ⟨T,L⟩;rw[<-WK] at T;have Wy:=w.ji T L;have E:=Wy.F.B (P:=Sg) jP (a:=0) (c:=4) rfl aA;unfold jO;rw[<-WK];refine aW b p @jQ E ((mR Q d WO g f D (8*a) 16 T (ag L.Y:d<=WO.Y) Z WJ).b fun S WQ u=> ?_);by_cases WR:8*a+16<=8*D.length;rotate_left
 ·rw[hH WR] at u;obtain⟨-,rfl,q⟩:=u;rw[Sm (show¬8*a+32<=8*D.length from Z)];refine eo b @ct @cu (SS (show¬(2:Si)=0 by decide)) @SO ?_;exact⟨ai,rfl,K _ _ (ix (L.a q))⟩
 rw[gp WR] at u;obtain⟨rfl,Wz,y⟩:=u;have WA:=Wy.ji Wz y;have y:=L.a y;have E:=WA.F.B (P:=Sg) jP (a:=0) (c:=4) rfl aA;have W3:=fx D (8*a) 16;have⟨e,W4⟩:=aO (bZ D (8*a) 16);rw[<-W4] at W3|-
 have Xj:(2:Se)^16=65536:=by decide
 refine cl b p @ct @cu @jQ E ((mR Q d WQ g f D (8*a+16) 16 Wz (ag y.Y:d<=WQ.Y) Z WJ).b fun S W5 u=> ?_);by_cases WS:8*a+16+16<=8*D.length;rotate_left
 ·rw[hH WS] at u;obtain⟨-,rfl,q⟩:=u;rw[Sm (show¬8*a+32<=8*D.length from Z)];refine eo b @ct @cu (SS (show¬(2:Si)=0 by decide)) @SO ?_;exact⟨ai,rfl,K _ _ (ix (y.a q))⟩
 rw[gp WS] at u;obtain⟨rfl,WT,z⟩:=u;have WB:=WA.ji WT z;have z:=y.a z;have W6:=fx D (8*a+16) 16;have⟨B,W7⟩:=aO (bZ D (8*a+16) 16);rw[<-W7] at W6|-
 rw[Sr (show 8*a+32<=8*D.length from Z)];have WU:=aar (a:=e) (k:=B) Z Z;by_cases U:e+B=65535;rotate_left
 ·rw[Sm U];refine e8 b @ct @cu @wy (show(SC.wrap (((Sz SC.bits (e:Si)^^^Sz SC.bits (B:Si)).toNat:Se):Si)=65535)=False by rw[WU];exact SS U) @SO ?_;exact⟨ai,rfl,K _ _ (ix z)⟩
 rw[Sr U];rw[show 8*a+16+16=8*(a+4) from Z] at WB;refine bp b @ct @cu @wy (show(SC.wrap (((Sz SC.bits (e:Si)^^^Sz SC.bits (B:Si)).toNat:Se):Si)=65535)=True by rw[WU];exact Sl U) ?_;refine aZ.w (fun F h t=>∃(i:Se) (o:Ss SF) (r:Sh),F=e-i/\i<=e/\jN D m (e-i) (a+4+i) o=jN D m e (a+4) x/\o.length<=m/\cY d t l g f D (8*(a+4+i)) o M r/\eL l g f A s r t/\d<=t.Y/\h.e=60/\h.N 0=fc l/\h.N 39=I (e:Se)/\h.N 40=I (i:Se))
  (fun F h t=>h.e=60/\((F= .bb 0/\∃(WC:Se) (o:Ss SF) (r:Sh),jN D m e (a+4) x= .ok (WC,o)/\cY d t l g f D WC o M r/\eL l g f A s r t)\/(F= .bF/\∃G:Se,jN D m e (a+4) x= .error G/\0<G/\h.N 2=I (G:Se)/\ad d s t)))
  ⟨0,x,A,rfl,Z,rfl,W1,WB,ix z,(ag z.Y:d<=W5.Y),V b,V p,aa,aa⟩ ?_ ?_
 rotate_left
 ·clear b p h;rintro F h t ⟨b,(⟨rfl,WC,o,r,WD,H,q⟩|⟨rfl,G,WD,W8,W9,j⟩)⟩
  ·refine bO b @SO ?_;rw[WD];exact⟨rfl,r,H,q⟩
  refine bS b W9 @SO ?_;rw[WD];exact⟨W8,rfl,j⟩
 clear b p h E Wy WA WB T Wz WT L y z;rintro Xk WE F h t ⟨i,o,r,rfl,Xl,j,Xm,H,q,Xa,b,p,WG,WH⟩;by_cases Xn:i<e;rotate_left
 ·obtain rfl:i=e:=Z;rw[S4,jN] at j;refine aW b WG WH (Z:¬((i:Se):Si)<((i:Se):Si)) ?_;exact WE _ _ _ ⟨V b,.inl ⟨rfl,_,o,r,j.symm,H,q⟩⟩
 rw[show e-i=(e-(i+1))+1 from Z,jN] at j;have⟨Xb,v⟩:=aas H.cD;have Xo:a+4+i<=D.length:=v.iO.choose_spec.2.2.2;refine cX b p WG WH (Sl (Z:((i:Se):Si)<((e:Se):Si))) @jQ (H.F.o jP 0 4) @qs (v.F.o u6 0 4) ((x1 d t f D (a+4+i) v.iO Xa Z).b ?_);rintro _ W ⟨rfl,WV,WW⟩;have O:bj g f t W:=gL.j WW;by_cases WX:a+4+i<D.length;rotate_left
 ·rw[Sm WX] at j;refine aR b (show gK D ((a+4+i:Se):Si)= -1 by unfold gK;rw[Sm Z]) (Sl (show(-1:Si)<0 by decide)) ?_;exact WE _ _ _ ⟨V b,.inr ⟨rfl,2,j.symm,ai,aa,K _ _ (q.a (ix O))⟩⟩
 rw[Sr WX] at j;have Xp:=(D.getD (a+4+i) 0).toNat_lt;rw[Nat.min_eq_left Z] at WV;have Xc:=H.ji (⟨a+4+i+1,Xb,0,⟨WV,v.F.j WW (iq (fun G=>v.U G.symm)),Z,Z,fun w=>Z,v.oi,v.gn,v.me,v.U⟩,Z⟩:hg d W g f D (8*(a+4+(i+1)))) O;have Xd:d<=W.Y:=ag O.Y;refine cl b p (show gK D ((a+4+i:Se):Si)=((D.getD (a+4+i) 0).toNat:Si) by unfold gK;rw[Sr Z,Sn]) (Z:¬(((D.getD (a+4+i) 0).toNat:Se):Si)<0) (dH S9 Ta) (show IntKind.u8.wrap (((D.getD (a+4+i) 0).toNat:Se):Si)=(((D.getD (a+4+i) 0).toNat:Se):Si) by rw[gz];omega) ((Bl Q d W l g f D o _ m M W0 (D.getD (a+4+i) 0) r Xc Xd Z).b fun S Xq X=> ?_);by_cases WY:m<=o.length
 ·rw[Sr WY] at X j;obtain⟨-,rfl,Xe⟩:=X;refine aq b (SS (show¬((7:Se):Si)=0 by decide)) ?_;exact WE _ _ _ ⟨V b,.inr ⟨rfl,7,j.symm,ai,aa,(K _ _ (q.a (ix O))).a Xe⟩⟩
 rw[Sm WY] at X j;obtain⟨rfl,Xf,Xg,WZ⟩:=X;refine aq b WH ?_;have Xr:=WZ.Y;exact aH (e-(i+1)) Z ⟨i+1,_,Xf,rfl,Z,j,by rw[Sp,SI];omega,Xg,q.a ((ix O).a WZ),Z,V b,V p,V WG,aa⟩
theorem JL (a b c d:Sh):bm (.tuple #[a,b,c,d]) 0=some a:=rfl
theorem JM (a b c d:Sh):bm (.tuple #[a,b,c,d]) 1=some b:=rfl
theorem JN (a b c d:Sh):bm (.tuple #[a,b,c,d]) 2=some c:=rfl
theorem JO (a b c d:Sh):bm (.tuple #[a,b,c,d]) 3=some d:=rfl
theorem vh (a b c:Sh):bm (.tuple #[a,b,c]) 0=some a:=rfl
theorem vi (a b c:Sh):bm (.tuple #[a,b,c]) 1=some b:=rfl
theorem vj (a b c:Sh):bm (.tuple #[a,b,c]) 2=some c:=rfl
def aau (d e a b:Se)(D P:Ss SF)(p:Se)(M:Si)(o:Sh)(s:J)(v:Sh)(c:J):S2 Se (Se×Se×Se)->Prop
 | .ok (n,f,k)=>v= .tuple #[I (n:Se),I (f:Se),I (k:Se),I 0]/\cY d c e a b D (p+14) P M o/\bj a b s c
 | .error e=>0<e/\(∃d f g,v= .tuple #[I d,I f,I g,I (e:Se)])/\bj a b s c
theorem aav (l:jq aw)(c:Se)(s:J)(m e f:Se)(D P:Ss SF)(p:Se)(M:Si)(x:Sh)(h:cY c s m e f D p P M x)(Q:c<=s.Y)(t:D.length<=4000000):
  Runs Sg aw 182 [fc m] s fun v R=>aau c m e f D P p M x s v R (mf D p):=by
 refine Runs.dY 53 Tryz.func182 rfl (l _ rfl) rfl rfl ?_;intro S b T;have u:S.N 0=fc m:=T 0;have Wz:(2:Se)^5=32:=by decide
 have WA:(2:Se)^4=16:=by decide
 have g:=h.F.o jP 0 4;have y:¬(2:Si)=0:=by decide
 unfold mf;refine aW b u @jQ g ((mR l c s e f D p 5 h.cD Q Z t).b fun v z a=> ?_);by_cases A:p+5<=8*D.length;rotate_left
 ·rw[hH A] at a|-
  obtain⟨-,rfl,i⟩:=a;refine eo b @ct @cu y SH ?_;exact⟨ai,⟨_,_,_,rfl⟩,i⟩
 rw[gp A] at a|-
 dsimp only;obtain⟨rfl,B,j⟩:=a;have w:=fx D p 5;generalize bZ D p 5=n at w;have o:(n:Si)+257=((n+257:Se):Si):=Z;by_cases E:29<n
 ·have U:((n+257:Se):Si)>286:=Z;rw[Sr E];refine e8 b @ct @cu o (Sl U) SH ?_;exact⟨ai,⟨_,_,_,rfl⟩,j⟩
 rw[Sm E];have g:=(h.ji B j).F.o jP 0 4;refine c1 b u @ct @cu o (Z:¬((n+257:Se):Si)>286) @jQ g ((mR l c z e f D (p+5) 5 B (ag j.Y:c<=z.Y) Z t).b fun v F a=> ?_);by_cases G:p+5+5<=8*D.length;rotate_left
 ·rw[hH G] at a|-
  obtain⟨-,rfl,i⟩:=a;refine eo b @ct @cu y SH ?_;exact⟨ai,⟨_,_,_,rfl⟩,j.a i⟩
 rw[gp G] at a|-
 dsimp only;obtain⟨rfl,H,d⟩:=a;have d:=j.a d;have w:=fx D (p+5) 5;generalize bZ D (p+5) 5=k at w;have q:(k:Si)+1=((k+1:Se):Si):=Z;by_cases K:29<k
 ·have W:((k+1:Se):Si)>30:=Z;rw[Sr K];refine e8 b @ct @cu q (Sl W) SH ?_;exact⟨ai,⟨_,_,_,rfl⟩,d⟩
 rw[Sm K];have g:=(h.ji H d).F.o jP 0 4;refine c1 b u @ct @cu q (Z:¬((k+1:Se):Si)>30) @jQ g ((mR l c F e f D (p+5+5) 4 H (ag d.Y:c<=F.Y) Z t).b fun v WB a=> ?_);rw[show p+10=p+5+5 from Z];by_cases L:p+5+5+4<=8*D.length;rotate_left
 ·rw[hH L] at a|-
  obtain⟨-,rfl,i⟩:=a;refine e8 b @ct @cu o q SH ?_;exact⟨ai,⟨_,_,_,rfl⟩,d.a i⟩
 rw[gp L] at a|-
 dsimp only;obtain⟨rfl,X,r⟩:=a;have r:=d.a r;have Wy:=fx D (p+5+5) 4;generalize bZ D (p+5+5) 4=O at Wy;refine fS b @ct @cu o q (Z:(O:Si)+4=((O+4:Se):Si)) SH ?_;exact⟨rfl,h.ji X r,r⟩
def aaw (d e a b:Se)(D P:Ss SF)(M:Si)(o:Sh)(s:J)(v:Sh)(c:J):S2 Se (Se×Se×Se)->Prop
 | .ok (x,n,q)=>v= .tuple #[I (x:Se),I (n:Se),I 0]/\cY d c e a b D q P M o/\bj a b s c
 | .error e=>0<e/\(∃d f,v= .tuple #[I d,I f,I (e:Se)])/\bj a b s c
theorem aax (z:jq aw)(j:Se)(s:J)(A f g:Se)(D R:Ss SF)(p:Se)(S:Si)(T:Sh)(h:cY j s A f g D p R S T)(H:j<=s.Y)(K:D.length<=4000000)(b:Se)(y:Sh)(l:Ss Se)(t:ao s 1 y l.length (bf l))(U:∀i,ak y=some i->i≠f/\i≠g)(WK:l.length<=1000):
  Runs Sg aw 187 [fc A,I (b:Se),y] s fun B WG=>aaw j A f g D R S T s B WG (mN D b p l):=by
 refine Runs.dY 65 Tryz.func187 rfl (z _ rfl) rfl rfl ?_;intro L c M;have O:L.N 0=fc A:=M 0;have u:L.N 1=I (b:Se):=M 1;have E:L.N 2=y:=M 2;have WL:(2:Se)^2=4:=by decide
 have WM:(2:Se)^3=8:=by decide
 have WN:(2:Se)^7=128:=by decide
 have P:=h.F.o jP 0 4;unfold mN;by_cases W:b=16
 ·have m:((b:Se):Si)=16:=Z;rw[Sr W];by_cases X:l.length=0
  ·have WH:((l.length:Se):Si)=0:=Z;rw[Sr X];refine fS c u E (Sl m) (t.c.g eH) (Sl WH) Sx ?_;exact⟨ai,⟨_,_,rfl⟩,bj.p _ _ _⟩
  rw[Sm X];refine cX c O u E (Sl m) (t.c.g eH) (Z:¬((l.length:Se):Si)=0) @jQ P ((mR z j s f g D p 2 h.cD H Z K).b fun B F a=> ?_);have Wy:((l.length:Se):Si)-1=((l.length-1:Se):Si):=Z;have Wz:∀Q,bj f g s Q->eM Sg 47 y (I ((l.length-1:Se):Si))=some (bM 1 y (l.length-1))/\aD Sg Q 3 (bM 1 y (l.length-1))=some (I ((l.getD (l.length-1) 0:Se):Si)):=fun Q WA=>by
   have WB:=rP t WA.Y (fun i WC WI=>WA.N i WI (U i WC).1 (U i WC).2);have o:=WB.c.r (k:= .i64) (x:=((l.length-1:Se):Si)) eH aQ Z Z;rw[Sn] at o;have q:=WB.c.P aB (k:=l.length-1) Z;rw[l3 Z] at q;exact⟨o,q⟩
  by_cases e:p+2<=8*D.length
  ·rw[gp e] at a|-
   dsimp only;obtain⟨rfl,v,d⟩:=a;have⟨o,q⟩:=Wz F d;have w:=fx D p 2;generalize bZ D p 2=n at w;refine pS c E @ct @cu (t.c.g eH) Wy o q (Z:(3:Si)+(n:Si)=((3+n:Se):Si)) Sx ?_;exact⟨rfl,h.ji v d,d⟩
  rw[hH e] at a|-
  obtain⟨-,rfl,r⟩:=a;have⟨o,q⟩:=Wz F r;refine wL c E @ct @cu (t.c.g eH) Wy o q Sx ?_;exact⟨ai,⟨_,_,rfl⟩,r⟩
 have m:¬((b:Se):Si)=16:=Z;rw[Sm W];by_cases WD:b=17
 ·have G:((b:Se):Si)=17:=Z;rw[Sr WD];refine ch c O u m (Sl G) @jQ P ((mR z j s f g D p 3 h.cD H Z K).b fun B F a=> ?_);by_cases e:p+3<=8*D.length
  ·rw[gp e] at a|-
   dsimp only;obtain⟨rfl,v,d⟩:=a;have w:=fx D p 3;generalize bZ D p 3=n at w;refine eo c @ct @cu (Z:(3:Si)+(n:Si)=((3+n:Se):Si)) Sx ?_;exact⟨rfl,h.ji v d,d⟩
  rw[hH e] at a|-
  obtain⟨-,rfl,r⟩:=a;refine b0 c @ct @cu Sx ?_;exact⟨ai,⟨_,_,rfl⟩,r⟩
 have G:¬((b:Se):Si)=17:=Z;rw[Sm WD];by_cases WE:b=18
 ·have WJ:((b:Se):Si)=18:=Z;rw[Sr WE];refine c1 c O u m G (Sl WJ) @jQ P ((mR z j s f g D p 7 h.cD H Z K).b fun B F a=> ?_);by_cases e:p+7<=8*D.length
  ·rw[gp e] at a|-
   dsimp only;obtain⟨rfl,v,d⟩:=a;have w:=fx D p 7;generalize bZ D p 7=n at w;refine eo c @ct @cu (Z:(11:Si)+(n:Si)=((11+n:Se):Si)) Sx ?_;exact⟨rfl,h.ji v d,d⟩
  rw[hH e] at a|-
  obtain⟨-,rfl,r⟩:=a;refine b0 c @ct @cu Sx ?_;exact⟨ai,⟨_,_,rfl⟩,r⟩
 rw[Sm WE];refine e8 c u m G (Z:¬((b:Se):Si)=18) Sx ?_;exact⟨rfl,h,bj.p _ _ _⟩
def aay (d f b c:Se)(D P:Ss SF)(M:Si)(o:Sh)(g:Se)(s:J)(v:Sh)(a:J):S2 Se (Ss Se×Se)->Prop
 | .ok (l,q)=>∃y,v= .tuple #[y,I 0]/\ao a 1 y l.length (bf l)/\ay s.Y y/\cY d a f b c D q P M o/\bj b c s a/\jo l/\l.length=g
 | .error e=>0<e/\(∃w,v= .tuple #[w,I (e:Se)])/\bj b c s a
theorem aaz {D:Ss SF}{s p:Se}{l:Ss Se}{x n q:Se}(a:s<=18)(b:jo l)(h:mN D s p l= .ok (x,n,q)):n<=200/\x<=15:=by
 unfold mN at h;split at h
 ·split at h
  ·cases h
  cases a:dh D p 2 with
  |error e=>rw[a] at h;cases h
  |ok y=>
   rw[a] at h;injection h with h;injection h with h2 h;injection h with h3 _
   have:=(qx a).2;have:=fx D p 2;have:=b (l.length-1);omega
 split at h
 ·cases a:dh D p 3 with
  |error e=>rw[a] at h;cases h
  |ok y=>
   rw[a] at h;injection h with h;injection h with h2 h;injection h with h3 _
   have:=(qx a).2;have:=fx D p 3;omega
 split at h
 ·cases a:dh D p 7 with
  |error e=>rw[a] at h;cases h
  |ok y=>
   rw[a] at h;injection h with h;injection h with h2 h;injection h with h3 _
   have:=(qx a).2;have:=fx D p 7;omega
 injection h with h;injection h with h2 h;injection h with h3 _
 omega
theorem aaA (WN:jq aw)(x:Se)(s:J)(m d e:Se)(D R:Ss SF)(WC:Se)(S:Si)(K:Sh)(u:cY x s m d e D WC R S K)(Xu:x<=s.Y)(W9:D.length<=4000000)(Xa:Sh)(p:Ss Se)(Xv:rR m d e K s Xa p)(Yq:p.length=19)(g WO:Se)(Yr:g<=400)(Ys:8*D.length+1<WO):
  Runs Sg aw 183 [fc m,Xa,I (g:Se)] s fun WQ Xw=>aay x m d e D R S K g s WQ Xw (hI D p g WO WC []):=by
 obtain⟨X,rfl,Xb,Yt⟩:=Xv;have Yu:=u.cD.n;have Yv:=u.F.n;refine Runs.dY 55 Tryz.func183 rfl (WN _ rfl) rfl rfl ?_;intro f a WD;have q:f.N 0=fc m:=WD 0;have Xc:f.N 1= .agg (bt p X).toArray:=WD 1;have n:f.N 2=I (g:Se):=WD 2;clear WD;refine aR a Xc @eP (aK fun v Xd WR Yw=> ?_);obtain⟨O,Xe⟩:∃w,w=s.Y:=⟨_,rfl⟩
 rw[<-Xe] at Xd;have Xf:bj d e s v:=⟨WR.Y,fun i b _ _=>WR.N i b⟩;have⟨WS,Xg⟩:=aO (hI D p g WO WC []);rw[<-Xg];simp(disch:=omega)only[aI,Sk,SE,↓Sq,a,<-Xe,aP];refine aZ.w (fun z f t=>∃(P:Se) (l:Ss Se) (y:Sh),hI D p g z P l=WS/\8*D.length+1<z+P/\l.length<=g/\jo l/\ao t 1 y l.length (bf l)/\ay v.Y y/\cY x t m d e D P R S K/\bj d e s t/\v.Y<=t.Y/\ae t O (bt p X)/\mS d e t X p/\f.e=55/\f.N 0=fc m/\f.N 2=I (g:Se)/\f.N 4=ab O 0 18/\f.N 8=y)
  (fun z f t=>f.e=55/\((z= .bb 0/\∃(l:Ss Se) (T:Se),WS= .ok (l,T)/\ao t 1 (f.N 8) l.length (bf l)/\ay s.Y (f.N 8)/\cY x t m d e D T R S K/\bj d e s t/\jo l/\l.length=g)\/(z= .bF/\∃(A:Se) (Xh:Sh),WS= .error A/\0<A/\f.N 6=Xh/\f.N 7=I (A:Se)/\bj d e s t)))
  ⟨WC,[],_,Xg.symm,Z,aA,fun i=>aA,.al,ay.al _,(u.C Xu WR),Xf,Z,Xd,(Xb.fm Xf),V a,V q,V n,aa,aa⟩ ?_ ?_
 rotate_left
 ·clear a q Xc n f;rintro z f t ⟨a,(⟨rfl,l,T,Wy,B,F,U,G,Wz,Xx⟩|⟨rfl,A,Xh,Xy,WA,Xz,WT,G⟩)⟩
  ·obtain⟨y,h⟩:∃y,f.N 8=y:=⟨_,rfl⟩
   rw[h] at B F;refine bS a h Te ?_;rw[Wy];exact⟨y,rfl,B,F,U,G,Wz,Xx⟩
  refine b0 a Xz WT Te ?_;rw[Xy];exact⟨WA,⟨_,rfl⟩,G⟩
 rintro Yx WE z f t ⟨P,l,y,k,Yy,Yz,Wz,B,F,U,G,YA,WG,WU,a,q,n,L,h⟩;have YB:=U.cD.mu;obtain⟨WV,rfl⟩:∃WV,z=WV+1:=⟨z-1,Z⟩
 rw[hI] at k;by_cases Xi:g<=l.length
 ·have XW:¬((l.length:Se):Si)<(g:Si):=Z;rw[Sr Xi] at k;refine bp a n h (B.c.g eH) XW ?_;exact WE _ _ _ ⟨V a,.inl ⟨rfl,l,P,k.symm,by simp only[cx,↓Sq,Sf,h];exact B,by simp only[cx,↓Sq,Sf,h];exact fun i b=>ag (F i b),U,G,Wz,Z⟩⟩
 rw[Sm Xi] at k;refine bp a n h (B.c.g eH) (Sl (Z:((l.length:Se):Si)<(g:Si))) ?_;obtain⟨WW,Xj⟩:∃XX:Se->To,XX=fun w=>decide (w<t.Y):=⟨_,rfl⟩
 have XY:∀w,WW w=true->w<t.Y:=by
  intro w u;rw[Xj] at u;exact SB u
 have Xk:∀w,w<t.Y->WW w=true:=fun w u=>by rw[Xj];exact Sv u
 have WX:=ad.aS t 0;have YC:(aS t 0).Y=t.Y+0:=gg _ _;have Wy:=U.C (Z:x<=t.Y) WX;have WY:bj d e t (aS t 0):=⟨Z,fun i b _ _=>WX.N i b⟩;have XZ:=(WG.C WX).y dT (by rw[aP];exact b1) (c:=18) (by rw[aP]);refine LB.kQ.hx WW XY 0 0 cW cW ?_;refine cX a q L @jQ (Wy.F.o jP 0 4) XZ (LA.D Xk U.F.n) (LA.D Xk WG.n) (tk p WU.1) ((Bk WN x (aS t 0) d e D P Wy.cD Z W9 p X (WU.fm WY) Z).b fun WQ Xl WH=> ?_);refine⟨fun u=>u.elim,?_⟩;cases WZ:dS D p P with
 |error A=>
  rw[WZ] at WH k;obtain⟨WA,rfl,X0⟩:=WH;refine cl a @ct @cu @ez @po (Z:¬(A:Si)=0) ?_;exact WE _ _ _ ⟨V a,.inr ⟨rfl,A,_,k.symm,WA,aa,aa,G.a (WY.a X0)⟩⟩
 |ok X1=>
 have⟨Xm,T⟩:=X1;rw[WZ] at WH k;obtain⟨rfl,X2,W0⟩:=WH;dsimp only at k;have YD:=pb WZ;have Q:=WY.a W0;have WB:∀i,ak y=some i->i≠d/\i≠e:=fun i b=>ag (F i b)
 have Xn:=rP B Q.Y (fun i b W1=>Q.N i W1 (WB i b).1 (WB i b).2);have Xo:=kf WG Q.Y (Q.N O WG.n Z Z);refine ch a q h @ct @cu @ez @po ((aax WN x Xl m d e D R T S K (Wy.ji X2 W0) (ag W0.Y:x<=Xl.Y) W9 Xm y l Xn WB Z).b fun WQ WI WJ=> ?_);cases WK:mN D Xm T l with
 |error A=>
  rw[WK] at WJ k;obtain⟨WA,⟨Xp,YE,rfl⟩,X3⟩:=WJ;refine bp a @vh @vi @vj (Z:¬(A:Si)=0) ?_;exact WE _ _ _ ⟨V a,.inr ⟨rfl,A,_,k.symm,WA,aa,aa,G.a (Q.a X3)⟩⟩
 |ok Xp=>
 have⟨M,o,Xq⟩:=Xp;rw[WK] at WJ k;obtain⟨rfl,E,W⟩:=WJ;dsimp only at k;have X4:=aaz Z Wz WK;have YF:=Jn WK;have W2:=Q.a W;have W3:=rP Xn W.Y (fun i b W1=>W.N i W1 (WB i b).1 (WB i b).2);have X5:=kf Xo W.Y (W.N O Xo.n Z Z);have W4:=(WU.fm Q).fm W;have YG:=W2.Y;have Xr:(g:Si)-((l.length:Se):Si)=((g-l.length:Se):Si):=Z;by_cases Xs:g<l.length+o
 ·have X6:((o:Se):Si)>((g-l.length:Se):Si):=Z;rw[Sr Xs] at k;refine cX a n h @vh @vi @vj (W3.c.g eH) Xr (Sl X6) ?_;exact WE _ _ _ ⟨V a,.inr ⟨rfl,4,_,k.symm,ai,aa,aa,G.a W2⟩⟩
 rw[Sm Xs] at k;refine cX a n h @vh @vi @vj (W3.c.g eH) Xr (Z:¬((o:Se):Si)>((g-l.length:Se):Si)) ?_;refine aZ.w (fun z f r=>∃(i:Se) (y:Sh),z=o-i/\i<=o/\ao r 1 y (l.length+i) (bf (l++So i M))/\ay v.Y y/\ad v.Y WI r/\f.e=55/\f.N 0=fc m/\f.N 2=I (g:Se)/\f.N 4=ab O 0 18/\f.N 8=y/\f.N 11=I (M:Se)/\f.N 46=I (o:Se)/\f.N 47=I (i:Se))
  (fun z f r=>z= .bb 2/\∃(y:Sh),ao r 1 y (l.length+o) (bf (l++So o M))/\ay v.Y y/\ad v.Y WI r/\f.e=55/\f.N 0=fc m/\f.N 2=I (g:Se)/\f.N 4=ab O 0 18/\f.N 8=y)
  ⟨0,y,rfl,Z,by simpa using W3,F,ad.p _ _,V a,V q,V n,V L,V h,aa,aa,aa⟩ ?_ ?_
 ·clear a q n L h f;rintro YH X7 z f r ⟨i,y,rfl,b,B,F,j,a,q,n,L,h,Xt,W5,W6⟩;by_cases YI:i<o;rotate_left
  ·obtain rfl:i=o:=Z;refine aW a W5 W6 (Z:¬((i:Se):Si)<((i:Se):Si)) ?_;exact X7 _ _ _ ⟨rfl,y,B,F,j,V a,V q,V n,V L,V h⟩
  simp(disch:=omega)only[aI,bC,Sk,Sf,↓Sq,a,h,Xt,W5,W6,Sl (show((i:Se):Si)<((o:Se):Si) by omega),gh eH aQ lB];refine ll eH aQ o3 lB rfl B aa ai (by simp only[dG,a];decide) (by simp only[dG,a];decide) (by rfl) ai rfl Z Z F (ag j.Y) ?_;intro YJ W7 YK WL X8 X9 YL YM;have Ya:bf (l++So i M)++[SV .i64 (M:Se)]=bf (l++So (i+1) M):=by
   rw[S0,<-SJ];exact ye _ [M]
  rw[Ya] at WL;refine aq a W6 ?_;exact aH (o-(i+1)) Z ⟨i+1,W7,rfl,Z,WL,X8,j.a X9,V a,V q,V n,V L,aa,V Xt,V W5,aa⟩
 rintro z f r ⟨rfl,W7,WL,Yb,j,a,q,n,L,h⟩;have W8:m<v.Y/\d<v.Y/\e<v.Y:=Z;have YN:bj d e WI r->True:=fun _=>trivial
 have Yc:cY x r m d e D Xq R S K:=by
  have⟨Yd,Ye,Yf,H,WT⟩:=E.cD;have WM:∀i,i<v.Y->r.i.N i=WI.i.N i:=fun i b=>j.N i b
  have⟨Yg,Yh,Yi,Yj,Yk⟩:=H.iO;exact⟨⟨Yd,Ye,Yf,⟨⟨Yg,kf Yh j.Y (WM e W8.2.2),Yi.A (j.q Z),Yj,Yk⟩,kf H.F j.Y (WM d W8.2.1),H.l,H.qt,H.qu,H.oi,H.gn,H.me,H.U⟩,WT⟩,kf E.F j.Y (WM m W8.1),rP E.br j.Y (fun i b _=>WM i (ag (((fun i b=>u.br.z i b):∀i,ak K=some i->i<s.Y) i b))),E.Q,E.tj,E.rL,E.rM,E.rN,E.rO,E.mT⟩
 have Yl:bj d e s r:=⟨ag j.Y,fun i b Ym Yn=>(j.N i Z).trans ((G.a W2).N i b Ym Yn)⟩;have Yo:mS d e r X p:=⟨Bj W4.1 j.Y (fun i b _=>j.N i (ag ((Xb.2 i b).1))),fun i b=>⟨Nat.lt_of_lt_of_le (W4.2 i b).1 j.Y,(W4.2 i b).2⟩⟩;refine ax a ?_;have Yp:=j.Y;exact aH WV Z ⟨Xq,l++So o M,W7,k,Z,by rw[Sp,St];omega,Je Wz X4.2,by rw[Sp,St];exact WL,Yb,Yc,Yl,Z,kf X5 Yp (j.N O Z),Yo,V a,V q,V n,V L,V h⟩
end Go.Proofs.YtgpmffbleaphkaaGreat
namespace Go.Cl.Bt
theorem bj.hN {b c:Se}{s t a:J}{j:Se}(h:bj b c s t)(k:s.Y<=j)(l:a.Y=t.Y)(d:∀i,i≠j->a.i.N i=t.i.N i):bj b c s a:=⟨ag h.Y,fun i e f g=>(d i Z).trans (h.N i e f g)⟩
theorem bj.hX {a b:Se}{s t c:J}(h:bj a b s t)(k:ad t.Y t c):bj a b s c:=⟨bq h.Y k.Y,fun i d e f=>(k.N i (ag h.Y)).trans (h.N i d e f)⟩
theorem bj.va {a b:Se}{s t c:J}{y:Sh}(h:bj a b s t)(k:aF y t c)(d:ay s.Y y):bj a b s c:=⟨bq h.Y k.Y,fun i e f g=>(k.N i (ag h.Y) (fun j=>ag (d i j))).trans (h.N i e f g)⟩
end Go.Cl.Bt
namespace Go.Proofs.YtgpmffbleaphkaaGreat
open Go.Cl Go.Cl.Rw Go.Cl.Sto Go.Cl.Fx Go.Cl.Nf Go.Cl.Bt
theorem cY.bT {d:Se}{t e:J}{f g j:Se}{D P:Ss SF}{p:Se}{M:Si}{o:Sh}(h:cY d t f g j D p P M o){B:Se}(b:t.Y<=e.Y)(c:∀i,i<B->e.i.N i=t.i.N i)(E:d<=B)(l:f<B)(m:g<B)(n:j<B)(q:∀i,ak o=some i->i<B):cY d e f g j D p P M o:=by
 have⟨r,s,u,a,v⟩:=h.cD;have⟨w,x,y,z,A⟩:=a.iO;exact⟨⟨r,s,u,⟨⟨w,kf x b (c j n),y.A (⟨b,fun i k=>c i Z⟩:ad d t e),z,A⟩,kf a.F b (c g m),a.l,a.qt,a.qu,a.oi,a.gn,a.me,a.U⟩,v⟩,kf h.F b (c f l),rP h.br b (fun i k _=>c i (q i k)),h.Q,h.tj,h.rL,h.rM,h.rN,h.rO,h.mT⟩
theorem rT:cP Sg 210 []=some (.agg (bt [] (av)).toArray):=by kernel_rfl
abbrev JP:Sh:= .agg (bt [] (av)).toArray
def aaB (i j d e:Se)(D P:Ss SF)(M:Si)(o:Sh)(s:J)(v:Sh)(a:J):S2 Se ((Ss Se×Ss Se)×Se)->Prop
 | .ok ((b,c),q)=>∃f g,v= .tuple #[.agg (bt b f).toArray,.agg (bt c g).toArray,I 0]/\cY i a j d e D q P M o/\bj d e s a/\ao a 1 f (cR b 15).length (bf (cR b 15))/\ao a 1 g (cR c 15).length (bf (cR c 15))/\ay s.Y f/\ay s.Y g/\b.length<=300/\c.length<=300
 | .error h=>0<h/\v= .tuple #[JP,JP,I (h:Se)]/\bj d e s a
theorem aaC (W9:jq aw)(O:Se)(Q:J)(H o p:Se)(D Wy:Ss SF)(WI X1:Se)(Wz:Si)(R:Sh)(s:cY O Q H o p D WI Wy Wz R)(YQ:O<=Q.Y)(Yq:D.length<=4000000)(Xg:8*D.length+1<X1):
  Runs Sg aw 170 [fc H] Q fun X2 ZL=>aaB O H o p D Wy Wz R Q X2 ZL (lH X1 D WI):=by
 have YR:=s.cD.n;have ZM:=s.F.n;have YS:∀a,ak R=some a->a<Q.Y:=fun a d=>s.br.z a d
 refine Runs.dY 109 Tryz.func170 rfl (W9 _ rfl) rfl rfl ?_;intro z b YT;have WU:z.N 0=fc H:=YT 0;clear YT;refine aR @k5 @k6 @eP (aK fun ZN Yr YU zaD=> ?_);obtain⟨S,YV⟩:∃m,m=Q.Y:=⟨_,rfl⟩
 rw[<-YV] at Yr;refine bp b YV.symm @aP @k5 @k6 ?_;refine aK ?_;intro Ys f WV ZO;obtain⟨B,YW⟩:∃m,m=ZN.Y:=⟨_,rfl⟩
 rw[<-YW] at f;have g:=Yr.C WV;have U:Q.Y<=S:=Z;have W:Q.Y<=B:=Z;have X3:ad Q.Y Q Ys:=YU.d WV;have WJ:bj o p Q Ys:=⟨X3.Y,fun a d _ _=>X3.N a d⟩;have X4:=s.C YQ X3;have T:∀{t WW:J} {m:Se} {YX:Ss Sh},ae t m YX->Q.Y<=m->bj o p t WW->ae WW m YX:=fun WZ q l=>kf WZ l.Y (l.N _ WZ.n Z Z)
 have YY:∀{t WW:J} {W0:Sh} {h:Se} {YZ:Ss Sh},ao t 1 W0 h YZ->ay Q.Y W0->bj o p t WW->ao WW 1 W0 h YZ:=fun WZ q l=>rP WZ l.Y (fun a d ZP=>l.N a ZP (ag (q a d)) (ag (q a d)))
 have WX:∀{t WW:J} {K:Se},cY O t H o p D K Wy Wz R->t.Y<=WW.Y->(∀a,a<Q.Y->WW.i.N a=t.i.N a)->cY O WW H o p D K Wy Wz R:=fun WZ q M=>WZ.bT q M YQ ZM YR.1 YR.2.1 YS
 unfold lH;refine aW b WU YW.symm @aP ?_;refine(aav W9 O Ys H o p D Wy WI Wz R X4 Z Yq).b ?_;intro X2 Xa X5;cases F:mf D WI with
 |error e=>
  rw[F] at X5;obtain⟨Xq,⟨zaE,zaF,Y0,rfl⟩,WQ⟩:=X5;have Yt:¬(e:Si)=0:=Z;refine ch b @JL @JM @JN @JO Yt @rT (bh b1 ai (T g U WQ) (aP _ _) rfl (aP _ _) (e1 _ rfl) fun L WA u r=> ?_);have WK:ae L B (bt [] (av)):=ae.f (T f W WQ) u r Z;refine ax b (bh b1 ai WK (aP _ _) rfl (aP _ _) (e1 _ rfl) fun X WB E v=> ?_);have WE:ae L S (bt [] (av)):=WA;have WL:=WE.f E v Z;have WC:=WL.y (P:=Sg) dT (by rw[aP];exact b1) (c:=18) (by rw[aP]);have WM:ae X B (bt [] (av)):=WB;have WD:=WM.y (P:=Sg) dT (by rw[aP];exact b1) (c:=18) (by rw[aP]);have WG:=bj.hN (bj.hN (WJ.a WQ) U u r) W E v;refine b0 b WC WD @Sy ?_;exact⟨Xq,rfl,WG⟩
 |ok Y0=>
 have⟨h,W1,l⟩:=Y0;rw[F] at X5;obtain⟨rfl,X6,WN⟩:=X5;dsimp only;have g:=T g U WN;have f:=T f W WN;have WN:=WJ.a WN;have zaG:=g.n;have zaH:=f.n;have zaI:Q.Y<=Xa.Y:=WN.Y;have zaJ:h<=286/\257<=h/\1<=W1/\W1<=30/\l<=19:=by
  unfold mf at F;cases Y1:dh D WI 5 with
  |error e=>rw[Y1] at F;cases F
  |ok Y2=>
   rw[Y1] at F;dsimp only at F;split at F
   ·cases F
   cases Y3:dh D (WI+5) 5 with
   |error e=>rw[Y3] at F;cases F
   |ok W2=>
    rw[Y3] at F;dsimp only at F;split at F
    ·cases F
    cases Yu:dh D (WI+10) 4 with
    |error e=>rw[Yu] at F;cases F
    |ok Xb=>
     rw[Yu] at F;injection F with F;injection F with a1 F;injection F with a2 a3
     have:=(qx Yu).2;have:=fx D (WI+10) 4;have:(2:Se)^4=16:=by decide
     omega
 have ZQ:∀t:J,iU Sg t 47 (I 19) (I 19)=cL t (So 19 (I 0)) 19 1:=fun t=>sq (n:=19) eH aQ lB o3 ai ai
 refine cl b @JL @JM @JN @JO ZQ ?_;refine du (by rw[St,SP]) ?_;intro WO zaK WY Xh X7;rw[uS] at WY;have zaL:=X7.Y;have Yv:∀a,ak WO=some a->Xa.Y<=a:=Xh
 have Xh:ay Q.Y WO:=fun a d=>ag (Xh a d)
 refine aq b @Ji ?_;refine du (by rfl) ?_;intro W3 X8 Xc Xr WR;have zaM:=WR.Y;have ZR:∀a,ak W3=some a->ak WO≠some a:=fun a d e=>bq (WY.z a e) (Xr a d)
 have ZS:∀a,ak W3=some a->Xa.Y<=a:=fun a d=>ag (Xr a d)
 have Xr:ay Q.Y W3:=fun a d=>ag (Xr a d)
 have zaN:ej.length=19:=rfl;have Yw:=Xc.c.pP (P:=Sg) (k:= .i64) (y:=((l:Se):Si)) eH aQ Z Z;rw[Sn] at Yw;have X9:bj o p Xa X8:=(bj.hX (bj.p o p Xa) X7).hX WR;have Y4:=WY.C WR;have g:=T g U X9;have f:=T f W X9;have Ya:cY O X8 H o p D (WI+14) Wy Wz R:=WX X6 Z (fun a d=>by rw[WR.N a Z,X7.N a Z]);have Yb:=WN.a X9;have Y5:∀t,ao t 1 W3 19 (bf ej)->az t 1 (cU 1 W3 0 l) l (bf (ej.take l)):=fun t s=>by
  have:=s.c.nP (a:=0) (b:=l) Z Z;rw[SP,SP,vc,vb,Tg,Tm] at this;exact this
 have Y6:=(Y5 X8 Xc).cd (P:=Sg) eH (a:=X8);have⟨Yx,Y7⟩:=aO (lG D (ej.take l) (WI+14) (So 19 0));rw[<-Y7];clear X9 WJ X4 X6 YU WV X3 Yr WY Xr WN X7 WR;refine aR b Yw Y6 ?_;refine aZ.w (fun Xi z t=>∃(a K:Se) (G:Ss Se),Xi=l-a/\a<=l/\lG D ((ej.take l).drop a) K G=Yx/\G.length=19/\(∀m,G.getD m 0<=7)/\cY O t H o p D K Wy Wz R/\ao t 1 WO 19 (bf G)/\ao t 1 W3 19 (bf ej)/\ae t S (bt [] (av))/\ae t B (bt [] (av))/\bj o p Q t/\Xa.Y<=t.Y/\z.e=109/\z.N 0=fc H/\z.N 2=ab S 0 18/\z.N 3=ab B 0 18/\z.N 5=I (h:Se)/\z.N 6=I (W1:Se)/\z.N 9=WO/\z.N 33=cU 1 W3 0 l/\z.N 34=I (l:Se)/\z.N 35=I (a:Se))
  (fun Xi z t=>z.e=109/\z.N 2=ab S 0 18/\z.N 3=ab B 0 18/\ae t S (bt [] (av))/\ae t B (bt [] (av))/\bj o p Q t/\((Xi= .bF/\∃e,Yx= .error e/\0<e/\z.N 4=I (e:Se))\/(Xi= .bb 0/\∃(K:Se) (G:Ss Se),Yx= .ok (G,K)/\G.length=19/\(∀m,G.getD m 0<=7)/\cY O t H o p D K Wy Wz R/\ao t 1 WO 19 (bf G)/\Xa.Y<=t.Y/\z.N 0=fc H/\z.N 5=I (h:Se)/\z.N 6=I (W1:Se)/\z.N 9=WO)))
  ⟨0,WI+14,_,rfl,Z,Y7.symm,aA,fun m=>by rw[Sj,List.getElem?_replicate];split<;>simp,Ya,Y4,Xc,g,f,Yb,Z,V b,V WU,aa,aa,aa,aa,aa,aa,aa,aa⟩ ?_ ?_
 ·clear b WU z Ya Y4 Xc g f Yb Y6 Yw;rintro zaO Y8 Xi z t ⟨a,K,G,rfl,d,Xd,Xs,Yc,Xj,WY,Xc,g,f,WQ,Y9,b,WU,q,M,Xk,Yd,Xt,Za,Yy,Yz⟩;have ZT:O<=t.Y:=Z;by_cases Zb:a<l;rotate_left
  ·obtain rfl:a=l:=Z;have W2:¬((a:Se):Si)<((a:Se):Si):=Z;rw[List.drop_of_length_le (by rw[Su];omega),lG] at Xd;refine aW b Yy Yz W2 ?_;exact Y8 _ _ _ ⟨V b,V q,V M,g,f,WQ,.inr ⟨rfl,K,G,Xd.symm,Xs,Yc,Xj,WY,Y9,V WU,V Xk,V Yd,V Xt⟩⟩
  have W2:((a:Se):Si)<((l:Se):Si):=Z;have ZU:(ej.take l).drop a=ej.getD a 0::(ej.take l).drop (a+1):=by
   rw[List.drop_eq_getElem_cons (by rw[Su];omega)]
   congr 1
   rw[List.getElem_take,Sj,SD Z];rfl
  rw[ZU,lG] at Xd;have Zc:ej.getD a 0<19:=by
   have ZV:∀a,a<19->ej.getD a 0<19:=by decide
   exact ZV a Z
  have Zd:=Y5 t Xc;have Ze:=Zd.r (k:= .i64) (x:=(a:Si)) eH aQ Z Z;rw[Sn] at Ze;have Xb:=Zd.P aB Zb;have ZW:(ej.take l).getD a 0=ej.getD a 0:=by rw[Sj,List.getElem?_take_of_lt Zb,Sj]
  rw[l3 (by rw[Su];omega),ZW] at Xb;have ZX:=Xj.F.o jP 0 4;refine jG b WU Xt Za Yy Yz (Sl W2) Ze Xb @jQ ZX ((mR W9 O t o p D K 3 Xj.cD ZT Z Yq).b fun X2 Xl Xg=> ?_);have Zf:∀(Xu:bj o p t Xl),ao Xl 1 WO 19 (bf G)/\ao Xl 1 W3 19 (bf ej)/\ae Xl S (bt [] (av))/\ae Xl B (bt [] (av)):=fun Xu=>⟨YY WY Xh Xu,YY Xc (fun a d=>ag (ZS a d)) Xu,T g U Xu,T f W Xu⟩
  have Zg:ak WO≠some S:=fun e=>ag (Yv _ e)
  have Zh:ak WO≠some B:=fun e=>ag (Yv _ e)
  by_cases Zi:K+3<=8*D.length;rotate_left
  ·rw[hH Zi] at Xg Xd;obtain⟨-,rfl,WJ⟩:=Xg;have⟨Xv,Zj,YA,YB⟩:=Zf WJ;have Xw:=Xv.c.r (k:= .i64) (x:=((ej.getD a 0:Se):Si)) eH aQ Z Z;rw[Sn] at Xw;refine aW b @ct @cu Xw (ln aQ Xv Zc rfl fun WH YC WS=> ?_);have YD:=(WQ.a WJ).va WS Xh;have ZY:=YA.j WS Zg;have ZZ:=YB.j WS Zh;refine aW b q (SS (show¬(2:Si)=0 by decide)) @rT (bh b1 ai ZY (aP _ _) rfl (aP _ _) (e1 _ rfl) fun L WA u r=> ?_);have WK:ae L B (bt [] (av)):=ZZ.f u r Z;refine aq b M (bh b1 ai WK (aP _ _) rfl (aP _ _) (e1 _ rfl) fun X WB E v=> ?_);have WE:ae L S (bt [] (av)):=WA;refine ax b ?_;exact Y8 _ _ _ ⟨V b,V q,V M,WE.f E v Z,WB,bj.hN (bj.hN YD U u r) W E v,.inl ⟨rfl,2,Xd.symm,ai,aa⟩⟩
  rw[gp Zi] at Xg Xd;obtain⟨rfl,Z0,WJ⟩:=Xg;have⟨Xv,Zj,YA,YB⟩:=Zf WJ;have X4:=Xj.ji Z0 WJ;have Xw:=Xv.c.r (k:= .i64) (x:=((ej.getD a 0:Se):Si)) eH aQ Z Z;rw[Sn] at Xw;have zaP:=fx D K 3;refine aW b @ct @cu Xw (ln aQ Xv Zc rfl fun WH YC WS=> ?_);rw[uR] at YC;have YD:=(WQ.a WJ).va WS Xh;refine aq b Yz ?_;have zaQ:=WJ.Y;have Z1:=WS.Y;exact aH (l-(a+1)) Z ⟨a+1,K+3,G.set (ej.getD a 0) (bZ D K 3),rfl,Z,Xd,by simpa using Xs,fun m=>by
   rw[Sj,List.getElem?_set];split
   ·split
    ·show bZ D K 3<=7;omega
    exact Nat.zero_le _
   rw[<-Sj];exact Yc m,WX X4 Z1 (fun a d=>WS.N a Z (fun e=>ag (Yv a e))),YC,Zj.j WS ZR,YA.j WS Zg,YB.j WS Zh,YD,Z,V b,V WU,V q,V M,V Xk,V Yd,V Xt,V Za,V Yy,aa⟩
 rintro Xi z t ⟨b,q,M,g,f,WQ,(⟨rfl,e,Z2,Xq,Z3⟩|⟨rfl,K,G,Z4,Xs,Yc,Xj,WY,Y9,WU,Xk,Yd,Xt⟩)⟩
 ·have WC:=g.y dT (by rw[aP];exact b1) (c:=18) (by rw[aP]);have WD:=f.y dT (by rw[aP];exact b1) (c:=18) (by rw[aP]);refine fS b q M Z3 WC WD @Sy ?_;rw[Z2];exact⟨Xq,rfl,WQ⟩
 rw[Z4];dsimp only;have Z5:jo G:=fun m=>Ti (Yc m) Z
 refine aq b Xt ((vf W9 t WO G (by rw[Xs];exact WY.c) Z Z5).b ?_);rintro _ YE ⟨YF,rfl,YG,Ye,Xb⟩;have Y2:=Xb.Y;have Z6:cY O YE H o p D K Wy Wz R:=WX Xj Y2 (fun a d=>Xb.N a Z);have YH:=bj.hX (bj.p o p t) Xb;have g:=T g U YH;have f:=T f W YH;have Z7:=WQ.a YH;refine cl b @ct @cu @k5 @k6 @eP (aK fun Xl Zk WV ZO=> ?_);obtain⟨Zl,Zm⟩:∃m,m=YE.Y:=⟨_,rfl⟩
 rw[<-Zm] at Zk;simp(disch:=omega)only[aI,Sk,Sf,SE,↓Sq,b,<-Zm,aP];refine bh b1 ai Zk (aP _ _) rfl (aP _ _) (e1 _ YG.c.aN) ?_;intro WH YI Yf Xx;have YI:ae WH Zl (bt G YF):=YI;have X6:cY O WH H o p D K Wy Wz R:=WX Z6 Z (fun a d=>by rw[Xx a Z,WV.N a Z]);have g:=(g.C WV).f Yf Xx (ag g.n);have f:=(f.C WV).f Yf Xx (ag f.n);have Zn:=(YG.C WV).f Yf Xx (fun e=>ag (YG.z _ e));have WN:=bj.hN (Z7.hX WV) (j:=Zl) Z Yf Xx;have zaR:WH.Y=YE.Y+1:=Z;by_cases Yg:fK G;rotate_left
 ·rw[Sm Yg];refine aW b q Yg @rT (bh b1 ai (g) (aP _ _) rfl (aP _ _) (e1 _ rfl) fun L WA u r=> ?_);have WK:ae L B (bt [] (av)):=ae.f (f) u r Z;refine aq b M (bh b1 ai WK (aP _ _) rfl (aP _ _) (e1 _ rfl) fun X WB E v=> ?_);have WE:ae L S (bt [] (av)):=WA;have WL:=WE.f E v Z;have WC:=WL.y dT (by rw[aP];exact b1) (c:=18) (by rw[aP]);have WM:ae X B (bt [] (av)):=WB;have WD:=WM.y dT (by rw[aP];exact b1) (c:=18) (by rw[aP]);have WG:=bj.hN (bj.hN (WN) U u r) W E v;refine e8 b q M WC WD @Sy ?_;exact⟨ai,rfl,WG⟩
 rw[Sr Yg];have Z8:=YI.y dT (by rw[aP];exact b1) (c:=18) (by rw[aP]);have Z9:((h:Se):Si)+((W1:Se):Si)=((h+W1:Se):Si):=Z;refine ch b WU Xk Yd (Sl Yg) Z8 Z9 ?_;have zaa:rR H o p R WH (.agg (bt G YF).toArray) G:=⟨YF,rfl,⟨Zn.c,fun a d=>⟨Zn.z a d,ag (Ye a d),ag (Ye a d)⟩⟩,fun a d=>⟨ag (Ye a d),fun e=>bq (YS a e) (Ye a d)⟩⟩;refine(aaA W9 O WH H o p D Wy K Wz R X6 Z Yq _ G zaa Xs (h+W1) X1 Z Xg).b ?_;intro X2 Yh Yi;cases Zo:hI D G (h+W1) X1 K [] with
 |error e=>
  rw[Zo] at Yi;obtain⟨Xq,⟨zaS,rfl⟩,WT⟩:=Yi;have Yt:¬(e:Si)=0:=Z;refine cl b q @ct @cu Yt @rT (bh b1 ai (T g U WT) (aP _ _) rfl (aP _ _) (e1 _ rfl) fun L WA u r=> ?_);have WK:ae L B (bt [] (av)):=ae.f (T f W WT) u r Z;refine aq b M (bh b1 ai WK (aP _ _) rfl (aP _ _) (e1 _ rfl) fun X WB E v=> ?_);have WE:ae L S (bt [] (av)):=WA;have WL:=WE.f E v Z;have WC:=WL.y dT (by rw[aP];exact b1) (c:=18) (by rw[aP]);have WM:ae X B (bt [] (av)):=WB;have WD:=WM.y dT (by rw[aP];exact b1) (c:=18) (by rw[aP]);have WG:=bj.hN (bj.hN (WN.a WT) U u r) W E v;refine e8 b q M WC WD @Sy ?_;exact⟨Xq,rfl,WG⟩
 |ok zab=>
 have⟨w,Xy⟩:=zab;rw[Zo] at Yi;obtain⟨Xe,rfl,YJ,zac,zad,WT,Zp,zaT⟩:=Yi;dsimp only;have g:=T g U WT;have f:=T f W WT;have zaU:WH.Y<=Yh.Y:=WT.Y;have WT:=WN.a WT;have zaV:∀a,ak Xe=some a->WH.Y<=a:=zac
 have zaW:S<WH.Y:=Z;have zaX:B<WH.Y:=Z;have zaY:∀Zq d a,ak (cU 1 Xe Zq d)=some a->ak Xe=some a:=fun Zq d a s=>Jj s
 have Zr:=YJ.c.pP (k:= .i64) (y:=((h:Se):Si)) eH aQ Z Z;rw[Sn] at Zr;have WC:(w.take h).length=h:=by rw[Su];omega
 have WD:(w.drop h).length=w.length-h:=by rw[Tb]
 have zae:∀t,ao t 1 Xe w.length (bf w)->az t 1 (cU 1 Xe 0 h) (w.take h).length (bf (w.take h)):=fun t s=>by
  have:=s.c.nP (a:=0) (b:=h) Z Z;rw[SP,SP,vc,vb,Tg,Tm] at this;rw[WC];exact this
 have zaf:∀t,ao t 1 Xe w.length (bf w)->az t 1 (cU 1 Xe h w.length) (w.drop h).length (bf (w.drop h)):=fun t s=>by
  have:=s.c.nP (a:=h) (b:=w.length) Z (Tn _);rw[SP,SP,vc,vb,List.take_of_length_le (by rw[Tb];omega)] at this;rw[WD];exact this
 refine bp b Xk @ct @cu Zr ((vf W9 Yh _ (w.take h) (zae Yh YJ) Z (Jf Zp _)).b ?_);rintro _ Zs ⟨Yj,rfl,Yk,Zt,WR⟩;have zag:=WR.Y;have Zu:=YJ.C WR;have YK:=bj.hX (bj.p o p Yh) WR;have g:=T g U YK;have f:=T f W YK;have Yb:=WT.a YK;have Ya:cY O Zs H o p D Xy Wy Wz R:=WX zad zag (fun a d=>WR.N a Z);refine cl b @ct @cu @k5 @k6 @eP (aK fun zaZ Zv Xm za0=> ?_);obtain⟨Yl,Zw⟩:∃m,m=Zs.Y:=⟨_,rfl⟩
 rw[<-Zw] at Zv;simp(disch:=omega)only[aI,Sk,Sf,SE,↓Sq,b,<-Zw,aP];refine bh b1 ai Zv (aP _ _) rfl (aP _ _) (e1 _ Yk.c.aN) ?_;intro Xz YL XW Xn;have YL:ae Xz Yl (bt (w.take h) Yj):=YL;have zah:cY O Xz H o p D Xy Wy Wz R:=WX Ya Z (fun a d=>by rw[Xn a Z,Xm.N a Z]);have g:=(g.C Xm).f XW Xn Z;have f:=(f.C Xm).f XW Xn Z;have zai:=(Yk.C Xm).f XW Xn (fun e=>ag (Yk.z _ e));have YM:=(Zu.C Xm).f XW Xn (fun e=>ag (Zu.z _ e));have zaj:=bj.hN (Yb.hX Xm) (j:=Yl) Z XW Xn;have Zx:=YM.c.oJ (k:= .i64) (x:=((h:Se):Si)) eH aQ Z Z;rw[Sn] at Zx;refine aR b Xk Zx ((vf W9 Xz _ (w.drop h) (zaf Xz YM) Z (Jg Zp _)).b ?_);rintro _ Zy ⟨Ym,rfl,Yn,Zz,Xo⟩;have zak:=Xo.Y;have ZA:=YM.C Xo;have ZB:=zai.C Xo;have zal:=YL.C Xo;have YN:=bj.hX (bj.p o p Xz) Xo;have g:=T g U YN;have f:=T f W YN;have zam:=zaj.a YN;have zan:cY O Zy H o p D Xy Wy Wz R:=WX zah zak (fun a d=>Xo.N a Z);refine cl b @ct @cu @k5 @k6 @eP (aK fun za1 ZC W4 za2=> ?_);obtain⟨Yo,ZD⟩:∃m,m=Zy.Y:=⟨_,rfl⟩
 rw[<-ZD] at ZC;simp(disch:=omega)only[aI,Sk,Sf,SE,↓Sq,b,<-ZD,aP];refine bh b1 ai ZC (aP _ _) rfl (aP _ _) (e1 _ Yn.c.aN) ?_;intro W5 XX Xf W6;have XX:ae W5 Yo (bt (w.drop h) Ym):=XX;have zao:cY O W5 H o p D Xy Wy Wz R:=WX zan Z (fun a d=>by rw[W6 a Z,W4.N a Z]);have g:=(g.C W4).f Xf W6 Z;have f:=(f.C W4).f Xf W6 Z;have ZE:=(zal.C W4).f Xf W6 Z;have ZF:=(ZB.C W4).f Xf W6 (fun e=>ag (ZB.z _ e));have ZG:=(Yn.C W4).f Xf W6 (fun e=>ag (Yn.z _ e));have ZH:=(ZA.C W4).f Xf W6 (fun e=>ag (ZA.z _ e));have Yp:=bj.hN (zam.hX W4) (j:=Yo) Z Xf W6;have ZI:256<w.length:=Z;have YO:=ZH.c.r (k:= .i64) (x:=(256:Si)) eH aQ Z Z;rw[show(256:Si).toNat=256 from rfl] at YO;have YP:=ZH.c.P aB ZI;rw[l3 ZI] at YP;by_cases Xp:fK (w.take h);rotate_left
 ·rw[Sm (fun s=>Xp s.1)];refine fR b q Xp @rT (bh b1 ai (g) (aP _ _) rfl (aP _ _) (e1 _ rfl) fun L WA u r=> ?_);refine aq b M (bh b1 ai (ae.f (f) u r Z:ae L B (bt [] (av))) (aP _ _) rfl (aP _ _) (e1 _ rfl) fun X WB E v=> ?_);have WE:ae L S (bt [] (av)):=WA;have WL:=WE.f E v Z;have WC:=WL.y dT (by rw[aP];exact b1) (c:=18) (by rw[aP]);have WM:ae X B (bt [] (av)):=WB;have WD:=WM.y dT (by rw[aP];exact b1) (c:=18) (by rw[aP]);have WG:=bj.hN (bj.hN (Yp) U u r) W E v;refine e8 b q M WC WD @Sy ?_;exact⟨ai,rfl,WG⟩
 by_cases XY:fK (w.drop h);rotate_left
 ·rw[Sm (fun s=>XY s.2.1)];refine gX b q (Sl Xp) XY @rT (bh b1 ai (g) (aP _ _) rfl (aP _ _) (e1 _ rfl) fun L WA u r=> ?_);have WK:ae L B (bt [] (av)):=ae.f (f) u r Z;refine aq b M (bh b1 ai WK (aP _ _) rfl (aP _ _) (e1 _ rfl) fun X WB E v=> ?_);have WE:ae L S (bt [] (av)):=WA;have WL:=WE.f E v Z;have WC:=WL.y dT (by rw[aP];exact b1) (c:=18) (by rw[aP]);have WM:ae X B (bt [] (av)):=WB;have WD:=WM.y dT (by rw[aP];exact b1) (c:=18) (by rw[aP]);have WG:=bj.hN (bj.hN (Yp) U u r) W E v;refine e8 b q M WC WD @Sy ?_;exact⟨ai,rfl,WG⟩
 by_cases ZJ:w.getD 256 0=0
 ·have W2:((w.getD 256 0:Se):Si)=0:=Z;rw[Sm (fun s=>s.2.2 ZJ)];refine kO b q (Sl Xp) (Sl XY) YO YP (Sl W2) @rT (bh b1 ai (g) (aP _ _) rfl (aP _ _) (e1 _ rfl) fun L WA u r=> ?_);have WK:ae L B (bt [] (av)):=ae.f (f) u r Z;refine aq b M ?_;refine bh b1 ai WK (aP _ _) rfl (aP _ _) (e1 _ rfl) ?_;intro X WB E v;have WE:ae L S (bt [] (av)):=WA;have WL:=WE.f E v Z;have WC:=WL.y dT (by rw[aP];exact b1) (c:=18) (by rw[aP]);have WM:ae X B (bt [] (av)):=WB;have WD:=WM.y dT (by rw[aP];exact b1) (c:=18) (by rw[aP]);have WG:=bj.hN (bj.hN (Yp) U u r) W E v;refine e8 b q M WC WD @Sy ?_;exact⟨ai,rfl,WG⟩
 have W2:¬((w.getD 256 0:Se):Si)=0:=Z;rw[Sr ⟨Xp,XY,ZJ⟩];refine ib b (Sl Xp) (Sl XY) YO YP W2 ?_;have⟨W7,XZ⟩:=aO (fun m=>decide (m<W5.Y/\m≠S/\m≠B):Se->To);have zap:∀m,W7 m=true->m<W5.Y:=by
  intro m s;rw[XZ] at s;exact(SB s).1
 have zaq:W7 S=false:=by rw[XZ];exact SN (fun s=>s.2.1 rfl)
 have zar:W7 B=false:=by rw[XZ];exact SN (fun s=>s.2.2 rfl)
 have W8:=ad.aS W5 0;have za3:(aS W5 0).Y=W5.Y+0:=gg _ _;have zas:=ZE.n;have zat:=XX.n;have zau:∀l,LA.c4 W7 (some (ab Yl l 18))=true:=fun l=>LA.hT (A:=W7) (i:=Yl) (by rw[XZ];exact Sv ⟨zas,Z,Z⟩)
 have zav:∀l,LA.c4 W7 (some (ab Yo l 18))=true:=fun l=>LA.hT (A:=W7) (i:=Yo) (by rw[XZ];exact Sv ⟨zat,Z,by omega⟩)
 have zaw:=(ZE.C W8).y dT (by rw[aP];exact b1) (c:=18) (by rw[aP]);have zax:=(XX.C W8).y dT (by rw[aP];exact b1) (c:=18) (by rw[aP]);refine LB.kQ.hx W7 zap 2 0 (by kernel_rfl) (by kernel_rfl) ?_;simp(disch:=omega)only[aI,fi,dy,Sk,Sf,↓Sq,b,q,zaw,zax,zau,zav,tk _ ZF.c,tk _ ZG.c];refine LB.eY b1 ai (g.C W8) (aP _ _) rfl (aP _ _) (e1 _ Yk.c.aN) (fun _=>zaq) ?_;intro L WA u r;have za4:=((XX.C W8).f u r Z).y dT (by rw[aP];exact b1) (c:=18) (by rw[aP])
 try simp(disch:=omega)only[aI,dy,S1,Sk,Sf,↓Sq,b,M]
 refine LB.eY b1 ai ((f.C W8).f u r Z) (aP _ _) rfl (aP _ _) (e1 _ Yn.c.aN) (fun _=>zar) ?_;intro X WB E v;have zay:ae X S (bt (w.take h) Yj):=WA.f E v Z;have zaz:ae X B (bt (w.drop h) Ym):=WB;have zaA:=zay.y dT (by rw[aP];exact b1) (c:=18) (by rw[aP]);have zaB:=zaz.y dT (by rw[aP];exact b1) (c:=18) (by rw[aP]);refine e8 b q M zaA zaB @Sy ?_;have WG:=bj.hN (bj.hN (Yp.hX W8) U u r) W E v;have zaC:cY O X H o p D Xy Wy Wz R:=WX zao Z (fun a d=>by rw[v a Z,r a Z,W8.N a Z]);have ZK:∀(W0:Sh) (X0:Ss Se),ao W5 1 W0 (cR X0 15).length (bf (cR X0 15))->(∀a,ak W0=some a->WH.Y<=a)->ao X 1 W0 (cR X0 15).length (bf (cR X0 15)):=fun W0 X0 WZ q=>
  ((WZ.C W8).f u r (fun e=>ag (q _ e))).f E v (fun e=>ag (q _ e))
 exact⟨Yj,Ym,rfl,zaC,WG,ZK Yj _ ZF (fun a d=>ag (Zt a d)),ZK Ym _ ZG (fun a d=>ag (Zz a d)),fun a d=>ag (Zt a d),fun a d=>ag (Zz a d),Z,Z⟩
end Go.Proofs.YtgpmffbleaphkaaGreat