import Derived.Test.YtgpmffbleaphkaaGreatLzwT
open Nat renaming reduceEqDiff->Se,reduceLT->Sh,lt_of_lt_of_le->SC,le_trans->SO,le_refl->SV,mod_eq_of_lt->S6,pow_le_pow_right->Td,min_eq_left->Tl,pow_succ->Tv
open Go.Proofs.Tryz renaming underlying22->Sf,prog->Si,underlying47->Sr,underlying3->St,underlying5->Su,results124->Sz,results84->SE,results151->SJ,results101->SK,results83->SM,underlying130->SP,underlying161->SQ,results82->S0,underlying189->S1,underlying186->S3,underlying21->S4,results100->S9,results171->Ta,underlying145->Tf,results150->Tk,results121->Tm,results123->Tn,results125->To,results104->Tp,results98->Tq,results99->Tr,results85->Ts,results71->Tu
open _root_ renaming reduceIte->Sg,UInt8->Sk,Int->Sl,if_pos->Sm,if_neg->Sn,eq_true->So,Nat->Sp,List->Sq,eq_false->Ss,absurd->Sx
open List renaming length_append->Sj,replicate->Sv,length_replicate->Sw,getElem?_eq_getElem->Sy,drop_eq_nil_of_le->SA,length_take->SB,length_nil->SI,append_assoc->SL,getD_eq_getElem?_getD->SN,length_singleton->SS,length_cons->SU,replicate_succ'->SZ,length_drop->S5,getElem?_cons_zero->S7,getElem?_cons_succ->S8,getElem?_eq_none->Tb,getElem?_toArray->Tc,mem_singleton->Te,getElem_mem->Th,mem_append->Tj,drop_drop->Tt,getD->Tx
open Int renaming fdiv_eq_ediv_of_nonneg->SD,toNat_natCast->SR
open Go renaming Value->SF
open Go.IntKind renaming i64->SG,u64->SY,i32->Ti,wrap->Tw
open BitVec renaming ofInt->SH,ofInt_natCast->SW,toNat_ofNat->S2
open UInt8 renaming ofNat->SX,toNat_ofNat'->Tg
set_option maxHeartbeats 16000000
set_option linter.unusedSimpArgs false
set_option linter.unusedVariables false
set_option maxRecDepth 100000
namespace Go.Proofs.YtgpmffbleaphkaaGreat
open Go.Cl
def h4 (a:Sp)(s:J)(i:Sp)(l:Sq Sk)(b c:Sl):Prop:=
 ∃B,ae s i [B,I b,I c]/\ao s 1 B l.length (aM l)/\ay a B/\ak B≠some i/\a<=i
theorem rF (i o c:Sp):aY Si 130 (ab i o c) 0=some (ab i (o+0) c):=by
 unfold aY;rw[SP];simp[dI]
theorem xW (i o c:Sp):aY Si 130 (ab i o c) 1=some (ab i (o+1) c):=by
 unfold aY;rw[SP];simp[aQ]
theorem hG (i o c:Sp):aY Si 130 (ab i o c) 2=some (ab i (o+2) c):=by
 unfold aY;rw[SP];simp[aQ]
theorem xX (m:Sl):cP Si 130 [(1,I m)]=some (.agg #[av,I m,I 0]):=by
 unfold cP;rw[SP]
 rw[(show bK Si 130=some (.agg #[av,I 0,I 0]) by kernel_rfl)];simp[dI,aQ,cp,hO,eT,jW,di,Value.cells]
theorem jk (b:Sp)(s:J)(i:Sp)(l:Sq Sk)(c a e:Sl)(g:h4 b s i l c a):
  Runs Si aw 98 [ab i 0 4,I e] s fun v d=>h4 b d i l c (if a=0 then e else a)/\ad b s d:=by
 have⟨B,b,e,f,c,d⟩:=g;refine Runs.cS 13 Tryz.func98 rfl fun j g h l=> ?_
 have j:=b.o aB 2 4;by_cases k:a=0
 ·refine e8 g h l @hG j k ?_;refine db aQ b rfl aA rfl ?_;intro a m a l;refine lo @Tq ?_;exact⟨⟨B,m,e.f a l c,f,c,d⟩,ad.f a l d⟩
 refine e8 g h @hG j k @Tq ?_;exact⟨⟨B,b,e,f,c,d⟩,ad.p _ _⟩
def iM (a:Sp)(s:J)(l:Sq Sk)(c:Sl)(v:SF)(b:J):Prop:=
 ∃B,v= .tuple #[B,I c]/\ao b 1 B l.length (aM l)/\ay a B/\ad a s b
theorem jl (b:Sp)(s:J)(i:Sp)(l:Sq Sk)(c a:Sl)(d:h4 b s i l c a):
  Runs Si aw 99 [ab i 0 4] s (iM b s (if a=0 then l else []) a):=by
 have⟨B,b,f,g,c,e⟩:=d;refine Runs.dZ 17 Tryz.func99 rfl fun d c=> ?_
 have d:=b.o aB 2 4;by_cases e:a=0
 ·refine fS c @hG d @rF (b.o cJ 0 4) e @Tr ?_;exact⟨B,rfl,f,g,ad.p _ _⟩
 refine eo c @hG d e @Tr ?_;exact⟨_,rfl,.al,ay.al _,ad.p _ _⟩
theorem qn (g:Sp)(s:J)(i:Sp)(l:Sq Sk)(b d:Sl)(o:Sk)(G:h4 g s i l b d)(U:l.length<4294967296):
  Runs Si aw 100 [ab i 0 4,.int .u8 o.toNat] s fun W p=>h4 g p i (if d=0/\(l.length:Sl)<b then l++[o] else l) b (if d=0/\b<=l.length then 7 else d)/\ad g s p:=by
 have⟨B,a,h,m,e,f⟩:=G;refine Runs.cS 39 Tryz.func100 rfl fun X c j H=> ?_
 have n:=a.o aB 2 4;have q:=a.o aB 1 4;have r:=a.o cJ 0 4;have k:=h.c;by_cases t:d=0
 ·subst t;by_cases u:b<=l.length
  ·have K:¬(l.length:Sl)<b:=Z;refine wM c j @hG n @xW q @rF r (k.g Sf) k.m u ?_;refine db aQ a rfl aA rfl ?_;intro Wy v w x;refine fS c j @hG (v.o aB 2 4) K @S9 (show¬(7:Sl)=0 by decide) ?_;exact⟨⟨B,v,h.f w x e,m,e,f⟩,ad.f w x f⟩
  have L:(l.length:Sl)<b:=by omega
  simp only[aI,bD,bB,bC,Sh,Se,↓Sg,c,j,H,hG,n,xW,q,rF,r,k.cd Sf,k.m,u,gh Sf bw dN];refine ll Sf bw jg dN rfl h aa ai (by simp only[dG,c];decide) (by simp only[dG,c];decide) (by rfl) ai rfl Z Z (g:=g) m (ag a.n) ?_;intro Wz y WA z M O P Q;refine bO c @rF ?_;have A:ak y≠some i:=by
   rcases Q with R|⟨WB,S,WC⟩
   ·rw[R];exact e
   rw[S];intro D;injection D with D;have:=a.n;omega
  refine db dI (a.j P e) rfl aA z.c.aN ?_;intro WD T E F;refine bO L @S9 ?_;refine⟨⟨y,T,?_,M,A,f⟩,O.a (ad.f E F f)⟩;rw[km,Sj];exact z.f E F A
 refine e8 c j @hG n t @S9 ?_;exact⟨⟨B,a,h,m,e,f⟩,ad.p _ _⟩
end Go.Proofs.YtgpmffbleaphkaaGreat
namespace Go.Cl.Lz
structure s8 (m:Sp) (T:Sq (Sq Sk)) (L out:Sq Sk):Prop where
 dz:∀r∈T,r.length<=m
 h9:L.length<=m
 gJ:out.length<=m*m
theorem s8.H {m:Sp}{T:Sq (Sq Sk)}{L b:Sq Sk}(h:s8 m T L b){c:Sp}{x:Sq Sk}(a:ev T L c=some x):s8 (m+1) (dO T L x) x (b++x)/\x≠[]\/x=[]:=by
 by_cases b:x=[]
 ·exact .inr b
 refine .inl ⟨?_,b⟩;have b:x.length<=m+1:=by
  unfold ev at a;split at a
  ·injection a with a;subst a;simp
  split at a
  ·cases a
  split at a
  ·injection a with a;subst a
   have:=h.h9;rw[Sj,SB];omega
  have:=h.dz x (List.mem_of_getElem? a);omega
 refine⟨fun r a=> ?_,b,by have:=h.gJ;rw[Sj,(show(m+1)*(m+1)=m*m+m+m+1 by rw[Nat.add_mul,Nat.mul_add];omega)];omega⟩;unfold dO at a;split at a
 ·rcases Tj.mp a with a|a
  ·have:=h.dz r a;omega
  rw[Te] at a;subst a
  have:=h.h9;rw[Sj,SB];omega
 have:=h.dz r a;omega
theorem Iv {T:Sq (Sq Sk)}(h:T.length<=3838)(L x:Sq Sk):(dO T L x).length<=3838:=by
 unfold dO;split
 ·rename_i q;rw[Sj,SS];omega
 exact h
theorem Ra {f:Sq Sk}{b:Sq (Sp×Sp)}{T:Sq (Sq Sk)}{L x:Sq Sk}{c:Sp}(h:qm f b T)(a:ev T L c=some x):x≠[]:=by
 unfold ev at a;split at a
 ·injection a with a;subst a;simp
 split at a
 ·cases a
 rename_i g;split at a
 ·injection a with a;subst a
  intro e;exact g (List.append_eq_nil_iff.mp e).1
 have i:c-258<T.length:=(List.getElem?_eq_some_iff.mp a).1;have⟨j,k,d⟩:=h.2 _ _ (Sy (show c-258<b.length by rw[h.1];exact i));rw[a] at d;injection d with d;intro e;have:=congrArg List.length d;rw[e,SB,S5,SI] at this;omega
end Go.Cl.Lz
namespace Go.Proofs.YtgpmffbleaphkaaGreat
open Go.Cl Go.Cl.Lz Go.Cl.Rw
theorem Rb {x:SF}(a:aN x=true)(m:Sl):cP Si 154 [(0,x),(2,I m)]=some (.agg #[x,I 0,I m,av,I 0,I 0,av]):=by
 unfold cP;rw[Tryz.underlying154]
 rw[(show bK Si 154=some (.agg #[av,I 0,I 0,av,I 0,I 0,av]) by kernel_rfl)];have b:x.cells= #[x]:=by rw[<-Array.toList_inj,(QR a)]
 have a:∀k n,(Value.int k n).cells= #[.int k n]:=fun _ _=>rfl
 simp[dI,aQ,xQ,oe,cp,hO,eT,jW,eP,di,b,a]
theorem xY (a b:SF):bm (.tuple #[a,b]) 0=some a:=rfl
theorem xZ (a b:SF):bm (.tuple #[a,b]) 1=some b:=rfl
theorem Rc:cP Si 152 []=some (.agg #[I 0,I 0]):=by kernel_rfl
theorem Rd
  (s:J) (x:SF) (b:Sq Sk) (c:Sl) (WG:az s 1 x b.length (aM b)) (Xl:b.length<=4000000) (WX:c<=20000000\/b.length<=5000):
  Runs Si aw 82 [x,I c] s (iM s.Y s (o6 b c.toNat).2 (o6 b c.toNat).1):=by
 obtain⟨h,M⟩:∃h,h=s.Y:=⟨_,rfl⟩
 obtain⟨R,WH⟩:∃R,R=o6 b c.toNat:=⟨_,rfl⟩
 rw[<-WH];refine Runs.dY 46 Tryz.func82 rfl rfl rfl rfl ?_;intro l d WI;have WY:l.N 0=x:=WI 0;have O:l.N 1=I c:=WI 1;simp(disch:=omega)only[aI,bC,Sh,Se,↓Sg,d,WY,O,Rb WG.aN];refine aK ?_;intro WJ WK WL Xm;obtain⟨j,WM⟩:∃j,j=s.Y:=⟨_,rfl⟩
 rw[<-WM] at WK;have Xn:h<=WJ.Y:=by omega
 have WZ:fJ h WJ j x (av) (av) b 0 c [] (0,0) []:=⟨WK,(show kL h s 1 x b.length (aM b) by rw[M];exact WG.bT).A (by rw[M];exact WL),.al,ay.al _,(fun f=>by cases f),.al,ay.al _,(fun f=>by cases f),(fun W0 f=>by cases f),by omega⟩;simp(disch:=omega)only[aI,Sh,Nat.reduceAdd,↓Sg,d,SU,SI];rw[<-WM];refine aZ.eO (fun z l WN=>∃(p o:Sp) (T:Sq (Sq Sk)) (L a:Sq Sk) (v:Sq (Sp×Sp)) (y:Sp×Sp) (F u:SF),fJ h WN j x F u b p c v y a/\qm a v T/\pa a y L/\T.length<=3838/\s8 o T L a/\9*o<=p/\(a=[]\/(a.length:Sl)<=c)/\p<=8*b.length/\8*b.length<p+z/\cb b c.toNat z p T L a=R/\ad h s WN/\l.e=46/\l.N 6=o9 j)
  ⟨0,0,[],[],[],[],(0,0),_,_,WZ,⟨rfl,fun W1 W2 m=>by simp at m⟩,.inl ⟨rfl,rfl⟩,aA,⟨fun r m=>by simp at m,aA,aA⟩,Z,.inl rfl,Z,(show 8*b.length<0+(8*b.length+1) from Z),WH.symm,by rw[M];exact WL,V d,aa⟩ ?_
 have A:j=h:=Z;rintro z l WO ⟨p,o,T,L,a,v,y,F,u,W3,P,W4,W5,Q,Xo,WQ,W6,Xp,e,S,d,q⟩;obtain⟨z,rfl⟩:∃W7,z=W7+1:=⟨z-1,Z⟩
 have W8:v.length=T.length:=P.1;have W9:a.length<=20000000:=by
  rcases WX with m|m
  ·rcases WQ with f|f
   ·rw[f];simp
   omega
  have O:=Q.gJ;have U:o<=4444:=Z;have Xq:o*o<=4444*4444:=Nat.mul_le_mul U U;omega
 have⟨w,i⟩:=aO (dg (258+T.length));have WR:=AD (258+T.length);rw[<-i] at WR;refine aq d q ((QY h WO j x F u b p c v y a W3 Z W6 Z).b ?_);rw[W8,<-i];rintro Xa Xb (⟨B,rfl,rfl⟩|⟨B,rfl,g,WS⟩)
 ·have W:=H9 (a:=c.toNat) (k:=z) (b:=L) (c:=a) (by rw[<-i];exact B);rw[W] at e;refine eo d @xY @xZ (show¬(2:Sl)=0 by decide) @S0 ?_;rw[<-e];exact⟨_,rfl,.al,ay.al _,by rw[A];exact S⟩
 have⟨n,D⟩:=aO (hf b p w);have Xc:n<4096:=by
  rw[D];have O:=uZ b p w;have U:2^w<=2^12:=Td Z WR.2;omega
 rw[<-D];have E:=S.a WS;have Xd:=SO (SO Z S.Y:h<=WO.Y) WS.Y;refine MW (fun l=>l.e=46/\l.N 6=o9 j) ⟨V d,by first|simp only[cx,↓Sg,Se,q]|simp only[cx,dG,↓Sg,Se]⟩ ?_;rintro l ⟨d,q⟩;by_cases X:n=257
 ·have G:(n:Sl)=257:=Z;rw[(uX (c:=c.toNat) (k:=z) (d:=L) (a:=a) (by rw[<-i];exact B) (by rw[<-i,<-D];exact X))] at e;refine pR d q @xY @xZ (So G) @og (g.cG.o cJ 6 8) @S0 ?_;rw[<-e];exact⟨u,rfl,g.gJ,by rw[A];exact g.bu,by rw[A];exact E⟩
 have G:¬(n:Sl)=257:=Z;by_cases Wy:n=256
 ·have Wz:(n:Sl)=256:=Z;rw[(Ia (a:=c.toNat) (k:=z) (d:=L) (c:=a) (by rw[<-i];exact B) (by rw[<-i,<-D];exact Wy)),<-i] at e;refine c1 d q @xY @xZ G (So Wz) @Rc @s4 ?_;refine db xQ g.cG rfl aA rfl ?_;intro WT Xe WA WB;have H:fJ h WT j x (av) u b (p+w) c [] y a:=⟨Xe,g.E.A (ad.f WA WB g.eX),.al,ay.al _,(fun f=>by cases f),g.gJ.f WA WB g.oh,g.bu,g.oh,(fun W0 Xr f=>by cases f),g.eX⟩;refine aq d @xT ?_;refine xO oe H.cG rfl rfl rfl rfl aA ?_;intro Xf Xg WU WV;refine ax d ?_;refine aH z Z ⟨p+w,o,[],[],a,[],(0,0),_,_,(H.u Xg WU WV:fJ h Xf j x (av) u b (p+w) c [] (0,0) a),⟨rfl,fun W1 W2 m=>by simp at m⟩,.inl ⟨rfl,rfl⟩,aA,⟨fun r m=>by simp at m,aA,Q.gJ⟩,Z,WQ,Z,Z,e,(E.a (ad.f WA WB g.eX)).a (ad.f WU WV g.eX),V d,V q⟩
 have Wz:¬(n:Sl)=256:=Z;have W:=sQ (a:=c.toNat) (k:=z) (b:=L) (c:=a) (by rw[<-i];exact B) (by rw[<-i,<-D]) X Wy;rw[W] at e;refine cl d q @xY @xZ G Wz ?_;refine(Q9 h Xb j x F u b (p+w) c v y a T L n g Xd P W4 Xc Wy X Z W9).b ?_;intro Xa WT t;have⟨WC,t⟩:=t;cases K:ev T L n with
 |none=>
  rw[K] at t e;simp only at t e;subst t;refine bS d (show¬(4:Sl)=0 by decide) @S0 ?_;rw[<-e];exact⟨_,rfl,.al,ay.al _,by rw[A];exact E.a WC⟩
 |some r=>
  rw[K] at t e;simp only at t e;have WD:=Ra P K;have Xs:=List.length_pos_iff.mpr WD;rcases t with ⟨WW,rfl⟩|⟨WW,rfl,Xh,Xi,Xj,H,Xk⟩
  ·rw[Sm Z] at e;refine bS d (show¬(7:Sl)=0 by decide) @S0 ?_;rw[<-e];exact⟨_,rfl,.al,ay.al _,by rw[A];exact E.a WC⟩
  rw[Sn Z,<-i] at e;simp(disch:=omega)only[aI,bD,Sh,↓Sg,d];have WE:=Q.H K;rcases WE with ⟨WE,_⟩|f
  ·refine aH z Z ⟨p+w,o+1,dO T L r,r,a++r,Xj,(a.length,r.length),Xh,Xi,H,Xk,pa.Y a r WD,Iv W5 L r,WE,Z,.inr (by rw[Sj];exact WW),Z,Z,e,E.a WC,V d,V q⟩
  exact Sx f WD
end Go.Proofs.YtgpmffbleaphkaaGreat
namespace Go.Proofs.YtgpmffbleaphkaaGreat
open Go.Cl
def im (a:Sp)(s:J)(i:Sp)(l:Sq Sk)(p:Sp):Prop:=
 ∃b,ae s i [b,I p]/\kL a s 1 b l.length (aM l)/\a<=i/\p<=l.length
def qo (a:Sp)(s:J)(i:Sp)(b:SF)(l:Sq Sk)(p:Sp):Prop:=
 ae s i [b,I p]/\kL a s 1 b l.length (aM l)/\a<=i/\p<=l.length
theorem im.C {a:Sp}{s b:J}{i:Sp}{l:Sq Sk}{p:Sp}(h:im a s i l p)(c:a<=s.Y)(k:ad s.Y s b):im a b i l p:=by
 have⟨d,e,f,g,j⟩:=h;exact⟨d,e.C k,f.A (k.q c),g,j⟩
theorem im.j {a:Sp}{s b:J}{i:Sp}{l:Sq Sk}{p:Sp}(h:im a s i l p){v:SF}(c:a<=s.Y)(d:ay a v)(k:aF v s b)(e:ak v≠some i):im a b i l p:=by
 have⟨f,g,j,m,n⟩:=h;exact⟨f,g.j k e,j.A (k.C d c),m,n⟩
abbrev eS (i:Sp):SF:=ab i 0 3
theorem kd {a i:Sp}(h:a<=i):ay a (eS i):=fun j a=>by
 have:some i=some j:=a;injection this with this;omega
theorem iq {i j:Sp}(h:i≠j):ak (eS i)≠some j:=fun e=>by
 have:some i=some j:=e;injection this with this;exact h this
theorem u2 (i o c:Sp):aY Si 189 (ab i o c) 0=some (ab i (o+0) c):=by
 unfold aY;rw[S1];simp[dI]
theorem s9 (i o c:Sp):aY Si 189 (ab i o c) 1=some (ab i (o+1) c):=by
 unfold aY;rw[S1];simp[aQ]
theorem Re {v:SF}(a:v.cells.toList=[v]):cP Si 189 [(0,v)]=some (.agg #[v,I 0]):=by
 unfold cP;rw[S1]
 rw[(show bK Si 189=some (.agg #[av,I 0]) by kernel_rfl)];simp only[eT,jW,a];simp[dI,aQ,cp,hO,eP,di]
theorem AU (c:Sp)(s:J)(x:SF)(l:Sq Sk)(b:kL c s 1 x l.length (aM l))(d:c<=s.Y):
  Runs Si aw 112 [x] s fun v a=>v=eS s.Y/\im c a s.Y l 0/\ad s.Y s a/\a.Y=s.Y+1:=by
 refine Runs.ey 11 Tryz.func112 rfl fun o e h=> ?_
 have⟨i,j,f⟩:=b.c.M9 Sf bw .i64 .i64;refine bp e h (b.c.g Sf) j (Re (f _ b.c).gA) (aK fun p k g m=> ?_);refine b0 e @Tryz.results112 @SU.{0} @SI.{0} ?_;exact⟨⟨i,k,fun a n=>f a (b a ((g.q d).a n)),d,Z⟩,g,m⟩
theorem x0 (a:Sp)(s:J)(i:Sp)(l:Sq Sk)(p:Sp)(b:im a s i l p):
  Runs Si aw 117 [eS i] s fun v c=>v=I p/\c=s:=by
 have⟨c,a,d,e,f⟩:=b;refine Runs.dZ 9 Tryz.func117 rfl fun f b=> ?_
 exact uk b (kK Tf) @s9 ((a.o aB 1 3)) @Tryz.results117
theorem Rf (a:Sp)(s:J)(i:Sp)(l:Sq Sk)(p:Sp)(b:im a s i l p):
  Runs Si aw 174 [eS i] s fun v c=>v=I l.length/\c=s:=by
 have⟨d,a,c,e,f⟩:=b;refine Runs.dZ 10 Tryz.func174 rfl fun f b=> ?_
 exact wJ b (kK Tf) @u2 ((a.o cJ 0 3)) (c.c.g Sf) @Tryz.results174
theorem AV (a:Sp)(s:J)(i:Sp)(l:Sq Sk)(p:Sp)(b:im a s i l p)(d:l.length<=4294967296):
  Runs Si aw 165 [eS i] s fun v c=>v=I (l.length-p:Sp)/\c=s:=by
 refine Runs.dZ 8 Tryz.func165 rfl fun f c=> ?_
 have d:p<=l.length:=b.choose_spec.2.2.2;refine ax c ((Rf a s i l p b).b ?_);rintro _ s ⟨rfl,rfl⟩;refine ax c ((x0 a s i l p b).b ?_);rintro _ s ⟨rfl,rfl⟩;exact wI c ((Z:(l.length:Sl)-p=((l.length-p:Sp):Sl))) @Tryz.results165
def gK (l:Sq Sk)(k:Sl):Sl:=if 0<=k/\k<l.length then((l.getD k.toNat 0).toNat:Sl) else-1
theorem Rg (c:Sp)(s:J)(i:Sp)(l:Sq Sk)(p:Sp)(k:Sl)(b:im c s i l p)(d:l.length<=4294967296):
  Runs Si aw 171 [eS i,I k] s fun v a=>v=I (gK l (p+k))/\a=s:=by
 refine Runs.ef 29 Tryz.func171 rfl fun f a=> ?_
 have e:p<=l.length:=b.choose_spec.2.2.2;refine ax a ((AV c s i l p b d).b ?_);rintro _ s ⟨rfl,rfl⟩;by_cases d:((l.length-p:Sp):Sl)<=k
 ·have e:gK l (p+k)= -1:=by unfold gK;rw[Sn Z]
  exact sw a d e @Ta
 refine aq a d ((x0 c s i l p b).b ?_);rintro _ s ⟨rfl,rfl⟩;by_cases d:k<0-(p:Sl)
 ·have c:gK l (p+k)= -1:=by unfold gK;rw[Sn Z]
  exact sw a d c @Ta
 have f:gK l (p+k)=((l.getD ((p:Sl)+k).toNat 0).toNat:Sl):=by unfold gK;rw[Sm Z]
 have⟨g,e,c,h,_⟩:=b;have b:=(l.getD ((p:Sl)+k).toNat 0).toNat_lt;simp(disch:=omega)only[a,aI,bD,cO,b6,Sh,Se,↓Sg,cg,d,f,u2,s9,(e.o cJ 0 3),(e.o aB 1 3),c.c.r Sf bw,c.c.P de,dn,c.c.m,gU Su St,St,Ta]
theorem Rh (a:Sp)(s:J)(i:Sp)(d:SF)(l:Sq Sk)(p:Sp)(b:qo a s i d l p)(r:a<=s.Y)(n:l.length<=4294967296):
  Runs Si aw 150 [eS i] s fun v f=>v=I (gK l p)/\qo a f i d l (min (p+1) l.length)/\aF (eS i) s f:=by
 refine Runs.ey 16 Tryz.func150 rfl fun t c g=> ?_
 have u:p<=l.length:=b.2.2.2;refine aq c g ((Rg a s i l p 0 ⟨d,b⟩ n).b ?_);rintro _ s ⟨rfl,rfl⟩;rw[Int.add_zero];by_cases w:p<l.length
 ·have e:0<=gK l p:=by unfold gK;rw[Sm Z];omega
  have⟨h,o,j,_⟩:=b;refine bp c g e @s9 (h.o aB 1 3) ?_;refine db aQ h rfl aA rfl ?_;intro x q k m;refine bO c @Tk ?_;refine⟨⟨?_,o.A (ad.f k m j),j,Z⟩,aF.f k m⟩;rw[Tl Z];exact q
 have e:¬0<=gK l p:=by unfold gK;rw[Sn Z];omega
 obtain rfl:p=l.length:=Z;refine bS c e @Tk ?_;rw[Nat.min_eq_right Z];exact⟨b,SV _,fun _ _ _=>rfl⟩
theorem x1 (a:Sp)(s:J)(i:Sp)(l:Sq Sk)(p:Sp)(b:im a s i l p)(e:a<=s.Y)(f:l.length<=4294967296):
  Runs Si aw 150 [eS i] s fun v c=>v=I (gK l p)/\im a c i l (min (p+1) l.length)/\aF (eS i) s c:=by
 have⟨d,b⟩:=b;refine(Rh a s i d l p b e f).b ?_;rintro v c ⟨g,h,j⟩;exact⟨g,⟨d,h⟩,j⟩
end Go.Proofs.YtgpmffbleaphkaaGreat
namespace Go.Proofs.YtgpmffbleaphkaaGreat
open Go.Cl Go.Cl.Hx
def dr (c:Sl):Bool:=decide (c=0\/c=9\/c=10\/c=12\/c=13\/c=32)
def kZ (c:Sl):Sl:=if 48<=c/\c<=57 then c-48 else if 97<=c/\c<=102 then c-97+10 else if 65<=c/\c<=70 then c-65+10 else-1
theorem Ri (s:J)(c:Sl):
  Runs Si aw 151 [I c] s fun v a=>v= .bool (dr c)/\a=s:=by
 refine Runs.dZ 25 Tryz.func151 rfl fun f d=> ?_
 by_cases a:c=0
 ·have b:dr c=true:=by unfold dr;simp[a]
  exact sw d (So a) b @SJ
 by_cases b:c=9
 ·have e:dr c=true:=by unfold dr;simp[b]
  exact uk d a (So b) e @SJ
 by_cases e:c=10
 ·have f:dr c=true:=by unfold dr;simp[e]
  exact wJ d a b (So e) f @SJ
 by_cases f:c=12
 ·have g:dr c=true:=by unfold dr;simp[f]
  exact zH d a b e (So f) g @SJ
 by_cases g:c=13
 ·have h:dr c=true:=by unfold dr;simp[g]
  exact wK d a b e f (So g) h @SJ
 have h:dr c=decide (c=32):=by unfold dr;simp[a,b,e,f,g]
 exact wK d a b e f g h @SJ
theorem u3 (s:J)(c:Sl):
  Runs Si aw 101 [I c] s fun v a=>v= .bool (dr c)/\a=s:=by
 refine Runs.dZ 25 Tryz.func101 rfl fun f d=> ?_
 by_cases a:c=0
 ·have b:dr c=true:=by unfold dr;simp[a]
  exact sw d (So a) b @SK
 by_cases b:c=9
 ·have e:dr c=true:=by unfold dr;simp[b]
  exact uk d a (So b) e @SK
 by_cases e:c=10
 ·have f:dr c=true:=by unfold dr;simp[e]
  exact wJ d a b (So e) f @SK
 by_cases f:c=12
 ·have g:dr c=true:=by unfold dr;simp[f]
  exact zH d a b e (So f) g @SK
 by_cases g:c=13
 ·have h:dr c=true:=by unfold dr;simp[g]
  exact wK d a b e f (So g) h @SK
 have h:dr c=decide (c=32):=by unfold dr;simp[a,b,e,f,g]
 exact wK d a b e f g h @SK
theorem Rj (s:J)(c:Sl):
  Runs Si aw 122 [I c] s fun v a=>v=I (kZ c)/\a=s:=by
 refine Runs.dZ 32 Tryz.func122 rfl fun f a=> ?_
 unfold kZ;by_cases b:48<=c<;>by_cases d:c<=57<;>by_cases e:97<=c<;>by_cases f:c<=102<;>by_cases g:65<=c<;>by_cases h:c<=70<;>first|(exfalso;omega)|(simp(disch:=omega)only[a,aI,bD,cO,b6,Sh,Se,↓Sg,b,d,e,f,g,h,cg,Tryz.results122])
theorem AW (s:J)(c:Sl):
  Runs Si aw 102 [I c] s fun v a=>v=I (kZ c)/\a=s:=by
 refine Runs.dZ 32 Tryz.func102 rfl fun f a=> ?_
 unfold kZ;by_cases b:48<=c<;>by_cases d:c<=57<;>by_cases e:97<=c<;>by_cases f:c<=102<;>by_cases g:65<=c<;>by_cases h:c<=70<;>first|(exfalso;omega)|(simp(disch:=omega)only[a,aI,bD,cO,b6,Sh,Se,↓Sg,b,d,e,f,g,h,cg,Tryz.results102])
end Go.Proofs.YtgpmffbleaphkaaGreat
namespace Go.Proofs.YtgpmffbleaphkaaGreat
open Go.Cl
def jm (A:Sp->Prop)(s a:J):Prop:=∀k,A k->a.i.N k=s.i.N k
theorem jm.p (A:Sp->Prop)(s:J):jm A s s:=fun _ _=>rfl
theorem jm.a {A:Sp->Prop}{s a b:J}(h:jm A s a)(k:jm A a b):jm A s b:=fun i a=>(k i a).trans (h i a)
def gM (A:Sp->Prop)(a:Sp)(s:J)(j:Sp)(r P:Sq Sk)(M:Sl):Prop:=
 ∃i o l p,r=l.drop p/\l.length<=4294967296/\ae s j [eS i,I M,o]/\im a s i l p/\ao s 1 o P.length (aM P)/\ay a o/\a<=j/\ak o≠some i/\ak o≠some j/\i≠j/\i<s.Y/\∀k,A k->k<s.Y/\k≠i/\k≠j/\ak o≠some k
theorem gM.Rk {A:Sp->Prop}{b:Sp}{s a:J}{j:Sp}{r P:Sq Sk}{M:Sl}(h:gM A b s j r P M)(k:ad s.Y s a):jm A s a:=by
 have⟨i,o,l,p,e,f,g,m,n,t,u,v,w,x,y,c⟩:=h;exact fun q d=>k.N q (c q d).1
theorem gM.C {A:Sp->Prop}{a:Sp}{s b:J}{j:Sp}{r P:Sq Sk}{M:Sl}(h:gM A a s j r P M)(e:a<=s.Y)(k:ad s.Y s b):gM A a b j r P M:=by
 have⟨i,o,l,p,f,g,m,n,t,u,v,w,x,y,z,c⟩:=h;exact⟨i,o,l,p,f,g,m.C k,n.C e k,t.C k,u,v,w,x,y,SC z k.Y,fun q d=>⟨SC (c q d).1 k.Y,(c q d).2⟩⟩
theorem gM.j {A h:Sp->Prop}{a:Sp}{s d:J}{j:Sp}{r P:Sq Sk}{M:Sl}(o:gM A a s j r P M)(p:a<=s.Y){v:SF}(f:∀k,ak v=some k->A k)(t:ay a v)(k:aF v s d)(u:∀q,h q->q<d.Y/\(A q\/s.Y<=q)):gM h a d j r P M:=by
 have⟨i,w,x,y,z,B,l,D,m,E,F,G,H,K,L,b⟩:=o;refine⟨i,w,x,y,z,B,l.j k (fun e=>(b j (f j e)).2.2.1 rfl),D.j p t k (fun e=>(b i (f i e)).2.1 rfl),m.j k (fun q g e=>(b q (f q e)).2.2.2 g),E,F,G,H,K,SC L k.Y,fun q g=> ?_⟩;have⟨n,c⟩:=u q g;rcases c with c|c
 ·exact⟨n,(b q c).2⟩
 refine⟨n,Z,ag l.n,fun e=>ag (m.z q e)⟩
abbrev mM (j:Sp):SF:=ab j 0 4
theorem Rl:c3 Si 145=some false:=by kernel_rfl
theorem Iw:bc Si 145=some 1:=by kernel_rfl
theorem Rm (i o c:Sp):aY Si 161 (ab i o c) 0=some (ab i (o+0) c):=by
 unfold aY;rw[SQ];simp[Iw]
theorem Ix (i o c:Sp):aY Si 161 (ab i o c) 1=some (ab i (o+1) c):=by
 unfold aY;rw[SQ];simp[aQ]
theorem ta (i o c:Sp):aY Si 161 (ab i o c) 2=some (ab i (o+2) c):=by
 unfold aY;rw[SQ];simp[dI]
theorem Rn (i:Sp)(m:Sl):cP Si 161 [(0,eS i),(1,I m)]=some (.agg #[eS i,I m,av]):=by
 unfold cP;rw[SQ]
 rw[(show bK Si 161=some (.agg #[.pointer none,I 0,av]) by kernel_rfl)];have a:(eS i).cells.toList=[eS i]:=rfl;have b:(Value.int .i64 m).cells.toList=[I m]:=rfl;simp only[eT,jW,a,b];simp[Iw,aQ,dI,cp,hO,eP,di]
theorem Iy (A:Sp->Prop)(b:Sp)(s:J)(x:SF)(l:Sq Sk)(a:Sl)(g:kL b s 1 x l.length (aM l))(h:b<=s.Y)(i:l.length<=4294967296)(m:∀k,A k->k<s.Y):
  Runs Si aw 120 [x,I a] s fun v d=>∃j,v=mM j/\gM A b d j l [] (if a<0 then 0 else a)/\ad s.Y s d:=by
 refine Runs.cS 11 Tryz.func120 rfl fun w c n o=> ?_
 refine aq c n ((AU b s x l g h).b ?_);rintro _ p ⟨rfl,q,r,y⟩;have z:(if a<0 then(0:Sl) else a)=(if a<0 then 0 else a):=rfl;refine aR c o @Rn (aK fun B t f D=> ?_);refine b0 c @Tryz.results120 @SU.{0} @SI.{0} ?_;refine⟨p.Y,rfl,⟨s.Y,_,l,0,rfl,i,t,q.C Z f,.al,ay.al _,Z,(by intro e;cases e),(by intro e;cases e),Z,Z,fun k u=>by have:=m k u;exact⟨Z,Z,Z,by intro e;cases e⟩⟩,r.d f⟩
def cA:Sq Sk->Sl×Sq Sk
 |[]=>(-1,[])
 |c::l=>if dr c.toNat then cA l else(c.toNat,l)
theorem x2
  (A:Sp->Prop) (a:Sp) (s:J) (j:Sp) (r P:Sq Sk) (M:Sl) (q:gM A a s j r P M) (S:a<=s.Y):
  Runs Si aw 121 [mM j] s fun T c=>T=I (cA r).1/\gM A a c j (cA r).2 P M/\ad a s c/\jm A s c:=by
 refine Runs.dZ 13 Tryz.func121 rfl fun i b=> ?_
 refine ax b ?_;refine aZ.eO (fun t i c=>∃d,t=d.length/\cA d=cA r/\gM A a c j d P M/\ad a s c/\jm A s c/\i.e=13/\i.N 0=mM j) ⟨r,rfl,rfl,q,ad.p _ _,jm.p _ _,V b⟩ ?_;rintro t i D ⟨d,rfl,u,q,E,U,b⟩;have⟨v,W,l,p,F,G,H,K,X,Wy,Wz,L,WA,O,WB,m⟩:=q;have Q:a<=D.Y:=SO S E.Y;refine aR b @Rm (H.o Rl 0 4) ((x1 a D v l p K Q G).b ?_);rintro _ n ⟨rfl,WC,e⟩;have WD:=e.C (kd (K.choose_spec.2.2.1:a<=v)) Q;have w:=E.a WD;have x:jm A s n:=U.a (fun k f=>e.N k (m k f).1 (iq (fun y=>(m k f).2.1 y.symm)));have g:gM A a n j (l.drop (min (p+1) l.length)) P M:=⟨v,W,l,_,rfl,G,H.j e (iq O),WC,X.j e (fun t WE=>iq (fun y=>L (by rw[y];exact WE))),Wy,Wz,L,WA,O,SC WB e.Y,fun k f=>⟨SC (m k f).1 e.Y,(m k f).2⟩⟩;refine ax b ((Ri n _).b ?_);rintro _ n ⟨rfl,rfl⟩;by_cases R:p<l.length
 ·have o:gK l p=((l.getD p 0).toNat:Sl):=by unfold gK;rw[Sm Z,SR]
  have z:d=l.getD p 0::l.drop (p+1):=by
   rw[F,List.drop_eq_getElem_cons R];simp[Tx,Sy R]
  rw[Tl Z] at g;by_cases h:dr ((l.getD p 0).toNat:Sl)=true
  ·refine aR b o h ?_;refine aH (l.drop (p+1)).length (by rw[z];simp) ⟨_,rfl,?_,g,w,x,V b⟩;rw[<-u,z];simp only[cA];rw[Sm h]
  have B:cA r=(((l.getD p 0).toNat:Sl),l.drop (p+1)):=by rw[<-u,z];simp only[cA];rw[Sn h]
  simp only[Bool.not_eq_true] at h;refine eo b o h B @Tm ?_;exact⟨g,w,x⟩
 have o:gK l p= -1:=by unfold gK;rw[Sn Z]
 have B:cA r=(-1,[]):=by rw[<-u,(show d=[] by rw[F];exact SA Z)];rfl
 rw[SA Z] at g;refine eo b o (show dr (-1)=false by decide) B @Tm ?_;exact⟨g,w,x⟩
theorem AX (A:Sp->Prop)(g:Sp)(s:J)(j:Sp)(E P D:Sq Sk)(M:Sl)(F:SF)(WA:gM A g s j E P M)(n:g<=s.Y)(c:az s 1 F D.length (aM D))(WI:D.length<=1000)(WJ:P.length<=2147483648)(WK:0<=M)(WL:M<9223372036854775808):
  Runs Si aw 123 [mM j,F] s fun WB o=>WB=I (if M-P.length<D.length then 7 else 0)/\gM A g o j E (if M-P.length<D.length then P else P++D) M/\ad g s o/\jm A s o:=by
 have⟨p,WC,G,H,K,L,d,O,r,t,h,u,v,w,WD,a⟩:=WA;refine Runs.cS 27 Tryz.func123 rfl fun WM i Q R=> ?_
 have S:=d.o aB 1 4;have T:=d.o cJ 2 4;have l:=r.c;by_cases U:M-(P.length:Sl)<D.length
 ·refine wN i Q R c.m l.m (c.g Sf) (l.g Sf) @Ix @ta S T (So U) @Tn ?_;exact⟨⟨p,WC,G,H,K,L,d,O,r,t,h,u,v,w,WD,a⟩,ad.p _ _,jm.p _ _⟩
 refine hy i Q R c.m l.m (c.g Sf) (l.g Sf) @Ix @ta S T U (hv Sf Sf (.inl ⟨_,rfl⟩) bw jg dN rfl r c.X (by simp[pO]) ai (ug _) Z Z t n fun x WN W WE X f y=> ?_);have Wy:ak x≠some j:=by
  rcases y with e|⟨q,e,Wz⟩
  ·rw[e];exact v
  rw[e];intro q;injection q with q;have:=d.n;omega
 have WG:ak x≠some p:=by
  rcases y with e|⟨q,e,Wz⟩
  ·rw[e];exact u
  rw[e];intro q;injection q with q;omega
 refine aq i @ta ?_;refine db dI (d.j f v) rfl aA W.c.aN ?_;intro WO WH z m;refine bO i @Tn ?_;refine⟨⟨p,x,G,H,K,L,WH,(O.j n t f u).j (SO n X.Y) (kd h) (aF.f z m) (iq (fun e=>w e.symm)),?_,WE,h,WG,Wy,w,ag f.Y,fun k b=>⟨bq ((a k b).1) f.Y,(a k b).2.1,(a k b).2.2.1,fun e=> ?_⟩⟩,X.a (ad.f z m h),fun k b=>(m k (a k b).2.2.1).trans (f.N k (a k b).1 (a k b).2.2.2)⟩;rotate_left
 ·rcases y with B|⟨q,B,Wz⟩
  ·rw[B] at e;exact(a k b).2.2.2 e
  rw[B] at e;injection e with e;have:=(a k b).1;omega
 rw[km,Sj];exact W.f z m Wy
end Go.Proofs.YtgpmffbleaphkaaGreat
namespace Go.Cl.Uh
theorem Iz (P:Program)(t:TypeId)(b:IntKind)(a:Sl):bN P .shl t (I a) (.int b 4)=some (I (SG.wrap (a*16))):=by
 rw[pN P t .i64 a 4 b ai];rfl
theorem Ro {n d:Sp}(c:n<16)(a:d<16):SG.wrap (((SH SG.bits ((n:Sl)*16)|||SH SG.bits (d:Sl)).toNat:Sp):Sl)=((n*16+d:Sp):Sl):=by
 have c:SG.bits=64:=rfl;rw[c];have:(SH 64 ((n:Sl)*16)|||SH 64 (d:Sl)).toNat=n*16+d:=by
  have c:((n:Sl)*16)=((n*16:Sp):Sl):=Z;rw[c,BitVec.toNat_or,SW,SW,S2,S2,S6 Z,S6 Z];have:=Nat.shiftLeft_add_eq_or_of_lt (i:=4) (b:=d) a n;rw[Nat.shiftLeft_eq] at this;exact this.symm
 rw[this,cg Z]
def qp (n:Sp):Sk:=SX n
theorem x3 {n:Sp}(h:n<256):((qp n).toNat:Sl)=n:=by
 unfold qp;rw[Tg];omega
end Go.Cl.Uh
namespace Go.Proofs.YtgpmffbleaphkaaGreat
open Go.Cl Go.Cl.Uh
def gm (M:Sl):Sq Sk->Sl->Sq Sk->Sq Sk×Sl
 |[],_,_=>([],2)
 |c::r,h,P=>
  if dr c.toNat then gm M r h P
  else if(c.toNat:Sl)=62 then(if h<0 then(P,0) else if M-P.length<1 then([],7) else(P++[qp (h.toNat*16)],0))
  else if kZ c.toNat<0 then([],4)
  else if h<0 then gm M r (kZ c.toNat) P
  else if M-P.length<1 then([],7) else gm M r (-1) (P++[qp (h.toNat*16+(kZ c.toNat).toNat)])
theorem IA (c:Sl):kZ c<16:=by unfold kZ;repeat (first|(split;all_goals try omega)|omega)
theorem IB:∀r:Sq Sk,(cA r=(-1,[])/\∀b d e,gm b r d e=([],2))\/∃(c:Sk) (a:Sq Sk),cA r=((c.toNat:Sl),a)/\dr c.toNat=false/\a.length<r.length/\∀M h P,gm M r h P=gm M (c::a) h P
 |[]=> .inl ⟨rfl,fun _ _ _=>rfl⟩
 |c::r=>by
  by_cases a:dr (c.toNat:Sl)=true
  ·rcases IB r with ⟨b,d⟩|⟨e,f,g,h,i,i⟩
   ·refine .inl ⟨by simp only[cA];rw[Sm a,b],fun M b P=> ?_⟩;rw[gm,Sm a];exact d M b P
   refine .inr ⟨e,f,by simp only[cA];rw[Sm a,g],h,by simp;omega,fun M h P=> ?_⟩;rw[gm,Sm a];exact i M h P
  exact .inr ⟨c,r,by simp only[cA];rw[Sn a],by simpa using a,aA,fun _ _ _=>rfl⟩
theorem IC (A:Sp->Prop)(a:Sp)(s:J)(j:Sp)(r P:Sq Sk)(c:Sk)(M:Sl)(d:SF)(h:gM A a s j r P M)(e:a<=s.Y)(f:ao s 1 d 1 [.int .u8 c.toNat])(g:P.length<=2147483648)(i:0<=M)(k:M<9223372036854775808):
  Runs Si aw 123 [mM j,d] s fun v b=>v=I (if M-P.length<1 then 7 else 0)/\gM A a b j r (if M-P.length<1 then P else P++[c]) M/\ad a s b/\jm A s b:=by
 refine(AX A a s j r P [c] M d h e f.c aA g i k).b ?_;intro v b h
 simpa using h
theorem Rp
  (s:J) (D:SF) (l:Sq Sk) (o M:Sl) (E:(if o<0 then 0 else o)=M) (WC:az s 1 D l.length (aM l)) (WW:l.length<=4000000) (WX:o<9223372036854775808):
  Runs Si aw 83 [D,I o] s (iM s.Y s (gm M l (-1) []).1 (gm M l (-1) []).2):=by
 have U:0<=M:=by rw[<-E];split<;>omega
 have W:M<9223372036854775808:=by rw[<-E];split<;>omega
 refine Runs.ef 65 Tryz.func83 rfl fun p b=> ?_
 refine ax b ((Iy (fun _=>False) s.Y s D l o WC.bT (SV _) Z (fun _ h=>h.elim)).b ?_);rintro _ X ⟨q,rfl,x,y⟩;rw[E] at x;refine ax b ?_;refine aZ.eO (fun Wy p Wz=>∃r h P,Wy=r.length/\gm M r h P=gm M l (-1) []/\P.length+r.length<=l.length/\h<16/\gM (fun _=>False) s.Y Wz q r P M/\ad s.Y s Wz/\p.e=65/\p.N 6=mM q/\p.N 7=I h) ⟨l,-1,[],rfl,rfl,aA,Z,x,y,V b⟩ ?_;rintro Wy p X ⟨r,h,P,rfl,a,WY,WZ,x,y,b⟩;refine ax b ((x2 _ s.Y X q r P M x (y.Y)).b ?_);rintro _ WA ⟨rfl,t,WD,_⟩;have f:=y.a WD;have z:=f.Y;refine ax b ((Rj WA _).b ?_);rintro _ WA ⟨rfl,rfl⟩;rcases IB r with ⟨A,F⟩|⟨g,e,A,WE,W0,F⟩
 ·have i:(cA r).1= -1:=by rw[A]
  rw[F] at a;refine eo b i (show((-1:Sl)<0)=True from So ai) a.symm @SM ?_;exact⟨_,rfl,.al,ay.al _,f⟩
 have i:(cA r).1=(g.toNat:Sl):=by rw[A]
 rw[(show(cA r).2=e by rw[A])] at t;rw[F,gm,Sn (by rw[WE];decide)] at a;have u:¬(g.toNat:Sl)<0:=Z;have WG:=IA g.toNat;have W1:P.length+e.length<l.length:=Z;have WB:P.length<=2147483648:=Z;by_cases j:(g.toNat:Sl)=62
 ·rw[Sm j] at a;by_cases c:h<0
  ·rw[Sm c] at a;have⟨WH,G,WI,WJ,WK,WL,H,WM,K,L,WN,WO,WQ,WR,WS⟩:=id t;simp(disch:=omega)only[b,aI,bD,cO,b6,Sh,Se,↓Sg,i,u,So j,So c,ta,(H.o cJ 2 4),<-a,SM];exact⟨G,rfl,K,L,f⟩
  rw[Sn c] at a;obtain⟨n,rfl⟩:∃n:Sp,h=n:=⟨h.toNat,Z⟩
  rw[SR] at a;simp(disch:=omega)only[b,aI,bD,bC,Sh,Se,↓Sg,i,u,So j,Ss c,Iz,cg,gU St Su,gz,(show((n:Sl)*16)%256=((qp (n*16)).toNat:Sl) by rw[x3 (by omega)];omega),gh Sf bw dN];refine du aA ?_;intro O Q R WT k;refine ax b ((IC _ s.Y Q q e P _ M O (t.C z k) (ag k.Y) R WB U W).b ?_);rintro _ WU ⟨rfl,v,S,_⟩;have w:=f.a ((k.q z).a S);by_cases d:M-(P.length:Sl)<1
  ·rw[Sm d] at a;refine eo b (So d) (show((7:Sl)=0)=False from Ss ai) a.symm @SM ?_;exact⟨_,rfl,.al,ay.al _,w⟩
  rw[Sn d] at a v;have⟨WH,G,WI,WJ,WK,WL,H,WM,K,L,WN,WO,WQ,WR,WS⟩:=id v;refine e8 b d @ta ((H.o cJ 2 4)) a.symm @SM ?_;exact⟨G,rfl,K,L,w⟩
 rw[Sn j] at a;by_cases m:kZ g.toNat<0
 ·rw[Sm m] at a;simp(disch:=omega)only[b,aI,bD,cO,b6,Sh,Se,↓Sg,i,u,Ss j,So m,show((4:Sl)=0)=False from Ss ai,<-a,SM];exact⟨_,rfl,.al,ay.al _,f⟩
 rw[Sn m] at a;by_cases c:h<0
 ·rw[Sm c] at a;refine cl b i u j m (So c) ?_;refine aH e.length Z ⟨e,_,P,rfl,a,Z,WG,t,f,V b⟩
 rw[Sn c] at a;obtain⟨n,rfl⟩:∃n:Sp,h=n:=⟨h.toNat,Z⟩
 obtain⟨B,T⟩:∃B:Sp,kZ g.toNat=B:=⟨(kZ g.toNat).toNat,Z⟩
 rw[T,SR,SR] at a;rw[T] at m;have WV:((n*16+B:Sp):Sl)%256=((qp (n*16+B)).toNat:Sl):=by rw[x3 (by omega)];omega
 simp(disch:=omega)only[b,aI,bD,bC,Sh,Se,↓Sg,i,u,Ss j,T,Ss m,Ss c,Iz,cg,j4,Ro,gU St Su,gz,WV,gh Sf bw dN];refine du aA ?_;intro O Q R WT k;refine ax b ((IC _ s.Y Q q e P _ M O (t.C z k) (ag k.Y) R WB U W).b ?_);rintro _ WU ⟨rfl,v,S,_⟩;have w:=f.a ((k.q z).a S);by_cases d:M-(P.length:Sl)<1
 ·rw[Sm d] at a;refine eo b (So d) (show((7:Sl)=0)=False from Ss ai) a.symm @SM ?_;exact⟨_,rfl,.al,ay.al _,w⟩
 rw[Sn d] at a v;refine aq b d ?_;refine aH e.length Z ⟨e,_,_,rfl,a,by simp;omega,Z,v,w,V b⟩
def fX (g:Sq Sp):Sp->Sp
 |0=>0
 |k+1=>fX g k*85+g.getD k 84
theorem u4 {g:Sq Sp}(h:∀d∈g,d<85):∀k,fX g k<85^k
 |0=>by simp[fX]
 |a+1=>by
  have:=u4 h a;have b:g.getD a 84<85:=by
   rw[SN];by_cases b:a<g.length
   ·rw[Sy b];exact h _ (Th b)
   rw[Tb Z];decide
  simp only[fX,Tv];omega
def lE (x:Sp):Sq Sk:=[SX (x/16777216),SX (x/65536),SX (x/256),SX x]
def iN (M:Sl)(g:Sq Sp)(n:Sp)(P:Sq Sk):Sq Sk×Sl:=
 if 4294967295<fX g 5 then(P,4) else if M-P.length<n then(P,7) else(P++(lE (fX g 5)).take n,0)
def jn (M:Sl)(r:Sq Sk)(g:Sq Sp)(P:Sq Sk):Sq Sk×Sl:=
 if g.length=1 then([],4)
 else if 1<g.length/\(iN M g (g.length-1) P).2≠0 then([],(iN M g (g.length-1) P).2)
 else if(cA r).1<0 then([],2)
 else if(cA r).1=62 then(if 1<g.length then(iN M g (g.length-1) P).1 else P,0)
 else([],4)
def dP (M:Sl):Sq Sk->Sq Sp->Sq Sk->Sq Sk×Sl
 |[],_,_=>([],2)
 |c::r,g,P=>
  if dr c.toNat then dP M r g P
  else if(c.toNat:Sl)=126 then jn M r g P
  else if(c.toNat:Sl)=122/\g=[] then(if M-P.length<4 then([],7) else dP M r [] (P++[0,0,0,0]))
  else if c.toNat<33\/117<c.toNat then([],4)
  else if g.length=4 then(if(iN M (g++[c.toNat-33]) 4 P).2=0 then dP M r [] (iN M (g++[c.toNat-33]) 4 P).1 else([],(iN M (g++[c.toNat-33]) 4 P).2))
  else dP M r (g++[c.toNat-33]) P
def ma (a:Sp)(g:Sq Sp):Sq SF:=g.map fun d=>I ((d+a:Sp):Sl)
theorem ID {a:Sp}{g:Sq Sp}{i:Sp}(h:i<g.length):(ma a g).getD i undef=I ((g.getD i 84+a:Sp):Sl):=by
 simp[ma,Tx,Sy h]
theorem IE {x:Sl}(a: -2147483648<=x)(h:x<2147483648):Ti.wrap x=x:=by
 have a:Ti.bits=32:=rfl;have b:Ti.signed=true:=rfl;simp only[Tw,a,b,Bool.true_and];simp;omega
theorem u5 {x:Sl}(a:0<=x)(h:x<18446744073709551616):SY.wrap x=x:=by
 have a:SY.bits=64:=rfl;have b:SY.signed=false:=rfl;simp only[Tw,a,b,Bool.false_and];simp;omega
theorem AY (P:Program)(t:TypeId)(a:IntKind)(x:Sp):bN P .shr t (.int .u64 x) (.int a 24)=some (.int .u64 ((x/16777216:Sp):Sl))/\bN P .shr t (.int .u64 x) (.int a 16)=some (.int .u64 ((x/65536:Sp):Sl))/\bN P .shr t (.int .u64 x) (.int a 8)=some (.int .u64 ((x/256:Sp):Sl)):=by
 refine⟨?_,?_,?_⟩
 ·rw[nc P t .u64 _ 24 a ai];have:((x:Sl)).fdiv (2^(min (24:Sl).toNat SY.bits))=((x/16777216:Sp):Sl):=by
   show((x:Sl)).fdiv 16777216=_;rw[SD _ Z];omega
  rw[this]
 ·rw[nc P t .u64 _ 16 a ai];have:((x:Sl)).fdiv (2^(min (16:Sl).toNat SY.bits))=((x/65536:Sp):Sl):=by
   show((x:Sl)).fdiv 65536=_;rw[SD _ Z];omega
  rw[this]
 rw[nc P t .u64 _ 8 a ai];have:((x:Sl)).fdiv (2^(min (8:Sl).toNat SY.bits))=((x/256:Sp):Sl):=by
  show((x:Sl)).fdiv 256=_;rw[SD _ Z];omega
 rw[this]
theorem IF (x:Sp):((x:Sl))%256=(((SX x).toNat:Sp):Sl):=by rw[Tg];omega
theorem IG (A:Sp->Prop)(o:Sp)(s:J)(j:Sp)(y P:Sq Sk)(M:Sl)(g:Sq Sp)(v:SF)(n:Sp)(h:gM A o s j y P M)(z:o<=s.Y)(q:az s 1 v g.length (ma 33 g))(B:∀d∈g,d<85)(WH:n<=4)(S:P.length<=2147483648)(T:0<=M)(U:M<9223372036854775808):
  Runs Si aw 125 [mM j,v,I n] s fun W i=>W=I (iN M g n P).2/\gM A o i j y (iN M g n P).1 M/\ad o s i/\jm A s i:=by
 refine Runs.dY 47 Tryz.func125 rfl rfl rfl rfl ?_;intro f a r;have c:f.N 0=mM j:=r 0;have e:f.N 1=v:=r 1;have b:f.N 2=I n:=r 2;clear r;simp(disch:=omega)only[aI,Sh,↓Sg,a];refine aZ.w (fun K f i=>∃k:Sp,K=5-k/\k<=5/\i=s/\f.e=47/\f.N 0=mM j/\f.N 1=v/\f.N 2=I n/\f.N 7= .int .u64 (fX g k)/\f.N 10=I k)
  (fun X f i=>X= .bb 0/\i=s/\f.e=47/\f.N 0=mM j/\f.N 2=I n/\f.N 7= .int .u64 (fX g 5))
  ⟨0,rfl,by omega,rfl,by simp only[dG,a],by simp only[cx,↓Sg,Se,c],by simp only[cx,↓Sg,Se,e],by simp only[cx,↓Sg,Se,b],by simp only[cx,↓Sg,Se];rfl,by simp only[cx,↓Sg];rfl⟩ ?_ ?_
 ·clear a c e b f;rintro WI Wy K f Wz ⟨k,rfl,WJ,D,a,c,e,b,m,E⟩;subst D;by_cases WK:k<5
  ·have t:(k:Sl)<5:=by omega
   have WL:fX g k<52200626:=by
    have:=u4 B k;have b:85^k<=85^4:=Td (by omega) (by omega);have WM:(85:Sp)^4=52200625:=by decide
    omega
   by_cases u:k<g.length
   ·obtain⟨d,F⟩:∃d,d=g.getD k 84:=⟨_,rfl⟩
    have WN:d<85:=by rw[F,SN,Sy u];exact B _ (Th u)
    have G:((fX g k:Sp):Sl)*85+(d:Sl)=((fX g (k+1):Sp):Sl):=by simp only[fX];rw[<-F];omega
    simp(disch:=omega)only[aI,bB,Sh,Se,↓Sg,a,e,m,E,So t,q.cd Sr,u,q.r Sr aQ,q.P aB,ID,<-F,gU St S4,IE,(show((d+33:Sp):Sl)-33=(d:Sl) by omega),gU S4 S3,u5,G,cg];refine aH (5-(k+1)) (by omega) ⟨k+1,rfl,by omega,rfl,by simp only[dG,a],by simp only[cx,↓Sg,Se,c],by simp only[cx,↓Sg,Se,e],by simp only[cx,↓Sg,Se,b],by simp only[cx,↓Sg,Se],by simp only[cx,↓Sg];rfl⟩
   have G:((fX g k:Sp):Sl)*85+84=((fX g (k+1):Sp):Sl):=by
    have:g.getD k 84=84:=by rw[SN,Tb (by omega)];rfl
    simp only[fX];rw[this];omega
   have WA:(117:Sl)-33=84:=by decide
   simp(disch:=omega)only[aI,bB,Sh,Se,↓Sg,a,e,m,E,So t,q.cd Sr,u,WA,IE,gU S4 S3,u5,G,cg];refine aH (5-(k+1)) (by omega) ⟨k+1,rfl,by omega,rfl,by simp only[dG,a],by simp only[cx,↓Sg,Se,c],by simp only[cx,↓Sg,Se,e],by simp only[cx,↓Sg,Se,b],by simp only[cx,↓Sg,Se],by simp only[cx,↓Sg];rfl⟩
  obtain rfl:k=5:=by omega
  have t:¬((5:Sp):Sl)<5:=by omega
  simp(disch:=omega)only[aI,Sh,↓Sg,a,E,Ss t];exact Wy _ _ _ ⟨rfl,rfl,by simp only[dG,a],by simp only[cx,↓Sg,Se,c],by simp only[cx,↓Sg,Se,b],by simp only[cx,↓Sg,Se,m]⟩
 clear a c e b f;rintro _ f Wz ⟨rfl,D,a,c,b,m⟩;subst D;obtain⟨x,WB⟩:∃x,x=fX g 5:=⟨_,rfl⟩
 have WC:=u4 B 5;have WO:(85:Sp)^5=4437053125:=by decide
 unfold iN;rw[<-WB] at m WC|-
 by_cases L:4294967295<x
 ·have H:(4294967295:Sl)<(x:Sl):=by omega
  simp only[Sm L];simp(disch:=omega)only[aI,cO,b6,Sh,↓Sg,a,m,So H,To];exact⟨h,ad.p _ _,jm.p _ _⟩
 have H:¬(4294967295:Sl)<(x:Sl):=by omega
 simp only[Sn L];simp(disch:=omega)only[aI,bC,Sh,Se,↓Sg,a,c,m,Ss H,(AY _ _ _ _).1,(AY _ _ _ _).2.1,(AY _ _ _ _).2.2,gU S3 Su,gz,IF,Fj Sf bw dN];refine du (by simp) ?_;intro WQ WD O WR w;have Q:=O.c.q6 (l:=lE x) (a:=0) (b:=n) (by omega) (by show n<=4;omega);rw[List.drop_zero,Nat.sub_zero] at Q;have R:((lE x).take n).length=n:=by rw[SB];show min n 4=n;omega
 simp(disch:=omega)only[aI,bD,bB,eU,Sh,Se,↓Sg,a,b,O.c.pP Sf bw];refine(AX A o WD j y P ((lE x).take n) M _ (h.C z w) (SO z w.Y) Q (by omega) S T U).b ?_;rintro _ WS ⟨rfl,p,WE,WG⟩;rw[R] at p;simp(disch:=omega)only[aI,cO,b6,Sh,↓Sg,a,R,To];refine⟨?_,?_,(w.q z).a WE,(h.Rk w).a WG⟩
 ·split<;>rfl
 split
 ·rename_i h;rw[Sm h] at p;exact p
 rename_i h;rw[Sn h] at p;exact p
def Rq (A:Sp->Prop)(b:Sp)(s:J)(j:Sp)(M:Sl)(z:Sq Sk×Sl)(w:SF)(a:J):Prop:=
 w=I z.2/\(∃d c,gM A b a j d c M/\(z.2=0->c=z.1))/\ad b s a/\jm A s a
theorem Rr
  (A:Sp->Prop) (h:Sp) (s:J) (j:Sp) (r P:Sq Sk) (M:Sl) (g:Sq Sp) (v:SF) (t:gM A h s j r P M) (u:h<=s.Y) (n:az s 1 v g.length (ma 33 g)) (D:∀E∈g,E<85) (R:g.length<=4) (F:P.length<=2147483648) (G:0<=M) (H:M<9223372036854775808):
  Runs Si aw 124 [mM j,v] s (Rq A h s j M (jn M r g P)):=by
 refine Runs.ef 30 Tryz.func124 rfl fun S a=> ?_
 by_cases o:g.length=1
 ·have p:(g.length:Sl)=1:=Z;refine eo a (n.g Sr) (So p) (show jn M r g P=([],4) by unfold jn;rw[Sm o]) @Sz ?_;exact⟨rfl,⟨r,P,t,fun e=>Sx e ai⟩,ad.p _ _,jm.p _ _⟩
 have p:¬(g.length:Sl)=1:=Z;by_cases q:1<g.length
 ·have w:(1:Sl)<(g.length:Sl):=Z;have e:(g.length:Sl)-1=((g.length-1:Sp):Sl):=Z;refine bp a (n.g Sr) p (So w) e ((IG A h s j r P M g v (g.length-1) t u n D Z F G H).b ?_);rintro _ K ⟨rfl,x,z,B⟩;have⟨y,i⟩:=aO (iN M g (g.length-1) P);rw[<-i] at x;by_cases k:y.2=0
  ·have l:jn M r g P=(if(cA r).1<0 then([],2) else if(cA r).1=62 then(y.1,0) else([],4)):=by
    unfold jn;rw[Sn o,<-i,Sn (by simp[k]),Sm q]
   refine aR a i.symm (So k) ?_;refine(x2 A h K j r y.1 M x (SO u z.Y)).b ?_;rintro _ L ⟨rfl,b,O,Q⟩;have c:=B.a Q;have d:=z.a O;rw[l];by_cases f:(cA r).1<0
   ·refine bS a (So f) @Sz ?_;exact⟨rfl,⟨_,_,b,fun e=>Sx e ai⟩,d,c⟩
   by_cases m:(cA r).1=62
   ·refine b0 a f (So m) @Sz ?_;exact⟨rfl,⟨_,_,b,fun _=>rfl⟩,d,c⟩
   refine b0 a f m @Sz ?_;exact⟨rfl,⟨_,_,b,fun e=>Sx e ai⟩,d,c⟩
  have l:jn M r g P=([],y.2):=by unfold jn;rw[Sn o,<-i,Sm ⟨q,k⟩]
  rw[l];refine b0 a i.symm k @Sz ?_;exact⟨rfl,⟨_,_,x,fun e=>Sx e k⟩,z,B⟩
 have w:¬(1:Sl)<(g.length:Sl):=Z;have l:jn M r g P=(if(cA r).1<0 then([],2) else if(cA r).1=62 then(P,0) else([],4)):=by
  unfold jn;rw[Sn o,Sn (by simp[q]),Sn q]
 refine aW a (n.g Sr) p w ((x2 A h s j r P M t u).b ?_);rintro _ L ⟨rfl,b,d,c⟩;rw[l];by_cases f:(cA r).1<0
 ·refine bS a (So f) @Sz ?_;exact⟨rfl,⟨_,_,b,fun e=>Sx e ai⟩,d,c⟩
 by_cases m:(cA r).1=62
 ·refine b0 a f (So m) @Sz ?_;exact⟨rfl,⟨_,_,b,fun _=>rfl⟩,d,c⟩
 refine b0 a f m @Sz ?_;exact⟨rfl,⟨_,_,b,fun e=>Sx e ai⟩,d,c⟩
theorem IH {s a:J}{z:Sp}{v:SF}{n:Sp}{l:Sq SF}(h:ao s z v n l)(b:s.Y<=a.Y)(k:jm (fun k=>ak v=some k) s a):ao a z v n l:=by
 cases h with
 |al=>exact .al
 |bu i n c l d e f g=>
  refine .bu i n c l (SC d b) ?_ f g;simp only[J.t,k i rfl];exact e
theorem II:∀r:Sq Sk,(cA r=(-1,[])/\∀b d e,dP b r d e=([],2))\/∃(c:Sk) (a:Sq Sk),cA r=((c.toNat:Sl),a)/\dr c.toNat=false/\a.length<r.length/\∀M g P,dP M r g P=dP M (c::a) g P
 |[]=> .inl ⟨rfl,fun _ _ _=>rfl⟩
 |c::r=>by
  by_cases a:dr (c.toNat:Sl)=true
  ·rcases II r with ⟨b,d⟩|⟨e,f,g,h,i,i⟩
   ·refine .inl ⟨by simp only[cA];rw[Sm a,b],fun M b P=> ?_⟩;rw[dP,Sm a];exact d M b P
   refine .inr ⟨e,f,by simp only[cA];rw[Sm a,g],h,by simp;omega,fun M h P=> ?_⟩;rw[dP,Sm a];exact i M h P
  exact .inr ⟨c,r,by simp only[cA];rw[Sn a],by simpa using a,aA,fun _ _ _=>rfl⟩
theorem Rs {M:Sl}{r:Sq Sk}{g:Sq Sp}{P:Sq Sk}(h:(jn M r g P).2≠0):(jn M r g P).1=[]:=by
 unfold jn at h|-
 split
 ·rfl
 split
 ·rfl
 split
 ·rfl
 split
 ·rename_i a b c d;rw[Sn a,Sn b,Sn c,Sm d] at h;exact Sx rfl h
 rfl
theorem IJ (M:Sl)(g:Sq Sp)(n:Sp)(P:Sq Sk)(a:n<=4):(iN M g n P).1.length<=P.length+4:=by
 unfold iN;split
 ·simp
 split
 ·simp
 simp[lE];omega
theorem Rt
  (s:J) (L:SF) (l:Sq Sk) (x M:Sl) (WA:(if x<0 then 0 else x)=M) (W3:az s 1 L l.length (aM l)) (Xy:l.length<=4000000) (Xz:x<9223372036854775808):
  Runs Si aw 84 [L,I x] s (iM s.Y s (dP M l [] []).1 (dP M l [] []).2):=by
 have WB:0<=M:=by rw[<-WA];split<;>omega
 have WC:M<9223372036854775808:=by rw[<-WA];split<;>omega
 refine Runs.dY 61 Tryz.func84 rfl rfl rfl rfl ?_;intro u b WR;simp(disch:=omega)only[b,aI,bD,bB,Sh,Se,↓Sg,(WR 0:u.N 0=L),(WR 1:u.N 1=I x)];refine(Iy (fun k=>ak (av)=some k) s.Y s L l x W3.bT (SV _) (by omega) (fun _ W4=>by cases W4)).b ?_;rintro _ WS ⟨j,rfl,O,Q⟩;rw[WA] at O;simp(disch:=omega)only[b,aI,Sh,↓Sg];refine aZ.eO (fun E u WD=>∃r g P v,E=r.length/\dP M r g P=dP M l [] []/\P.length+4*r.length<=4*l.length/\g.length<=4/\(∀f∈g,f<85)/\ao WD 1 v g.length (ma 33 g)/\ay s.Y v/\gM (fun k=>ak v=some k) s.Y WD j r P M/\ad s.Y s WD/\u.e=61/\u.N 6=mM j/\u.N 7=v) ⟨l,[],[],_,rfl,rfl,by simp,by simp,by simp,.al,ay.al _,O,Q,by simp only[b,dG],by simp only[cx,↓Sg,Se],by simp only[cx,↓Sg]⟩ ?_;rintro E u WS ⟨r,g,P,v,rfl,a,XW,W5,WT,W6,WE,O,Q,b⟩;simp(disch:=omega)only[b,aI,bD,bB,Sh,↓Sg];refine(x2 _ s.Y WS j r P M O (Q.Y)).b ?_;rintro _ W7 ⟨rfl,R,WU,W8⟩;have m:=Q.a WU;have z:=m.Y;have F:=IH W6 WU.Y W8;rcases II r with ⟨S,WG⟩|⟨e,d,S,W9,XX,WG⟩
 ·have n:(cA r).1= -1:=by rw[S]
  rw[WG] at a;simp(disch:=omega)only[b,aI,cO,b6,Sh,Se,↓Sg,n,show((-1:Sl)<0)=True from So (by decide),<-a,SE];exact⟨_,rfl,.al,ay.al _,m⟩
 have n:(cA r).1=(e.toNat:Sl):=by rw[S]
 rw[(show(cA r).2=d by rw[S])] at R;rw[WG,dP,Sn (by rw[W9];decide)] at a;have A:¬(e.toNat:Sl)<0:=by omega
 have WH:P.length<=2147483648:=by omega
 by_cases o:(e.toNat:Sl)=126
 ·rw[Sm o] at a;simp(disch:=omega)only[b,aI,bD,bB,Sh,Se,↓Sg,n,A,So o];refine(Rr _ s.Y W7 j d P M g v R z F.c WT W5 WH WB WC).b ?_;rintro _ G ⟨rfl,⟨XY,XZ,T,WV⟩,p,_⟩;have B:=m.a p;obtain⟨y,i⟩:∃y,y=jn M d g P:=⟨_,rfl⟩
  rw[<-i] at WV a;by_cases h:y.2=0
  ·have⟨WI,WJ,WW,WX,X0,X1,Xa,X2,WY,Xb,X3,X4,X5,X6,X7⟩:=id T;simp(disch:=omega)only[b,aI,bD,cO,b6,Sh,Se,↓Sg,<-i,So h,ta,(Xa.B cJ (a:=2) (c:=4) rfl (by simp)),<-a,SE];rw[WV h] at WY;exact⟨WJ,by rw[h],WY,Xb,B⟩
  have Xc:y.1=[]:=by rw[i];exact Rs (by rw[<-i];exact h)
  simp(disch:=omega)only[b,aI,bD,cO,b6,Sh,Se,↓Sg,<-i,Ss h,<-a,Xc,SE];exact⟨_,rfl,.al,ay.al _,B⟩
 rw[Sn o] at a;by_cases WK:(e.toNat:Sl)=122/\g=[]
 ·obtain⟨q,rfl⟩:=WK;rw[Sm ⟨q,rfl⟩] at a;simp(disch:=omega)only[b,aI,bD,bB,bC,Sh,Se,↓Sg,n,A,Ss o,So q,F.c.cd Sr,SI,Int.natCast_zero,Fj Sf bw dN];refine du aA ?_;intro Xd G Xe X8 p;refine ax b ((AX _ s.Y G j d P [0,0,0,0] M Xd (R.C z p) (SO z p.Y) Xe.c aA WH WB WC).b ?_);rintro _ WZ ⟨rfl,D,U,Xf⟩;have H:=m.a ((p.q z).a U);have WL:((([0,0,0,0]:Sq Sk).length:Sp):Sl)=4:=rfl;rw[WL] at D;by_cases W:M-(P.length:Sl)<4
  ·rw[Sm W] at a;simp(disch:=omega)only[b,aI,bD,cO,b6,Sh,Se,↓Sg,WL,So W,show((7:Sl)=0)=False from Ss ai,<-a,SE];exact⟨_,rfl,.al,ay.al _,H⟩
  rw[Sn W] at a D;refine aR b WL W ?_;refine aH d.length Z ⟨d,[],_,v,rfl,a,by simp;omega,aA,aA,(IH (F.C p) U.Y Xf),WE,D,H,V b⟩
 rw[Sn WK] at a;by_cases q:(e.toNat:Sl)=122
 ·have X:¬(g.length:Sl)=0:=fun Wy=>WK ⟨q,List.eq_nil_of_length_eq_zero Z⟩
  rw[Sm Z] at a;simp(disch:=omega)only[b,aI,bD,cO,b6,bB,Sh,Se,↓Sg,n,A,Ss o,So q,Ss X,Ss (Z:¬(e.toNat:Sl)<33),So (Z:(117:Sl)<e.toNat),F.c.cd Sr,show((4:Sl)=0)=False from Ss ai,<-a,SE];exact⟨_,rfl,.al,ay.al _,m⟩
 by_cases WM:(e.toNat:Sl)<33
 ·rw[Sm Z] at a;simp(disch:=omega)only[b,aI,bD,cO,b6,Sh,Se,↓Sg,n,A,Ss o,Ss q,So WM,show((4:Sl)=0)=False from Ss ai,<-a,SE];exact⟨_,rfl,.al,ay.al _,m⟩
 by_cases W0:(117:Sl)<e.toNat
 ·rw[Sm Z] at a;simp(disch:=omega)only[b,aI,bD,cO,b6,Sh,Se,↓Sg,n,A,Ss o,Ss q,Ss WM,So W0,show((4:Sl)=0)=False from Ss ai,<-a,SE];exact⟨_,rfl,.al,ay.al _,m⟩
 rw[Sn Z] at a;have⟨f,Xg⟩:=aO (e.toNat-33);rw[<-Xg] at a;simp(disch:=omega)only[b,aI,bD,bC,Sh,Se,↓Sg,n,A,Ss o,Ss q,Ss WM,Ss W0,gh Sr aQ gj];refine ll Sr aQ nj gj rfl F (V b) ai (by simp only[b,dG];decide) (by simp only[b,dG];decide) (by rfl) ai rfl Z Z WE z ?_;intro X9 Wz G t Xh p Xi Xj;have Xk:ma 33 g++[I (e.toNat:Sl)]=ma 33 (g++[f]):=by
  have:((f+33:Sp):Sl)=(e.toNat:Sl):=Z;simp only[ma,List.map_append,List.map_cons,List.map_nil,this]
 rw[Xk] at t;have W1:∀WN∈g++[f],WN<85:=fun WN K=>by
  rcases Tj.mp K with K|K
  ·exact WT WN K
  rw[Te.mp K];exact(show f<85 by omega)
 have X:(g++[f]).length=g.length+1:=by simp
 have T:gM (fun k=>ak Wz=some k) s.Y G j d P M:=R.j z (fun k WO=>WO) WE Xi (fun E w=>⟨t.z E w,by
  rcases Xj with Wy|⟨WI,Wy,Ya⟩
  ·exact .inl (by rw[<-Wy];exact w)
  refine .inr ?_;have w:ak Wz=some E:=w;rw[Wy] at w;injection w with w;omega⟩)
 have B:=m.a p;by_cases W2:g.length=4
 ·have WQ:((g.length+1:Sp):Sl)=5:=Z;rw[Sm W2] at a;refine aR b (t.c.g Sr) (So WQ) ?_;rw[<-X] at t;refine(IG _ s.Y G j d P M (g++[f]) Wz 4 T B.Y t.c W1 Z WH WB WC).b ?_;rintro _ WZ ⟨rfl,D,U,_⟩;have H:=B.a U;have Xl:=IJ M (g++[f]) 4 P Z;have⟨y,i⟩:=aO (iN M (g++[f]) 4 P);rw[<-i] at D Xl a;by_cases h:y.2=0
  ·rw[Sm h] at a;simp(disch:=omega)only[b,aI,bD,Sh,Se,↓Sg,<-i,So h];have Xm:gM (fun k=>ak (av)=some k) s.Y WZ j d y.1 M:=by
    have⟨WI,WJ,WW,WX,Xn,Xo,Xp,Xq,Xr,Xs,Xt,Xu,Xv,Xw,Xx,_⟩:=D;exact⟨WI,WJ,WW,WX,Xn,Xo,Xp,Xq,Xr,Xs,Xt,Xu,Xv,Xw,Xx,fun k WO=>by cases WO⟩
   refine aH d.length Z ⟨d,[],_,_,rfl,a,Z,aA,aA,.al,ay.al _,Xm,H,V b⟩
  rw[Sn h] at a;simp(disch:=omega)only[b,aI,bD,cO,b6,Sh,Se,↓Sg,<-i,Ss h,<-a,SE];exact⟨_,rfl,.al,ay.al _,H⟩
 have WQ:¬((g.length+1:Sp):Sl)=5:=Z;rw[Sn W2] at a;refine aR b (t.c.g Sr) WQ ?_;rw[<-X] at t;refine aH d.length Z ⟨d,_,P,Wz,rfl,a,Z,Z,W1,t,Xh,T,B,V b⟩
end Go.Proofs.YtgpmffbleaphkaaGreat
namespace Go.Proofs.YtgpmffbleaphkaaGreat
open Go.Cl
theorem AZ (s:J)(x:SF)(l:Sq Sk)(i:Sp)(a:az s 1 x l.length (aM l)):
  Runs Si aw 104 [x,I i] s fun v b=>v=I (if i<l.length then((l.getD i 0).toNat:Sl) else-1)/\b=s:=by
 refine Runs.ef 18 Tryz.func104 rfl fun f b=> ?_
 have c:¬(i:Sl)<0:=Z;by_cases d:i<l.length
 ·have e:¬l.length<=i:=Z;have f:((l.getD i 0).toNat:Sl)<256:=ag ((l.getD i 0).toNat_lt);simp(disch:=omega)only[b,aI,bD,cO,b6,bB,Sh,Se,↓Sg,a.cd Sf,c,e,d,a.r Sf bw,a.P de,dn,gU Su St,cg,Tp]
 have e:l.length<=i:=Z;simp(disch:=omega)only[b,aI,bD,cO,b6,bB,Sh,Se,↓Sg,a.cd Sf,c,e,d,Tp]
end Go.Proofs.YtgpmffbleaphkaaGreat
namespace Go.Proofs.YtgpmffbleaphkaaGreat
open Go.Cl Go.Cl.Runs
theorem mb {a:Sl}{P:Sq Sk}{j:Sp}:(a<=((P.length+j:Sp):Sl))↔bE a P<=j:=by unfold bE;omega
theorem Ru (s:J)(E:SF)(l:Sq Sk)(e:Sl)(S:az s 1 E l.length (aM l))(WR:l.length<=4000000):
  Runs Si aw 85 [E,I e] s (iM s.Y s (cb e l []).1 (cb e l []).2):=by
 refine Runs.cS 63 Tryz.func85 rfl fun f a c g=> ?_
 refine lo a ?_;refine aZ.eO (fun y f z=>∃(i:Sp) (o:SF) (P:Sq Sk),y=l.length-i/\i<=l.length/\P.length<=128*i/\cb e (l.drop i) P=cb e l []/\ao z 1 o P.length (aM P)/\ay s.Y o/\ad s.Y s z/\f.e=63/\f.N 0=E/\f.N 1=I e/\f.N 7=I i/\f.N 6=o) ⟨0,_,[],rfl,Z,aA,rfl,.al,ay.al _,ad.p _ _,V a,V c,V g,aa,aa⟩ ?_;rintro y f WI ⟨i,o,P,rfl,WS,WT,t,T,U,A,a,c,g,d,k⟩;have H:=S.C A;have F:∀(f:an) (u:J) (W:Sl),f.e=63->f.N 4=av->f.N 5=I W->ad s.Y s u->cb e l []=([],W)->eW Si (Tryz.f85).results.toList (iM s.Y s (cb e l []).1 (cb e l []).2) .bF f u:=by
  intro f u W a WJ WK A WL;refine eo a WJ WK @Ts WL ?_;exact⟨_,rfl,.al,ay.al _,A⟩
 by_cases X:i<l.length
 ·have WU:=(l.getD i 0).toNat_lt;rw[qi X] at t;generalize Wy:(l.getD i 0).toNat=n at*;refine gY a c d X (H.g Sf) (H.pY Sf bw) (H.pX de) @dn @Wy (dH Su St) ?_;by_cases WV:n=128
  ·have K:(n:Sl)=128:=Z;refine b0 a k K @Ts ?_;rw[uX Z] at t;rw[<-t];exact⟨_,rfl,T,U,A⟩
  have K:¬(n:Sl)=128:=Z;by_cases WW:128<n
  ·obtain⟨b,Wz⟩:∃b:Sp,(257:Sl)-n=b:=⟨257-n,Z⟩
   have WA:257-n=b:=Z;refine aW a K (Z:(128:Sl)<n) Wz ?_;refine aZ.eO (fun y f z=>∃(j:Sp) (o:SF),y=b-j/\j<=b/\j<=bE e P/\(0<j->i+1<l.length)/\ao z 1 o (P.length+j) (aM (P++Sv j (l.getD (i+1) 0)))/\ay s.Y o/\ad s.Y s z/\f.e=63/\f.N 0=E/\f.N 1=I e/\f.N 7=I (if j=b then(i+2:Sp) else(i+1:Sp))/\f.N 6=o/\f.N 9= .bool true/\f.N 10=I b/\f.N 33=I b/\f.N 34=I j) ⟨0,o,rfl,Z,Z,Z,by simpa using T,U,A,V a,V c,V g,by simp only[cx,↓Sg,Se];rw[Sn Z];rfl,V k,aa,aa,aa,aa⟩ ?_;rintro y f u ⟨j,WB,rfl,WM,WN,WD,v,G,h,a,c,g,d,k,B,D,m,p⟩;have q:=S.C h;by_cases w:j<b
   ·rw[Sn (show¬j=b from Z)] at d;by_cases L:i+1<l.length
    ·have x:¬((l.length:Sl)<=((i+1:Sp):Sl)):=Z;by_cases r:e<=((P.length+j:Sp):Sl)
     ·refine hy a c g d k m p w (q.g Sf) x (v.c.g Sf) r ?_;refine F _ u 7 (V a) aa aa h ?_;rw[<-t,qi L,AF Z (by rw[mb] at r;omega)]
     have WC:(((i+1:Sp):Sl)).toNat=i+1:=Z;simp(disch:=omega)only[aI,bB,bC,Sh,Se,↓Sg,a,c,g,d,k,m,p,w,q.cd Sf,x,v.c.cd Sf,r,q.r Sf bw,WC,q.P de,dn,gh Sf bw dN];refine ll Sf bw jg dN rfl v (V k) ai (by simp only[dG,a];decide) (by simp only[dG,a];decide) (by rfl) ai rfl Z Z G h.Y ?_;intro WO M WQ O Q R _ _;have WE:P++Sv (j+1) (l.getD (i+1) 0)=(P++Sv j (l.getD (i+1) 0))++[l.getD (i+1) 0]:=by rw[SZ,SL]
     by_cases WG:(j:Sl)=b-1
     ·refine cl a d B D p WG ?_;refine aH (b-(j+1)) Z ⟨j+1,M,rfl,Z,by rw[mb] at r;omega,fun _=>L,?_,Q,h.a R,V a,V c,V g,by simp only[cx,↓Sg,Se];rw[Sm Z];rfl,aa,V B,V D,V m,by simp only[cx,↓Sg];congr 1;omega⟩;rw[WE,km];exact O
     refine bp a B D p WG ?_;refine aH (b-(j+1)) Z ⟨j+1,M,rfl,Z,by rw[mb] at r;omega,fun _=>L,?_,Q,h.a R,V a,V c,V g,by simp only[cx,↓Sg,Se,d];rw[Sn Z],aa,V B,V D,V m,aa⟩;rw[WE,km];exact O
    have x:((l.length:Sl)<=((i+1:Sp):Sl)):=Z;refine c1 a c d m p w (q.g Sf) x ?_;refine F _ u 2 (V a) aa aa h ?_;rw[<-t,SA Z,HZ Z]
   obtain rfl:j=b:=Z;rw[Sm rfl] at d;refine aW a m p w ?_;refine aH (l.length-(i+2)) Z ⟨i+2,WB,P++Sv j (l.getD (i+1) 0),rfl,Z,?_,?_,(by rw[Sj,Sw];exact v),G,h,V a,V c,V g,V d,V k⟩
   ·rw[Sj,Sw];omega
   rw[<-t,qi (WD Z),sQ Z Z,Wy,WA]
  obtain⟨b,Wz⟩:∃b:Sp,(n:Sl)+1=b:=⟨n+1,Z⟩
  have WA:n+1=b:=Z;have WX:(l.drop (i+1)).length=l.length-(i+1):=S5;refine aW a K (Z:¬(128:Sl)<n) Wz ?_;refine aZ.eO (fun y f z=>∃(j:Sp) (o:SF),y=b-j/\j<=b/\j<=bE e P/\i+1+j<=l.length/\ao z 1 o (P.length+j) (aM (P++(l.drop (i+1)).take j))/\ay s.Y o/\ad s.Y s z/\f.e=63/\f.N 0=E/\f.N 1=I e/\f.N 7=I (i+1+j:Sp)/\f.N 6=o/\f.N 9= .bool false/\f.N 10=I b/\f.N 33=I b/\f.N 34=I j) ⟨0,o,rfl,Z,Z,Z,by simpa using T,U,A,V a,V c,V g,aa,V k,aa,aa,aa,aa⟩ ?_;rintro y f u ⟨j,WB,rfl,WM,WN,WD,v,G,h,a,c,g,d,k,B,D,m,p⟩;have q:=S.C h;by_cases w:j<b
  ·by_cases L:i+1+j<l.length
   ·have x:¬((l.length:Sl)<=((i+1+j:Sp):Sl)):=Z;by_cases r:e<=((P.length+j:Sp):Sl)
    ·refine hy a c g d k m p w (q.g Sf) x (v.c.g Sf) r ?_;refine F _ u 7 (V a) aa aa h ?_;rw[<-t,H2 Z (by rw[mb] at r;omega) (by rw[mb] at r;omega)]
    have WC:(((i+1+j:Sp):Sl)).toNat=i+1+j:=Z;simp(disch:=omega)only[aI,bB,bC,Sh,Se,↓Sg,a,c,g,d,k,m,p,w,q.cd Sf,x,v.c.cd Sf,r,q.r Sf bw,WC,q.P de,dn,gh Sf bw dN];refine ll Sf bw jg dN rfl v (V k) ai (by simp only[dG,a];decide) (by simp only[dG,a];decide) (by rfl) ai rfl Z Z G h.Y ?_;intro WO M WQ O Q R _ _;refine aW a d B p ?_;refine aH (b-(j+1)) Z ⟨j+1,M,rfl,Z,by rw[mb] at r;omega,Z,?_,Q,h.a R,V a,V c,V g,aa,aa,V B,V D,V m,aa⟩;rw[(show P++(l.drop (i+1)).take (j+1)=(P++(l.drop (i+1)).take j)++[l.getD (i+1+j) 0] by rw[sB Z,SL,HY]),km];exact O
   have x:((l.length:Sl)<=((i+1+j:Sp):Sl)):=Z;refine c1 a c d m p w (q.g Sf) x ?_;refine F _ u 2 (V a) aa aa h ?_;rw[<-t,H0 Z Z Z]
  obtain rfl:j=b:=Z;refine aW a m p w ?_;have WH:((l.drop (i+1)).take j).length=j:=by rw[SB];omega
  refine aH (l.length-(i+1+j)) Z ⟨i+1+j,WB,P++(l.drop (i+1)).take j,rfl,Z,?_,?_,(by rw[Sj,WH];exact v),G,h,V a,V c,V g,V d,V k⟩
  ·rw[Sj,WH];omega
  rw[<-t,H3 Z Z Z,Wy,WA,Tt]
 refine bp a c d X (H.g Sf) ?_;refine F _ WI 2 (V a) aa aa A ?_;rw[<-t,SA Z,qj]
theorem IK (c:Sk):((c.toNat:Sl))%256=c.toNat:=ag c.toNat_lt
theorem IL:(-1:Sl)%256=((255:Sk).toNat:Sl):=by decide
theorem Rv (s:J)(L:SF)(l:Sq Sk)(Wy:Sl)(WR:az s 1 L l.length (aM l))(Xc:l.length<=4000000):
  Runs Si aw 71 [L,I Wy] s (iM s.Y s (cb Wy l []).1 (cb Wy l []).2):=by
 refine Runs.cS 90 Tryz.func71 rfl fun f a d U=> ?_
 refine bS a U @xX ?_;rw[<-Qk];generalize (if 0>Wy then 0 else Wy)=c;refine aK ?_;intro G WZ M Xd;refine bS a @SU.{0} @SI.{0} ?_;refine aZ.eO (fun D f E=>∃(i:Sp) (P:Sq Sk) (k:Sl),D=(if k=0 then l.length+1-i else 0)/\(k=0->i<=l.length/\P.length<=128*i/\cb c (l.drop i) P=cb c l [])/\(k≠0->cb c l []=([],k))/\h4 s.Y E s.Y P c k/\ad s.Y s E/\f.e=90/\f.N 0=L/\f.N 7=I i/\f.N 6=ab s.Y 0 4)
  ⟨0,[],0,rfl,fun _=>⟨Z,aA,rfl⟩,fun h=>Sx rfl h,⟨_,WZ,.al,ay.al _,(by intro h;cases h),SV _⟩,M,V a,V d,aa,aa⟩ ?_
 rintro D f G ⟨i,P,k,rfl,W0,W1,m,M,a,d,o,b⟩;have WS:=WR.C M;have⟨W2,WH,W3,W4,W5,W6⟩:=id m;have Wz:=WH.o aB 2 4;by_cases WA:k=0
 ·subst WA;have⟨Xe,Xf,A⟩:=W0 rfl;refine cl a d o b @hG Wz ((AZ G L l i WS).b ?_);rintro _ G ⟨rfl,rfl⟩;by_cases WI:i<l.length
  ·have WA:=(l.getD i 0).toNat_lt;rw[qi WI] at A;generalize WJ:(l.getD i 0).toNat=n at*;refine aW a o WI (show¬(n:Sl)<0 by omega) ?_;by_cases Xg:n=128
   ·have WG:(n:Sl)=128:=Z;refine aR a b WG ((jl s.Y G s.Y P c 0 m).b ?_);rintro _ H ⟨W7,rfl,U,WK,WL⟩;simp(disch:=omega)only[aI,cO,b6,Sh,Se,↓Sg,a,bm,Tc,S7,S8,Tu];rw[uX Z] at A;rw[<-A];exact⟨_,rfl,U,WK,M.a (WL.q (SV _))⟩
   have WG:¬(n:Sl)=128:=Z;by_cases Xh:n<128
   ·have WM:(n:Sl)<128:=Z;have Xi:(l.drop (i+1)).length=l.length-(i+1):=S5;refine aR a WG WM ?_;refine aZ.eO (fun D f E=>∃(j:Sp) (p:Sq Sk) (k:Sl),D=n+1-j/\j<=n+1/\(k=0->i+1+j<=l.length/\p=P++(l.drop (i+1)).take j/\j<=bE c P)/\(k≠0->cb c l []=([],k))/\p.length<=P.length+j/\h4 s.Y E s.Y p c k/\ad s.Y s E/\f.e=90/\f.N 0=L/\f.N 7=I (i+1+j:Sp)/\f.N 8=I n/\f.N 9=I j/\f.N 6=ab s.Y 0 4)
     ⟨0,P,0,rfl,Z,fun _=>⟨Z,aA,Z⟩,fun h=>Sx rfl h,Z,m,M,V a,V d,aa,aa,aa,V b⟩ ?_
    rintro D f H ⟨j,p,u,rfl,WT,Q,R,WU,m,q,a,d,o,r,WB,b⟩;have⟨W2,WH,W3,W4,W5,W6⟩:=id m;have Wz:=WH.o aB 2 4;by_cases WV:j<=n
    ·by_cases e:u=0
     ·subst e;obtain⟨W8,rfl,WC⟩:=Q rfl;refine cX a d o r WB b WV @hG Wz ((AZ H L l (i+1+j) (WR.C q)).b ?_);rintro _ H ⟨rfl,rfl⟩;by_cases y:i+1+j<l.length
      ·have W9:=(l.getD (i+1+j) 0).toNat_lt;refine ch a b y (show¬((l.getD (i+1+j) 0).toNat:Sl)<0 by omega) (dH St Su) @gz @IK ((qn s.Y H s.Y _ c 0 _ m Z).b ?_);rintro W X ⟨g,v⟩;have WW:((l.drop (i+1)).take j).length=j:=by rw[SB];omega
       refine aR a o WB ?_;by_cases w:c<=((P.length+j:Sp):Sl)
       ·have WN:c<=((P++(l.drop (i+1)).take j).length:Sl):=by rw[Sj,WW];exact w
        rw[Sn Z,Sm ⟨rfl,WN⟩] at g;refine aH (n+1-(j+1)) Z ⟨j+1,_,7,rfl,Z,fun h=>Sx h ai,fun _=> ?_,Z,g,q.a v,V a,V d,aa,V r,aa,V b⟩;rw[<-A,H2 Z (by rw[mb] at w;omega) (by rw[mb] at w;omega)]
       have WN:¬c<=((P++(l.drop (i+1)).take j).length:Sl):=by rw[Sj,WW];exact w
       rw[Sm ⟨rfl,Z⟩,Sn (by intro h;exact WN h.2)] at g;refine aH (n+1-(j+1)) Z ⟨j+1,_,0,rfl,Z,fun _=>⟨Z,?_,by rw[mb] at w;omega⟩,fun h=>Sx rfl h,by simp;omega,g,q.a v,V a,V d,aa,V r,aa,V b⟩;rw[sB Z,HY,SL]
      refine aW a b y (show(-1:Sl)<0 by decide) ((jk s.Y H s.Y _ c 0 2 m).b ?_);rintro W X ⟨g,v⟩;rw[Sm rfl] at g;refine bp a b (dH St Su) @gz @IL ((qn s.Y X s.Y _ c 2 _ g Z).b ?_);rintro W Xj ⟨WX,Xa⟩;rw[Sn aA,Sn aA] at WX;refine aR a o WB ?_;refine aH (n+1-(j+1)) Z ⟨j+1,_,2,rfl,Z,fun h=>Sx h ai,fun _=> ?_,Z,WX,(q.a v).a Xa,V a,V d,aa,V r,aa,V b⟩;rw[<-A,H0 Z Z Z]
     refine c1 a r WB b WV @hG Wz e ?_;refine aH 0 (by first|omega|(rw[Sm rfl];omega)) ⟨i+1+j,p,u,(Sn e).symm,fun h=>Sx h e,R,m,q,V a,V d,V o,V b⟩
    obtain rfl:j=n+1:=Z;refine aW a r WB (Z:¬(((n+1:Sp):Sl)<=n)) ?_;by_cases e:u=0
    ·subst e;obtain⟨W8,rfl,WC⟩:=Q rfl;refine aH (l.length+1-(i+1+(n+1))) (by first|omega|(rw[Sm rfl];omega)) ⟨i+1+(n+1),_,0,(Sm rfl).symm,fun _=>⟨Z,by rw[Sj,(show((l.drop (i+1)).take (n+1)).length=n+1 by rw[SB];omega)];omega,?_⟩,fun h=>Sx rfl h,m,q,V a,V d,V o,V b⟩;rw[<-A,H3 Z Z Z,WJ,Tt]
    refine aH 0 (by first|omega|(rw[Sm rfl];omega)) ⟨i+1+(n+1),p,u,(Sn e).symm,fun h=>Sx h e,R,m,q,V a,V d,V o,V b⟩
   have WM:¬(n:Sl)<128:=Z;refine aW a d WG WM ((AZ G L l (i+1) WS).b ?_);rintro _ G ⟨rfl,rfl⟩;obtain⟨t,Xk⟩:∃t:Sp,(257:Sl)-n=t:=⟨257-n,Z⟩
   have WY:257-n=t:=Z;by_cases y:i+1<l.length
   ·have W9:=(l.getD (i+1) 0).toNat_lt;refine aR a y (show¬((l.getD (i+1) 0).toNat:Sl)<0 by omega) ?_;have⟨z,K⟩:=aO (l.getD (i+1) 0);have⟨S,WD⟩:=aO ((l.getD (i+1) 0).toNat:Sl);have⟨B,x⟩:=aO (0:Sl);have WE:B=0->i+1<l.length/\z=l.getD (i+1) 0:=fun _=>⟨y,K⟩
    refine aZ.eO (fun D f E=>∃(j:Sp) (p:Sq Sk) (k:Sl),D=t-j/\j<=t/\(k=0->B=0/\p=P++Sv j z/\j<=bE c P)/\(k≠0->cb c l []=([],k))/\p.length<=P.length+j/\h4 s.Y E s.Y p c k/\ad s.Y s E/\f.e=90/\f.N 0=L/\f.N 7=I (i+2:Sp)/\f.N 8=I n/\f.N 11=I S/\f.N 12=I j/\f.N 6=ab s.Y 0 4)
     ⟨0,P,B,rfl,Z,fun h=>⟨h,aA,Z⟩,((fun h=>Sx x h):B≠0->cb c l []=([],B)),Z,(show h4 s.Y G s.Y P c B by rw[x];exact m),M,V a,V d,by simp only[cx,↓Sg,Se];first|rfl|(congr 1;omega),aa,V (show Value.int .i64 ((l.getD (i+1) 0).toNat:Sl)=I S by rw[WD]),aa,V b⟩ ?_
    rintro D f H ⟨j,p,u,rfl,WT,Q,R,WU,m,q,a,d,o,r,O,T,b⟩;by_cases Xb:j<t
    ·have WO:(j:Sl)<257-n:=Z;refine cX a r O T b WO (dH St Su) @gz (show S%256=z.toNat by rw[WD,K];exact IK _) ((qn s.Y H s.Y p c u z m Z).b ?_);rintro W X ⟨g,v⟩;refine aq a T ?_;by_cases e:u=0
     ·subst e;obtain⟨x,rfl,WC⟩:=Q rfl;have⟨y,K⟩:=WE x;have F:(P++Sv j z).length=P.length+j:=by rw[Sj,Sw]
      by_cases w:c<=((P.length+j:Sp):Sl)
      ·rw[Sn (by rw[F];omega),Sm ⟨rfl,by rw[F];exact w⟩] at g;refine aH (t-(j+1)) Z ⟨j+1,_,7,rfl,Z,fun h=>Sx h ai,fun _=> ?_,Z,g,q.a v,V a,V d,V o,V r,V O,aa,V b⟩;rw[<-A,qi y,AF Z (by rw[mb] at w;omega)]
      rw[Sm ⟨rfl,by rw[F];omega⟩,Sn (by rw[F];intro h;exact w h.2)] at g;refine aH (t-(j+1)) Z ⟨j+1,_,0,rfl,Z,fun _=>⟨x,?_,by rw[mb] at w;omega⟩,fun h=>Sx rfl h,by rw[Sj,F,SS];omega,g,q.a v,V a,V d,V o,V r,V O,aa,V b⟩;rw[SZ,SL]
     rw[Sn (by intro h;exact e h.1),Sn (by intro h;exact e h.1)] at g;refine aH (t-(j+1)) Z ⟨j+1,_,u,rfl,Z,fun h=>Sx h e,R,Z,g,q.a v,V a,V d,V o,V r,V O,aa,V b⟩
    obtain rfl:j=t:=Z;refine aW a r T (Z:¬(j:Sl)<257-n) ?_;by_cases e:u=0
    ·subst e;obtain⟨x,rfl,WC⟩:=Q rfl;have⟨y,K⟩:=WE x;refine aH (l.length+1-(i+2)) (by first|omega|(rw[Sm rfl];omega)) ⟨i+2,_,0,(Sm rfl).symm,fun _=>⟨Z,by rw[(show(P++Sv j z).length=P.length+j by rw[Sj,Sw])];omega,?_⟩,fun h=>Sx rfl h,m,q,V a,V d,V o,V b⟩;rw[<-A,qi y,sQ Z Z,WJ,WY,K]
    refine aH 0 (by first|omega|(rw[Sm rfl];omega)) ⟨i+2,p,u,(Sn e).symm,fun h=>Sx h e,R,m,q,V a,V d,V o,V b⟩
   refine aW a b y (show(-1:Sl)<0 by decide) ((jk s.Y G s.Y _ c 0 2 m).b ?_);rintro W X ⟨WQ,v⟩;rw[Sm rfl] at WQ;refine ax a ?_;have⟨z,K⟩:=aO (255:Sk);have⟨S,WD⟩:=aO (-1:Sl);have⟨B,x⟩:=aO (2:Sl);have WE:B=0->i+1<l.length/\z=l.getD (i+1) 0:=fun h=>Z
   rw[<-x] at WQ;refine aZ.eO (fun D f E=>∃(j:Sp) (p:Sq Sk) (k:Sl),D=t-j/\j<=t/\(k=0->B=0/\p=P++Sv j z/\j<=bE c P)/\(k≠0->cb c l []=([],k))/\p.length<=P.length+j/\h4 s.Y E s.Y p c k/\ad s.Y s E/\f.e=90/\f.N 0=L/\f.N 7=I (i+2:Sp)/\f.N 8=I n/\f.N 11=I S/\f.N 12=I j/\f.N 6=ab s.Y 0 4)
    ⟨0,P,B,rfl,Z,fun h=>⟨h,aA,Z⟩,((fun _=>by rw[<-A,SA Z,HZ Z,x]):B≠0->cb c l []=([],B)),Z,WQ,(M.a v),V a,V d,by simp only[cx,↓Sg,Se];first|rfl|(congr 1;omega),aa,V (show Value.int .i64 (-1)=I S by rw[WD]),aa,V b⟩ ?_
   rintro D f H ⟨j,p,u,rfl,WT,Q,R,WU,m,q,a,d,o,r,O,T,b⟩;by_cases Xb:j<t
   ·have WO:(j:Sl)<257-n:=Z;refine cX a r O T b WO (dH St Su) @gz (show S%256=z.toNat by rw[WD,K];exact IL) ((qn s.Y H s.Y p c u z m Z).b ?_);rintro W X ⟨g,v⟩;refine aq a T ?_;by_cases e:u=0
    ·subst e;obtain⟨x,rfl,WC⟩:=Q rfl;have⟨y,K⟩:=WE x;have F:(P++Sv j z).length=P.length+j:=by rw[Sj,Sw]
     by_cases w:c<=((P.length+j:Sp):Sl)
     ·rw[Sn (by rw[F];omega),Sm ⟨rfl,by rw[F];exact w⟩] at g;refine aH (t-(j+1)) Z ⟨j+1,_,7,rfl,Z,fun h=>Sx h ai,fun _=> ?_,Z,g,q.a v,V a,V d,V o,V r,V O,aa,V b⟩;rw[<-A,qi y,AF Z (by rw[mb] at w;omega)]
     rw[Sm ⟨rfl,by rw[F];omega⟩,Sn (by rw[F];intro h;exact w h.2)] at g;refine aH (t-(j+1)) Z ⟨j+1,_,0,rfl,Z,fun _=>⟨x,?_,by rw[mb] at w;omega⟩,fun h=>Sx rfl h,by rw[Sj,F,SS];omega,g,q.a v,V a,V d,V o,V r,V O,aa,V b⟩;rw[SZ,SL]
    rw[Sn (by intro h;exact e h.1),Sn (by intro h;exact e h.1)] at g;refine aH (t-(j+1)) Z ⟨j+1,_,u,rfl,Z,fun h=>Sx h e,R,Z,g,q.a v,V a,V d,V o,V r,V O,aa,V b⟩
   obtain rfl:j=t:=Z;refine aW a r T (Z:¬(j:Sl)<257-n) ?_;by_cases e:u=0
   ·subst e;obtain⟨x,rfl,WC⟩:=Q rfl;have⟨y,K⟩:=WE x;refine aH (l.length+1-(i+2)) (by first|omega|(rw[Sm rfl];omega)) ⟨i+2,_,0,(Sm rfl).symm,fun _=>⟨Z,by rw[(show(P++Sv j z).length=P.length+j by rw[Sj,Sw])];omega,?_⟩,fun h=>Sx rfl h,m,q,V a,V d,V o,V b⟩;rw[<-A,qi y,sQ Z Z,WJ,WY,K]
   refine aH 0 (by first|omega|(rw[Sm rfl];omega)) ⟨i+2,p,u,(Sn e).symm,fun h=>Sx h e,R,m,q,V a,V d,V o,V b⟩
  obtain rfl:i=l.length:=Z;refine bp a o b WI (show(-1:Sl)<0 by decide) ((jk s.Y G s.Y _ c 0 2 m).b ?_);rintro W X ⟨g,v⟩;rw[Sm rfl] at g;refine ax a ?_;refine aH 0 (by first|omega|(rw[Sm rfl];omega)) ⟨l.length+1,P,2,rfl,fun h=>Sx h ai,fun _=> ?_,g,M.a v,V a,V d,aa,V b⟩;rw[<-A,List.drop_length,qj]
 refine bp a b @hG Wz WA ((jl s.Y G s.Y P c k m).b ?_);rintro _ H ⟨W7,rfl,U,WK,WL⟩;simp(disch:=omega)only[aI,cO,b6,Sh,Se,↓Sg,a,bm,Tc,S7,S8,Tu];rw[W1 WA];rw[Sn WA] at U;exact⟨_,rfl,U,WK,M.a (WL.q (SV _))⟩
end Go.Proofs.YtgpmffbleaphkaaGreat
namespace Go.Cl.Bt
open Go.Cl.Sto
theorem x4 (x:Sp)(h:x<9223372036854775808):SG.wrap (((SH SG.bits (x:Sl)&&&SH SG.bits 1).toNat:Sp):Sl)=((x%2:Sp):Sl):=by
 have a:SG.bits=64:=rfl;rw[a];have:(SH 64 (x:Sl)&&&SH 64 1).toNat=x%2:=by
  rw[BitVec.toNat_and,SW,S2,S6 Z];show x&&&1=_;exact Nat.and_one_is_mod _
 rw[this,cg Z]
theorem x5 (P:Program)(t:TypeId)(a:IntKind)(x:Sp):bN P .shr t (I (x:Sl)) (.int a 1)=some (I ((x/2:Sp):Sl)):=by
 rw[nc P t .i64 _ 1 a ai];have:((x:Sl)).fdiv (2^(min (1:Sl).toNat SG.bits))=((x/2:Sp):Sl):=by
  show((x:Sl)).fdiv 2=_;rw[SD _ Z];omega
 rw[this]
def qq (b:Sq Sk)(p a:Sp):Sp:=(b.getD (p-1) 0).toNat/2^(8-a)
theorem IM (b:Sq Sk)(p:Sp):qq b (p+1) 8=(b.getD p 0).toNat:=by simp[qq]
theorem x6 {b:Sq Sk}{p a:Sp}(c:1<=a)(d:a<=8):qq b p a/2=qq b p (a-1):=by
 unfold qq;rw[Nat.div_div_eq_div_mul,show 8-(a-1)=(8-a)+1 from Z,Tv]
theorem x7 {b:Sq Sk}{p c a:Sp}(d:1<=c)(e:c<=8)(f:a+c=8*p):qq b p c%2=cD b a:=by
 unfold qq cD;rw[show a/8=p-1 from Z,show a%8=8-c from Z]
end Go.Cl.Bt