import Derived.Test.YtdfjfncifneocaaGreatUnhexP
open _root_ renaming reduceIte->ab,eq_false->an,eq_true->av,Int->a0,if_pos->a1,if_neg->a2,UInt8->a3,List->a7,Nat->a8,and_self->bz,absurd->cB,true_and->c3
open Go.Proofs.Tryz renaming underlying22->af,underlying134->ao,results112->a4,results68->a6,results67->a9,prog->bg,underlying3->bo,underlying5->bq,underlying187->b5,underlying21->cb,results113->cR,results69->c0
open Int renaming fdiv_eq_ediv_of_nonneg->a5,toNat_natCast->b8
open List renaming getD_eq_getElem?_getD->bb,getElem?_eq_getElem->bk,length_append->bl,replicate->b7,drop_eq_nil_of_le->cd,getElem?_eq_none->cm,length_replicate->cp,append_assoc->cv,getElem_mem->cx,length_take->cA
open Go.IntKind renaming u64->b4,i64->cc,i32->cH,wrap->c4
open UInt8 renaming ofNat->ca
open BitVec renaming ofInt->cf
open Go renaming Value->cg
open Nat renaming reduceLT->QS,reduceEqDiff->Qx
set_option maxHeartbeats 4000000
set_option linter.unusedSimpArgs false
set_option linter.unusedVariables false
set_option maxRecDepth 100000
namespace Go.Proofs.YtdfjfncifneocaaGreat
open Go.Cl Go.Cl.Uh
def Ga (M:a0):a7 a3->a0->a7 a3->a7 a3×a0
 |[],_,_=>([],2)
 |c::r,h,P=>
  if fZ c.toNat then Ga M r h P
  else if(c.toNat:a0)=62 then(if h<0 then(P,0) else if M-P.length<1 then([],7) else(P++[AU (h.toNat*16)],0))
  else if digit c.toNat<0 then([],4)
  else if h<0 then Ga M r (digit c.toNat) P
  else if M-P.length<1 then([],7) else Ga M r (-1) (P++[AU (h.toNat*16+(digit c.toNat).toNat)])
theorem Xv (c:a0):digit c<16:=by unfold digit;repeat (first|(split;all_goals try omega)|omega)
theorem El:∀r:a7 a3,(sign r=(-1,[])/\∀M h P,Ga M r h P=([],2))\/∃(c:a3) (r' :a7 a3),sign r=((c.toNat:a0),r')/\fZ c.toNat=false/\r'.length<r.length/\∀M h P,Ga M r h P=Ga M (c::r') h P
 |[]=> .inl ⟨rfl,fun _ _ _=>rfl⟩
 |c::r=>by
  by_cases hw:fZ (c.toNat:a0)=true
  ·rcases El r with ⟨h1,h2⟩|⟨c',r',h1,h2,h3,h4⟩
   ·refine .inl ⟨by simp only[sign];rw[a1 hw,h1],fun M h P=> ?_⟩
    rw[Ga,a1 hw];exact h2 M h P
   ·refine .inr ⟨c',r',by simp only[sign];rw[a1 hw,h1],h2,by simp;omega,fun M h P=> ?_⟩
    rw[Ga,a1 hw];exact h4 M h P
  ·exact .inr ⟨c,r,by simp only[sign];rw[a2 hw],by simpa using hw,by simp,fun _ _ _=>rfl⟩
theorem HK {lib:aA}(hl:lib.at 111=none)(A:a8->Prop)(base:a8)(s:aq)(j:a8)(r P:a7 a3)(c:a3)(M:a0)(b:cg)(h:mK A base s j r P M)(hb:base<=s.next)(hd:Own s 1 b 1 [.int .u8 c.toNat])(hP:P.length<=2147483648)(TL:0<=M)(hM:M<9223372036854775808):
  Runs bg lib 111 [gI j,b] s fun v s' =>v= .int .i64 (if M-P.length<1 then 7 else 0)/\mK A base s' j r (if M-P.length<1 then P else P++[c]) M/\ar base s s' /\Still A s s' :=by
 refine(tR hl A base s j r P [c] M b h hb hd.aG (by simp) hP TL hM).mono ?_
 intro v s' h
 simpa using h
theorem TM {lib:aA}(hl:lib.at 67=none)(oI:lib.at 108=none)(jL:lib.at 100=none)(E4:lib.at 109=none)(Gb:lib.at 111=none)(fz:lib.at 110=none)
  (Kf:lib.at 156=none) (zP:lib.at 155=none) (kr:lib.at 192=none) (kW:lib.at 186=none) (jn:lib.at 209=none) (g7:lib.at 105=none)
  (s:aq) (x:cg) (l:a7 a3) (most M:a0) (hMM:(if most<0 then 0 else most)=M) (hx:aN s 1 x l.length (ofBytes l)) (hlen:l.length<=4000000) (hm:most<9223372036854775808):
  Runs bg lib 67 [x,.int .i64 most] s (tQ s.next s (Ga M l (-1) []).1 (Ga M l (-1) []).2):=by
 have TL:0<=M:=by rw[<-hMM];split<;>omega
 have hM1:M<9223372036854775808:=by rw[<-hMM];split<;>omega
 refine Runs.enter 65 Tryz.func67 rfl hl rfl rfl ?_
 intro f hn hf
 have h0:f.get 0=x:=hf 0
 have h1:f.get 1= .int .i64 most:=hf 1
 clear hf
 simp only[aj,ak,aa,QS,Qx,↓ab,hn,h0,h1]
 refine(AS (fun _=>False) oI jL s.next s x l most hx.low (Nat.le_refl _) (by omega) (fun _ h=>h.elim)).mono ?_
 rintro _ s1 ⟨j,rfl,hR,aE⟩
 rw[hMM] at hR
 simp only[aj,QS,↓ab,hn]
 refine Comes.eZ (fun q f s' =>∃r h P,q=r.length/\Ga M r h P=Ga M l (-1) []/\P.length+r.length<=l.length/\h<16/\mK (fun _=>False) s.next s' j r P M/\ar s.next s s' /\f.n=65/\f.get 6=gI j/\f.get 7= .int .i64 h) ⟨l,-1,[],rfl,rfl,by simp,by omega,hR,aE,by simp only[ad,ag,↓ab,Qx,hn,bz]⟩ ?_
 clear hn h0 h1 f hR aE s1
 rintro q f s1 ⟨r,h,P,rfl,hu,hPr,as2,hR,aE,hn,h6,h7⟩
 have gL:=aE.next
 simp only[aj,ak,aa,QS,↓ab,hn,h6]
 refine(ye E4 Kf zP kr kW jn g7 _ s.next s1 j r P M hR gL).mono ?_
 rintro _ s2 ⟨rfl,iu,aR,_⟩
 have dE:=aE.trans aR
 have dI:=dE.next
 simp only[aj,ak,aa,QS,↓ab,hn]
 refine(TK fz s2 _).mono ?_
 rintro _ s2 ⟨rfl,rfl⟩
 rcases El r with ⟨hs,Fg⟩|⟨c,r',hs,hw,KM,Fg⟩
 ·have e1:(sign r).1= -1:=by rw[hs]
  rw[Fg] at hu
  simp only[aj,al,oneOf,QS,Qx,↓ab,hn,e1,show((-1:a0)<0)=True from av (by decide),<-hu,a9]
  exact⟨_,rfl,.nil,aF.nil _,dE⟩
 ·have e1:(sign r).1=(c.toNat:a0):=by rw[hs]
  have e2:(sign r).2=r' :=by rw[hs]
  rw[e2] at iu
  rw[Fg,Ga,a2 (by rw[hw];decide)] at hu
  have Je:¬(c.toNat:a0)<0:=by omega
  have hdg:=Xv c.toNat
  have hcr:P.length+r'.length<l.length:=by omega
  have hPl:P.length<=2147483648:=by omega
  by_cases c62:(c.toNat:a0)=62
  ·rw[a1 c62] at hu
   by_cases hh:h<0
   ·rw[a1 hh] at hu
    obtain⟨i,o,l',p,mO,eU,ht,hc,ho,hF,hj,ux,fN,ua,Zx⟩:=id iu
    have ll:=ht.load (P:=bg) fU (off:=2) (c:=4) rfl (by simp)
    simp only[aj,ak,al,oneOf,QS,Qx,↓ab,hn,h6,h7,e1,Je,av c62,av hh,qw,ll,<-hu,a9]
    exact⟨o,rfl,ho,hF,dE⟩
   ·rw[a2 hh] at hu
    obtain⟨n,rfl⟩:∃n:a8,h=n:=⟨h.toNat,by omega⟩
    rw[b8] at hu
    have hv:((n:a0)*16)%256=((AU (n*16)).toNat:a0):=by rw[HJ (by omega)];omega
    simp(disch:=omega)only[aj,ak,ae,QS,Qx,↓ab,hn,h6,h7,e1,Je,av c62,an hh,aiL,aD,bL bo bq,fu,hv,gG af bK ks]
    refine aQ (by simp) ?_
    intro b s3 hb Oo bC
    simp(disch:=omega)only[aj,ak,aa,QS,Qx,↓ab,hn]
    refine(HK Gb _ s.next s3 j r' P _ M b (iu.keeps dI bC) (by have:=bC.next;omega) hb hPl TL hM1).mono ?_
    rintro _ s4 ⟨rfl,yE,dX,_⟩
    have jC:=dE.trans ((bC.weaken dI).trans dX)
    by_cases kD:M-(P.length:a0)<1
    ·rw[a1 kD] at hu
     simp only[aj,ak,al,oneOf,QS,Qx,↓ab,hn,av kD,show((7:a0)=0)=False from an (by decide),<-hu,a9]
     exact⟨_,rfl,.nil,aF.nil _,jC⟩
    ·rw[a2 kD] at hu yE
     obtain⟨i,o,l',p,mO,eU,ht,hc,ho,hF,hj,ux,fN,ua,Zx⟩:=id yE
     have ll:=ht.load (P:=bg) fU (off:=2) (c:=4) rfl (by simp)
     simp only[aj,ak,al,oneOf,QS,Qx,↓ab,hn,h6,an kD,qw,ll,<-hu,a9]
     exact⟨o,rfl,ho,hF,jC⟩
  ·rw[a2 c62] at hu
   by_cases hd:digit c.toNat<0
   ·rw[a1 hd] at hu
    simp only[aj,ak,al,oneOf,QS,Qx,↓ab,hn,e1,Je,an c62,av hd,show((4:a0)=0)=False from an (by decide),<-hu,a9]
    exact⟨_,rfl,.nil,aF.nil _,dE⟩
   ·rw[a2 hd] at hu
    by_cases hh:h<0
    ·rw[a1 hh] at hu
     simp only[aj,ak,QS,Qx,↓ab,hn,h7,e1,Je,an c62,an hd,av hh]
     refine ay r'.length (by omega) ⟨r',_,P,rfl,hu,by omega,hdg,iu,dE,by simp only[ad,ag,↓ab,Qx,hn,h6,bz]⟩
    ·rw[a2 hh] at hu
     obtain⟨n,rfl⟩:∃n:a8,h=n:=⟨h.toNat,by omega⟩
     obtain⟨d,hdd⟩:∃d:a8,digit c.toNat=d:=⟨(digit c.toNat).toNat,by omega⟩
     rw[hdd,b8,b8] at hu
     rw[hdd] at hd
     have hv:((n*16+d:a8):a0)%256=((AU (n*16+d)).toNat:a0):=by rw[HJ (by omega)];omega
     simp(disch:=omega)only[aj,ak,ae,QS,Qx,↓ab,hn,h6,h7,e1,Je,an c62,hdd,an hd,an hh,aiL,aD,jV,aaT,bL bo bq,fu,hv,gG af bK ks]
     refine aQ (by simp) ?_
     intro b s3 hb Oo bC
     simp(disch:=omega)only[aj,ak,aa,QS,Qx,↓ab,hn]
     refine(HK Gb _ s.next s3 j r' P _ M b (iu.keeps dI bC) (by have:=bC.next;omega) hb hPl TL hM1).mono ?_
     rintro _ s4 ⟨rfl,yE,dX,_⟩
     have jC:=dE.trans ((bC.weaken dI).trans dX)
     by_cases kD:M-(P.length:a0)<1
     ·rw[a1 kD] at hu
      simp only[aj,ak,al,oneOf,QS,Qx,↓ab,hn,av kD,show((7:a0)=0)=False from an (by decide),<-hu,a9]
      exact⟨_,rfl,.nil,aF.nil _,jC⟩
     ·rw[a2 kD] at hu yE
      simp only[aj,ak,QS,Qx,↓ab,hn,an kD]
      refine ay r'.length (by omega) ⟨r',_,_,rfl,hu,by simp;omega,by omega,yE,jC,by simp only[ad,ag,↓ab,Qx,hn,h6,bz]⟩
def fC (g:a7 a8):a8->a8
 |0=>0
 |k+1=>fC g k*85+g.getD k 84
theorem Em {g:a7 a8}(h:∀d∈g,d<85):∀k,fC g k<85^k
 |0=>by simp[fC]
 |k+1=>by
  have:=Em h k
  have hd:g.getD k 84<85:=by
   rw[bb]
   by_cases hk:k<g.length
   ·rw[bk hk];exact h _ (cx hk)
   ·rw[cm (by omega)];decide
  simp only[fC,Nat.pow_succ];omega
def zF (x:a8):a7 a3:=[ca (x/16777216),ca (x/65536),ca (x/256),ca x]
def ur (M:a0)(g:a7 a8)(n:a8)(P:a7 a3):a7 a3×a0:=
 if 4294967295<fC g 5 then(P,4) else if M-P.length<n then(P,7) else(P++(zF (fC g 5)).take n,0)
def rE (M:a0)(r:a7 a3)(g:a7 a8)(P:a7 a3):a7 a3×a0:=
 if g.length=1 then([],4)
 else if 1<g.length/\(ur M g (g.length-1) P).2≠0 then([],(ur M g (g.length-1) P).2)
 else if(sign r).1<0 then([],2)
 else if(sign r).1=62 then(if 1<g.length then(ur M g (g.length-1) P).1 else P,0)
 else([],4)
def sy (M:a0):a7 a3->a7 a8->a7 a3->a7 a3×a0
 |[],_,_=>([],2)
 |c::r,g,P=>
  if fZ c.toNat then sy M r g P
  else if(c.toNat:a0)=126 then rE M r g P
  else if(c.toNat:a0)=122/\g=[] then(if M-P.length<4 then([],7) else sy M r [] (P++[0,0,0,0]))
  else if c.toNat<33\/117<c.toNat then([],4)
  else if g.length=4 then(if(ur M (g++[c.toNat-33]) 4 P).2=0 then sy M r [] (ur M (g++[c.toNat-33]) 4 P).1 else([],(ur M (g++[c.toNat-33]) 4 P).2))
  else sy M r (g++[c.toNat-33]) P
def tS (a:a8)(g:a7 a8):a7 cg:=g.map fun d=> .int .i64 ((d+a:a8):a0)
theorem Ml {a:a8}{g:a7 a8}{i:a8}(h:i<g.length):(tS a g).getD i undef= .int .i64 ((g.getD i 84+a:a8):a0):=by
 simp[tS,List.getD,bk h]
theorem Ri {x:a0}(h0: -2147483648<=x)(h:x<2147483648):cH.wrap x=x:=by
 have e1:cH.bits=32:=rfl
 have e2:cH.signed=true:=rfl
 simp only[c4,e1,e2,Bool.true_and]
 simp
 omega
theorem Rj {x:a0}(h0:0<=x)(h:x<18446744073709551616):b4.wrap x=x:=by
 have e1:b4.bits=64:=rfl
 have e2:b4.signed=false:=rfl
 simp only[c4,e1,e2,Bool.false_and]
 simp
 omega
theorem Xw (P:Program)(t:TypeId)(k' :IntKind)(x:a8):cQ P .shr t (.int .u64 x) (.int k' 24)=some (.int .u64 ((x/16777216:a8):a0))/\cQ P .shr t (.int .u64 x) (.int k' 16)=some (.int .u64 ((x/65536:a8):a0))/\cQ P .shr t (.int .u64 x) (.int k' 8)=some (.int .u64 ((x/256:a8):a0)):=by
 refine⟨?_,?_,?_⟩
 ·rw[lS P t .u64 _ 24 k' (by decide)]
  have:((x:a0)).fdiv (2^(min (24:a0).toNat b4.bits))=((x/16777216:a8):a0):=by
   show((x:a0)).fdiv 16777216=_
   rw[a5 _ (by omega)];omega
  rw[this]
 ·rw[lS P t .u64 _ 16 k' (by decide)]
  have:((x:a0)).fdiv (2^(min (16:a0).toNat b4.bits))=((x/65536:a8):a0):=by
   show((x:a0)).fdiv 65536=_
   rw[a5 _ (by omega)];omega
  rw[this]
 ·rw[lS P t .u64 _ 8 k' (by decide)]
  have:((x:a0)).fdiv (2^(min (8:a0).toNat b4.bits))=((x/256:a8):a0):=by
   show((x:a0)).fdiv 256=_
   rw[a5 _ (by omega)];omega
  rw[this]
theorem aaU (x:a8):((x:a0))%256=(((ca x).toNat:a8):a0):=by rw[UInt8.toNat_ofNat'];omega
theorem Mm {lib:aA}(hl:lib.at 113=none)(Gb:lib.at 111=none)(A:a8->Prop)(base:a8)(s:aq)(j:a8)(r P:a7 a3)(M:a0)(g:a7 a8)(v:cg)(n:a8)(h:mK A base s j r P M)(hb:base<=s.next)(hv:aN s 1 v g.length (tS 33 g))(hg:∀d∈g,d<85)(vY:n<=4)(hP:P.length<=2147483648)(TL:0<=M)(hM:M<9223372036854775808):
  Runs bg lib 113 [gI j,v,.int .i64 n] s fun w s' =>w= .int .i64 (ur M g n P).2/\mK A base s' j r (ur M g n P).1 M/\ar base s s' /\Still A s s' :=by
 refine Runs.enter 47 Tryz.func113 rfl hl rfl rfl ?_
 intro f hn hf
 have h0:f.get 0=gI j:=hf 0
 have h1:f.get 1=v:=hf 1
 have h2:f.get 2= .int .i64 n:=hf 2
 clear hf
 simp(disch:=omega)only[aj,QS,↓ab,hn]
 refine Comes.bQ (fun q f s' =>∃k:a8,q=5-k/\k<=5/\s' =s/\f.n=47/\f.get 0=gI j/\f.get 1=v/\f.get 2= .int .i64 n/\f.get 7= .int .u64 (fC g k)/\f.get 10= .int .i64 k)
  (fun y f s' =>y= .exit 0/\s' =s/\f.n=47/\f.get 0=gI j/\f.get 2= .int .i64 n/\f.get 7= .int .u64 (fC g 5))
  ⟨0,rfl,by omega,rfl,by simp only[ag,hn],by simp only[ad,↓ab,Qx,h0],by simp only[ad,↓ab,Qx,h1],by simp only[ad,↓ab,Qx,h2],by simp only[ad,↓ab,Qx];rfl,by simp only[ad,↓ab];rfl⟩ ?_ ?_
 ·clear hn h0 h1 h2 f
  rintro Q hQ q f s1 ⟨k,rfl,hk,kC,hn,h0,h1,h2,h7,eX⟩
  subst kC
  by_cases hk5:k<5
  ·have aaV:(k:a0)<5:=by omega
   have as4:fC g k<52200626:=by
    have:=Em hg k
    have h2:85^k<=85^4:=Nat.pow_le_pow_right (by omega) (by omega)
    have h3:(85:a8)^4=52200625:=by decide
    omega
   by_cases hkg:k<g.length
   ·obtain⟨d,hd⟩:∃d,d=g.getD k 84:=⟨_,rfl⟩
    have aiM:d<85:=by rw[hd,bb,bk hkg];exact hg _ (cx hkg)
    have e:((d+33:a8):a0)-33=(d:a0):=by omega
    have Ed:((fC g k:a8):a0)*85+(d:a0)=((fC g (k+1):a8):a0):=by simp only[fC];rw[<-hd];omega
    simp(disch:=omega)only[aj,aa,QS,Qx,↓ab,hn,h1,h7,eX,av aaV,hv.bm ao,hkg,hv.indexAddr ao bA,hv.di bu,Ml,<-hd,bL bo cb,Ri,e,bL cb b5,Rj,Ed,aD]
    refine ay (5-(k+1)) (by omega) ⟨k+1,rfl,by omega,rfl,by simp only[ag,hn],by simp only[ad,↓ab,Qx,h0],by simp only[ad,↓ab,Qx,h1],by simp only[ad,↓ab,Qx,h2],by simp only[ad,↓ab,Qx],by simp only[ad,↓ab];rfl⟩
   ·have Ed:((fC g k:a8):a0)*85+84=((fC g (k+1):a8):a0):=by
     have:g.getD k 84=84:=by rw[bb,cm (by omega)];rfl
     simp only[fC];rw[this];omega
    have e:(117:a0)-33=84:=by decide
    simp(disch:=omega)only[aj,aa,QS,Qx,↓ab,hn,h1,h7,eX,av aaV,hv.bm ao,hkg,e,Ri,bL cb b5,Rj,Ed,aD]
    refine ay (5-(k+1)) (by omega) ⟨k+1,rfl,by omega,rfl,by simp only[ag,hn],by simp only[ad,↓ab,Qx,h0],by simp only[ad,↓ab,Qx,h1],by simp only[ad,↓ab,Qx,h2],by simp only[ad,↓ab,Qx],by simp only[ad,↓ab];rfl⟩
  ·obtain rfl:k=5:=by omega
   have aaV:¬((5:a8):a0)<5:=by omega
   simp(disch:=omega)only[aj,QS,↓ab,hn,eX,an aaV]
   exact hQ _ _ _ ⟨rfl,rfl,by simp only[ag,hn],by simp only[ad,↓ab,Qx,h0],by simp only[ad,↓ab,Qx,h2],by simp only[ad,↓ab,Qx,h7]⟩
 ·clear hn h0 h1 h2 f
  rintro _ f s1 ⟨rfl,kC,hn,h0,h2,h7⟩
  subst kC
  obtain⟨x,hx⟩:∃x,x=fC g 5:=⟨_,rfl⟩
  have hx5:=Em hg 5
  have h5:(85:a8)^5=4437053125:=by decide
  unfold ur
  rw[<-hx] at h7 hx5|-
  by_cases Fj:4294967295<x
  ·have pL:(4294967295:a0)<(x:a0):=by omega
   simp only[a1 Fj]
   simp(disch:=omega)only[aj,al,oneOf,QS,↓ab,hn,h7,av pL,cR]
   exact⟨h,ar.refl _ _,Still.refl _ _⟩
  ·have pL:¬(4294967295:a0)<(x:a0):=by omega
   simp only[a2 Fj]
   simp(disch:=omega)only[aj,ae,QS,Qx,↓ab,hn,h0,h7,an pL,(Xw _ _ _ _).1,(Xw _ _ _ _).2.1,(Xw _ _ _ _).2.2,bL b5 bq,fu,aaU,N7 af bK ks]
   refine aQ (by simp) ?_
   intro b s2 dI Oo aR
   have dx:=dI.aG.p9 (l:=zF x) (lo:=0) (hi:=n) (by omega) (by show n<=4;omega)
   rw[List.drop_zero,Nat.sub_zero] at dx
   have bd:((zF x).take n).length=n:=by rw[cA];show min n 4=n;omega
   simp(disch:=omega)only[aj,ak,aa,ai,QS,Qx,↓ab,hn,h2,dI.aG.iS af bK]
   refine(tR Gb A base s2 j r P ((zF x).take n) M _ (h.keeps hb aR) (Nat.le_trans hb aR.next) dx (by omega) hP TL hM).mono ?_
   rintro _ s3 ⟨rfl,AQ,bC,anq⟩
   rw[bd] at AQ
   simp(disch:=omega)only[aj,al,oneOf,QS,↓ab,hn,bd,cR]
   refine⟨?_,?_,(aR.weaken hb).trans bC,(h.still aR).trans anq⟩
   ·split<;>rfl
   ·split
    ·rename_i h;rw[a1 h] at AQ;exact AQ
    ·rename_i h;rw[a2 h] at AQ;exact AQ
def Ends (A:a8->Prop)(base:a8)(s:aq)(j:a8)(M:a0)(z:a7 a3×a0)(w:cg)(s' :aq):Prop:=
 w= .int .i64 z.2/\(∃r' P',mK A base s' j r' P' M/\(z.2=0->P' =z.1))/\ar base s s' /\Still A s s'
theorem aaW {lib:aA}(hl:lib.at 112=none)(J5:lib.at 113=none)(E4:lib.at 109=none)(Gb:lib.at 111=none)(Kf:lib.at 156=none)(zP:lib.at 155=none)(kr:lib.at 192=none)(kW:lib.at 186=none)(jn:lib.at 209=none)(g7:lib.at 105=none)
  (A:a8->Prop) (base:a8) (s:aq) (j:a8) (r P:a7 a3) (M:a0) (g:a7 a8) (v:cg) (h:mK A base s j r P M) (hb:base<=s.next) (hv:aN s 1 v g.length (tS 33 g)) (hg:∀d∈g,d<85) (hg4:g.length<=4) (hP:P.length<=2147483648) (TL:0<=M) (hM:M<9223372036854775808):
  Runs bg lib 112 [gI j,v] s (Ends A base s j M (rE M r g P)):=by
 refine Runs.enter 30 Tryz.func112 rfl hl rfl rfl ?_
 intro f hn hf
 have h0:f.get 0=gI j:=hf 0
 have h1:f.get 1=v:=hf 1
 clear hf
 by_cases c1:g.length=1
 ·have uE:(g.length:a0)=1:=by omega
  have hz:rE M r g P=([],4):=by unfold rE;rw[a1 c1]
  simp only[aj,al,oneOf,aa,QS,Qx,↓ab,hn,h1,hv.bm ao,av uE,hz,a4]
  exact⟨rfl,⟨r,P,h,fun e=>cB e (by decide)⟩,ar.refl _ _,Still.refl _ _⟩
 ·have uE:¬(g.length:a0)=1:=by omega
  by_cases c2:1<g.length
  ·have D3:(1:a0)<(g.length:a0):=by omega
   have e:(g.length:a0)-1=((g.length-1:a8):a0):=by omega
   simp(disch:=omega)only[aj,ak,aa,QS,Qx,↓ab,hn,h0,h1,hv.bm ao,an uE,av D3,e,aD]
   refine(Mm J5 Gb A base s j r P M g v (g.length-1) h hb hv hg (by omega) hP TL hM).mono ?_
   rintro _ s1 ⟨rfl,pH,bn,aiN⟩
   obtain⟨y,hy⟩:∃y,y=ur M g (g.length-1) P:=⟨_,rfl⟩
   rw[<-hy] at pH
   by_cases kF:y.2=0
   ·have hz:rE M r g P=(if(sign r).1<0 then([],2) else if(sign r).1=62 then(y.1,0) else([],4)):=by
     unfold rE;rw[a2 c1,<-hy,a2 (by simp[kF]),a1 c2]
    simp only[aj,ak,aa,QS,Qx,↓ab,hn,h0,<-hy,av kF]
    refine(ye E4 Kf zP kr kW jn g7 A base s1 j r y.1 M pH (Nat.le_trans hb bn.next)).mono ?_
    rintro _ s2 ⟨rfl,iu,aR,Pj⟩
    have pE:=aiN.trans Pj
    have aE:=bn.trans aR
    rw[hz]
    by_cases d1:(sign r).1<0
    ·simp only[aj,al,oneOf,QS,↓ab,hn,av d1,a4]
     exact⟨rfl,⟨_,_,iu,fun e=>cB e (by decide)⟩,aE,pE⟩
    ·by_cases d2:(sign r).1=62
     ·simp only[aj,ak,al,oneOf,QS,Qx,↓ab,hn,an d1,av d2,a4]
      exact⟨rfl,⟨_,_,iu,fun _=>rfl⟩,aE,pE⟩
     ·simp only[aj,ak,al,oneOf,QS,Qx,↓ab,hn,an d1,an d2,a4]
      exact⟨rfl,⟨_,_,iu,fun e=>cB e (by decide)⟩,aE,pE⟩
   ·have hz:rE M r g P=([],y.2):=by unfold rE;rw[a2 c1,<-hy,a1 ⟨c2,kF⟩]
    rw[hz]
    simp only[aj,ak,al,oneOf,QS,Qx,↓ab,hn,<-hy,an kF,a4]
    exact⟨rfl,⟨_,_,pH,fun e=>cB e kF⟩,bn,aiN⟩
  ·have D3:¬(1:a0)<(g.length:a0):=by omega
   have hz:rE M r g P=(if(sign r).1<0 then([],2) else if(sign r).1=62 then(P,0) else([],4)):=by
    unfold rE;rw[a2 c1,a2 (by simp[c2]),a2 c2]
   simp only[aj,ak,aa,QS,Qx,↓ab,hn,h0,h1,hv.bm ao,an uE,an D3]
   refine(ye E4 Kf zP kr kW jn g7 A base s j r P M h hb).mono ?_
   rintro _ s2 ⟨rfl,iu,aE,pE⟩
   rw[hz]
   by_cases d1:(sign r).1<0
   ·simp only[aj,al,oneOf,QS,↓ab,hn,av d1,a4]
    exact⟨rfl,⟨_,_,iu,fun e=>cB e (by decide)⟩,aE,pE⟩
   ·by_cases d2:(sign r).1=62
    ·simp only[aj,ak,al,oneOf,QS,Qx,↓ab,hn,an d1,av d2,a4]
     exact⟨rfl,⟨_,_,iu,fun _=>rfl⟩,aE,pE⟩
    ·simp only[aj,ak,al,oneOf,QS,Qx,↓ab,hn,an d1,an d2,a4]
     exact⟨rfl,⟨_,_,iu,fun e=>cB e (by decide)⟩,aE,pE⟩
theorem HL {s s' :aq}{z:a8}{v:cg}{n:a8}{l:a7 cg}(h:Own s z v n l)(hn:s.next<=s'.next)(k:Still (fun k=>aI v=some k) s s'):Own s' z v n l:=by
 cases h with
 |nil=>exact .nil
 |of i n low l hi hb hl hlen=>
  refine .of i n low l (Nat.lt_of_lt_of_le hi hn) ?_ hl hlen
  simp only[aq.bR,k i rfl];exact hb
theorem Mn:∀r:a7 a3,(sign r=(-1,[])/\∀M g P,sy M r g P=([],2))\/∃(c:a3) (r' :a7 a3),sign r=((c.toNat:a0),r')/\fZ c.toNat=false/\r'.length<r.length/\∀M g P,sy M r g P=sy M (c::r') g P
 |[]=> .inl ⟨rfl,fun _ _ _=>rfl⟩
 |c::r=>by
  by_cases hw:fZ (c.toNat:a0)=true
  ·rcases Mn r with ⟨h1,h2⟩|⟨c',r',h1,h2,h3,h4⟩
   ·refine .inl ⟨by simp only[sign];rw[a1 hw,h1],fun M h P=> ?_⟩
    rw[sy,a1 hw];exact h2 M h P
   ·refine .inr ⟨c',r',by simp only[sign];rw[a1 hw,h1],h2,by simp;omega,fun M h P=> ?_⟩
    rw[sy,a1 hw];exact h4 M h P
  ·exact .inr ⟨c,r,by simp only[sign];rw[a2 hw],by simpa using hw,by simp,fun _ _ _=>rfl⟩
theorem Xx {M:a0}{r:a7 a3}{g:a7 a8}{P:a7 a3}(h:(rE M r g P).2≠0):(rE M r g P).1=[]:=by
 unfold rE at h|-
 split
 ·rfl
 ·split
  ·rfl
  ·split
   ·rfl
   ·split
    ·rename_i h1 h2 h3 h4;rw[a2 h1,a2 h2,a2 h3,a1 h4] at h;exact cB rfl h
    ·rfl
theorem aaX (M:a0)(g:a7 a8)(n:a8)(P:a7 a3)(hn:n<=4):(ur M g n P).1.length<=P.length+4:=by
 unfold ur;split
 ·simp
 ·split
  ·simp
  ·simp[zF];omega
theorem Pk {lib:aA}(hl:lib.at 68=none)(hle:lib.at 112=none)(J5:lib.at 113=none)(oI:lib.at 108=none)(jL:lib.at 100=none)(E4:lib.at 109=none)(Gb:lib.at 111=none)
  (Kf:lib.at 156=none) (zP:lib.at 155=none) (kr:lib.at 192=none) (kW:lib.at 186=none) (jn:lib.at 209=none) (g7:lib.at 105=none)
  (s:aq) (x:cg) (l:a7 a3) (most M:a0) (hMM:(if most<0 then 0 else most)=M) (hx:aN s 1 x l.length (ofBytes l)) (hlen:l.length<=4000000) (hm:most<9223372036854775808):
  Runs bg lib 68 [x,.int .i64 most] s (tQ s.next s (sy M l [] []).1 (sy M l [] []).2):=by
 have TL:0<=M:=by rw[<-hMM];split<;>omega
 have hM1:M<9223372036854775808:=by rw[<-hMM];split<;>omega
 refine Runs.enter 61 Tryz.func68 rfl hl rfl rfl ?_
 intro f hn hf
 have h0:f.get 0=x:=hf 0
 have h1:f.get 1= .int .i64 most:=hf 1
 clear hf
 simp only[aj,ak,aa,QS,Qx,↓ab,hn,h0,h1]
 refine(AS (fun k=>aI (.slice none 0 0)=some k) oI jL s.next s x l most hx.low (Nat.le_refl _) (by omega) (fun _ h=>by cases h)).mono ?_
 rintro _ s1 ⟨j,rfl,hR,aE⟩
 rw[hMM] at hR
 simp only[aj,QS,↓ab,hn]
 refine Comes.eZ (fun q f s' =>∃r g P v,q=r.length/\sy M r g P=sy M l [] []/\P.length+4*r.length<=4*l.length/\g.length<=4/\(∀d∈g,d<85)/\Own s' 1 v g.length (tS 33 g)/\aF s.next v/\mK (fun k=>aI v=some k) s.next s' j r P M/\ar s.next s s' /\f.n=61/\f.get 6=gI j/\f.get 7=v) ⟨l,[],[],_,rfl,rfl,by simp,by simp,by simp,.nil,aF.nil _,hR,aE,by simp only[ad,ag,↓ab,Qx,hn,bz]⟩ ?_
 clear hn h0 h1 f hR aE s1
 rintro q f s1 ⟨r,g,P,v,rfl,hu,hPr,hg4,aiO,hv,J9,hR,aE,hn,h6,h7⟩
 have gL:=aE.next
 simp only[aj,ak,aa,QS,↓ab,hn,h6]
 refine(ye E4 Kf zP kr kW jn g7 _ s.next s1 j r P M hR gL).mono ?_
 rintro _ s2 ⟨rfl,iu,aR,Pj⟩
 have dE:=aE.trans aR
 have dI:=dE.next
 have Ke:=HL hv aR.next Pj
 rcases Mn r with ⟨hs,Fg⟩|⟨c,r',hs,hw,KM,Fg⟩
 ·have e1:(sign r).1= -1:=by rw[hs]
  rw[Fg] at hu
  simp only[aj,al,oneOf,QS,Qx,↓ab,hn,e1,show((-1:a0)<0)=True from av (by decide),<-hu,a6]
  exact⟨_,rfl,.nil,aF.nil _,dE⟩
 ·have e1:(sign r).1=(c.toNat:a0):=by rw[hs]
  have e2:(sign r).2=r' :=by rw[hs]
  rw[e2] at iu
  rw[Fg,sy,a2 (by rw[hw];decide)] at hu
  have Je:¬(c.toNat:a0)<0:=by omega
  have hPl:P.length<=2147483648:=by omega
  by_cases Mo:(c.toNat:a0)=126
  ·rw[a1 Mo] at hu
   simp only[aj,ak,aa,QS,Qx,↓ab,hn,h6,h7,e1,Je,av Mo]
   refine(aaW hle J5 E4 Gb Kf zP kr kW jn g7 _ s.next s2 j r' P M g v iu dI Ke.aG aiO hg4 hPl TL hM1).mono ?_
   rintro _ s3 ⟨rfl,⟨r3,P3,AQ,hP3⟩,bC,_⟩
   have gj:=dE.trans bC
   obtain⟨y,hy⟩:∃y,y=rE M r' g P:=⟨_,rfl⟩
   rw[<-hy] at hP3 hu
   by_cases kF:y.2=0
   ·obtain⟨i,o,l',p,mO,eU,ht,hc,ho,hF,hj,ux,fN,ua,Zx⟩:=id AQ
    have ll:=ht.load (P:=bg) fU (off:=2) (c:=4) rfl (by simp)
    simp only[aj,ak,al,oneOf,QS,Qx,↓ab,hn,h6,<-hy,av kF,qw,ll,<-hu,a6]
    rw[hP3 kF] at ho
    exact⟨o,by rw[kF],ho,hF,gj⟩
   ·have Qa:y.1=[]:=by rw[hy];exact Xx (by rw[<-hy];exact kF)
    simp only[aj,ak,al,oneOf,QS,Qx,↓ab,hn,<-hy,an kF,<-hu,Qa,a6]
    exact⟨_,rfl,.nil,aF.nil _,gj⟩
  ·rw[a2 Mo] at hu
   by_cases cz:(c.toNat:a0)=122/\g=[]
   ·obtain⟨Mp,rfl⟩:=cz
    rw[a1 ⟨Mp,rfl⟩] at hu
    simp only[aj,ak,aa,ae,QS,Qx,↓ab,hn,h6,h7,e1,Je,an Mo,av Mp,Ke.aG.bm ao,List.length_nil,Int.natCast_zero,N7 af bK ks]
    refine aQ (by simp) ?_
    intro b s3 hb Oo bC
    simp only[aj,ak,aa,QS,Qx,↓ab,hn]
    refine(tR Gb _ s.next s3 j r' P [0,0,0,0] M b (iu.keeps dI bC) (Nat.le_trans dI bC.next) hb.aG (by simp) hPl TL hM1).mono ?_
    rintro _ s4 ⟨rfl,yE,dX,anr⟩
    have jC:=dE.trans ((bC.weaken dI).trans dX)
    have hv4:=HL (Ke.keeps bC) dX.next anr
    have e4:((([0,0,0,0]:a7 a3).length:a8):a0)=4:=rfl
    rw[e4] at yE
    by_cases kD:M-(P.length:a0)<4
    ·rw[a1 kD] at hu
     simp only[aj,ak,al,oneOf,QS,Qx,↓ab,hn,e4,av kD,show((7:a0)=0)=False from an (by decide),<-hu,a6]
     exact⟨_,rfl,.nil,aF.nil _,jC⟩
    ·rw[a2 kD] at hu yE
     simp only[aj,ak,QS,↓ab,hn,e4,an kD]
     refine ay r'.length (by omega) ⟨r',[],_,v,rfl,hu,by simp;omega,by simp,by simp,hv4,J9,yE,jC,by simp only[ad,ag,↓ab,Qx,hn,h6,h7,bz]⟩
   ·rw[a2 cz] at hu
    by_cases Mp:(c.toNat:a0)=122
    ·have hgl:¬(g.length:a0)=0:=fun e=>cz ⟨Mp,List.eq_nil_of_length_eq_zero (by omega)⟩
     have d1:¬(c.toNat:a0)<33:=by omega
     have d2:(117:a0)<c.toNat:=by omega
     rw[a1 (by omega)] at hu
     simp only[aj,ak,al,oneOf,aa,QS,Qx,↓ab,hn,h7,e1,Je,an Mo,av Mp,an hgl,an d1,av d2,Ke.aG.bm ao,show((4:a0)=0)=False from an (by decide),<-hu,a6]
     exact⟨_,rfl,.nil,aF.nil _,dE⟩
    ·by_cases d1:(c.toNat:a0)<33
     ·rw[a1 (by omega)] at hu
      simp only[aj,ak,al,oneOf,QS,Qx,↓ab,hn,e1,Je,an Mo,an Mp,av d1,show((4:a0)=0)=False from an (by decide),<-hu,a6]
      exact⟨_,rfl,.nil,aF.nil _,dE⟩
     ·by_cases d2:(117:a0)<c.toNat
      ·rw[a1 (by omega)] at hu
       simp only[aj,ak,al,oneOf,QS,Qx,↓ab,hn,e1,Je,an Mo,an Mp,an d1,av d2,show((4:a0)=0)=False from an (by decide),<-hu,a6]
       exact⟨_,rfl,.nil,aF.nil _,dE⟩
      ·rw[a2 (by omega)] at hu
       obtain⟨d,hd⟩:∃d,d=c.toNat-33:=⟨_,rfl⟩
       rw[<-hd] at hu
       have aiM:d<85:=by omega
       simp only[aj,ak,ae,QS,Qx,↓ab,hn,h7,e1,Je,an Mo,an Mp,an d1,an d2,gG ao bA VL]
       refine bG ao bA abW VL rfl Ke (by simp only[ad,↓ab,Qx]) (by decide) (by simp only[ag,hn];decide) (by simp only[ag,hn];decide) (by rfl) (by decide) rfl (by omega) (by omega) J9 dI ?_
       intro bs v' s3 UH ans bC jM JC
       have W9:tS 33 g++[.int .i64 (c.toNat:a0)]=tS 33 (g++[d]):=by
        have:((d+33:a8):a0)=(c.toNat:a0):=by omega
        simp only[tS,List.map_append,List.map_cons,List.map_nil,this]
       rw[W9] at UH
       have hg' :∀a∈g++[d],a<85:=fun a ha=>by
        rcases List.mem_append.mp ha with ha|ha
        ·exact aiO a ha
        ·rw[List.mem_singleton.mp ha];exact aiM
       have hgl:(g++[d]).length=g.length+1:=by simp
       have AQ:mK (fun k=>aI v' =some k) s.next s3 j r' P M:=iu.turns dI (fun k hk=>hk) J9 jM (fun q hq=>⟨UH.iD q hq,by
        rcases JC with e|⟨i,e,hi⟩
        ·exact .inl (by rw[<-e];exact hq)
        ·refine .inr ?_;have hq:aI v' =some q:=hq;rw[e] at hq;injection hq with hq;omega⟩)
       have gj:=dE.trans bC
       by_cases g5:g.length=4
       ·have g5' :((g.length+1:a8):a0)=5:=by omega
        rw[a1 g5] at hu
        simp only[aj,ak,aa,QS,Qx,↓ab,hn,h6,UH.aG.bm ao,av g5']
        rw[<-hgl] at UH
        refine(Mm J5 Gb _ s.next s3 j r' P M (g++[d]) v' 4 AQ gj.next UH.aG hg' (by omega) hPl TL hM1).mono ?_
        rintro _ s4 ⟨rfl,yE,dX,_⟩
        have jC:=gj.trans dX
        have Iv:=aaX M (g++[d]) 4 P (by omega)
        obtain⟨y,hy⟩:∃y,y=ur M (g++[d]) 4 P:=⟨_,rfl⟩
        rw[<-hy] at yE Iv hu
        by_cases kF:y.2=0
        ·rw[a1 kF] at hu
         simp only[aj,ak,QS,Qx,↓ab,hn,<-hy,av kF]
         have hR5:mK (fun k=>aI (.slice none 0 0)=some k) s.next s4 j r' y.1 M:=by
          obtain⟨i,o,l',p,q1,q2,q3,q4,q5,q6,q7,q8,q9,q10,q11,_⟩:=yE
          exact⟨i,o,l',p,q1,q2,q3,q4,q5,q6,q7,q8,q9,q10,q11,fun k hk=>by cases hk⟩
         refine ay r'.length (by omega) ⟨r',[],_,_,rfl,hu,by omega,by simp,by simp,.nil,aF.nil _,hR5,jC,by simp only[ad,ag,↓ab,Qx,hn,h6,bz]⟩
        ·rw[a2 kF] at hu
         simp only[aj,ak,al,oneOf,QS,Qx,↓ab,hn,<-hy,an kF,<-hu,a6]
         exact⟨_,rfl,.nil,aF.nil _,jC⟩
       ·have g5' :¬((g.length+1:a8):a0)=5:=by omega
        rw[a2 g5] at hu
        simp only[aj,ak,aa,QS,Qx,↓ab,hn,UH.aG.bm ao,an g5']
        rw[<-hgl] at UH
        refine ay r'.length (by omega) ⟨r',_,P,v',rfl,hu,by omega,by omega,hg',UH,ans,AQ,gj,by simp only[ad,ag,↓ab,Qx,hn,h6,bz]⟩
end Go.Proofs.YtdfjfncifneocaaGreat
namespace Go.Proofs.YtdfjfncifneocaaGreat
open Go.Cl Go.Cl.Runs
theorem room_le {most:a0}{P:a7 a3}{j:a8}:(most<=((P.length+j:a8):a0))↔room most P<=j:=by unfold room;omega
theorem Mq {lib:aA}(hl:lib.at 69=none)(s:aq)(x:cg)(l:a7 a3)(most:a0)(hx:aN s 1 x l.length (ofBytes l))(hlen:l.length<=4000000):
  Runs bg lib 69 [x,.int .i64 most] s (tQ s.next s (dec most l []).1 (dec most l []).2):=by
 refine Runs.enter 63 Tryz.func69 rfl hl rfl rfl ?_
 intro f hn hf
 have h0:f.get 0=x:=hf 0
 have h1:f.get 1= .int .i64 most:=hf 1
 clear hf
 simp only[aj,QS,↓ab,hn]
 refine Comes.eZ (fun k f s' =>∃(i:a8) (o:cg) (P:a7 a3),k=l.length-i/\i<=l.length/\P.length<=128*i/\dec most (l.drop i) P=dec most l []/\Own s' 1 o P.length (ofBytes P)/\aF s.next o/\ar s.next s s' /\f.n=63/\f.get 0=x/\f.get 1= .int .i64 most/\f.get 7= .int .i64 i/\f.get 6=o) ⟨0,_,[],rfl,by omega,by simp,rfl,.nil,aF.nil _,ar.refl _ _,by simp only[ag,hn],by simp only[ad,↓ab,Qx,h0],by simp only[ad,↓ab,Qx,h1],by simp only[ad,↓ab];rfl,by simp only[ad,↓ab,Qx]⟩ ?_
 clear hn h0 h1 f
 rintro k f s1 ⟨i,o,P,rfl,hi,hP,kP,ho,pg,aE,hn,h0,h1,h7,h6⟩
 have nk:=hx.keeps aE
 have fail:∀(f:aW) (s2:aq) (e:a0),f.n=63->f.get 4= .slice none 0 0->f.get 5= .int .i64 e->ar s.next s s2->dec most l []=([],e)->YR bg (Tryz.f69).results.toList (tQ s.next s (dec most l []).1 (dec most l []).2) .ret f s2:=by
  intro f s2 e hn h4 h5 aE he
  simp only[aj,al,oneOf,QS,↓ab,hn,h4,h5,c0,he]
  exact⟨_,rfl,.nil,aF.nil _,aE⟩
 by_cases bd:i<l.length
 ·have hb:=(l.getD i 0).toNat_lt
  rw[drop_cons bd] at kP
  generalize SM:(l.getD i 0).toNat=n at*
  simp(disch:=omega)only[aj,aa,QS,Qx,↓ab,hn,h0,h7,bd,nk.bm af,nk.indexAddr af bK,nk.di kI,bw,SM,bL bq bo,aD]
  by_cases as8:n=128
  ·have aaY:(n:a0)=128:=by omega
   simp(disch:=omega)only[aj,al,oneOf,QS,Qx,↓ab,hn,h6,aaY,c0]
   rw[xR (by omega)] at kP
   rw[<-kP]
   exact⟨_,rfl,ho,pg,aE⟩
  ·have aaY:¬(n:a0)=128:=by omega
   by_cases kp:128<n
   ·obtain⟨times,ht⟩:∃times:a8,(257:a0)-n=times:=⟨257-n,by omega⟩
    have Xy:(128:a0)<n:=by omega
    have htn:257-n=times:=by omega
    simp(disch:=omega)only[aj,QS,Qx,↓ab,hn,aaY,Xy,aD,ht]
    refine Comes.eZ (fun k f s' =>∃(j:a8) (o:cg),k=times-j/\j<=times/\j<=room most P/\(0<j->i+1<l.length)/\Own s' 1 o (P.length+j) (ofBytes (P++b7 j (l.getD (i+1) 0)))/\aF s.next o/\ar s.next s s' /\f.n=63/\f.get 0=x/\f.get 1= .int .i64 most/\f.get 7= .int .i64 (if j=times then(i+2:a8) else(i+1:a8))/\f.get 6=o/\f.get 9= .bool true/\f.get 10= .int .i64 times/\f.get 33= .int .i64 times/\f.get 34= .int .i64 j) ⟨0,o,rfl,by omega,by omega,by omega,by simpa using ho,pg,aE,by simp only[ag,hn],by simp only[ad,↓ab,Qx,h0],by simp only[ad,↓ab,Qx,h1],by simp only[ad,↓ab,Qx];rw[a2 (by omega)];rfl,by simp only[ad,↓ab,Qx,h6,c3];rfl⟩ ?_
    clear hn h0 h1 h7 h6 f
    rintro k f s2 ⟨j,o2,rfl,hj,hjr,N4,fN,Fk,aR,hn,h0,h1,h7,h6,h9,eX,AH,wG⟩
    have ko:=hx.keeps aR
    by_cases hjt:j<times
    ·rw[a2 (show¬j=times by omega)] at h7
     by_cases sn:i+1<l.length
     ·have JF:¬((l.length:a0)<=((i+1:a8):a0)):=by omega
      by_cases hm:most<=((P.length+j:a8):a0)
      ·simp(disch:=omega)only[aj,aa,QS,Qx,↓ab,hn,h0,h1,h7,h6,AH,wG,hjt,ko.bm af,JF,fN.aG.bm af,hm]
       refine fail _ s2 7 (by simp only[ag,hn]) (by simp only[ad,↓ab,Qx]) (by simp only[ad,↓ab]) aR ?_
       rw[<-kP,drop_cons sn,FX (by omega) (by rw[room_le] at hm;omega)]
      ·have Xz:(((i+1:a8):a0)).toNat=i+1:=by omega
       simp(disch:=omega)only[aj,aa,ae,QS,Qx,↓ab,hn,h0,h1,h7,h6,AH,wG,hjt,ko.bm af,JF,fN.aG.bm af,hm,ko.indexAddr af bK,Xz,ko.di kI,bw,gG af bK ks]
       refine bG af bK jW ks rfl fN (by simp only[ad,↓ab,Qx]) (by decide) (by simp only[ag,hn];decide) (by simp only[ag,hn];decide) (by rfl) (by decide) rfl (by omega) (by omega) Fk aR.next ?_
       intro bs o3 s3 ou aa0 bC _ _
       have sY:P++b7 (j+1) (l.getD (i+1) 0)=(P++b7 j (l.getD (i+1) 0))++[l.getD (i+1) 0]:=by rw[List.replicate_succ',cv]
       by_cases acE:(j:a0)=times-1
       ·simp(disch:=omega)only[aj,ak,QS,Qx,↓ab,hn,h7,h9,eX,wG,aD,acE]
        refine ay (times-(j+1)) (by omega) ⟨j+1,o3,rfl,by omega,by rw[room_le] at hm;omega,fun _=>sn,?_,aa0,aR.trans bC,by simp only[ag,hn],by simp only[ad,↓ab,Qx,h0],by simp only[ad,↓ab,Qx,h1],by simp only[ad,↓ab,Qx];rw[a1 (by omega)];rfl,by simp only[ad,↓ab,Qx],by simp only[ad,↓ab,Qx,h9],by simp only[ad,↓ab,Qx,eX],by simp only[ad,↓ab,Qx,AH],by simp only[ad,↓ab];congr 1;omega⟩
        rw[sY,br];exact ou
       ·simp(disch:=omega)only[aj,ak,QS,Qx,↓ab,hn,h9,eX,wG,aD,acE]
        refine ay (times-(j+1)) (by omega) ⟨j+1,o3,rfl,by omega,by rw[room_le] at hm;omega,fun _=>sn,?_,aa0,aR.trans bC,by simp only[ag,hn],by simp only[ad,↓ab,Qx,h0],by simp only[ad,↓ab,Qx,h1],by simp only[ad,↓ab,Qx,h7];rw[a2 (by omega)],by simp only[ad,↓ab,Qx,h9,eX,AH,c3];rfl⟩
        rw[sY,br];exact ou
     ·have JF:((l.length:a0)<=((i+1:a8):a0)):=by omega
      simp(disch:=omega)only[aj,aa,QS,Qx,↓ab,hn,h0,h7,AH,wG,hjt,ko.bm af,JF]
      refine fail _ s2 2 (by simp only[ag,hn]) (by simp only[ad,↓ab,Qx]) (by simp only[ad,↓ab]) aR ?_
      rw[<-kP,cd (by omega),FW (by omega)]
    ·obtain rfl:j=times:=by omega
     rw[a1 rfl] at h7
     have sn:=N4 (by omega)
     simp(disch:=omega)only[aj,QS,↓ab,hn,AH,wG,hjt]
     refine ay (l.length-(i+2)) (by omega) ⟨i+2,o2,P++b7 j (l.getD (i+1) 0),rfl,by omega,?_,?_,(by rw[bl,cp];exact fN),Fk,aR,by simp only[ad,ag,↓ab,Qx,hn,h0,h1,h7,h6,bz]⟩
     ·rw[bl,cp];omega
     ·rw[<-kP,drop_cons sn,uh (by omega) (by omega),SM,htn]
   ·obtain⟨times,ht⟩:∃times:a8,(n:a0)+1=times:=⟨n+1,by omega⟩
    have Xy:¬(128:a0)<n:=by omega
    have htn:n+1=times:=by omega
    have YS:(l.drop (i+1)).length=l.length-(i+1):=List.length_drop
    simp(disch:=omega)only[aj,QS,Qx,↓ab,hn,aaY,Xy,aD,ht]
    refine Comes.eZ (fun k f s' =>∃(j:a8) (o:cg),k=times-j/\j<=times/\j<=room most P/\i+1+j<=l.length/\Own s' 1 o (P.length+j) (ofBytes (P++(l.drop (i+1)).take j))/\aF s.next o/\ar s.next s s' /\f.n=63/\f.get 0=x/\f.get 1= .int .i64 most/\f.get 7= .int .i64 (i+1+j:a8)/\f.get 6=o/\f.get 9= .bool false/\f.get 10= .int .i64 times/\f.get 33= .int .i64 times/\f.get 34= .int .i64 j) ⟨0,o,rfl,by omega,by omega,by omega,by simpa using ho,pg,aE,by simp only[ag,hn],by simp only[ad,↓ab,Qx,h0],by simp only[ad,↓ab,Qx,h1],by simp only[ad,↓ab,Qx];rfl,by simp only[ad,↓ab,Qx,h6,c3];rfl⟩ ?_
    clear hn h0 h1 h7 h6 f
    rintro k f s2 ⟨j,o2,rfl,hj,hjr,N4,fN,Fk,aR,hn,h0,h1,h7,h6,h9,eX,AH,wG⟩
    have ko:=hx.keeps aR
    by_cases hjt:j<times
    ·by_cases sn:i+1+j<l.length
     ·have JF:¬((l.length:a0)<=((i+1+j:a8):a0)):=by omega
      by_cases hm:most<=((P.length+j:a8):a0)
      ·simp(disch:=omega)only[aj,aa,QS,Qx,↓ab,hn,h0,h1,h7,h6,AH,wG,hjt,ko.bm af,JF,fN.aG.bm af,hm]
       refine fail _ s2 7 (by simp only[ag,hn]) (by simp only[ad,↓ab,Qx]) (by simp only[ad,↓ab]) aR ?_
       rw[<-kP,FZ (by omega) (by rw[room_le] at hm;omega) (by rw[room_le] at hm;omega)]
      ·have Xz:(((i+1+j:a8):a0)).toNat=i+1+j:=by omega
       simp(disch:=omega)only[aj,aa,ae,QS,Qx,↓ab,hn,h0,h1,h7,h6,AH,wG,hjt,ko.bm af,JF,fN.aG.bm af,hm,ko.indexAddr af bK,Xz,ko.di kI,bw,gG af bK ks]
       refine bG af bK jW ks rfl fN (by simp only[ad,↓ab,Qx]) (by decide) (by simp only[ag,hn];decide) (by simp only[ag,hn];decide) (by rfl) (by decide) rfl (by omega) (by omega) Fk aR.next ?_
       intro bs o3 s3 ou aa0 bC _ _
       have sY:P++(l.drop (i+1)).take (j+1)=(P++(l.drop (i+1)).take j)++[l.getD (i+1+j) 0]:=by rw[qd (by omega),cv,qo]
       simp(disch:=omega)only[aj,ak,QS,Qx,↓ab,hn,h7,h9,wG,aD]
       refine ay (times-(j+1)) (by omega) ⟨j+1,o3,rfl,by omega,by rw[room_le] at hm;omega,by omega,?_,aa0,aR.trans bC,by simp only[ag,hn],by simp only[ad,↓ab,Qx,h0],by simp only[ad,↓ab,Qx,h1],by simp only[ad,↓ab,Qx];rfl,by simp only[ad,↓ab,Qx,h9,eX,AH,c3];rfl⟩
       rw[sY,br];exact ou
     ·have JF:((l.length:a0)<=((i+1+j:a8):a0)):=by omega
      simp(disch:=omega)only[aj,aa,QS,Qx,↓ab,hn,h0,h7,AH,wG,hjt,ko.bm af,JF]
      refine fail _ s2 2 (by simp only[ag,hn]) (by simp only[ad,↓ab,Qx]) (by simp only[ad,↓ab]) aR ?_
      rw[<-kP,FY (by omega) (by omega) (by omega)]
    ·obtain rfl:j=times:=by omega
     simp(disch:=omega)only[aj,QS,↓ab,hn,AH,wG,hjt]
     have Lq:((l.drop (i+1)).take j).length=j:=by rw[cA];omega
     refine ay (l.length-(i+1+j)) (by omega) ⟨i+1+j,o2,P++(l.drop (i+1)).take j,rfl,by omega,?_,?_,(by rw[bl,Lq];exact fN),Fk,aR,by simp only[ad,ag,↓ab,Qx,hn,h0,h1,h7,h6,bz]⟩
     ·rw[bl,Lq];omega
     ·rw[<-kP,Jh (by omega) (by omega) (by omega),SM,htn,List.drop_drop]
 ·simp(disch:=omega)only[aj,aa,QS,Qx,↓ab,hn,h0,h7,bd,nk.bm af]
  refine fail _ s1 2 (by simp only[ag,hn]) (by simp only[ad,↓ab,Qx]) (by simp only[ad,↓ab]) aE ?_
  rw[<-kP,cd (by omega),QX]
end Go.Proofs.YtdfjfncifneocaaGreat
namespace Go.Cl.Bt
open Go.Cl.Sto
theorem Rk (x:a8)(h:x<9223372036854775808):cc.wrap (((cf cc.bits (x:a0)&&&cf cc.bits 1).toNat:a8):a0)=((x%2:a8):a0):=by
 have e1:cc.bits=64:=rfl
 rw[e1]
 have:(cf 64 (x:a0)&&&cf 64 1).toNat=x%2:=by
  rw[BitVec.toNat_and,BitVec.ofInt_natCast,BitVec.toNat_ofNat,Nat.mod_eq_of_lt (by omega)]
  show x&&&1=_
  exact Nat.and_one_is_mod _
 rw[this,aD (by omega)]
theorem aa1 (P:Program)(t:TypeId)(k' :IntKind)(x:a8):cQ P .shr t (.int .i64 (x:a0)) (.int k' 1)=some (.int .i64 ((x/2:a8):a0)):=by
 rw[lS P t .i64 _ 1 k' (by decide)]
 have:((x:a0)).fdiv (2^(min (1:a0).toNat cc.bits))=((x/2:a8):a0):=by
  show((x:a0)).fdiv 2=_
  rw[a5 _ (by omega)];omega
 rw[this]
def rest (b:a7 a3)(p left:a8):a8:=(b.getD (p-1) 0).toNat/2^(8-left)
theorem HM (b:a7 a3)(p:a8):rest b (p+1) 8=(b.getD p 0).toNat:=by simp[rest]
theorem uu {b:a7 a3}{p left:a8}(h1:1<=left)(h8:left<=8):rest b p left/2=rest b p (left-1):=by
 unfold rest
 rw[Nat.div_div_eq_div_mul,show 8-(left-1)=(8-left)+1 by omega,Nat.pow_succ]
theorem yf {b:a7 a3}{p left a:a8}(h1:1<=left)(h8:left<=8)(ha:a+left=8*p):rest b p left%2=bit b a:=by
 unfold rest bit
 rw[show a/8=p-1 by omega,show a%8=8-left by omega]
end Go.Cl.Bt
