import Derived.Test.YtdfjfncifneocaaGreatUnhexP
open Nat renaming reduceLT->QS,reduceEqDiff->Qx
set_option maxHeartbeats 4000000
set_option linter.unusedSimpArgs false
set_option linter.unusedVariables false
set_option maxRecDepth 100000
namespace Go.Proofs.YtdfjfncifneocaaGreat
open Go.Cl Go.Cl.Uh
def Ga (M:Int):List UInt8->Int->List UInt8->List UInt8×Int
 |[],_,_=>([],2)
 |c::r,h,P=>
  if fZ c.toNat then Ga M r h P
  else if(c.toNat:Int)=62 then(if h<0 then(P,0) else if M-P.length<1 then([],7) else(P++[AU (h.toNat*16)],0))
  else if digit c.toNat<0 then([],4)
  else if h<0 then Ga M r (digit c.toNat) P
  else if M-P.length<1 then([],7) else Ga M r (-1) (P++[AU (h.toNat*16+(digit c.toNat).toNat)])
theorem Xv (c:Int):digit c<16:=by unfold digit;repeat (first|(split;all_goals try omega)|omega)
theorem El:∀r:List UInt8,(sign r=(-1,[])/\∀M h P,Ga M r h P=([],2))\/∃(c:UInt8) (r' :List UInt8),sign r=((c.toNat:Int),r')/\fZ c.toNat=false/\r'.length<r.length/\∀M h P,Ga M r h P=Ga M (c::r') h P
 |[]=> .inl ⟨rfl,fun _ _ _=>rfl⟩
 |c::r=>by
  by_cases hw:fZ (c.toNat:Int)=true
  ·rcases El r with ⟨h1,h2⟩|⟨c',r',h1,h2,h3,h4⟩
   ·refine .inl ⟨by simp only[sign];rw[if_pos hw,h1],fun M h P=> ?_⟩
    rw[Ga,if_pos hw];exact h2 M h P
   ·refine .inr ⟨c',r',by simp only[sign];rw[if_pos hw,h1],h2,by simp;omega,fun M h P=> ?_⟩
    rw[Ga,if_pos hw];exact h4 M h P
  ·exact .inr ⟨c,r,by simp only[sign];rw[if_neg hw],by simpa using hw,by simp,fun _ _ _=>rfl⟩
theorem HK {lib:aA}(hl:lib.at 111=none)(A:Nat->Prop)(base:Nat)(s:aq)(j:Nat)(r P:List UInt8)(c:UInt8)(M:Int)(b:Value)(h:mK A base s j r P M)(hb:base<=s.next)(hd:Own s 1 b 1 [.int .u8 c.toNat])(hP:P.length<=2147483648)(TL:0<=M)(hM:M<9223372036854775808):
  Runs Tryz.prog lib 111 [gI j,b] s fun v s' =>v= .int .i64 (if M-P.length<1 then 7 else 0)/\mK A base s' j r (if M-P.length<1 then P else P++[c]) M/\ar base s s' /\Still A s s' :=by
 refine(tR hl A base s j r P [c] M b h hb hd.aG (by simp) hP TL hM).mono ?_
 intro v s' h
 simpa using h
theorem TM {lib:aA}(hl:lib.at 67=none)(oI:lib.at 108=none)(jL:lib.at 100=none)(E4:lib.at 109=none)(Gb:lib.at 111=none)(fz:lib.at 110=none)
  (Kf:lib.at 156=none) (zP:lib.at 155=none) (kr:lib.at 192=none) (kW:lib.at 186=none) (jn:lib.at 209=none) (g7:lib.at 105=none)
  (s:aq) (x:Value) (l:List UInt8) (most M:Int) (hMM:(if most<0 then 0 else most)=M) (hx:aN s 1 x l.length (ofBytes l)) (hlen:l.length<=4000000) (hm:most<9223372036854775808):
  Runs Tryz.prog lib 67 [x,.int .i64 most] s (tQ s.next s (Ga M l (-1) []).1 (Ga M l (-1) []).2):=by
 have TL:0<=M:=by rw[<-hMM];split<;>omega
 have hM1:M<9223372036854775808:=by rw[<-hMM];split<;>omega
 refine Runs.enter 65 Tryz.func67 rfl hl rfl rfl ?_
 intro f hn hf
 have h0:f.get 0=x:=hf 0
 have h1:f.get 1= .int .i64 most:=hf 1
 clear hf
 simp only[aj,ak,aa,QS,Qx,↓reduceIte,hn,h0,h1]
 refine(AS (fun _=>False) oI jL s.next s x l most hx.low (Nat.le_refl _) (by omega) (fun _ h=>h.elim)).mono ?_
 rintro _ s1 ⟨j,rfl,hR,aE⟩
 rw[hMM] at hR
 simp only[aj,QS,↓reduceIte,hn]
 refine Comes.eZ (fun q f s' =>∃r h P,q=r.length/\Ga M r h P=Ga M l (-1) []/\P.length+r.length<=l.length/\h<16/\mK (fun _=>False) s.next s' j r P M/\ar s.next s s' /\f.n=65/\f.get 6=gI j/\f.get 7= .int .i64 h) ⟨l,-1,[],rfl,rfl,by simp,by omega,hR,aE,by simp only[ad,ag,↓reduceIte,Qx,hn,and_self]⟩ ?_
 clear hn h0 h1 f hR aE s1
 rintro q f s1 ⟨r,h,P,rfl,hu,hPr,as2,hR,aE,hn,h6,h7⟩
 have gL:=aE.next
 simp only[aj,ak,aa,QS,↓reduceIte,hn,h6]
 refine(ye E4 Kf zP kr kW jn g7 _ s.next s1 j r P M hR gL).mono ?_
 rintro _ s2 ⟨rfl,iu,aR,_⟩
 have dE:=aE.trans aR
 have dI:=dE.next
 simp only[aj,ak,aa,QS,↓reduceIte,hn]
 refine(TK fz s2 _).mono ?_
 rintro _ s2 ⟨rfl,rfl⟩
 rcases El r with ⟨hs,Fg⟩|⟨c,r',hs,hw,KM,Fg⟩
 ·have e1:(sign r).1= -1:=by rw[hs]
  rw[Fg] at hu
  simp only[aj,al,oneOf,QS,Qx,↓reduceIte,hn,e1,show((-1:Int)<0)=True from eq_true (by decide),<-hu,Tryz.results67]
  exact⟨_,rfl,.nil,aF.nil _,dE⟩
 ·have e1:(sign r).1=(c.toNat:Int):=by rw[hs]
  have e2:(sign r).2=r' :=by rw[hs]
  rw[e2] at iu
  rw[Fg,Ga,if_neg (by rw[hw];decide)] at hu
  have Je:¬(c.toNat:Int)<0:=by omega
  have hdg:=Xv c.toNat
  have hcr:P.length+r'.length<l.length:=by omega
  have hPl:P.length<=2147483648:=by omega
  by_cases c62:(c.toNat:Int)=62
  ·rw[if_pos c62] at hu
   by_cases hh:h<0
   ·rw[if_pos hh] at hu
    obtain⟨i,o,l',p,mO,eU,ht,hc,ho,hF,hj,ux,fN,ua,Zx⟩:=id iu
    have ll:=ht.load (P:=Tryz.prog) fU (off:=2) (c:=4) rfl (by simp)
    simp only[aj,ak,al,oneOf,QS,Qx,↓reduceIte,hn,h6,h7,e1,Je,eq_true c62,eq_true hh,qw,ll,<-hu,Tryz.results67]
    exact⟨o,rfl,ho,hF,dE⟩
   ·rw[if_neg hh] at hu
    obtain⟨n,rfl⟩:∃n:Nat,h=n:=⟨h.toNat,by omega⟩
    rw[Int.toNat_natCast] at hu
    have hv:((n:Int)*16)%256=((AU (n*16)).toNat:Int):=by rw[HJ (by omega)];omega
    simp(disch:=omega)only[aj,ak,ae,QS,Qx,↓reduceIte,hn,h6,h7,e1,Je,eq_true c62,eq_false hh,aiL,aD,bL Tryz.underlying3 Tryz.underlying5,fu,hv,gG Tryz.underlying22 bK ks]
    refine aQ (by simp) ?_
    intro b s3 hb Oo bC
    simp(disch:=omega)only[aj,ak,aa,QS,Qx,↓reduceIte,hn]
    refine(HK Gb _ s.next s3 j r' P _ M b (iu.keeps dI bC) (by have:=bC.next;omega) hb hPl TL hM1).mono ?_
    rintro _ s4 ⟨rfl,yE,dX,_⟩
    have jC:=dE.trans ((bC.weaken dI).trans dX)
    by_cases kD:M-(P.length:Int)<1
    ·rw[if_pos kD] at hu
     simp only[aj,ak,al,oneOf,QS,Qx,↓reduceIte,hn,eq_true kD,show((7:Int)=0)=False from eq_false (by decide),<-hu,Tryz.results67]
     exact⟨_,rfl,.nil,aF.nil _,jC⟩
    ·rw[if_neg kD] at hu yE
     obtain⟨i,o,l',p,mO,eU,ht,hc,ho,hF,hj,ux,fN,ua,Zx⟩:=id yE
     have ll:=ht.load (P:=Tryz.prog) fU (off:=2) (c:=4) rfl (by simp)
     simp only[aj,ak,al,oneOf,QS,Qx,↓reduceIte,hn,h6,eq_false kD,qw,ll,<-hu,Tryz.results67]
     exact⟨o,rfl,ho,hF,jC⟩
  ·rw[if_neg c62] at hu
   by_cases hd:digit c.toNat<0
   ·rw[if_pos hd] at hu
    simp only[aj,ak,al,oneOf,QS,Qx,↓reduceIte,hn,e1,Je,eq_false c62,eq_true hd,show((4:Int)=0)=False from eq_false (by decide),<-hu,Tryz.results67]
    exact⟨_,rfl,.nil,aF.nil _,dE⟩
   ·rw[if_neg hd] at hu
    by_cases hh:h<0
    ·rw[if_pos hh] at hu
     simp only[aj,ak,QS,Qx,↓reduceIte,hn,h7,e1,Je,eq_false c62,eq_false hd,eq_true hh]
     refine ay r'.length (by omega) ⟨r',_,P,rfl,hu,by omega,hdg,iu,dE,by simp only[ad,ag,↓reduceIte,Qx,hn,h6,and_self]⟩
    ·rw[if_neg hh] at hu
     obtain⟨n,rfl⟩:∃n:Nat,h=n:=⟨h.toNat,by omega⟩
     obtain⟨d,hdd⟩:∃d:Nat,digit c.toNat=d:=⟨(digit c.toNat).toNat,by omega⟩
     rw[hdd,Int.toNat_natCast,Int.toNat_natCast] at hu
     rw[hdd] at hd
     have hv:((n*16+d:Nat):Int)%256=((AU (n*16+d)).toNat:Int):=by rw[HJ (by omega)];omega
     simp(disch:=omega)only[aj,ak,ae,QS,Qx,↓reduceIte,hn,h6,h7,e1,Je,eq_false c62,hdd,eq_false hd,eq_false hh,aiL,aD,jV,aaT,bL Tryz.underlying3 Tryz.underlying5,fu,hv,gG Tryz.underlying22 bK ks]
     refine aQ (by simp) ?_
     intro b s3 hb Oo bC
     simp(disch:=omega)only[aj,ak,aa,QS,Qx,↓reduceIte,hn]
     refine(HK Gb _ s.next s3 j r' P _ M b (iu.keeps dI bC) (by have:=bC.next;omega) hb hPl TL hM1).mono ?_
     rintro _ s4 ⟨rfl,yE,dX,_⟩
     have jC:=dE.trans ((bC.weaken dI).trans dX)
     by_cases kD:M-(P.length:Int)<1
     ·rw[if_pos kD] at hu
      simp only[aj,ak,al,oneOf,QS,Qx,↓reduceIte,hn,eq_true kD,show((7:Int)=0)=False from eq_false (by decide),<-hu,Tryz.results67]
      exact⟨_,rfl,.nil,aF.nil _,jC⟩
     ·rw[if_neg kD] at hu yE
      simp only[aj,ak,QS,Qx,↓reduceIte,hn,eq_false kD]
      refine ay r'.length (by omega) ⟨r',_,_,rfl,hu,by simp;omega,by omega,yE,jC,by simp only[ad,ag,↓reduceIte,Qx,hn,h6,and_self]⟩
def fC (g:List Nat):Nat->Nat
 |0=>0
 |k+1=>fC g k*85+g.getD k 84
theorem Em {g:List Nat}(h:∀d∈g,d<85):∀k,fC g k<85^k
 |0=>by simp[fC]
 |k+1=>by
  have:=Em h k
  have hd:g.getD k 84<85:=by
   rw[List.getD_eq_getElem?_getD]
   by_cases hk:k<g.length
   ·rw[List.getElem?_eq_getElem hk];exact h _ (List.getElem_mem hk)
   ·rw[List.getElem?_eq_none (by omega)];decide
  simp only[fC,Nat.pow_succ];omega
def zF (x:Nat):List UInt8:=[UInt8.ofNat (x/16777216),UInt8.ofNat (x/65536),UInt8.ofNat (x/256),UInt8.ofNat x]
def ur (M:Int)(g:List Nat)(n:Nat)(P:List UInt8):List UInt8×Int:=
 if 4294967295<fC g 5 then(P,4) else if M-P.length<n then(P,7) else(P++(zF (fC g 5)).take n,0)
def rE (M:Int)(r:List UInt8)(g:List Nat)(P:List UInt8):List UInt8×Int:=
 if g.length=1 then([],4)
 else if 1<g.length/\(ur M g (g.length-1) P).2≠0 then([],(ur M g (g.length-1) P).2)
 else if(sign r).1<0 then([],2)
 else if(sign r).1=62 then(if 1<g.length then(ur M g (g.length-1) P).1 else P,0)
 else([],4)
def sy (M:Int):List UInt8->List Nat->List UInt8->List UInt8×Int
 |[],_,_=>([],2)
 |c::r,g,P=>
  if fZ c.toNat then sy M r g P
  else if(c.toNat:Int)=126 then rE M r g P
  else if(c.toNat:Int)=122/\g=[] then(if M-P.length<4 then([],7) else sy M r [] (P++[0,0,0,0]))
  else if c.toNat<33\/117<c.toNat then([],4)
  else if g.length=4 then(if(ur M (g++[c.toNat-33]) 4 P).2=0 then sy M r [] (ur M (g++[c.toNat-33]) 4 P).1 else([],(ur M (g++[c.toNat-33]) 4 P).2))
  else sy M r (g++[c.toNat-33]) P
def tS (a:Nat)(g:List Nat):List Value:=g.map fun d=> .int .i64 ((d+a:Nat):Int)
theorem Ml {a:Nat}{g:List Nat}{i:Nat}(h:i<g.length):(tS a g).getD i undef= .int .i64 ((g.getD i 84+a:Nat):Int):=by
 simp[tS,List.getD,List.getElem?_eq_getElem h]
theorem Ri {x:Int}(h0: -2147483648<=x)(h:x<2147483648):IntKind.i32.wrap x=x:=by
 have e1:IntKind.i32.bits=32:=rfl
 have e2:IntKind.i32.signed=true:=rfl
 simp only[IntKind.wrap,e1,e2,Bool.true_and]
 simp
 omega
theorem Rj {x:Int}(h0:0<=x)(h:x<18446744073709551616):IntKind.u64.wrap x=x:=by
 have e1:IntKind.u64.bits=64:=rfl
 have e2:IntKind.u64.signed=false:=rfl
 simp only[IntKind.wrap,e1,e2,Bool.false_and]
 simp
 omega
theorem Xw (P:Program)(t:TypeId)(k' :IntKind)(x:Nat):cQ P .shr t (.int .u64 x) (.int k' 24)=some (.int .u64 ((x/16777216:Nat):Int))/\cQ P .shr t (.int .u64 x) (.int k' 16)=some (.int .u64 ((x/65536:Nat):Int))/\cQ P .shr t (.int .u64 x) (.int k' 8)=some (.int .u64 ((x/256:Nat):Int)):=by
 refine⟨?_,?_,?_⟩
 ·rw[lS P t .u64 _ 24 k' (by decide)]
  have:((x:Int)).fdiv (2^(min (24:Int).toNat IntKind.u64.bits))=((x/16777216:Nat):Int):=by
   show((x:Int)).fdiv 16777216=_
   rw[Int.fdiv_eq_ediv_of_nonneg _ (by omega)];omega
  rw[this]
 ·rw[lS P t .u64 _ 16 k' (by decide)]
  have:((x:Int)).fdiv (2^(min (16:Int).toNat IntKind.u64.bits))=((x/65536:Nat):Int):=by
   show((x:Int)).fdiv 65536=_
   rw[Int.fdiv_eq_ediv_of_nonneg _ (by omega)];omega
  rw[this]
 ·rw[lS P t .u64 _ 8 k' (by decide)]
  have:((x:Int)).fdiv (2^(min (8:Int).toNat IntKind.u64.bits))=((x/256:Nat):Int):=by
   show((x:Int)).fdiv 256=_
   rw[Int.fdiv_eq_ediv_of_nonneg _ (by omega)];omega
  rw[this]
theorem aaU (x:Nat):((x:Int))%256=(((UInt8.ofNat x).toNat:Nat):Int):=by rw[UInt8.toNat_ofNat'];omega
theorem Mm {lib:aA}(hl:lib.at 113=none)(Gb:lib.at 111=none)(A:Nat->Prop)(base:Nat)(s:aq)(j:Nat)(r P:List UInt8)(M:Int)(g:List Nat)(v:Value)(n:Nat)(h:mK A base s j r P M)(hb:base<=s.next)(hv:aN s 1 v g.length (tS 33 g))(hg:∀d∈g,d<85)(vY:n<=4)(hP:P.length<=2147483648)(TL:0<=M)(hM:M<9223372036854775808):
  Runs Tryz.prog lib 113 [gI j,v,.int .i64 n] s fun w s' =>w= .int .i64 (ur M g n P).2/\mK A base s' j r (ur M g n P).1 M/\ar base s s' /\Still A s s' :=by
 refine Runs.enter 47 Tryz.func113 rfl hl rfl rfl ?_
 intro f hn hf
 have h0:f.get 0=gI j:=hf 0
 have h1:f.get 1=v:=hf 1
 have h2:f.get 2= .int .i64 n:=hf 2
 clear hf
 simp(disch:=omega)only[aj,QS,↓reduceIte,hn]
 refine Comes.bQ (fun q f s' =>∃k:Nat,q=5-k/\k<=5/\s' =s/\f.n=47/\f.get 0=gI j/\f.get 1=v/\f.get 2= .int .i64 n/\f.get 7= .int .u64 (fC g k)/\f.get 10= .int .i64 k)
  (fun y f s' =>y= .exit 0/\s' =s/\f.n=47/\f.get 0=gI j/\f.get 2= .int .i64 n/\f.get 7= .int .u64 (fC g 5))
  ⟨0,rfl,by omega,rfl,by simp only[ag,hn],by simp only[ad,↓reduceIte,Qx,h0],by simp only[ad,↓reduceIte,Qx,h1],by simp only[ad,↓reduceIte,Qx,h2],by simp only[ad,↓reduceIte,Qx];rfl,by simp only[ad,↓reduceIte];rfl⟩ ?_ ?_
 ·clear hn h0 h1 h2 f
  rintro Q hQ q f s1 ⟨k,rfl,hk,kC,hn,h0,h1,h2,h7,eX⟩
  subst kC
  by_cases hk5:k<5
  ·have aaV:(k:Int)<5:=by omega
   have as4:fC g k<52200626:=by
    have:=Em hg k
    have h2:85^k<=85^4:=Nat.pow_le_pow_right (by omega) (by omega)
    have h3:(85:Nat)^4=52200625:=by decide
    omega
   by_cases hkg:k<g.length
   ·obtain⟨d,hd⟩:∃d,d=g.getD k 84:=⟨_,rfl⟩
    have aiM:d<85:=by rw[hd,List.getD_eq_getElem?_getD,List.getElem?_eq_getElem hkg];exact hg _ (List.getElem_mem hkg)
    have e:((d+33:Nat):Int)-33=(d:Int):=by omega
    have Ed:((fC g k:Nat):Int)*85+(d:Int)=((fC g (k+1):Nat):Int):=by simp only[fC];rw[<-hd];omega
    simp(disch:=omega)only[aj,aa,QS,Qx,↓reduceIte,hn,h1,h7,eX,eq_true aaV,hv.bm Tryz.underlying134,hkg,hv.indexAddr Tryz.underlying134 bA,hv.di bu,Ml,<-hd,bL Tryz.underlying3 Tryz.underlying21,Ri,e,bL Tryz.underlying21 Tryz.underlying187,Rj,Ed,aD]
    refine ay (5-(k+1)) (by omega) ⟨k+1,rfl,by omega,rfl,by simp only[ag,hn],by simp only[ad,↓reduceIte,Qx,h0],by simp only[ad,↓reduceIte,Qx,h1],by simp only[ad,↓reduceIte,Qx,h2],by simp only[ad,↓reduceIte,Qx],by simp only[ad,↓reduceIte];rfl⟩
   ·have Ed:((fC g k:Nat):Int)*85+84=((fC g (k+1):Nat):Int):=by
     have:g.getD k 84=84:=by rw[List.getD_eq_getElem?_getD,List.getElem?_eq_none (by omega)];rfl
     simp only[fC];rw[this];omega
    have e:(117:Int)-33=84:=by decide
    simp(disch:=omega)only[aj,aa,QS,Qx,↓reduceIte,hn,h1,h7,eX,eq_true aaV,hv.bm Tryz.underlying134,hkg,e,Ri,bL Tryz.underlying21 Tryz.underlying187,Rj,Ed,aD]
    refine ay (5-(k+1)) (by omega) ⟨k+1,rfl,by omega,rfl,by simp only[ag,hn],by simp only[ad,↓reduceIte,Qx,h0],by simp only[ad,↓reduceIte,Qx,h1],by simp only[ad,↓reduceIte,Qx,h2],by simp only[ad,↓reduceIte,Qx],by simp only[ad,↓reduceIte];rfl⟩
  ·obtain rfl:k=5:=by omega
   have aaV:¬((5:Nat):Int)<5:=by omega
   simp(disch:=omega)only[aj,QS,↓reduceIte,hn,eX,eq_false aaV]
   exact hQ _ _ _ ⟨rfl,rfl,by simp only[ag,hn],by simp only[ad,↓reduceIte,Qx,h0],by simp only[ad,↓reduceIte,Qx,h2],by simp only[ad,↓reduceIte,Qx,h7]⟩
 ·clear hn h0 h1 h2 f
  rintro _ f s1 ⟨rfl,kC,hn,h0,h2,h7⟩
  subst kC
  obtain⟨x,hx⟩:∃x,x=fC g 5:=⟨_,rfl⟩
  have hx5:=Em hg 5
  have h5:(85:Nat)^5=4437053125:=by decide
  unfold ur
  rw[<-hx] at h7 hx5|-
  by_cases Fj:4294967295<x
  ·have pL:(4294967295:Int)<(x:Int):=by omega
   simp only[if_pos Fj]
   simp(disch:=omega)only[aj,al,oneOf,QS,↓reduceIte,hn,h7,eq_true pL,Tryz.results113]
   exact⟨h,ar.refl _ _,Still.refl _ _⟩
  ·have pL:¬(4294967295:Int)<(x:Int):=by omega
   simp only[if_neg Fj]
   simp(disch:=omega)only[aj,ae,QS,Qx,↓reduceIte,hn,h0,h7,eq_false pL,(Xw _ _ _ _).1,(Xw _ _ _ _).2.1,(Xw _ _ _ _).2.2,bL Tryz.underlying187 Tryz.underlying5,fu,aaU,N7 Tryz.underlying22 bK ks]
   refine aQ (by simp) ?_
   intro b s2 dI Oo aR
   have dx:=dI.aG.p9 (l:=zF x) (lo:=0) (hi:=n) (by omega) (by show n<=4;omega)
   rw[List.drop_zero,Nat.sub_zero] at dx
   have bd:((zF x).take n).length=n:=by rw[List.length_take];show min n 4=n;omega
   simp(disch:=omega)only[aj,ak,aa,ai,QS,Qx,↓reduceIte,hn,h2,dI.aG.iS Tryz.underlying22 bK]
   refine(tR Gb A base s2 j r P ((zF x).take n) M _ (h.keeps hb aR) (Nat.le_trans hb aR.next) dx (by omega) hP TL hM).mono ?_
   rintro _ s3 ⟨rfl,AQ,bC,anq⟩
   rw[bd] at AQ
   simp(disch:=omega)only[aj,al,oneOf,QS,↓reduceIte,hn,bd,Tryz.results113]
   refine⟨?_,?_,(aR.weaken hb).trans bC,(h.still aR).trans anq⟩
   ·split<;>rfl
   ·split
    ·rename_i h;rw[if_pos h] at AQ;exact AQ
    ·rename_i h;rw[if_neg h] at AQ;exact AQ
def Ends (A:Nat->Prop)(base:Nat)(s:aq)(j:Nat)(M:Int)(z:List UInt8×Int)(w:Value)(s' :aq):Prop:=
 w= .int .i64 z.2/\(∃r' P',mK A base s' j r' P' M/\(z.2=0->P' =z.1))/\ar base s s' /\Still A s s'
theorem aaW {lib:aA}(hl:lib.at 112=none)(J5:lib.at 113=none)(E4:lib.at 109=none)(Gb:lib.at 111=none)(Kf:lib.at 156=none)(zP:lib.at 155=none)(kr:lib.at 192=none)(kW:lib.at 186=none)(jn:lib.at 209=none)(g7:lib.at 105=none)
  (A:Nat->Prop) (base:Nat) (s:aq) (j:Nat) (r P:List UInt8) (M:Int) (g:List Nat) (v:Value) (h:mK A base s j r P M) (hb:base<=s.next) (hv:aN s 1 v g.length (tS 33 g)) (hg:∀d∈g,d<85) (hg4:g.length<=4) (hP:P.length<=2147483648) (TL:0<=M) (hM:M<9223372036854775808):
  Runs Tryz.prog lib 112 [gI j,v] s (Ends A base s j M (rE M r g P)):=by
 refine Runs.enter 30 Tryz.func112 rfl hl rfl rfl ?_
 intro f hn hf
 have h0:f.get 0=gI j:=hf 0
 have h1:f.get 1=v:=hf 1
 clear hf
 by_cases c1:g.length=1
 ·have uE:(g.length:Int)=1:=by omega
  have hz:rE M r g P=([],4):=by unfold rE;rw[if_pos c1]
  simp only[aj,al,oneOf,aa,QS,Qx,↓reduceIte,hn,h1,hv.bm Tryz.underlying134,eq_true uE,hz,Tryz.results112]
  exact⟨rfl,⟨r,P,h,fun e=>absurd e (by decide)⟩,ar.refl _ _,Still.refl _ _⟩
 ·have uE:¬(g.length:Int)=1:=by omega
  by_cases c2:1<g.length
  ·have D3:(1:Int)<(g.length:Int):=by omega
   have e:(g.length:Int)-1=((g.length-1:Nat):Int):=by omega
   simp(disch:=omega)only[aj,ak,aa,QS,Qx,↓reduceIte,hn,h0,h1,hv.bm Tryz.underlying134,eq_false uE,eq_true D3,e,aD]
   refine(Mm J5 Gb A base s j r P M g v (g.length-1) h hb hv hg (by omega) hP TL hM).mono ?_
   rintro _ s1 ⟨rfl,pH,bn,aiN⟩
   obtain⟨y,hy⟩:∃y,y=ur M g (g.length-1) P:=⟨_,rfl⟩
   rw[<-hy] at pH
   by_cases kF:y.2=0
   ·have hz:rE M r g P=(if(sign r).1<0 then([],2) else if(sign r).1=62 then(y.1,0) else([],4)):=by
     unfold rE;rw[if_neg c1,<-hy,if_neg (by simp[kF]),if_pos c2]
    simp only[aj,ak,aa,QS,Qx,↓reduceIte,hn,h0,<-hy,eq_true kF]
    refine(ye E4 Kf zP kr kW jn g7 A base s1 j r y.1 M pH (Nat.le_trans hb bn.next)).mono ?_
    rintro _ s2 ⟨rfl,iu,aR,Pj⟩
    have pE:=aiN.trans Pj
    have aE:=bn.trans aR
    rw[hz]
    by_cases d1:(sign r).1<0
    ·simp only[aj,al,oneOf,QS,↓reduceIte,hn,eq_true d1,Tryz.results112]
     exact⟨rfl,⟨_,_,iu,fun e=>absurd e (by decide)⟩,aE,pE⟩
    ·by_cases d2:(sign r).1=62
     ·simp only[aj,ak,al,oneOf,QS,Qx,↓reduceIte,hn,eq_false d1,eq_true d2,Tryz.results112]
      exact⟨rfl,⟨_,_,iu,fun _=>rfl⟩,aE,pE⟩
     ·simp only[aj,ak,al,oneOf,QS,Qx,↓reduceIte,hn,eq_false d1,eq_false d2,Tryz.results112]
      exact⟨rfl,⟨_,_,iu,fun e=>absurd e (by decide)⟩,aE,pE⟩
   ·have hz:rE M r g P=([],y.2):=by unfold rE;rw[if_neg c1,<-hy,if_pos ⟨c2,kF⟩]
    rw[hz]
    simp only[aj,ak,al,oneOf,QS,Qx,↓reduceIte,hn,<-hy,eq_false kF,Tryz.results112]
    exact⟨rfl,⟨_,_,pH,fun e=>absurd e kF⟩,bn,aiN⟩
  ·have D3:¬(1:Int)<(g.length:Int):=by omega
   have hz:rE M r g P=(if(sign r).1<0 then([],2) else if(sign r).1=62 then(P,0) else([],4)):=by
    unfold rE;rw[if_neg c1,if_neg (by simp[c2]),if_neg c2]
   simp only[aj,ak,aa,QS,Qx,↓reduceIte,hn,h0,h1,hv.bm Tryz.underlying134,eq_false uE,eq_false D3]
   refine(ye E4 Kf zP kr kW jn g7 A base s j r P M h hb).mono ?_
   rintro _ s2 ⟨rfl,iu,aE,pE⟩
   rw[hz]
   by_cases d1:(sign r).1<0
   ·simp only[aj,al,oneOf,QS,↓reduceIte,hn,eq_true d1,Tryz.results112]
    exact⟨rfl,⟨_,_,iu,fun e=>absurd e (by decide)⟩,aE,pE⟩
   ·by_cases d2:(sign r).1=62
    ·simp only[aj,ak,al,oneOf,QS,Qx,↓reduceIte,hn,eq_false d1,eq_true d2,Tryz.results112]
     exact⟨rfl,⟨_,_,iu,fun _=>rfl⟩,aE,pE⟩
    ·simp only[aj,ak,al,oneOf,QS,Qx,↓reduceIte,hn,eq_false d1,eq_false d2,Tryz.results112]
     exact⟨rfl,⟨_,_,iu,fun e=>absurd e (by decide)⟩,aE,pE⟩
theorem HL {s s' :aq}{z:Nat}{v:Value}{n:Nat}{l:List Value}(h:Own s z v n l)(hn:s.next<=s'.next)(k:Still (fun k=>aI v=some k) s s'):Own s' z v n l:=by
 cases h with
 |nil=>exact .nil
 |of i n low l hi hb hl hlen=>
  refine .of i n low l (Nat.lt_of_lt_of_le hi hn) ?_ hl hlen
  simp only[aq.bR,k i rfl];exact hb
theorem Mn:∀r:List UInt8,(sign r=(-1,[])/\∀M g P,sy M r g P=([],2))\/∃(c:UInt8) (r' :List UInt8),sign r=((c.toNat:Int),r')/\fZ c.toNat=false/\r'.length<r.length/\∀M g P,sy M r g P=sy M (c::r') g P
 |[]=> .inl ⟨rfl,fun _ _ _=>rfl⟩
 |c::r=>by
  by_cases hw:fZ (c.toNat:Int)=true
  ·rcases Mn r with ⟨h1,h2⟩|⟨c',r',h1,h2,h3,h4⟩
   ·refine .inl ⟨by simp only[sign];rw[if_pos hw,h1],fun M h P=> ?_⟩
    rw[sy,if_pos hw];exact h2 M h P
   ·refine .inr ⟨c',r',by simp only[sign];rw[if_pos hw,h1],h2,by simp;omega,fun M h P=> ?_⟩
    rw[sy,if_pos hw];exact h4 M h P
  ·exact .inr ⟨c,r,by simp only[sign];rw[if_neg hw],by simpa using hw,by simp,fun _ _ _=>rfl⟩
theorem Xx {M:Int}{r:List UInt8}{g:List Nat}{P:List UInt8}(h:(rE M r g P).2≠0):(rE M r g P).1=[]:=by
 unfold rE at h|-
 split
 ·rfl
 ·split
  ·rfl
  ·split
   ·rfl
   ·split
    ·rename_i h1 h2 h3 h4;rw[if_neg h1,if_neg h2,if_neg h3,if_pos h4] at h;exact absurd rfl h
    ·rfl
theorem aaX (M:Int)(g:List Nat)(n:Nat)(P:List UInt8)(hn:n<=4):(ur M g n P).1.length<=P.length+4:=by
 unfold ur;split
 ·simp
 ·split
  ·simp
  ·simp[zF];omega
theorem Pk {lib:aA}(hl:lib.at 68=none)(hle:lib.at 112=none)(J5:lib.at 113=none)(oI:lib.at 108=none)(jL:lib.at 100=none)(E4:lib.at 109=none)(Gb:lib.at 111=none)
  (Kf:lib.at 156=none) (zP:lib.at 155=none) (kr:lib.at 192=none) (kW:lib.at 186=none) (jn:lib.at 209=none) (g7:lib.at 105=none)
  (s:aq) (x:Value) (l:List UInt8) (most M:Int) (hMM:(if most<0 then 0 else most)=M) (hx:aN s 1 x l.length (ofBytes l)) (hlen:l.length<=4000000) (hm:most<9223372036854775808):
  Runs Tryz.prog lib 68 [x,.int .i64 most] s (tQ s.next s (sy M l [] []).1 (sy M l [] []).2):=by
 have TL:0<=M:=by rw[<-hMM];split<;>omega
 have hM1:M<9223372036854775808:=by rw[<-hMM];split<;>omega
 refine Runs.enter 61 Tryz.func68 rfl hl rfl rfl ?_
 intro f hn hf
 have h0:f.get 0=x:=hf 0
 have h1:f.get 1= .int .i64 most:=hf 1
 clear hf
 simp only[aj,ak,aa,QS,Qx,↓reduceIte,hn,h0,h1]
 refine(AS (fun k=>aI (.slice none 0 0)=some k) oI jL s.next s x l most hx.low (Nat.le_refl _) (by omega) (fun _ h=>by cases h)).mono ?_
 rintro _ s1 ⟨j,rfl,hR,aE⟩
 rw[hMM] at hR
 simp only[aj,QS,↓reduceIte,hn]
 refine Comes.eZ (fun q f s' =>∃r g P v,q=r.length/\sy M r g P=sy M l [] []/\P.length+4*r.length<=4*l.length/\g.length<=4/\(∀d∈g,d<85)/\Own s' 1 v g.length (tS 33 g)/\aF s.next v/\mK (fun k=>aI v=some k) s.next s' j r P M/\ar s.next s s' /\f.n=61/\f.get 6=gI j/\f.get 7=v) ⟨l,[],[],_,rfl,rfl,by simp,by simp,by simp,.nil,aF.nil _,hR,aE,by simp only[ad,ag,↓reduceIte,Qx,hn,and_self]⟩ ?_
 clear hn h0 h1 f hR aE s1
 rintro q f s1 ⟨r,g,P,v,rfl,hu,hPr,hg4,aiO,hv,J9,hR,aE,hn,h6,h7⟩
 have gL:=aE.next
 simp only[aj,ak,aa,QS,↓reduceIte,hn,h6]
 refine(ye E4 Kf zP kr kW jn g7 _ s.next s1 j r P M hR gL).mono ?_
 rintro _ s2 ⟨rfl,iu,aR,Pj⟩
 have dE:=aE.trans aR
 have dI:=dE.next
 have Ke:=HL hv aR.next Pj
 rcases Mn r with ⟨hs,Fg⟩|⟨c,r',hs,hw,KM,Fg⟩
 ·have e1:(sign r).1= -1:=by rw[hs]
  rw[Fg] at hu
  simp only[aj,al,oneOf,QS,Qx,↓reduceIte,hn,e1,show((-1:Int)<0)=True from eq_true (by decide),<-hu,Tryz.results68]
  exact⟨_,rfl,.nil,aF.nil _,dE⟩
 ·have e1:(sign r).1=(c.toNat:Int):=by rw[hs]
  have e2:(sign r).2=r' :=by rw[hs]
  rw[e2] at iu
  rw[Fg,sy,if_neg (by rw[hw];decide)] at hu
  have Je:¬(c.toNat:Int)<0:=by omega
  have hPl:P.length<=2147483648:=by omega
  by_cases Mo:(c.toNat:Int)=126
  ·rw[if_pos Mo] at hu
   simp only[aj,ak,aa,QS,Qx,↓reduceIte,hn,h6,h7,e1,Je,eq_true Mo]
   refine(aaW hle J5 E4 Gb Kf zP kr kW jn g7 _ s.next s2 j r' P M g v iu dI Ke.aG aiO hg4 hPl TL hM1).mono ?_
   rintro _ s3 ⟨rfl,⟨r3,P3,AQ,hP3⟩,bC,_⟩
   have gj:=dE.trans bC
   obtain⟨y,hy⟩:∃y,y=rE M r' g P:=⟨_,rfl⟩
   rw[<-hy] at hP3 hu
   by_cases kF:y.2=0
   ·obtain⟨i,o,l',p,mO,eU,ht,hc,ho,hF,hj,ux,fN,ua,Zx⟩:=id AQ
    have ll:=ht.load (P:=Tryz.prog) fU (off:=2) (c:=4) rfl (by simp)
    simp only[aj,ak,al,oneOf,QS,Qx,↓reduceIte,hn,h6,<-hy,eq_true kF,qw,ll,<-hu,Tryz.results68]
    rw[hP3 kF] at ho
    exact⟨o,by rw[kF],ho,hF,gj⟩
   ·have Qa:y.1=[]:=by rw[hy];exact Xx (by rw[<-hy];exact kF)
    simp only[aj,ak,al,oneOf,QS,Qx,↓reduceIte,hn,<-hy,eq_false kF,<-hu,Qa,Tryz.results68]
    exact⟨_,rfl,.nil,aF.nil _,gj⟩
  ·rw[if_neg Mo] at hu
   by_cases cz:(c.toNat:Int)=122/\g=[]
   ·obtain⟨Mp,rfl⟩:=cz
    rw[if_pos ⟨Mp,rfl⟩] at hu
    simp only[aj,ak,aa,ae,QS,Qx,↓reduceIte,hn,h6,h7,e1,Je,eq_false Mo,eq_true Mp,Ke.aG.bm Tryz.underlying134,List.length_nil,Int.natCast_zero,N7 Tryz.underlying22 bK ks]
    refine aQ (by simp) ?_
    intro b s3 hb Oo bC
    simp only[aj,ak,aa,QS,Qx,↓reduceIte,hn]
    refine(tR Gb _ s.next s3 j r' P [0,0,0,0] M b (iu.keeps dI bC) (Nat.le_trans dI bC.next) hb.aG (by simp) hPl TL hM1).mono ?_
    rintro _ s4 ⟨rfl,yE,dX,anr⟩
    have jC:=dE.trans ((bC.weaken dI).trans dX)
    have hv4:=HL (Ke.keeps bC) dX.next anr
    have e4:((([0,0,0,0]:List UInt8).length:Nat):Int)=4:=rfl
    rw[e4] at yE
    by_cases kD:M-(P.length:Int)<4
    ·rw[if_pos kD] at hu
     simp only[aj,ak,al,oneOf,QS,Qx,↓reduceIte,hn,e4,eq_true kD,show((7:Int)=0)=False from eq_false (by decide),<-hu,Tryz.results68]
     exact⟨_,rfl,.nil,aF.nil _,jC⟩
    ·rw[if_neg kD] at hu yE
     simp only[aj,ak,QS,↓reduceIte,hn,e4,eq_false kD]
     refine ay r'.length (by omega) ⟨r',[],_,v,rfl,hu,by simp;omega,by simp,by simp,hv4,J9,yE,jC,by simp only[ad,ag,↓reduceIte,Qx,hn,h6,h7,and_self]⟩
   ·rw[if_neg cz] at hu
    by_cases Mp:(c.toNat:Int)=122
    ·have hgl:¬(g.length:Int)=0:=fun e=>cz ⟨Mp,List.eq_nil_of_length_eq_zero (by omega)⟩
     have d1:¬(c.toNat:Int)<33:=by omega
     have d2:(117:Int)<c.toNat:=by omega
     rw[if_pos (by omega)] at hu
     simp only[aj,ak,al,oneOf,aa,QS,Qx,↓reduceIte,hn,h7,e1,Je,eq_false Mo,eq_true Mp,eq_false hgl,eq_false d1,eq_true d2,Ke.aG.bm Tryz.underlying134,show((4:Int)=0)=False from eq_false (by decide),<-hu,Tryz.results68]
     exact⟨_,rfl,.nil,aF.nil _,dE⟩
    ·by_cases d1:(c.toNat:Int)<33
     ·rw[if_pos (by omega)] at hu
      simp only[aj,ak,al,oneOf,QS,Qx,↓reduceIte,hn,e1,Je,eq_false Mo,eq_false Mp,eq_true d1,show((4:Int)=0)=False from eq_false (by decide),<-hu,Tryz.results68]
      exact⟨_,rfl,.nil,aF.nil _,dE⟩
     ·by_cases d2:(117:Int)<c.toNat
      ·rw[if_pos (by omega)] at hu
       simp only[aj,ak,al,oneOf,QS,Qx,↓reduceIte,hn,e1,Je,eq_false Mo,eq_false Mp,eq_false d1,eq_true d2,show((4:Int)=0)=False from eq_false (by decide),<-hu,Tryz.results68]
       exact⟨_,rfl,.nil,aF.nil _,dE⟩
      ·rw[if_neg (by omega)] at hu
       obtain⟨d,hd⟩:∃d,d=c.toNat-33:=⟨_,rfl⟩
       rw[<-hd] at hu
       have aiM:d<85:=by omega
       simp only[aj,ak,ae,QS,Qx,↓reduceIte,hn,h7,e1,Je,eq_false Mo,eq_false Mp,eq_false d1,eq_false d2,gG Tryz.underlying134 bA VL]
       refine bG Tryz.underlying134 bA abW VL rfl Ke (by simp only[ad,↓reduceIte,Qx]) (by decide) (by simp only[ag,hn];decide) (by simp only[ag,hn];decide) (by rfl) (by decide) rfl (by omega) (by omega) J9 dI ?_
       intro bs v' s3 UH ans bC jM JC
       have W9:tS 33 g++[.int .i64 (c.toNat:Int)]=tS 33 (g++[d]):=by
        have:((d+33:Nat):Int)=(c.toNat:Int):=by omega
        simp only[tS,List.map_append,List.map_cons,List.map_nil,this]
       rw[W9] at UH
       have hg' :∀a∈g++[d],a<85:=fun a ha=>by
        rcases List.mem_append.mp ha with ha|ha
        ·exact aiO a ha
        ·rw[List.mem_singleton.mp ha];exact aiM
       have hgl:(g++[d]).length=g.length+1:=by simp
       have AQ:mK (fun k=>aI v' =some k) s.next s3 j r' P M:=iu.turns dI (fun k hk=>hk) J9 jM (fun q hq=>⟨UH.iD q hq,by
        rcases JC with e|⟨i,e,hi⟩
        ·exact .inl (by rw[<-e];exact hq)
        ·refine .inr ?_;have hq:aI v' =some q:=hq;rw[e] at hq;injection hq with hq;omega⟩)
       have gj:=dE.trans bC
       by_cases g5:g.length=4
       ·have g5' :((g.length+1:Nat):Int)=5:=by omega
        rw[if_pos g5] at hu
        simp only[aj,ak,aa,QS,Qx,↓reduceIte,hn,h6,UH.aG.bm Tryz.underlying134,eq_true g5']
        rw[<-hgl] at UH
        refine(Mm J5 Gb _ s.next s3 j r' P M (g++[d]) v' 4 AQ gj.next UH.aG hg' (by omega) hPl TL hM1).mono ?_
        rintro _ s4 ⟨rfl,yE,dX,_⟩
        have jC:=gj.trans dX
        have Iv:=aaX M (g++[d]) 4 P (by omega)
        obtain⟨y,hy⟩:∃y,y=ur M (g++[d]) 4 P:=⟨_,rfl⟩
        rw[<-hy] at yE Iv hu
        by_cases kF:y.2=0
        ·rw[if_pos kF] at hu
         simp only[aj,ak,QS,Qx,↓reduceIte,hn,<-hy,eq_true kF]
         have hR5:mK (fun k=>aI (.slice none 0 0)=some k) s.next s4 j r' y.1 M:=by
          obtain⟨i,o,l',p,q1,q2,q3,q4,q5,q6,q7,q8,q9,q10,q11,_⟩:=yE
          exact⟨i,o,l',p,q1,q2,q3,q4,q5,q6,q7,q8,q9,q10,q11,fun k hk=>by cases hk⟩
         refine ay r'.length (by omega) ⟨r',[],_,_,rfl,hu,by omega,by simp,by simp,.nil,aF.nil _,hR5,jC,by simp only[ad,ag,↓reduceIte,Qx,hn,h6,and_self]⟩
        ·rw[if_neg kF] at hu
         simp only[aj,ak,al,oneOf,QS,Qx,↓reduceIte,hn,<-hy,eq_false kF,<-hu,Tryz.results68]
         exact⟨_,rfl,.nil,aF.nil _,jC⟩
       ·have g5' :¬((g.length+1:Nat):Int)=5:=by omega
        rw[if_neg g5] at hu
        simp only[aj,ak,aa,QS,Qx,↓reduceIte,hn,UH.aG.bm Tryz.underlying134,eq_false g5']
        rw[<-hgl] at UH
        refine ay r'.length (by omega) ⟨r',_,P,v',rfl,hu,by omega,by omega,hg',UH,ans,AQ,gj,by simp only[ad,ag,↓reduceIte,Qx,hn,h6,and_self]⟩
end Go.Proofs.YtdfjfncifneocaaGreat
namespace Go.Proofs.YtdfjfncifneocaaGreat
open Go.Cl Go.Cl.Runs
theorem room_le {most:Int}{P:List UInt8}{j:Nat}:(most<=((P.length+j:Nat):Int))↔room most P<=j:=by unfold room;omega
theorem Mq {lib:aA}(hl:lib.at 69=none)(s:aq)(x:Value)(l:List UInt8)(most:Int)(hx:aN s 1 x l.length (ofBytes l))(hlen:l.length<=4000000):
  Runs Tryz.prog lib 69 [x,.int .i64 most] s (tQ s.next s (dec most l []).1 (dec most l []).2):=by
 refine Runs.enter 63 Tryz.func69 rfl hl rfl rfl ?_
 intro f hn hf
 have h0:f.get 0=x:=hf 0
 have h1:f.get 1= .int .i64 most:=hf 1
 clear hf
 simp only[aj,QS,↓reduceIte,hn]
 refine Comes.eZ (fun k f s' =>∃(i:Nat) (o:Value) (P:List UInt8),k=l.length-i/\i<=l.length/\P.length<=128*i/\dec most (l.drop i) P=dec most l []/\Own s' 1 o P.length (ofBytes P)/\aF s.next o/\ar s.next s s' /\f.n=63/\f.get 0=x/\f.get 1= .int .i64 most/\f.get 7= .int .i64 i/\f.get 6=o) ⟨0,_,[],rfl,by omega,by simp,rfl,.nil,aF.nil _,ar.refl _ _,by simp only[ag,hn],by simp only[ad,↓reduceIte,Qx,h0],by simp only[ad,↓reduceIte,Qx,h1],by simp only[ad,↓reduceIte];rfl,by simp only[ad,↓reduceIte,Qx]⟩ ?_
 clear hn h0 h1 f
 rintro k f s1 ⟨i,o,P,rfl,hi,hP,kP,ho,pg,aE,hn,h0,h1,h7,h6⟩
 have nk:=hx.keeps aE
 have fail:∀(f:aW) (s2:aq) (e:Int),f.n=63->f.get 4= .slice none 0 0->f.get 5= .int .i64 e->ar s.next s s2->dec most l []=([],e)->YR Tryz.prog (Tryz.f69).results.toList (tQ s.next s (dec most l []).1 (dec most l []).2) .ret f s2:=by
  intro f s2 e hn h4 h5 aE he
  simp only[aj,al,oneOf,QS,↓reduceIte,hn,h4,h5,Tryz.results69,he]
  exact⟨_,rfl,.nil,aF.nil _,aE⟩
 by_cases bd:i<l.length
 ·have hb:=(l.getD i 0).toNat_lt
  rw[drop_cons bd] at kP
  generalize SM:(l.getD i 0).toNat=n at*
  simp(disch:=omega)only[aj,aa,QS,Qx,↓reduceIte,hn,h0,h7,bd,nk.bm Tryz.underlying22,nk.indexAddr Tryz.underlying22 bK,nk.di kI,bw,SM,bL Tryz.underlying5 Tryz.underlying3,aD]
  by_cases as8:n=128
  ·have aaY:(n:Int)=128:=by omega
   simp(disch:=omega)only[aj,al,oneOf,QS,Qx,↓reduceIte,hn,h6,aaY,Tryz.results69]
   rw[xR (by omega)] at kP
   rw[<-kP]
   exact⟨_,rfl,ho,pg,aE⟩
  ·have aaY:¬(n:Int)=128:=by omega
   by_cases kp:128<n
   ·obtain⟨times,ht⟩:∃times:Nat,(257:Int)-n=times:=⟨257-n,by omega⟩
    have Xy:(128:Int)<n:=by omega
    have htn:257-n=times:=by omega
    simp(disch:=omega)only[aj,QS,Qx,↓reduceIte,hn,aaY,Xy,aD,ht]
    refine Comes.eZ (fun k f s' =>∃(j:Nat) (o:Value),k=times-j/\j<=times/\j<=room most P/\(0<j->i+1<l.length)/\Own s' 1 o (P.length+j) (ofBytes (P++List.replicate j (l.getD (i+1) 0)))/\aF s.next o/\ar s.next s s' /\f.n=63/\f.get 0=x/\f.get 1= .int .i64 most/\f.get 7= .int .i64 (if j=times then(i+2:Nat) else(i+1:Nat))/\f.get 6=o/\f.get 9= .bool true/\f.get 10= .int .i64 times/\f.get 33= .int .i64 times/\f.get 34= .int .i64 j) ⟨0,o,rfl,by omega,by omega,by omega,by simpa using ho,pg,aE,by simp only[ag,hn],by simp only[ad,↓reduceIte,Qx,h0],by simp only[ad,↓reduceIte,Qx,h1],by simp only[ad,↓reduceIte,Qx];rw[if_neg (by omega)];rfl,by simp only[ad,↓reduceIte,Qx,h6,true_and];rfl⟩ ?_
    clear hn h0 h1 h7 h6 f
    rintro k f s2 ⟨j,o2,rfl,hj,hjr,N4,fN,Fk,aR,hn,h0,h1,h7,h6,h9,eX,AH,wG⟩
    have ko:=hx.keeps aR
    by_cases hjt:j<times
    ·rw[if_neg (show¬j=times by omega)] at h7
     by_cases sn:i+1<l.length
     ·have JF:¬((l.length:Int)<=((i+1:Nat):Int)):=by omega
      by_cases hm:most<=((P.length+j:Nat):Int)
      ·simp(disch:=omega)only[aj,aa,QS,Qx,↓reduceIte,hn,h0,h1,h7,h6,AH,wG,hjt,ko.bm Tryz.underlying22,JF,fN.aG.bm Tryz.underlying22,hm]
       refine fail _ s2 7 (by simp only[ag,hn]) (by simp only[ad,↓reduceIte,Qx]) (by simp only[ad,↓reduceIte]) aR ?_
       rw[<-kP,drop_cons sn,FX (by omega) (by rw[room_le] at hm;omega)]
      ·have Xz:(((i+1:Nat):Int)).toNat=i+1:=by omega
       simp(disch:=omega)only[aj,aa,ae,QS,Qx,↓reduceIte,hn,h0,h1,h7,h6,AH,wG,hjt,ko.bm Tryz.underlying22,JF,fN.aG.bm Tryz.underlying22,hm,ko.indexAddr Tryz.underlying22 bK,Xz,ko.di kI,bw,gG Tryz.underlying22 bK ks]
       refine bG Tryz.underlying22 bK jW ks rfl fN (by simp only[ad,↓reduceIte,Qx]) (by decide) (by simp only[ag,hn];decide) (by simp only[ag,hn];decide) (by rfl) (by decide) rfl (by omega) (by omega) Fk aR.next ?_
       intro bs o3 s3 ou aa0 bC _ _
       have sY:P++List.replicate (j+1) (l.getD (i+1) 0)=(P++List.replicate j (l.getD (i+1) 0))++[l.getD (i+1) 0]:=by rw[List.replicate_succ',List.append_assoc]
       by_cases acE:(j:Int)=times-1
       ·simp(disch:=omega)only[aj,ak,QS,Qx,↓reduceIte,hn,h7,h9,eX,wG,aD,acE]
        refine ay (times-(j+1)) (by omega) ⟨j+1,o3,rfl,by omega,by rw[room_le] at hm;omega,fun _=>sn,?_,aa0,aR.trans bC,by simp only[ag,hn],by simp only[ad,↓reduceIte,Qx,h0],by simp only[ad,↓reduceIte,Qx,h1],by simp only[ad,↓reduceIte,Qx];rw[if_pos (by omega)];rfl,by simp only[ad,↓reduceIte,Qx],by simp only[ad,↓reduceIte,Qx,h9],by simp only[ad,↓reduceIte,Qx,eX],by simp only[ad,↓reduceIte,Qx,AH],by simp only[ad,↓reduceIte];congr 1;omega⟩
        rw[sY,br];exact ou
       ·simp(disch:=omega)only[aj,ak,QS,Qx,↓reduceIte,hn,h9,eX,wG,aD,acE]
        refine ay (times-(j+1)) (by omega) ⟨j+1,o3,rfl,by omega,by rw[room_le] at hm;omega,fun _=>sn,?_,aa0,aR.trans bC,by simp only[ag,hn],by simp only[ad,↓reduceIte,Qx,h0],by simp only[ad,↓reduceIte,Qx,h1],by simp only[ad,↓reduceIte,Qx,h7];rw[if_neg (by omega)],by simp only[ad,↓reduceIte,Qx,h9,eX,AH,true_and];rfl⟩
        rw[sY,br];exact ou
     ·have JF:((l.length:Int)<=((i+1:Nat):Int)):=by omega
      simp(disch:=omega)only[aj,aa,QS,Qx,↓reduceIte,hn,h0,h7,AH,wG,hjt,ko.bm Tryz.underlying22,JF]
      refine fail _ s2 2 (by simp only[ag,hn]) (by simp only[ad,↓reduceIte,Qx]) (by simp only[ad,↓reduceIte]) aR ?_
      rw[<-kP,List.drop_eq_nil_of_le (by omega),FW (by omega)]
    ·obtain rfl:j=times:=by omega
     rw[if_pos rfl] at h7
     have sn:=N4 (by omega)
     simp(disch:=omega)only[aj,QS,↓reduceIte,hn,AH,wG,hjt]
     refine ay (l.length-(i+2)) (by omega) ⟨i+2,o2,P++List.replicate j (l.getD (i+1) 0),rfl,by omega,?_,?_,(by rw[List.length_append,List.length_replicate];exact fN),Fk,aR,by simp only[ad,ag,↓reduceIte,Qx,hn,h0,h1,h7,h6,and_self]⟩
     ·rw[List.length_append,List.length_replicate];omega
     ·rw[<-kP,drop_cons sn,uh (by omega) (by omega),SM,htn]
   ·obtain⟨times,ht⟩:∃times:Nat,(n:Int)+1=times:=⟨n+1,by omega⟩
    have Xy:¬(128:Int)<n:=by omega
    have htn:n+1=times:=by omega
    have YS:(l.drop (i+1)).length=l.length-(i+1):=List.length_drop
    simp(disch:=omega)only[aj,QS,Qx,↓reduceIte,hn,aaY,Xy,aD,ht]
    refine Comes.eZ (fun k f s' =>∃(j:Nat) (o:Value),k=times-j/\j<=times/\j<=room most P/\i+1+j<=l.length/\Own s' 1 o (P.length+j) (ofBytes (P++(l.drop (i+1)).take j))/\aF s.next o/\ar s.next s s' /\f.n=63/\f.get 0=x/\f.get 1= .int .i64 most/\f.get 7= .int .i64 (i+1+j:Nat)/\f.get 6=o/\f.get 9= .bool false/\f.get 10= .int .i64 times/\f.get 33= .int .i64 times/\f.get 34= .int .i64 j) ⟨0,o,rfl,by omega,by omega,by omega,by simpa using ho,pg,aE,by simp only[ag,hn],by simp only[ad,↓reduceIte,Qx,h0],by simp only[ad,↓reduceIte,Qx,h1],by simp only[ad,↓reduceIte,Qx];rfl,by simp only[ad,↓reduceIte,Qx,h6,true_and];rfl⟩ ?_
    clear hn h0 h1 h7 h6 f
    rintro k f s2 ⟨j,o2,rfl,hj,hjr,N4,fN,Fk,aR,hn,h0,h1,h7,h6,h9,eX,AH,wG⟩
    have ko:=hx.keeps aR
    by_cases hjt:j<times
    ·by_cases sn:i+1+j<l.length
     ·have JF:¬((l.length:Int)<=((i+1+j:Nat):Int)):=by omega
      by_cases hm:most<=((P.length+j:Nat):Int)
      ·simp(disch:=omega)only[aj,aa,QS,Qx,↓reduceIte,hn,h0,h1,h7,h6,AH,wG,hjt,ko.bm Tryz.underlying22,JF,fN.aG.bm Tryz.underlying22,hm]
       refine fail _ s2 7 (by simp only[ag,hn]) (by simp only[ad,↓reduceIte,Qx]) (by simp only[ad,↓reduceIte]) aR ?_
       rw[<-kP,FZ (by omega) (by rw[room_le] at hm;omega) (by rw[room_le] at hm;omega)]
      ·have Xz:(((i+1+j:Nat):Int)).toNat=i+1+j:=by omega
       simp(disch:=omega)only[aj,aa,ae,QS,Qx,↓reduceIte,hn,h0,h1,h7,h6,AH,wG,hjt,ko.bm Tryz.underlying22,JF,fN.aG.bm Tryz.underlying22,hm,ko.indexAddr Tryz.underlying22 bK,Xz,ko.di kI,bw,gG Tryz.underlying22 bK ks]
       refine bG Tryz.underlying22 bK jW ks rfl fN (by simp only[ad,↓reduceIte,Qx]) (by decide) (by simp only[ag,hn];decide) (by simp only[ag,hn];decide) (by rfl) (by decide) rfl (by omega) (by omega) Fk aR.next ?_
       intro bs o3 s3 ou aa0 bC _ _
       have sY:P++(l.drop (i+1)).take (j+1)=(P++(l.drop (i+1)).take j)++[l.getD (i+1+j) 0]:=by rw[qd (by omega),List.append_assoc,qo]
       simp(disch:=omega)only[aj,ak,QS,Qx,↓reduceIte,hn,h7,h9,wG,aD]
       refine ay (times-(j+1)) (by omega) ⟨j+1,o3,rfl,by omega,by rw[room_le] at hm;omega,by omega,?_,aa0,aR.trans bC,by simp only[ag,hn],by simp only[ad,↓reduceIte,Qx,h0],by simp only[ad,↓reduceIte,Qx,h1],by simp only[ad,↓reduceIte,Qx];rfl,by simp only[ad,↓reduceIte,Qx,h9,eX,AH,true_and];rfl⟩
       rw[sY,br];exact ou
     ·have JF:((l.length:Int)<=((i+1+j:Nat):Int)):=by omega
      simp(disch:=omega)only[aj,aa,QS,Qx,↓reduceIte,hn,h0,h7,AH,wG,hjt,ko.bm Tryz.underlying22,JF]
      refine fail _ s2 2 (by simp only[ag,hn]) (by simp only[ad,↓reduceIte,Qx]) (by simp only[ad,↓reduceIte]) aR ?_
      rw[<-kP,FY (by omega) (by omega) (by omega)]
    ·obtain rfl:j=times:=by omega
     simp(disch:=omega)only[aj,QS,↓reduceIte,hn,AH,wG,hjt]
     have Lq:((l.drop (i+1)).take j).length=j:=by rw[List.length_take];omega
     refine ay (l.length-(i+1+j)) (by omega) ⟨i+1+j,o2,P++(l.drop (i+1)).take j,rfl,by omega,?_,?_,(by rw[List.length_append,Lq];exact fN),Fk,aR,by simp only[ad,ag,↓reduceIte,Qx,hn,h0,h1,h7,h6,and_self]⟩
     ·rw[List.length_append,Lq];omega
     ·rw[<-kP,Jh (by omega) (by omega) (by omega),SM,htn,List.drop_drop]
 ·simp(disch:=omega)only[aj,aa,QS,Qx,↓reduceIte,hn,h0,h7,bd,nk.bm Tryz.underlying22]
  refine fail _ s1 2 (by simp only[ag,hn]) (by simp only[ad,↓reduceIte,Qx]) (by simp only[ad,↓reduceIte]) aE ?_
  rw[<-kP,List.drop_eq_nil_of_le (by omega),QX]
end Go.Proofs.YtdfjfncifneocaaGreat
namespace Go.Cl.Bt
open Go.Cl.Sto
theorem Rk (x:Nat)(h:x<9223372036854775808):IntKind.i64.wrap (((BitVec.ofInt IntKind.i64.bits (x:Int)&&&BitVec.ofInt IntKind.i64.bits 1).toNat:Nat):Int)=((x%2:Nat):Int):=by
 have e1:IntKind.i64.bits=64:=rfl
 rw[e1]
 have:(BitVec.ofInt 64 (x:Int)&&&BitVec.ofInt 64 1).toNat=x%2:=by
  rw[BitVec.toNat_and,BitVec.ofInt_natCast,BitVec.toNat_ofNat,Nat.mod_eq_of_lt (by omega)]
  show x&&&1=_
  exact Nat.and_one_is_mod _
 rw[this,aD (by omega)]
theorem aa1 (P:Program)(t:TypeId)(k' :IntKind)(x:Nat):cQ P .shr t (.int .i64 (x:Int)) (.int k' 1)=some (.int .i64 ((x/2:Nat):Int)):=by
 rw[lS P t .i64 _ 1 k' (by decide)]
 have:((x:Int)).fdiv (2^(min (1:Int).toNat IntKind.i64.bits))=((x/2:Nat):Int):=by
  show((x:Int)).fdiv 2=_
  rw[Int.fdiv_eq_ediv_of_nonneg _ (by omega)];omega
 rw[this]
def rest (b:List UInt8)(p left:Nat):Nat:=(b.getD (p-1) 0).toNat/2^(8-left)
theorem HM (b:List UInt8)(p:Nat):rest b (p+1) 8=(b.getD p 0).toNat:=by simp[rest]
theorem uu {b:List UInt8}{p left:Nat}(h1:1<=left)(h8:left<=8):rest b p left/2=rest b p (left-1):=by
 unfold rest
 rw[Nat.div_div_eq_div_mul,show 8-(left-1)=(8-left)+1 by omega,Nat.pow_succ]
theorem yf {b:List UInt8}{p left a:Nat}(h1:1<=left)(h8:left<=8)(ha:a+left=8*p):rest b p left%2=bit b a:=by
 unfold rest bit
 rw[show a/8=p-1 by omega,show a%8=8-left by omega]
end Go.Cl.Bt
