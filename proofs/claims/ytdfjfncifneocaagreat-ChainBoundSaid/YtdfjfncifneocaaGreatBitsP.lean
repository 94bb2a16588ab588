import Derived.Test.YtdfjfncifneocaaGreatUnhexP
import Derived.Test.YtdfjfncifneocaaGreatLooseA
import Derived.Test.YtdfjfncifneocaaGreatB85P
import Derived.Test.YtdfjfncifneocaaGreatFixW
open Nat renaming reduceLT->QS,reduceEqDiff->WP
set_option linter.unusedSimpArgs false
set_option linter.unusedVariables false
set_option maxRecDepth 100000
namespace Go.Proofs.YtdfjfncifneocaaGreat
open Go.Cl Go.Cl.Uh
def EJ (M:Int):List UInt8->Int->List UInt8->List UInt8×Int
 |[],_,_=>([],2)
 |c::r,h,P=>
  if fF c.toNat then EJ M r h P
  else if(c.toNat:Int)=62 then(if h<0 then(P,0) else if M-P.length<1 then([],7) else(P++[zV (h.toNat*16)],0))
  else if digit c.toNat<0 then([],4)
  else if h<0 then EJ M r (digit c.toNat) P
  else if M-P.length<1 then([],7) else EJ M r (-1) (P++[zV (h.toNat*16+(digit c.toNat).toNat)])
theorem Vz (c:Int):digit c<16:=by unfold digit;repeat (first|(split;all_goals try omega)|omega)
theorem Dk:∀r:List UInt8,(sign r=(-1,[])/\∀M h P,EJ M r h P=([],2))\/∃(c:UInt8) (r' :List UInt8),sign r=((c.toNat:Int),r')/\fF c.toNat=false/\r'.length<r.length/\∀M h P,EJ M r h P=EJ M (c::r') h P
 |[]=> .inl ⟨rfl,fun _ _ _=>rfl⟩
 |c::r=>by
  by_cases hw:fF (c.toNat:Int)=true
  ·rcases Dk r with ⟨h1,h2⟩|⟨c',r',h1,h2,h3,h4⟩
   ·refine .inl ⟨by simp only[sign];rw[if_pos hw,h1],fun M h P=> ?_⟩
    rw[EJ,if_pos hw];exact h2 M h P
   ·refine .inr ⟨c',r',by simp only[sign];rw[if_pos hw,h1],h2,by simp;omega,fun M h P=> ?_⟩
    rw[EJ,if_pos hw];exact h4 M h P
  ·exact .inr ⟨c,r,by simp only[sign];rw[if_neg hw],by simpa using hw,by simp,fun _ _ _=>rfl⟩
theorem GD {lib:az}(hl:lib.at 111=none)(A:Nat->Prop)(base:Nat)(s:aq)(j:Nat)(r P:List UInt8)(c:UInt8)(M:Int)(b:Value)(h:l5 A base s j r P M)(hb:base<=s.next)(hd:Own s 1 b 1 [.int .u8 c.toNat])(hP:P.length<=2147483648)(RX:0<=M)(hM:M<9223372036854775808):
  Runs Tryz.prog lib 111 [gl j,b] s fun v s' =>v= .int .i64 (if M-P.length<1 then 7 else 0)/\l5 A base s' j r (if M-P.length<1 then P else P++[c]) M/\ar base s s' /\Still A s s' :=by
 refine(sY hl A base s j r P [c] M b h hb hd.aG (by simp) hP RX hM).mono ?_
 intro v s' h
 simpa using h
set_option maxRecDepth 100000 in
set_option maxHeartbeats 4000000 in
theorem RY {lib:az}(hl:lib.at 67=none)(ra:lib.at 108=none)(js:lib.at 100=none)(DR:lib.at 109=none)(EK:lib.at 111=none)(iF:lib.at 110=none)
  (IP:lib.at 156=none) (yQ:lib.at 155=none) (jQ:lib.at 192=none) (m9:lib.at 186=none) (kX:lib.at 209=none) (jS:lib.at 105=none)
  (s:aq) (x:Value) (l:List UInt8) (most M:Int) (hMM:(if most<0 then 0 else most)=M) (hx:aN s 1 x l.length (ofBytes l)) (hlen:l.length<=1000000) (hm:most<9223372036854775808):
  Runs Tryz.prog lib 67 [x,.int .i64 most] s (sX s.next s (EJ M l (-1) []).1 (EJ M l (-1) []).2):=by
 have RX:0<=M:=by rw[<-hMM];split<;>omega
 have hM1:M<9223372036854775808:=by rw[<-hMM];split<;>omega
 refine Runs.enter 65 Tryz.func67 rfl hl rfl rfl ?_
 intro f hn hf
 have h0:f.get 0=x:=hf 0
 have h1:f.get 1= .int .i64 most:=hf 1
 clear hf
 simp-implicitDefEqProofs(disch:=omega)only[aj,ak,ad,QS,WP,↓reduceIte,hn,h0,h1]
 refine(zU (fun _=>False) ra js s.next s x l most hx.low (Nat.le_refl _) (by omega) (fun _ h=>h.elim)).mono ?_
 rintro _ s1 ⟨j,rfl,hR,aD⟩
 rw[hMM] at hR
 simp-implicitDefEqProofs(disch:=omega)only[aj,QS,↓reduceIte,hn]
 refine Comes.eU (fun q f s' =>∃r h P,q=r.length/\EJ M r h P=EJ M l (-1) []/\P.length+r.length<=l.length/\h<16/\l5 (fun _=>False) s.next s' j r P M/\ar s.next s s' /\f.n=65/\f.get 6=gl j/\f.get 7= .int .i64 h) ⟨l,-1,[],rfl,rfl,by simp,by omega,hR,aD,by simp only[ag,hn],by simp only[aa,↓reduceIte,WP],by simp only[aa,↓reduceIte]⟩ ?_
 clear hn h0 h1 f hR aD s1
 rintro q f s1 ⟨r,h,P,rfl,hu,hPr,apH,hR,aD,hn,h6,h7⟩
 have gu:=aD.next
 simp-implicitDefEqProofs(disch:=omega)only[aj,ak,ad,QS,↓reduceIte,hn,h6]
 refine(w8 DR IP yQ jQ m9 kX jS _ s.next s1 j r P M hR gu).mono ?_
 rintro _ s2 ⟨rfl,gR,aU,_⟩
 have dn:=aD.trans aU
 have dB:=dn.next
 simp-implicitDefEqProofs(disch:=omega)only[aj,ak,ad,QS,↓reduceIte,hn]
 refine(RW iF s2 _).mono ?_
 rintro _ s2 ⟨rfl,rfl⟩
 rcases Dk r with ⟨hs,D0⟩|⟨c,r',hs,hw,Jo,D0⟩
 ·have e1:(sign r).1= -1:=by rw[hs]
  rw[D0] at hu
  simp-implicitDefEqProofs(disch:=omega)only[aj,al,oneOf,QS,WP,↓reduceIte,hn,e1,show((-1:Int)<0)=True from eq_true (by decide),<-hu,Tryz.results67]
  exact⟨_,rfl,.nil,aH.nil _,dn⟩
 ·have e1:(sign r).1=(c.toNat:Int):=by rw[hs]
  have e2:(sign r).2=r' :=by rw[hs]
  rw[e2] at gR
  rw[D0,EJ,if_neg (by rw[hw];decide)] at hu
  have J4:¬(c.toNat:Int)<0:=by omega
  have hdg:=Vz c.toNat
  have hcr:P.length+r'.length<l.length:=by omega
  have ZF:P.length<=2147483648:=by omega
  by_cases c62:(c.toNat:Int)=62
  ·rw[if_pos c62] at hu
   by_cases hh:h<0
   ·rw[if_pos hh] at hu
    obtain⟨i,o,l',p,oC,ef,ht,hc,ho,hF,hj,tE,fx,th,Xj⟩:=id gR
    have ll:=ht.load (P:=Tryz.prog) gw (off:=2) (c:=4) rfl (by simp)
    simp-implicitDefEqProofs(disch:=omega)only[aj,ak,al,oneOf,QS,WP,↓reduceIte,hn,h6,h7,e1,J4,eq_true c62,eq_true hh,pO,ll,<-hu,Tryz.results67]
    exact⟨o,rfl,ho,hF,dn⟩
   ·rw[if_neg hh] at hu
    obtain⟨n,rfl⟩:∃n:Nat,h=n:=⟨h.toNat,by omega⟩
    rw[Int.toNat_natCast] at hu
    have hv:((n:Int)*16)%256=((zV (n*16)).toNat:Int):=by rw[GC (by omega)];omega
    simp-implicitDefEqProofs(disch:=omega)only[aj,ak,ae,QS,WP,↓reduceIte,hn,h6,h7,e1,J4,eq_true c62,eq_false hh,agn,aB,bR Tryz.underlying3 Tryz.underlying5,gA,hv,g9 Tryz.underlying22 bL lh]
    refine aQ (by simp) ?_
    intro b s3 hb MB bH
    simp-implicitDefEqProofs(disch:=omega)only[aj,ak,ad,QS,WP,↓reduceIte,hn]
    refine(GD EK _ s.next s3 j r' P _ M b (gR.keeps dB bH) (by have:=bH.next;omega) hb ZF RX hM1).mono ?_
    rintro _ s4 ⟨rfl,xD,dY,_⟩
    have iZ:=dn.trans ((bH.weaken dB).trans dY)
    by_cases j5:M-(P.length:Int)<1
    ·rw[if_pos j5] at hu
     simp-implicitDefEqProofs(disch:=omega)only[aj,ak,al,oneOf,QS,WP,↓reduceIte,hn,eq_true j5,show((7:Int)=0)=False from eq_false (by decide),<-hu,Tryz.results67]
     exact⟨_,rfl,.nil,aH.nil _,iZ⟩
    ·rw[if_neg j5] at hu xD
     obtain⟨i,o,l',p,oC,ef,ht,hc,ho,hF,hj,tE,fx,th,Xj⟩:=id xD
     have ll:=ht.load (P:=Tryz.prog) gw (off:=2) (c:=4) rfl (by simp)
     simp-implicitDefEqProofs(disch:=omega)only[aj,ak,al,oneOf,QS,WP,↓reduceIte,hn,h6,eq_false j5,pO,ll,<-hu,Tryz.results67]
     exact⟨o,rfl,ho,hF,iZ⟩
  ·rw[if_neg c62] at hu
   by_cases hd:digit c.toNat<0
   ·rw[if_pos hd] at hu
    simp-implicitDefEqProofs(disch:=omega)only[aj,ak,al,oneOf,QS,WP,↓reduceIte,hn,e1,J4,eq_false c62,eq_true hd,show((4:Int)=0)=False from eq_false (by decide),<-hu,Tryz.results67]
    exact⟨_,rfl,.nil,aH.nil _,dn⟩
   ·rw[if_neg hd] at hu
    by_cases hh:h<0
    ·rw[if_pos hh] at hu
     simp-implicitDefEqProofs(disch:=omega)only[aj,ak,QS,WP,↓reduceIte,hn,h7,e1,J4,eq_false c62,eq_false hd,eq_true hh]
     refine au r'.length (by omega) ⟨r',_,P,rfl,hu,by omega,hdg,gR,dn,by simp only[ag,hn],by simp only[aa,↓reduceIte,WP,h6],by simp only[aa,↓reduceIte,WP]⟩
    ·rw[if_neg hh] at hu
     obtain⟨n,rfl⟩:∃n:Nat,h=n:=⟨h.toNat,by omega⟩
     obtain⟨d,hdd⟩:∃d:Nat,digit c.toNat=d:=⟨(digit c.toNat).toNat,by omega⟩
     rw[hdd,Int.toNat_natCast,Int.toNat_natCast] at hu
     rw[hdd] at hd
     have hv:((n*16+d:Nat):Int)%256=((zV (n*16+d)).toNat:Int):=by rw[GC (by omega)];omega
     simp-implicitDefEqProofs(disch:=omega)only[aj,ak,ae,QS,WP,↓reduceIte,hn,h6,h7,e1,J4,eq_false c62,hdd,eq_false hd,eq_false hh,agn,aB,jB,YA,bR Tryz.underlying3 Tryz.underlying5,gA,hv,g9 Tryz.underlying22 bL lh]
     refine aQ (by simp) ?_
     intro b s3 hb MB bH
     simp-implicitDefEqProofs(disch:=omega)only[aj,ak,ad,QS,WP,↓reduceIte,hn]
     refine(GD EK _ s.next s3 j r' P _ M b (gR.keeps dB bH) (by have:=bH.next;omega) hb ZF RX hM1).mono ?_
     rintro _ s4 ⟨rfl,xD,dY,_⟩
     have iZ:=dn.trans ((bH.weaken dB).trans dY)
     by_cases j5:M-(P.length:Int)<1
     ·rw[if_pos j5] at hu
      simp-implicitDefEqProofs(disch:=omega)only[aj,ak,al,oneOf,QS,WP,↓reduceIte,hn,eq_true j5,show((7:Int)=0)=False from eq_false (by decide),<-hu,Tryz.results67]
      exact⟨_,rfl,.nil,aH.nil _,iZ⟩
     ·rw[if_neg j5] at hu xD
      simp-implicitDefEqProofs(disch:=omega)only[aj,ak,QS,WP,↓reduceIte,hn,eq_false j5]
      refine au r'.length (by omega) ⟨r',_,_,rfl,hu,by simp;omega,by omega,xD,iZ,by simp only[ag,hn],by simp only[aa,↓reduceIte,WP,h6],by simp only[aa,↓reduceIte,WP]⟩
end Go.Proofs.YtdfjfncifneocaaGreat
set_option linter.unusedSimpArgs false
set_option linter.unusedVariables false
set_option maxRecDepth 100000
namespace Go.Proofs.YtdfjfncifneocaaGreat
open Go.Cl Go.Cl.Uh
def fc (g:List Nat):Nat->Nat
 |0=>0
 |k+1=>fc g k*85+g.getD k 84
theorem Dl {g:List Nat}(h:∀d∈g,d<85):∀k,fc g k<85^k
 |0=>by simp[fc]
 |k+1=>by
  have:=Dl h k
  have hd:g.getD k 84<85:=by
   rw[List.getD_eq_getElem?_getD]
   by_cases hk:k<g.length
   ·rw[List.getElem?_eq_getElem hk];exact h _ (List.getElem_mem hk)
   ·rw[List.getElem?_eq_none (by omega)];decide
  simp only[fc,Nat.pow_succ];omega
def yE (x:Nat):List UInt8:=[UInt8.ofNat (x/16777216),UInt8.ofNat (x/65536),UInt8.ofNat (x/256),UInt8.ofNat x]
def tx (M:Int)(g:List Nat)(n:Nat)(P:List UInt8):List UInt8×Int:=
 if 4294967295<fc g 5 then(P,4) else if M-P.length<n then(P,7) else(P++(yE (fc g 5)).take n,0)
def qC (M:Int)(r:List UInt8)(g:List Nat)(P:List UInt8):List UInt8×Int:=
 if g.length=1 then([],4)
 else if 1<g.length/\(tx M g (g.length-1) P).2≠0 then([],(tx M g (g.length-1) P).2)
 else if(sign r).1<0 then([],2)
 else if(sign r).1=62 then(if 1<g.length then(tx M g (g.length-1) P).1 else P,0)
 else([],4)
def rB (M:Int):List UInt8->List Nat->List UInt8->List UInt8×Int
 |[],_,_=>([],2)
 |c::r,g,P=>
  if fF c.toNat then rB M r g P
  else if(c.toNat:Int)=126 then qC M r g P
  else if(c.toNat:Int)=122/\g=[] then(if M-P.length<4 then([],7) else rB M r [] (P++[0,0,0,0]))
  else if c.toNat<33\/117<c.toNat then([],4)
  else if g.length=4 then(if(tx M (g++[c.toNat-33]) 4 P).2=0 then rB M r [] (tx M (g++[c.toNat-33]) 4 P).1 else([],(tx M (g++[c.toNat-33]) 4 P).2))
  else rB M r (g++[c.toNat-33]) P
def sZ (a:Nat)(g:List Nat):List Value:=g.map fun d=> .int .i64 ((d+a:Nat):Int)
theorem KK {a:Nat}{g:List Nat}{i:Nat}(h:i<g.length):(sZ a g).getD i undef= .int .i64 ((g.getD i 84+a:Nat):Int):=by
 simp[sZ,List.getD,List.getElem?_eq_getElem h]
theorem PG {x:Int}(h0: -2147483648<=x)(h:x<2147483648):IntKind.i32.wrap x=x:=by
 have e1:IntKind.i32.bits=32:=rfl
 have e2:IntKind.i32.signed=true:=rfl
 simp only[IntKind.wrap,e1,e2,Bool.true_and]
 simp
 omega
theorem PH {x:Int}(h0:0<=x)(h:x<18446744073709551616):IntKind.u64.wrap x=x:=by
 have e1:IntKind.u64.bits=64:=rfl
 have e2:IntKind.u64.signed=false:=rfl
 simp only[IntKind.wrap,e1,e2,Bool.false_and]
 simp
 omega
theorem VA (P:Program)(t:TypeId)(k' :IntKind)(x:Nat):cI P .shr t (.int .u64 x) (.int k' 24)=some (.int .u64 ((x/16777216:Nat):Int))/\cI P .shr t (.int .u64 x) (.int k' 16)=some (.int .u64 ((x/65536:Nat):Int))/\cI P .shr t (.int .u64 x) (.int k' 8)=some (.int .u64 ((x/256:Nat):Int)):=by
 refine⟨?_,?_,?_⟩
 ·rw[kZ P t .u64 _ 24 k' (by decide)]
  have:((x:Int)).fdiv (2^(min (24:Int).toNat IntKind.u64.bits))=((x/16777216:Nat):Int):=by
   show((x:Int)).fdiv 16777216=_
   rw[Int.fdiv_eq_ediv_of_nonneg _ (by omega)];omega
  rw[this]
 ·rw[kZ P t .u64 _ 16 k' (by decide)]
  have:((x:Int)).fdiv (2^(min (16:Int).toNat IntKind.u64.bits))=((x/65536:Nat):Int):=by
   show((x:Int)).fdiv 65536=_
   rw[Int.fdiv_eq_ediv_of_nonneg _ (by omega)];omega
  rw[this]
 ·rw[kZ P t .u64 _ 8 k' (by decide)]
  have:((x:Int)).fdiv (2^(min (8:Int).toNat IntKind.u64.bits))=((x/256:Nat):Int):=by
   show((x:Int)).fdiv 256=_
   rw[Int.fdiv_eq_ediv_of_nonneg _ (by omega)];omega
  rw[this]
theorem YB (x:Nat):((x:Int))%256=(((UInt8.ofNat x).toNat:Nat):Int):=by rw[UInt8.toNat_ofNat'];omega
set_option maxRecDepth 100000 in
theorem KL {lib:az}(hl:lib.at 113=none)(EK:lib.at 111=none)(A:Nat->Prop)(base:Nat)(s:aq)(j:Nat)(r P:List UInt8)(M:Int)(g:List Nat)(v:Value)(n:Nat)(h:l5 A base s j r P M)(hb:base<=s.next)(hv:aN s 1 v g.length (sZ 33 g))(hg:∀d∈g,d<85)(u0:n<=4)(hP:P.length<=2147483648)(RX:0<=M)(hM:M<9223372036854775808):
  Runs Tryz.prog lib 113 [gl j,v,.int .i64 n] s fun w s' =>w= .int .i64 (tx M g n P).2/\l5 A base s' j r (tx M g n P).1 M/\ar base s s' /\Still A s s' :=by
 refine Runs.enter 47 Tryz.func113 rfl hl rfl rfl ?_
 intro f hn hf
 have h0:f.get 0=gl j:=hf 0
 have h1:f.get 1=v:=hf 1
 have h2:f.get 2= .int .i64 n:=hf 2
 clear hf
 simp-implicitDefEqProofs(disch:=omega)only[aj,QS,↓reduceIte,hn]
 refine Comes.bK (fun q f s' =>∃k:Nat,q=5-k/\k<=5/\s' =s/\f.n=47/\f.get 0=gl j/\f.get 1=v/\f.get 2= .int .i64 n/\f.get 7= .int .u64 (fc g k)/\f.get 10= .int .i64 k)
  (fun y f s' =>y= .exit 0/\s' =s/\f.n=47/\f.get 0=gl j/\f.get 2= .int .i64 n/\f.get 7= .int .u64 (fc g 5))
  ⟨0,rfl,by omega,rfl,by simp only[ag,hn],by simp only[aa,↓reduceIte,WP,h0],by simp only[aa,↓reduceIte,WP,h1],by simp only[aa,↓reduceIte,WP,h2],by simp only[aa,↓reduceIte,WP];rfl,by simp only[aa,↓reduceIte];rfl⟩ ?_ ?_
 ·clear hn h0 h1 h2 f
  rintro Q hQ q f s1 ⟨k,rfl,hk,jZ,hn,h0,h1,h2,h7,gK⟩
  subst jZ
  by_cases hk5:k<5
  ·have YC:(k:Int)<5:=by omega
   have apJ:fc g k<52200626:=by
    have:=Dl hg k
    have h2:85^k<=85^4:=Nat.pow_le_pow_right (by omega) (by omega)
    have h3:(85:Nat)^4=52200625:=by decide
    omega
   by_cases hkg:k<g.length
   ·obtain⟨d,hd⟩:∃d,d=g.getD k 84:=⟨_,rfl⟩
    have ago:d<85:=by rw[hd,List.getD_eq_getElem?_getD,List.getElem?_eq_getElem hkg];exact hg _ (List.getElem_mem hkg)
    have e:((d+33:Nat):Int)-33=(d:Int):=by omega
    have Dd:((fc g k:Nat):Int)*85+(d:Int)=((fc g (k+1):Nat):Int):=by simp only[fc];rw[<-hd];omega
    simp-implicitDefEqProofs(disch:=omega)only[aj,ad,QS,WP,↓reduceIte,hn,h1,h7,gK,eq_true YC,hv.bh Tryz.underlying134,hkg,hv.indexAddr Tryz.underlying134 bB,hv.dJ bC,KK,<-hd,bR Tryz.underlying3 Tryz.underlying21,PG,e,bR Tryz.underlying21 Tryz.underlying187,PH,Dd,aB]
    refine au (5-(k+1)) (by omega) ⟨k+1,rfl,by omega,rfl,by simp only[ag,hn],by simp only[aa,↓reduceIte,WP,h0],by simp only[aa,↓reduceIte,WP,h1],by simp only[aa,↓reduceIte,WP,h2],by simp only[aa,↓reduceIte,WP],by simp only[aa,↓reduceIte];rfl⟩
   ·have Dd:((fc g k:Nat):Int)*85+84=((fc g (k+1):Nat):Int):=by
     have:g.getD k 84=84:=by rw[List.getD_eq_getElem?_getD,List.getElem?_eq_none (by omega)];rfl
     simp only[fc];rw[this];omega
    have e:(117:Int)-33=84:=by decide
    simp-implicitDefEqProofs(disch:=omega)only[aj,ad,QS,WP,↓reduceIte,hn,h1,h7,gK,eq_true YC,hv.bh Tryz.underlying134,hkg,e,PG,bR Tryz.underlying21 Tryz.underlying187,PH,Dd,aB]
    refine au (5-(k+1)) (by omega) ⟨k+1,rfl,by omega,rfl,by simp only[ag,hn],by simp only[aa,↓reduceIte,WP,h0],by simp only[aa,↓reduceIte,WP,h1],by simp only[aa,↓reduceIte,WP,h2],by simp only[aa,↓reduceIte,WP],by simp only[aa,↓reduceIte];rfl⟩
  ·obtain rfl:k=5:=by omega
   have YC:¬((5:Nat):Int)<5:=by omega
   simp-implicitDefEqProofs(disch:=omega)only[aj,QS,↓reduceIte,hn,gK,eq_false YC]
   exact hQ _ _ _ ⟨rfl,rfl,by simp only[ag,hn],by simp only[aa,↓reduceIte,WP,h0],by simp only[aa,↓reduceIte,WP,h2],by simp only[aa,↓reduceIte,WP,h7]⟩
 ·clear hn h0 h1 h2 f
  rintro _ f s1 ⟨rfl,jZ,hn,h0,h2,h7⟩
  subst jZ
  obtain⟨x,hx⟩:∃x,x=fc g 5:=⟨_,rfl⟩
  have hx5:=Dl hg 5
  have h5:(85:Nat)^5=4437053125:=by decide
  unfold tx
  rw[<-hx] at h7 hx5|-
  by_cases D5:4294967295<x
  ·have oT:(4294967295:Int)<(x:Int):=by omega
   simp only[if_pos D5]
   simp-implicitDefEqProofs(disch:=omega)only[aj,al,oneOf,QS,↓reduceIte,hn,h7,eq_true oT,Tryz.results113]
   exact⟨h,ar.refl _ _,Still.refl _ _⟩
  ·have oT:¬(4294967295:Int)<(x:Int):=by omega
   simp only[if_neg D5]
   simp-implicitDefEqProofs(disch:=omega)only[aj,ae,QS,WP,↓reduceIte,hn,h0,h7,eq_false oT,(VA _ _ _ _).1,(VA _ _ _ _).2.1,(VA _ _ _ _).2.2,bR Tryz.underlying187 Tryz.underlying5,gA,YB,Ms Tryz.underlying22 bL lh]
   refine aQ (by simp) ?_
   intro b s2 dB MB aU
   have ez:=dB.aG.sx (l:=yE x) (lo:=0) (hi:=n) (by omega) (by show n<=4;omega)
   rw[List.drop_zero,Nat.sub_zero] at ez
   have bc:((yE x).take n).length=n:=by rw[List.length_take];show min n 4=n;omega
   simp-implicitDefEqProofs(disch:=omega)only[aj,ak,ad,ai,QS,WP,↓reduceIte,hn,h2,dB.aG.kF Tryz.underlying22 bL]
   refine(sY EK A base s2 j r P ((yE x).take n) M _ (h.keeps hb aU) (Nat.le_trans hb aU.next) ez (by omega) hP RX hM).mono ?_
   rintro _ s3 ⟨rfl,zT,bH,akE⟩
   rw[bc] at zT
   simp-implicitDefEqProofs(disch:=omega)only[aj,al,oneOf,QS,↓reduceIte,hn,bc,Tryz.results113]
   refine⟨?_,?_,(aU.weaken hb).trans bH,(h.still aU).trans akE⟩
   ·split<;>rfl
   ·split
    ·rename_i h;rw[if_pos h] at zT;exact zT
    ·rename_i h;rw[if_neg h] at zT;exact zT
end Go.Proofs.YtdfjfncifneocaaGreat
set_option linter.unusedSimpArgs false
set_option linter.unusedVariables false
set_option maxRecDepth 100000
namespace Go.Proofs.YtdfjfncifneocaaGreat
open Go.Cl Go.Cl.Uh
def Ends (A:Nat->Prop)(base:Nat)(s:aq)(j:Nat)(M:Int)(z:List UInt8×Int)(w:Value)(s' :aq):Prop:=
 w= .int .i64 z.2/\(∃r' P',l5 A base s' j r' P' M/\(z.2=0->P' =z.1))/\ar base s s' /\Still A s s'
set_option maxRecDepth 100000 in
theorem YD {lib:az}(hl:lib.at 112=none)(IJ:lib.at 113=none)(DR:lib.at 109=none)(EK:lib.at 111=none)(IP:lib.at 156=none)(yQ:lib.at 155=none)(jQ:lib.at 192=none)(m9:lib.at 186=none)(kX:lib.at 209=none)(jS:lib.at 105=none)
  (A:Nat->Prop) (base:Nat) (s:aq) (j:Nat) (r P:List UInt8) (M:Int) (g:List Nat) (v:Value) (h:l5 A base s j r P M) (hb:base<=s.next) (hv:aN s 1 v g.length (sZ 33 g)) (hg:∀d∈g,d<85) (hg4:g.length<=4) (hP:P.length<=2147483648) (RX:0<=M) (hM:M<9223372036854775808):
  Runs Tryz.prog lib 112 [gl j,v] s (Ends A base s j M (qC M r g P)):=by
 refine Runs.enter 30 Tryz.func112 rfl hl rfl rfl ?_
 intro f hn hf
 have h0:f.get 0=gl j:=hf 0
 have h1:f.get 1=v:=hf 1
 clear hf
 by_cases c1:g.length=1
 ·have tJ:(g.length:Int)=1:=by omega
  have hz:qC M r g P=([],4):=by unfold qC;rw[if_pos c1]
  simp-implicitDefEqProofs(disch:=omega)only[aj,al,oneOf,ad,QS,WP,↓reduceIte,hn,h1,hv.bh Tryz.underlying134,eq_true tJ,hz,Tryz.results112]
  exact⟨rfl,⟨r,P,h,fun e=>absurd e (by decide)⟩,ar.refl _ _,Still.refl _ _⟩
 ·have tJ:¬(g.length:Int)=1:=by omega
  by_cases c2:1<g.length
  ·have C3:(1:Int)<(g.length:Int):=by omega
   have e:(g.length:Int)-1=((g.length-1:Nat):Int):=by omega
   simp-implicitDefEqProofs(disch:=omega)only[aj,ak,ad,QS,WP,↓reduceIte,hn,h0,h1,hv.bh Tryz.underlying134,eq_false tJ,eq_true C3,e,aB]
   refine(KL IJ EK A base s j r P M g v (g.length-1) h hb hv hg (by omega) hP RX hM).mono ?_
   rintro _ s1 ⟨rfl,oV,bm,agp⟩
   obtain⟨y,hy⟩:∃y,y=tx M g (g.length-1) P:=⟨_,rfl⟩
   rw[<-hy] at oV
   by_cases lQ:y.2=0
   ·have hz:qC M r g P=(if(sign r).1<0 then([],2) else if(sign r).1=62 then(y.1,0) else([],4)):=by
     unfold qC;rw[if_neg c1,<-hy,if_neg (by simp[lQ]),if_pos c2]
    simp-implicitDefEqProofs(disch:=omega)only[aj,ak,ad,QS,WP,↓reduceIte,hn,h0,<-hy,eq_true lQ]
    refine(w8 DR IP yQ jQ m9 kX jS A base s1 j r y.1 M oV (Nat.le_trans hb bm.next)).mono ?_
    rintro _ s2 ⟨rfl,gR,aU,NB⟩
    have tH:=agp.trans NB
    have aD:=bm.trans aU
    rw[hz]
    by_cases d1:(sign r).1<0
    ·simp-implicitDefEqProofs(disch:=omega)only[aj,al,oneOf,QS,↓reduceIte,hn,eq_true d1,Tryz.results112]
     exact⟨rfl,⟨_,_,gR,fun e=>absurd e (by decide)⟩,aD,tH⟩
    ·by_cases d2:(sign r).1=62
     ·simp-implicitDefEqProofs(disch:=omega)only[aj,ak,al,oneOf,QS,WP,↓reduceIte,hn,eq_false d1,eq_true d2,Tryz.results112]
      exact⟨rfl,⟨_,_,gR,fun _=>rfl⟩,aD,tH⟩
     ·simp-implicitDefEqProofs(disch:=omega)only[aj,ak,al,oneOf,QS,WP,↓reduceIte,hn,eq_false d1,eq_false d2,Tryz.results112]
      exact⟨rfl,⟨_,_,gR,fun e=>absurd e (by decide)⟩,aD,tH⟩
   ·have hz:qC M r g P=([],y.2):=by unfold qC;rw[if_neg c1,<-hy,if_pos ⟨c2,lQ⟩]
    rw[hz]
    simp-implicitDefEqProofs(disch:=omega)only[aj,ak,al,oneOf,QS,WP,↓reduceIte,hn,<-hy,eq_false lQ,Tryz.results112]
    exact⟨rfl,⟨_,_,oV,fun e=>absurd e lQ⟩,bm,agp⟩
  ·have C3:¬(1:Int)<(g.length:Int):=by omega
   have hz:qC M r g P=(if(sign r).1<0 then([],2) else if(sign r).1=62 then(P,0) else([],4)):=by
    unfold qC;rw[if_neg c1,if_neg (by simp[c2]),if_neg c2]
   simp-implicitDefEqProofs(disch:=omega)only[aj,ak,ad,QS,WP,↓reduceIte,hn,h0,h1,hv.bh Tryz.underlying134,eq_false tJ,eq_false C3]
   refine(w8 DR IP yQ jQ m9 kX jS A base s j r P M h hb).mono ?_
   rintro _ s2 ⟨rfl,gR,aD,tH⟩
   rw[hz]
   by_cases d1:(sign r).1<0
   ·simp-implicitDefEqProofs(disch:=omega)only[aj,al,oneOf,QS,↓reduceIte,hn,eq_true d1,Tryz.results112]
    exact⟨rfl,⟨_,_,gR,fun e=>absurd e (by decide)⟩,aD,tH⟩
   ·by_cases d2:(sign r).1=62
    ·simp-implicitDefEqProofs(disch:=omega)only[aj,ak,al,oneOf,QS,WP,↓reduceIte,hn,eq_false d1,eq_true d2,Tryz.results112]
     exact⟨rfl,⟨_,_,gR,fun _=>rfl⟩,aD,tH⟩
    ·simp-implicitDefEqProofs(disch:=omega)only[aj,ak,al,oneOf,QS,WP,↓reduceIte,hn,eq_false d1,eq_false d2,Tryz.results112]
     exact⟨rfl,⟨_,_,gR,fun e=>absurd e (by decide)⟩,aD,tH⟩
end Go.Proofs.YtdfjfncifneocaaGreat
set_option linter.unusedSimpArgs false
set_option linter.unusedVariables false
set_option maxRecDepth 100000
namespace Go.Proofs.YtdfjfncifneocaaGreat
open Go.Cl Go.Cl.Uh
theorem GF {s s' :aq}{z:Nat}{v:Value}{n:Nat}{l:List Value}(h:Own s z v n l)(hn:s.next<=s'.next)(k:Still (fun k=>aE v=some k) s s'):Own s' z v n l:=by
 cases h with
 |nil=>exact .nil
 |of i n low l hi hb hl hlen=>
  refine .of i n low l (Nat.lt_of_lt_of_le hi hn) ?_ hl hlen
  simp only[aq.bA,k i rfl];exact hb
theorem KM:∀r:List UInt8,(sign r=(-1,[])/\∀M g P,rB M r g P=([],2))\/∃(c:UInt8) (r' :List UInt8),sign r=((c.toNat:Int),r')/\fF c.toNat=false/\r'.length<r.length/\∀M g P,rB M r g P=rB M (c::r') g P
 |[]=> .inl ⟨rfl,fun _ _ _=>rfl⟩
 |c::r=>by
  by_cases hw:fF (c.toNat:Int)=true
  ·rcases KM r with ⟨h1,h2⟩|⟨c',r',h1,h2,h3,h4⟩
   ·refine .inl ⟨by simp only[sign];rw[if_pos hw,h1],fun M h P=> ?_⟩
    rw[rB,if_pos hw];exact h2 M h P
   ·refine .inr ⟨c',r',by simp only[sign];rw[if_pos hw,h1],h2,by simp;omega,fun M h P=> ?_⟩
    rw[rB,if_pos hw];exact h4 M h P
  ·exact .inr ⟨c,r,by simp only[sign];rw[if_neg hw],by simpa using hw,by simp,fun _ _ _=>rfl⟩
theorem VB {M:Int}{r:List UInt8}{g:List Nat}{P:List UInt8}(h:(qC M r g P).2≠0):(qC M r g P).1=[]:=by
 unfold qC at h|-
 split
 ·rfl
 ·split
  ·rfl
  ·split
   ·rfl
   ·split
    ·rename_i h1 h2 h3 h4;rw[if_neg h1,if_neg h2,if_neg h3,if_pos h4] at h;exact absurd rfl h
    ·rfl
theorem YE (M:Int)(g:List Nat)(n:Nat)(P:List UInt8)(hn:n<=4):(tx M g n P).1.length<=P.length+4:=by
 unfold tx;split
 ·simp
 ·split
  ·simp
  ·simp[yE];omega
set_option maxRecDepth 100000 in
set_option maxHeartbeats 4000000 in
theorem NC {lib:az}(hl:lib.at 68=none)(hle:lib.at 112=none)(IJ:lib.at 113=none)(ra:lib.at 108=none)(js:lib.at 100=none)(DR:lib.at 109=none)(EK:lib.at 111=none)
  (IP:lib.at 156=none) (yQ:lib.at 155=none) (jQ:lib.at 192=none) (m9:lib.at 186=none) (kX:lib.at 209=none) (jS:lib.at 105=none)
  (s:aq) (x:Value) (l:List UInt8) (most M:Int) (hMM:(if most<0 then 0 else most)=M) (hx:aN s 1 x l.length (ofBytes l)) (hlen:l.length<=1000000) (hm:most<9223372036854775808):
  Runs Tryz.prog lib 68 [x,.int .i64 most] s (sX s.next s (rB M l [] []).1 (rB M l [] []).2):=by
 have RX:0<=M:=by rw[<-hMM];split<;>omega
 have hM1:M<9223372036854775808:=by rw[<-hMM];split<;>omega
 refine Runs.enter 61 Tryz.func68 rfl hl rfl rfl ?_
 intro f hn hf
 have h0:f.get 0=x:=hf 0
 have h1:f.get 1= .int .i64 most:=hf 1
 clear hf
 simp-implicitDefEqProofs(disch:=omega)only[aj,ak,ad,QS,WP,↓reduceIte,hn,h0,h1]
 refine(zU (fun k=>aE (.slice none 0 0)=some k) ra js s.next s x l most hx.low (Nat.le_refl _) (by omega) (fun _ h=>by cases h)).mono ?_
 rintro _ s1 ⟨j,rfl,hR,aD⟩
 rw[hMM] at hR
 simp-implicitDefEqProofs(disch:=omega)only[aj,QS,↓reduceIte,hn]
 refine Comes.eU (fun q f s' =>∃r g P v,q=r.length/\rB M r g P=rB M l [] []/\P.length+4*r.length<=4*l.length/\g.length<=4/\(∀d∈g,d<85)/\Own s' 1 v g.length (sZ 33 g)/\aH s.next v/\l5 (fun k=>aE v=some k) s.next s' j r P M/\ar s.next s s' /\f.n=61/\f.get 6=gl j/\f.get 7=v) ⟨l,[],[],_,rfl,rfl,by simp,by simp,by simp,.nil,aH.nil _,hR,aD,by simp only[ag,hn],by simp only[aa,↓reduceIte,WP],by simp only[aa,↓reduceIte]⟩ ?_
 clear hn h0 h1 f hR aD s1
 rintro q f s1 ⟨r,g,P,v,rfl,hu,hPr,hg4,agq,hv,IK,hR,aD,hn,h6,h7⟩
 have gu:=aD.next
 simp-implicitDefEqProofs(disch:=omega)only[aj,ak,ad,QS,↓reduceIte,hn,h6]
 refine(w8 DR IP yQ jQ m9 kX jS _ s.next s1 j r P M hR gu).mono ?_
 rintro _ s2 ⟨rfl,gR,aU,NB⟩
 have dn:=aD.trans aU
 have dB:=dn.next
 have RJ:=GF hv aU.next NB
 rcases KM r with ⟨hs,D0⟩|⟨c,r',hs,hw,Jo,D0⟩
 ·have e1:(sign r).1= -1:=by rw[hs]
  rw[D0] at hu
  simp-implicitDefEqProofs(disch:=omega)only[aj,al,oneOf,QS,WP,↓reduceIte,hn,e1,show((-1:Int)<0)=True from eq_true (by decide),<-hu,Tryz.results68]
  exact⟨_,rfl,.nil,aH.nil _,dn⟩
 ·have e1:(sign r).1=(c.toNat:Int):=by rw[hs]
  have e2:(sign r).2=r' :=by rw[hs]
  rw[e2] at gR
  rw[D0,rB,if_neg (by rw[hw];decide)] at hu
  have J4:¬(c.toNat:Int)<0:=by omega
  have ZF:P.length<=2147483648:=by omega
  by_cases KN:(c.toNat:Int)=126
  ·rw[if_pos KN] at hu
   simp-implicitDefEqProofs(disch:=omega)only[aj,ak,ad,QS,WP,↓reduceIte,hn,h6,h7,e1,J4,eq_true KN]
   refine(YD hle IJ DR EK IP yQ jQ m9 kX jS _ s.next s2 j r' P M g v gR dB RJ.aG agq hg4 ZF RX hM1).mono ?_
   rintro _ s3 ⟨rfl,⟨r3,P3,zT,hP3⟩,bH,_⟩
   have gI:=dn.trans bH
   obtain⟨y,hy⟩:∃y,y=qC M r' g P:=⟨_,rfl⟩
   rw[<-hy] at hP3 hu
   by_cases lQ:y.2=0
   ·obtain⟨i,o,l',p,oC,ef,ht,hc,ho,hF,hj,tE,fx,th,Xj⟩:=id zT
    have ll:=ht.load (P:=Tryz.prog) gw (off:=2) (c:=4) rfl (by simp)
    simp-implicitDefEqProofs(disch:=omega)only[aj,ak,al,oneOf,QS,WP,↓reduceIte,hn,h6,<-hy,eq_true lQ,pO,ll,<-hu,Tryz.results68]
    rw[hP3 lQ] at ho
    exact⟨o,by rw[lQ],ho,hF,gI⟩
   ·have LD:y.1=[]:=by rw[hy];exact VB (by rw[<-hy];exact lQ)
    simp-implicitDefEqProofs(disch:=omega)only[aj,ak,al,oneOf,QS,WP,↓reduceIte,hn,<-hy,eq_false lQ,<-hu,LD,Tryz.results68]
    exact⟨_,rfl,.nil,aH.nil _,gI⟩
  ·rw[if_neg KN] at hu
   by_cases cz:(c.toNat:Int)=122/\g=[]
   ·obtain⟨KO,rfl⟩:=cz
    rw[if_pos ⟨KO,rfl⟩] at hu
    simp-implicitDefEqProofs(disch:=omega)only[aj,ak,ad,ae,QS,WP,↓reduceIte,hn,h6,h7,e1,J4,eq_false KN,eq_true KO,RJ.aG.bh Tryz.underlying134,List.length_nil,Int.natCast_zero,Ms Tryz.underlying22 bL lh]
    refine aQ (by simp) ?_
    intro b s3 hb MB bH
    simp-implicitDefEqProofs(disch:=omega)only[aj,ak,ad,QS,WP,↓reduceIte,hn]
    refine(sY EK _ s.next s3 j r' P [0,0,0,0] M b (gR.keeps dB bH) (Nat.le_trans dB bH.next) hb.aG (by simp) ZF RX hM1).mono ?_
    rintro _ s4 ⟨rfl,xD,dY,akF⟩
    have iZ:=dn.trans ((bH.weaken dB).trans dY)
    have hv4:=GF (RJ.keeps bH) dY.next akF
    have e4:((([0,0,0,0]:List UInt8).length:Nat):Int)=4:=rfl
    rw[e4] at xD
    by_cases j5:M-(P.length:Int)<4
    ·rw[if_pos j5] at hu
     simp-implicitDefEqProofs(disch:=omega)only[aj,ak,al,oneOf,QS,WP,↓reduceIte,hn,e4,eq_true j5,show((7:Int)=0)=False from eq_false (by decide),<-hu,Tryz.results68]
     exact⟨_,rfl,.nil,aH.nil _,iZ⟩
    ·rw[if_neg j5] at hu xD
     simp-implicitDefEqProofs(disch:=omega)only[aj,ak,QS,↓reduceIte,hn,e4,eq_false j5]
     refine au r'.length (by omega) ⟨r',[],_,v,rfl,hu,by simp;omega,by simp,by simp,hv4,IK,xD,iZ,by simp only[ag,hn],by simp only[aa,↓reduceIte,WP,h6],by simp only[aa,↓reduceIte,WP,h7]⟩
   ·rw[if_neg cz] at hu
    by_cases KO:(c.toNat:Int)=122
    ·have hgl:¬(g.length:Int)=0:=fun e=>cz ⟨KO,List.eq_nil_of_length_eq_zero (by omega)⟩
     have d1:¬(c.toNat:Int)<33:=by omega
     have d2:(117:Int)<c.toNat:=by omega
     rw[if_pos (by omega)] at hu
     simp-implicitDefEqProofs(disch:=omega)only[aj,ak,al,oneOf,ad,QS,WP,↓reduceIte,hn,h7,e1,J4,eq_false KN,eq_true KO,eq_false hgl,eq_false d1,eq_true d2,RJ.aG.bh Tryz.underlying134,show((4:Int)=0)=False from eq_false (by decide),<-hu,Tryz.results68]
     exact⟨_,rfl,.nil,aH.nil _,dn⟩
    ·by_cases d1:(c.toNat:Int)<33
     ·rw[if_pos (by omega)] at hu
      simp-implicitDefEqProofs(disch:=omega)only[aj,ak,al,oneOf,QS,WP,↓reduceIte,hn,e1,J4,eq_false KN,eq_false KO,eq_true d1,show((4:Int)=0)=False from eq_false (by decide),<-hu,Tryz.results68]
      exact⟨_,rfl,.nil,aH.nil _,dn⟩
     ·by_cases d2:(117:Int)<c.toNat
      ·rw[if_pos (by omega)] at hu
       simp-implicitDefEqProofs(disch:=omega)only[aj,ak,al,oneOf,QS,WP,↓reduceIte,hn,e1,J4,eq_false KN,eq_false KO,eq_false d1,eq_true d2,show((4:Int)=0)=False from eq_false (by decide),<-hu,Tryz.results68]
       exact⟨_,rfl,.nil,aH.nil _,dn⟩
      ·rw[if_neg (by omega)] at hu
       obtain⟨d,hd⟩:∃d,d=c.toNat-33:=⟨_,rfl⟩
       rw[<-hd] at hu
       have ago:d<85:=by omega
       simp-implicitDefEqProofs(disch:=omega)only[aj,ak,ae,QS,WP,↓reduceIte,hn,h7,e1,J4,eq_false KN,eq_false KO,eq_false d1,eq_false d2,g9 Tryz.underlying134 bB TR]
       refine bI Tryz.underlying134 bB Zz TR rfl RJ (by simp only[aa,↓reduceIte,WP]) (by decide) (by simp only[ag,hn];decide) (by simp only[ag,hn];decide) (by rfl) (by decide) rfl (by omega) (by omega) IK dB ?_
       intro bs v' s3 WR akH bH jt Ij
       have Vf:sZ 33 g++[.int .i64 (c.toNat:Int)]=sZ 33 (g++[d]):=by
        have:((d+33:Nat):Int)=(c.toNat:Int):=by omega
        simp only[sZ,List.map_append,List.map_cons,List.map_nil,this]
       rw[Vf] at WR
       have Zr:∀a∈g++[d],a<85:=fun a ha=>by
        rcases List.mem_append.mp ha with ha|ha
        ·exact agq a ha
        ·rw[List.mem_singleton.mp ha];exact ago
       have hgl:(g++[d]).length=g.length+1:=by simp
       have zT:l5 (fun k=>aE v' =some k) s.next s3 j r' P M:=gR.turns dB (fun k hk=>hk) IK jt (fun q hq=>⟨WR.g8 q hq,by
        rcases Ij with e|⟨i,e,hi⟩
        ·exact .inl (by rw[<-e];exact hq)
        ·refine .inr ?_;have hq:aE v' =some q:=hq;rw[e] at hq;injection hq with hq;omega⟩)
       have gI:=dn.trans bH
       by_cases g5:g.length=4
       ·have g5' :((g.length+1:Nat):Int)=5:=by omega
        rw[if_pos g5] at hu
        simp-implicitDefEqProofs(disch:=omega)only[aj,ak,ad,QS,WP,↓reduceIte,hn,h6,WR.aG.bh Tryz.underlying134,eq_true g5']
        rw[<-hgl] at WR
        refine(KL IJ EK _ s.next s3 j r' P M (g++[d]) v' 4 zT gI.next WR.aG Zr (by omega) ZF RX hM1).mono ?_
        rintro _ s4 ⟨rfl,xD,dY,_⟩
        have iZ:=gI.trans dY
        have L5:=YE M (g++[d]) 4 P (by omega)
        obtain⟨y,hy⟩:∃y,y=tx M (g++[d]) 4 P:=⟨_,rfl⟩
        rw[<-hy] at xD L5 hu
        by_cases lQ:y.2=0
        ·rw[if_pos lQ] at hu
         simp-implicitDefEqProofs(disch:=omega)only[aj,ak,QS,WP,↓reduceIte,hn,<-hy,eq_true lQ]
         have hR5:l5 (fun k=>aE (.slice none 0 0)=some k) s.next s4 j r' y.1 M:=by
          obtain⟨i,o,l',p,q1,q2,q3,q4,q5,q6,q7,q8,q9,q10,q11,_⟩:=xD
          exact⟨i,o,l',p,q1,q2,q3,q4,q5,q6,q7,q8,q9,q10,q11,fun k hk=>by cases hk⟩
         refine au r'.length (by omega) ⟨r',[],_,_,rfl,hu,by omega,by simp,by simp,.nil,aH.nil _,hR5,iZ,by simp only[ag,hn],by simp only[aa,↓reduceIte,WP,h6],by simp only[aa,↓reduceIte,WP]⟩
        ·rw[if_neg lQ] at hu
         simp-implicitDefEqProofs(disch:=omega)only[aj,ak,al,oneOf,QS,WP,↓reduceIte,hn,<-hy,eq_false lQ,<-hu,Tryz.results68]
         exact⟨_,rfl,.nil,aH.nil _,iZ⟩
       ·have g5' :¬((g.length+1:Nat):Int)=5:=by omega
        rw[if_neg g5] at hu
        simp-implicitDefEqProofs(disch:=omega)only[aj,ak,ad,QS,WP,↓reduceIte,hn,WR.aG.bh Tryz.underlying134,eq_false g5']
        rw[<-hgl] at WR
        refine au r'.length (by omega) ⟨r',_,P,v',rfl,hu,by omega,by omega,Zr,WR,akH,zT,gI,by simp only[ag,hn],by simp only[aa,↓reduceIte,WP,h6],by simp only[aa,↓reduceIte,WP]⟩
end Go.Proofs.YtdfjfncifneocaaGreat
set_option linter.unusedSimpArgs false
set_option linter.unusedVariables false
set_option maxRecDepth 100000
namespace Go.Proofs.YtdfjfncifneocaaGreat
open Go.Cl
end Go.Proofs.YtdfjfncifneocaaGreat
set_option linter.unusedSimpArgs false
set_option linter.unusedVariables false
set_option maxRecDepth 100000
namespace Go.Proofs.YtdfjfncifneocaaGreat
open Go.Cl Go.Cl.Runs
theorem room_le {most:Int}{P:List UInt8}{j:Nat}:(most<=((P.length+j:Nat):Int))↔room most P<=j:=by unfold room;omega
theorem KP {lib:az}(hl:lib.at 69=none)(s:aq)(x:Value)(l:List UInt8)(most:Int)(hx:aN s 1 x l.length (ofBytes l))(hlen:l.length<=1000000):
  Runs Tryz.prog lib 69 [x,.int .i64 most] s (sX s.next s (dec most l []).1 (dec most l []).2):=by
 refine Runs.enter 63 Tryz.func69 rfl hl rfl rfl ?_
 intro f hn hf
 have h0:f.get 0=x:=hf 0
 have h1:f.get 1= .int .i64 most:=hf 1
 clear hf
 simp only[aj,QS,↓reduceIte,hn]
 refine Comes.eU (fun k f s' =>∃(i:Nat) (o:Value) (P:List UInt8),k=l.length-i/\i<=l.length/\P.length<=128*i/\dec most (l.drop i) P=dec most l []/\Own s' 1 o P.length (ofBytes P)/\aH s.next o/\ar s.next s s' /\f.n=63/\f.get 0=x/\f.get 1= .int .i64 most/\f.get 7= .int .i64 i/\f.get 6=o) ⟨0,_,[],rfl,by omega,by simp,rfl,.nil,aH.nil _,ar.refl _ _,by simp only[ag,hn],by simp only[aa,↓reduceIte,WP,h0],by simp only[aa,↓reduceIte,WP,h1],by simp only[aa,↓reduceIte];rfl,by simp only[aa,↓reduceIte,WP]⟩ ?_
 clear hn h0 h1 f
 rintro k f s1 ⟨i,o,P,rfl,hi,hP,kS,ho,oz,aD,hn,h0,h1,h7,h6⟩
 have lM:=hx.keeps aD
 have fail:∀(f:aT) (s2:aq) (e:Int),f.n=63->f.get 4= .slice none 0 0->f.get 5= .int .i64 e->ar s.next s s2->dec most l []=([],e)->WE Tryz.prog (Tryz.f69).results.toList (sX s.next s (dec most l []).1 (dec most l []).2) .ret f s2:=by
  intro f s2 e hn h4 h5 aD he
  simp only[aj,al,oneOf,QS,↓reduceIte,hn,h4,h5,Tryz.results69,he]
  exact⟨_,rfl,.nil,aH.nil _,aD⟩
 by_cases bc:i<l.length
 ·have hb:=(l.getD i 0).toNat_lt
  rw[drop_cons bc] at kS
  generalize Q7:(l.getD i 0).toNat=n at*
  simp (disch:=omega) only[aj,ad,QS,WP,↓reduceIte,hn,h0,h7,bc,lM.bh Tryz.underlying22,lM.indexAddr Tryz.underlying22 bL,lM.dJ mB,bG,Q7,bR Tryz.underlying5 Tryz.underlying3,aB]
  by_cases apN:n=128
  ·have YF:(n:Int)=128:=by omega
   simp (disch:=omega) only[aj,al,oneOf,QS,WP,↓reduceIte,hn,h6,YF,Tryz.results69]
   rw[wK (by omega)] at kS
   rw[<-kS]
   exact⟨_,rfl,ho,oz,aD⟩
  ·have YF:¬(n:Int)=128:=by omega
   by_cases qq:128<n
   ·obtain⟨times,ht⟩:∃times:Nat,(257:Int)-n=times:=⟨257-n,by omega⟩
    have VC:(128:Int)<n:=by omega
    have htn:257-n=times:=by omega
    simp (disch:=omega) only[aj,QS,WP,↓reduceIte,hn,YF,VC,aB,ht]
    refine Comes.eU (fun k f s' =>∃(j:Nat) (o:Value),k=times-j/\j<=times/\j<=room most P/\(0<j->i+1<l.length)/\Own s' 1 o (P.length+j) (ofBytes (P++List.replicate j (l.getD (i+1) 0)))/\aH s.next o/\ar s.next s s' /\f.n=63/\f.get 0=x/\f.get 1= .int .i64 most/\f.get 7= .int .i64 (if j=times then(i+2:Nat) else(i+1:Nat))/\f.get 6=o/\f.get 9= .bool true/\f.get 10= .int .i64 times/\f.get 33= .int .i64 times/\f.get 34= .int .i64 j) ⟨0,o,rfl,by omega,by omega,by omega,by simpa using ho,oz,aD,by simp only[ag,hn],by simp only[aa,↓reduceIte,WP,h0],by simp only[aa,↓reduceIte,WP,h1],by simp only[aa,↓reduceIte,WP];rw[if_neg (by omega)];rfl,by simp only[aa,↓reduceIte,WP,h6],by simp only[aa,↓reduceIte,WP],by simp only[aa,↓reduceIte,WP],by simp only[aa,↓reduceIte,WP],by simp only[aa,↓reduceIte];rfl⟩ ?_
    clear hn h0 h1 h7 h6 f
    rintro k f s2 ⟨j,o2,rfl,hj,hjr,SL,fx,D6,aU,hn,h0,h1,h7,h6,h9,gK,zL,vw⟩
    have kv:=hx.keeps aU
    by_cases YG:j<times
    ·rw[if_neg (show¬j=times by omega)] at h7
     by_cases qo:i+1<l.length
     ·have Im:¬((l.length:Int)<=((i+1:Nat):Int)):=by omega
      by_cases hm:most<=((P.length+j:Nat):Int)
      ·simp (disch:=omega) only[aj,ad,QS,WP,↓reduceIte,hn,h0,h1,h7,h6,zL,vw,YG,kv.bh Tryz.underlying22,Im,fx.aG.bh Tryz.underlying22,hm]
       refine fail _ s2 7 (by simp only[ag,hn]) (by simp only[aa,↓reduceIte,WP]) (by simp only[aa,↓reduceIte]) aU ?_
       rw[<-kS,drop_cons qo,uh (by omega) (by rw[room_le] at hm;omega)]
      ·have VD:(((i+1:Nat):Int)).toNat=i+1:=by omega
       simp (disch:=omega) only[aj,ad,ae,QS,WP,↓reduceIte,hn,h0,h1,h7,h6,zL,vw,YG,kv.bh Tryz.underlying22,Im,fx.aG.bh Tryz.underlying22,hm,kv.indexAddr Tryz.underlying22 bL,VD,kv.dJ mB,bG,g9 Tryz.underlying22 bL lh]
       refine bI Tryz.underlying22 bL kG lh rfl fx (by simp only[aa,↓reduceIte,WP]) (by decide) (by simp only[ag,hn];decide) (by simp only[ag,hn];decide) (by rfl) (by decide) rfl (by omega) (by omega) D6 aU.next ?_
       intro bs o3 s3 nJ YH bH _ _
       have r9:P++List.replicate (j+1) (l.getD (i+1) 0)=(P++List.replicate j (l.getD (i+1) 0))++[l.getD (i+1) 0]:=by rw[List.replicate_succ',List.append_assoc]
       by_cases aae:(j:Int)=times-1
       ·simp (disch:=omega) only[aj,ak,QS,WP,↓reduceIte,hn,h7,h9,gK,vw,aB,aae]
        refine au (times-(j+1)) (by omega) ⟨j+1,o3,rfl,by omega,by rw[room_le] at hm;omega,fun _=>qo,?_,YH,aU.trans bH,by simp only[ag,hn],by simp only[aa,↓reduceIte,WP,h0],by simp only[aa,↓reduceIte,WP,h1],by simp only[aa,↓reduceIte,WP];rw[if_pos (by omega)];rfl,by simp only[aa,↓reduceIte,WP],by simp only[aa,↓reduceIte,WP,h9],by simp only[aa,↓reduceIte,WP,gK],by simp only[aa,↓reduceIte,WP,zL],by simp only[aa,↓reduceIte];congr 1;omega⟩
        rw[r9,bn];exact nJ
       ·simp (disch:=omega) only[aj,ak,QS,WP,↓reduceIte,hn,h9,gK,vw,aB,aae]
        refine au (times-(j+1)) (by omega) ⟨j+1,o3,rfl,by omega,by rw[room_le] at hm;omega,fun _=>qo,?_,YH,aU.trans bH,by simp only[ag,hn],by simp only[aa,↓reduceIte,WP,h0],by simp only[aa,↓reduceIte,WP,h1],by simp only[aa,↓reduceIte,WP,h7];rw[if_neg (by omega)],by simp only[aa,↓reduceIte,WP],by simp only[aa,↓reduceIte,WP,h9],by simp only[aa,↓reduceIte,WP,gK],by simp only[aa,↓reduceIte,WP,zL],by simp only[aa,↓reduceIte];rfl⟩
        rw[r9,bn];exact nJ
     ·have Im:((l.length:Int)<=((i+1:Nat):Int)):=by omega
      simp (disch:=omega) only[aj,ad,QS,WP,↓reduceIte,hn,h0,h7,zL,vw,YG,kv.bh Tryz.underlying22,Im]
      refine fail _ s2 2 (by simp only[ag,hn]) (by simp only[aa,↓reduceIte,WP]) (by simp only[aa,↓reduceIte]) aU ?_
      rw[<-kS,List.drop_eq_nil_of_le (by omega),Ex (by omega)]
    ·obtain rfl:j=times:=by omega
     rw[if_pos rfl] at h7
     have qo:=SL (by omega)
     simp (disch:=omega) only[aj,QS,↓reduceIte,hn,zL,vw,YG]
     refine au (l.length-(i+2)) (by omega) ⟨i+2,o2,P++List.replicate j (l.getD (i+1) 0),rfl,by omega,?_,?_,(by rw[List.length_append,List.length_replicate];exact fx),D6,aU,by simp only[ag,hn],by simp only[aa,↓reduceIte,WP,h0],by simp only[aa,↓reduceIte,WP,h1],by simp only[aa,↓reduceIte,WP,h7],by simp only[aa,↓reduceIte,WP,h6]⟩
     ·rw[List.length_append,List.length_replicate];omega
     ·rw[<-kS,drop_cons qo,qu (by omega) (by omega),Q7,htn]
   ·obtain⟨times,ht⟩:∃times:Nat,(n:Int)+1=times:=⟨n+1,by omega⟩
    have VC:¬(128:Int)<n:=by omega
    have htn:n+1=times:=by omega
    have hdl:(l.drop (i+1)).length=l.length-(i+1):=List.length_drop
    simp (disch:=omega) only[aj,QS,WP,↓reduceIte,hn,YF,VC,aB,ht]
    refine Comes.eU (fun k f s' =>∃(j:Nat) (o:Value),k=times-j/\j<=times/\j<=room most P/\i+1+j<=l.length/\Own s' 1 o (P.length+j) (ofBytes (P++(l.drop (i+1)).take j))/\aH s.next o/\ar s.next s s' /\f.n=63/\f.get 0=x/\f.get 1= .int .i64 most/\f.get 7= .int .i64 (i+1+j:Nat)/\f.get 6=o/\f.get 9= .bool false/\f.get 10= .int .i64 times/\f.get 33= .int .i64 times/\f.get 34= .int .i64 j) ⟨0,o,rfl,by omega,by omega,by omega,by simpa using ho,oz,aD,by simp only[ag,hn],by simp only[aa,↓reduceIte,WP,h0],by simp only[aa,↓reduceIte,WP,h1],by simp only[aa,↓reduceIte,WP];rfl,by simp only[aa,↓reduceIte,WP,h6],by simp only[aa,↓reduceIte,WP],by simp only[aa,↓reduceIte,WP],by simp only[aa,↓reduceIte,WP],by simp only[aa,↓reduceIte];rfl⟩ ?_
    clear hn h0 h1 h7 h6 f
    rintro k f s2 ⟨j,o2,rfl,hj,hjr,SL,fx,D6,aU,hn,h0,h1,h7,h6,h9,gK,zL,vw⟩
    have kv:=hx.keeps aU
    by_cases YG:j<times
    ·by_cases qo:i+1+j<l.length
     ·have Im:¬((l.length:Int)<=((i+1+j:Nat):Int)):=by omega
      by_cases hm:most<=((P.length+j:Nat):Int)
      ·simp (disch:=omega) only[aj,ad,QS,WP,↓reduceIte,hn,h0,h1,h7,h6,zL,vw,YG,kv.bh Tryz.underlying22,Im,fx.aG.bh Tryz.underlying22,hm]
       refine fail _ s2 7 (by simp only[ag,hn]) (by simp only[aa,↓reduceIte,WP]) (by simp only[aa,↓reduceIte]) aU ?_
       rw[<-kS,ui (by omega) (by rw[room_le] at hm;omega) (by rw[room_le] at hm;omega)]
      ·have VD:(((i+1+j:Nat):Int)).toNat=i+1+j:=by omega
       simp (disch:=omega) only[aj,ad,ae,QS,WP,↓reduceIte,hn,h0,h1,h7,h6,zL,vw,YG,kv.bh Tryz.underlying22,Im,fx.aG.bh Tryz.underlying22,hm,kv.indexAddr Tryz.underlying22 bL,VD,kv.dJ mB,bG,g9 Tryz.underlying22 bL lh]
       refine bI Tryz.underlying22 bL kG lh rfl fx (by simp only[aa,↓reduceIte,WP]) (by decide) (by simp only[ag,hn];decide) (by simp only[ag,hn];decide) (by rfl) (by decide) rfl (by omega) (by omega) D6 aU.next ?_
       intro bs o3 s3 nJ YH bH _ _
       have r9:P++(l.drop (i+1)).take (j+1)=(P++(l.drop (i+1)).take j)++[l.getD (i+1+j) 0]:=by rw[pw (by omega),List.append_assoc,pH]
       simp (disch:=omega) only[aj,ak,QS,WP,↓reduceIte,hn,h7,h9,vw,aB]
       refine au (times-(j+1)) (by omega) ⟨j+1,o3,rfl,by omega,by rw[room_le] at hm;omega,by omega,?_,YH,aU.trans bH,by simp only[ag,hn],by simp only[aa,↓reduceIte,WP,h0],by simp only[aa,↓reduceIte,WP,h1],by simp only[aa,↓reduceIte,WP];rfl,by simp only[aa,↓reduceIte,WP],by simp only[aa,↓reduceIte,WP,h9],by simp only[aa,↓reduceIte,WP,gK],by simp only[aa,↓reduceIte,WP,zL],by simp only[aa,↓reduceIte];rfl⟩
       rw[r9,bn];exact nJ
     ·have Im:((l.length:Int)<=((i+1+j:Nat):Int)):=by omega
      simp (disch:=omega) only[aj,ad,QS,WP,↓reduceIte,hn,h0,h7,zL,vw,YG,kv.bh Tryz.underlying22,Im]
      refine fail _ s2 2 (by simp only[ag,hn]) (by simp only[aa,↓reduceIte,WP]) (by simp only[aa,↓reduceIte]) aU ?_
      rw[<-kS,Ey (by omega) (by omega) (by omega)]
    ·obtain rfl:j=times:=by omega
     simp (disch:=omega) only[aj,QS,↓reduceIte,hn,zL,vw,YG]
     have JW:((l.drop (i+1)).take j).length=j:=by rw[List.length_take];omega
     refine au (l.length-(i+1+j)) (by omega) ⟨i+1+j,o2,P++(l.drop (i+1)).take j,rfl,by omega,?_,?_,(by rw[List.length_append,JW];exact fx),D6,aU,by simp only[ag,hn],by simp only[aa,↓reduceIte,WP,h0],by simp only[aa,↓reduceIte,WP,h1],by simp only[aa,↓reduceIte,WP,h7],by simp only[aa,↓reduceIte,WP,h6]⟩
     ·rw[List.length_append,JW];omega
     ·rw[<-kS,AF (by omega) (by omega) (by omega),Q7,htn,List.drop_drop]
 ·simp (disch:=omega) only[aj,ad,QS,WP,↓reduceIte,hn,h0,h7,bc,lM.bh Tryz.underlying22]
  refine fail _ s1 2 (by simp only[ag,hn]) (by simp only[aa,↓reduceIte,WP]) (by simp only[aa,↓reduceIte]) aD ?_
  rw[<-kS,List.drop_eq_nil_of_le (by omega),Pk]
end Go.Proofs.YtdfjfncifneocaaGreat
namespace Go.Cl.Bt
open Go.Cl.Sto
theorem PI (x:Nat)(h:x<9223372036854775808):IntKind.i64.wrap (((BitVec.ofInt IntKind.i64.bits (x:Int)&&&BitVec.ofInt IntKind.i64.bits 1).toNat:Nat):Int)=((x%2:Nat):Int):=by
 have e1:IntKind.i64.bits=64:=rfl
 rw[e1]
 have:(BitVec.ofInt 64 (x:Int)&&&BitVec.ofInt 64 1).toNat=x%2:=by
  rw[BitVec.toNat_and,BitVec.ofInt_natCast,BitVec.toNat_ofNat,Nat.mod_eq_of_lt (by omega)]
  show x&&&1=_
  exact Nat.and_one_is_mod _
 rw[this,aB (by omega)]
theorem YI (P:Program)(t:TypeId)(k' :IntKind)(x:Nat):cI P .shr t (.int .i64 (x:Int)) (.int k' 1)=some (.int .i64 ((x/2:Nat):Int)):=by
 rw[kZ P t .i64 _ 1 k' (by decide)]
 have:((x:Int)).fdiv (2^(min (1:Int).toNat IntKind.i64.bits))=((x/2:Nat):Int):=by
  show((x:Int)).fdiv 2=_
  rw[Int.fdiv_eq_ediv_of_nonneg _ (by omega)];omega
 rw[this]
def rest (b:List UInt8)(p left:Nat):Nat:=(b.getD (p-1) 0).toNat/2^(8-left)
theorem GG (b:List UInt8)(p:Nat):rest b (p+1) 8=(b.getD p 0).toNat:=by simp[rest]
theorem tz {b:List UInt8}{p left:Nat}(h1:1<=left)(h8:left<=8):rest b p left/2=rest b p (left-1):=by
 unfold rest
 rw[Nat.div_div_eq_div_mul,show 8-(left-1)=(8-left)+1 by omega,Nat.pow_succ]
theorem w9 {b:List UInt8}{p left a:Nat}(h1:1<=left)(h8:left<=8)(ha:a+left=8*p):rest b p left%2=bit b a:=by
 unfold rest bit
 rw[show a/8=p-1 by omega,show a%8=8-left by omega]
end Go.Cl.Bt
