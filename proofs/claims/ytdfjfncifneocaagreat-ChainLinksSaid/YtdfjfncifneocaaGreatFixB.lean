import Derived.Test.YtdfjfncifneocaaGreatHex2
open _root_ renaming reduceIte->ab,eq_false->ao,Int->av,if_pos->aC,Nat->a0,UInt8->a1,if_neg->a2,eq_true->a8,List->bb,and_self->bz,absurd->b4,true_and->ee
open Go.Proofs.Tryz renaming underlying22->af,prog->an,underlying134->a3,underlying3->bk,underlying5->bl,results112->b7,results68->cb,underlying177->cm,results67->cv,underlying132->cA,underlying184->cB,underlying112->cD,underlying192->cL,underlying194->cM,results210->dc,underlying187->ds,underlying21->dt,results109->er,results111->et,results113->eu,results128->ev,results69->ew,results75->eA
open List renaming length_append->ax,replicate->bq,length_replicate->bt,drop_eq_nil_of_le->b8,getElem?_eq_getElem->cg,append_assoc->cp,getD_eq_getElem?_getD->cx,length_take->cT,replicate_succ'->c8,length_nil->c9,length_cons->dv,getElem?_cons_zero->dI,getElem?_cons_succ->dT,getElem?_eq_none->eb,getElem?_toArray->ec,length_singleton->ed,getElem_mem->ek,length_drop->en,drop_drop->ey,getD->eK
open Nat renaming lt_of_lt_of_le->bw,le_trans->cc,le_refl->c6,mod_eq_of_lt->dw,sub_self->ea,reduceAdd->eg,min_eq_left->ep,pow_succ->eD
open Int renaming toNat_natCast->b5,fdiv_eq_ediv_of_nonneg->ca
open Go.IntKind renaming i64->cd,u64->c7,i32->eo,wrap->eG
open Go renaming Value->ch,Program->eB,TypeId->eI
open BitVec renaming ofInt->ck,ofInt_natCast->cU,toNat_ofNat->dg
open UInt8 renaming ofNat->c5,toNat_ofNat'->eh
open Nat renaming reduceLT->QM,reduceEqDiff->WP
set_option maxHeartbeats 8000000
set_option linter.unusedSimpArgs false
set_option linter.unusedVariables false
set_option maxRecDepth 100000
namespace Go.Proofs.YtdfjfncifneocaaGreat
open Go.Cl
def Still (A:a0->Prop)(s s' :au):Prop:=∀k,A k->s'.heap.get k=s.heap.get k
theorem Still.refl (A:a0->Prop)(s:au):Still A s s:=fun _ _=>rfl
theorem Still.trans {A:a0->Prop}{s s' Fq:au}(h:Still A s s')(k:Still A s' Fq):Still A s Fq:=fun i hi=>(k i hi).trans (h i hi)
def oz (A:a0->Prop)(base:a0)(s:au)(j:a0)(r P:bb a1)(M:av):Prop:=
 ∃i o l p,r=l.drop p/\l.length<=4294967296/\az s j [iM i,.int .i64 M,o]/\lB base s i l p/\Own s 1 o P.length (ofBytes P)/\aM base o/\base<=j/\aI o≠some i/\aI o≠some j/\i≠j/\i<s.next/\∀k,A k->k<s.next/\k≠i/\k≠j/\aI o≠some k
theorem oz.still {A:a0->Prop}{base:a0}{s s' :au}{j:a0}{r P:bb a1}{M:av}(h:oz A base s j r P M)(k:aw s.next s s'):Still A s s' :=by
 obtain⟨i,o,l,p,h1,h2,h3,h4,h5,h6,h7,h8,h9,cJ,eC,oF⟩:=h;exact fun q hq=>k.get q (oF q hq).1
theorem oz.keeps {A:a0->Prop}{base:a0}{s s' :au}{j:a0}{r P:bb a1}{M:av}(h:oz A base s j r P M)(hb:base<=s.next)(k:aw s.next s s'):oz A base s' j r P M:=by
 obtain⟨i,o,l,p,h1,h2,h3,h4,h5,h6,h7,h8,h9,cJ,eC,oF⟩:=h;exact⟨i,o,l,p,h1,h2,h3.keeps k,h4.keeps hb k,h5.keeps k,h6,h7,h8,h9,cJ,bw eC k.next,fun q hq=>⟨bw (oF q hq).1 k.next,(oF q hq).2⟩⟩
theorem oz.turns {A A' :a0->Prop}{base:a0}{s s' :au}{j:a0}{r P:bb a1}{M:av}(h:oz A base s j r P M)(hb:base<=s.next){v:ch}(hv:∀k,aI v=some k->A k)(hF:aM base v)(k:bG v s s')(hA:∀q,A' q->q<s'.next/\(A q\/s.next<=q)):oz A' base s' j r P M:=by
 obtain⟨i,o,l,p,h1,h2,h3,h4,h5,h6,h7,h8,h9,cJ,eC,oF⟩:=h;refine⟨i,o,l,p,h1,h2,h3.turns k (fun e=>(oF j (hv j e)).2.2.1 rfl),h4.turns hb hF k (fun e=>(oF i (hv i e)).2.1 rfl),h5.turns k (fun q hq e=>(oF q (hv q e)).2.2.2 hq),h6,h7,h8,h9,cJ,bw eC k.next,fun q hq=> ?_⟩;obtain⟨g1,g2⟩:=hA q hq;rcases g2 with g2|g2
 ·exact⟨g1,(oF q g2).2⟩
 refine⟨g1,by omega,by have:=h3.lt;omega,fun e=>by have:=h5.ei q e;omega⟩
abbrev jw (j:a0):ch:= .pointer (some ⟨j,0,some 4⟩)
theorem abn:bU an 112=some false:=by kernel_rfl
theorem I2:br an 112=some 1:=by kernel_rfl
theorem UW (i o c:a0):ay an 132 (.pointer (some ⟨i,o,some c⟩)) 0=some (.pointer (some ⟨i,o+0,some c⟩)):=by
 unfold ay;rw[cA];simp[I2]
theorem K8 (i o c:a0):ay an 132 (.pointer (some ⟨i,o,some c⟩)) 1=some (.pointer (some ⟨i,o+1,some c⟩)):=by
 unfold ay;rw[cA];simp[aV]
theorem rP (i o c:a0):ay an 132 (.pointer (some ⟨i,o,some c⟩)) 2=some (.pointer (some ⟨i,o+2,some c⟩)):=by
 unfold ay;rw[cA];simp[iA]
theorem abo (i:a0)(m:av):da an 132 [(0,iM i),(1,.int .i64 m)]=some (.agg #[iM i,.int .i64 m,.slice none 0 0]):=by
 unfold da;rw[cA]
 have hz:b6 an 132=some (.agg #[.pointer none,.int .i64 0,.slice none 0 0]):=by kernel_rfl
 rw[hz];have c1:(iM i).cells.toList=[iM i]:=rfl;have c2:(Value.int .i64 m).cells.toList=[.int .i64 m]:=rfl;simp only[iu,placeOf,c1,c2];simp[I2,aV,iA,cr,iD,bJ,setAt]
theorem Br {lib:aD}(A:a0->Prop)(hl:lib.at 108=none)(nS:lib.at 100=none)(base:a0)(s:au)(x:ch)(l:bb a1)(most:av)(hx:ML base s 1 x l.length (ofBytes l))(hb:base<=s.next)(hlen:l.length<=4294967296)(hA:∀k,A k->k<s.next):
  Runs an lib 108 [x,.int .i64 most] s fun v s' =>∃j,v=jw j/\oz A base s' j l [] (if most<0 then 0 else most)/\aw s.next s s' :=by
 refine Runs.enter 11 Tryz.func108 rfl hl rfl rfl ?_;intro f hn hf;have h0:f.get 0=x:=hf 0;have h1:f.get 1= .int .i64 most:=hf 1;clear hf;simp only[aj,ak,ad,QM,WP,↓ab,hn,h0];refine(I1 nS base s x l hx hb).mono ?_;rintro _ s1 ⟨rfl,hc,aF,vR⟩;have YH:(if most<0 then(0:av) else most)=(if most<0 then 0 else most):=rfl;simp only[aj,ad,ae,QM,WP,↓ab,hn,h1,abo];refine aA ?_;intro s2 ht aR jD;simp only[aj,al,oneOf,QM,eg,↓ab,hn,Tryz.results108,dv,c9];refine⟨s1.next,rfl,⟨s.next,_,l,0,rfl,hlen,ht,hc.keeps (by omega) aR,.nil,aM.nil _,by omega,(by intro e;cases e),(by intro e;cases e),by omega,by omega,fun k hk=>by have:=hA k hk;exact⟨by omega,by omega,by omega,by intro e;cases e⟩⟩,aF.trans (aR.weaken (by omega))⟩
def sign:bb a1->av×bb a1
 |[]=>(-1,[])
 |c::l=>if dY c.toNat then sign l else(c.toNat,l)
theorem ze {lib:aD}(hl:lib.at 109=none)(hw:lib.at 156=none)(wO:lib.at 155=none)(tI:lib.at 192=none)(qN:lib.at 186=none)(nS:lib.at 209=none)(iG:lib.at 105=none)
  (A:a0->Prop) (base:a0) (s:au) (j:a0) (r P:bb a1) (M:av) (h:oz A base s j r P M) (hb:base<=s.next):
  Runs an lib 109 [jw j] s fun v s' =>v= .int .i64 (sign r).1/\oz A base s' j (sign r).2 P M/\aw base s s' /\Still A s s' :=by
 refine Runs.enter 13 Tryz.func109 rfl hl rfl rfl ?_;intro f hn hf;have h0:f.get 0=jw j:=hf 0;clear hf;simp only[aj,QM,↓ab,hn];refine Comes.de (fun q f s' =>∃r',q=r'.length/\sign r' =sign r/\oz A base s' j r' P M/\aw base s s' /\Still A s s' /\f.n=13/\f.get 0=jw j) ⟨r,rfl,rfl,h,aw.refl _ _,Still.refl _ _,by simp only[aa,ag,↓ab,WP,hn,h0,bz]⟩ ?_;clear hn h0 f h;rintro q f s1 ⟨r',rfl,hr,h,aF,ajA,hn,h0⟩;obtain⟨i,o,l,p,xM,hlen,ht,hc,ho,hF,hj,zt,iV,Dd,V8,Ps⟩:=h;have l0:=ht.load (P:=an) abn (off:=0) (c:=4) rfl (by simp);have Ma:base<=i:=hc.choose_spec.2.2.1;have fp:base<=s1.next:=cc hb aF.next;simp only[aj,ak,ad,QM,↓ab,hn,h0,UW,l0];refine(zd wO tI qN nS iG base s1 i l p hc fp hlen).mono ?_;rintro _ s2 ⟨rfl,j6,dK⟩;have qP:=dK.keeps (dN Ma) fp;have aR:aw base s s2:=aF.trans qP;have K9:Still A s s2:=ajA.trans (fun k hk=>dK.get k (Ps k hk).1 (fv (fun e=>(Ps k hk).2.1 e.symm)));have iq:oz A base s2 j (l.drop (min (p+1) l.length)) P M:=⟨i,o,l,_,rfl,hlen,ht.turns dK (fv Dd),j6,ho.turns dK (fun q hq=>fv (fun e=>zt (by rw[e];exact hq))),hF,hj,zt,iV,Dd,bw V8 dK.next,fun k hk=>⟨bw (Ps k hk).1 dK.next,(Ps k hk).2⟩⟩;simp only[aj,ak,ad,QM,↓ab,hn];refine(Rq hw s2 _).mono ?_;rintro _ s2 ⟨rfl,rfl⟩;by_cases hp:p<l.length
 ·have oC:fT l p=((l.getD p 0).toNat:av):=by unfold fT;rw[aC (by omega),b5]
  have zx:r' =l.getD p 0::l.drop (p+1):=by
   rw[xM,List.drop_eq_getElem_cons hp];simp[eK,cg hp]
  rw[ep (by omega)] at iq;by_cases Rt:dY ((l.getD p 0).toNat:av)=true
  ·simp only[aj,QM,↓ab,hn,oC,Rt];refine ar (l.drop (p+1)).length (by rw[zx];simp) ⟨_,rfl,?_,iq,aR,K9,by simp only[aa,ag,↓ab,WP,hn,h0,bz]⟩;rw[<-hr,zx];simp only[sign];rw[aC Rt]
  have oZ:sign r=(((l.getD p 0).toNat:av),l.drop (p+1)):=by rw[<-hr,zx];simp only[sign];rw[a2 Rt]
  simp only[Bool.not_eq_true] at Rt;simp only[aj,al,oneOf,QM,WP,↓ab,hn,oC,Rt,oZ,er];exact⟨iq,aR,K9⟩
 have oC:fT l p= -1:=by unfold fT;rw[a2 (by omega)]
 have zx:r' =[]:=by rw[xM];exact b8 (by omega)
 have oZ:sign r=(-1,[]):=by rw[<-hr,zx];rfl
 have Rt:dY (-1)=false:=by decide
 rw[b8 (by omega)] at iq;simp only[aj,al,oneOf,QM,WP,↓ab,hn,oC,Rt,oZ,er];exact⟨iq,aR,K9⟩
theorem uZ {lib:aD}(hl:lib.at 111=none)(A:a0->Prop)(base:a0)(s:au)(j:a0)(r P D:bb a1)(M:av)(b:ch)(h:oz A base s j r P M)(hb:base<=s.next)(hd:aU s 1 b D.length (ofBytes D))(hD:D.length<=1000)(hP:P.length<=2147483648)(Ru:0<=M)(hM:M<9223372036854775808):
  Runs an lib 111 [jw j,b] s fun v s' =>v= .int .i64 (if M-P.length<D.length then 7 else 0)/\oz A base s' j r (if M-P.length<D.length then P else P++D) M/\aw base s s' /\Still A s s' :=by
 obtain⟨i,o,l,p,xM,hlen,ht,hc,ho,hF,hj,zt,iV,Dd,V8,Ps⟩:=h;refine Runs.enter 27 Tryz.func111 rfl hl rfl rfl ?_;intro f hn hf;have h0:f.get 0=jw j:=hf 0;have h1:f.get 1=b:=hf 1;clear hf;have l1:=ht.load (P:=an) aP (off:=1) (c:=4) rfl (by simp);have l2:=ht.load (P:=an) gJ (off:=2) (c:=4) rfl (by simp);have UM:=ho.aL;by_cases hm:M-(P.length:av)<D.length
 ·simp(disch:=omega)only[aj,ak,al,oneOf,ad,QM,WP,↓ab,hn,h0,h1,hd.self,UM.self,hd.aQ af,UM.aQ af,K8,rP,l1,l2,aB,a8 hm,et];exact⟨⟨i,o,l,p,xM,hlen,ht,hc,ho,hF,hj,zt,iV,Dd,V8,Ps⟩,aw.refl _ _,Still.refl _ _⟩
 simp(disch:=omega)only[aj,ak,ad,QM,WP,↓ab,hn,h0,h1,hd.self,UM.self,hd.aQ af,UM.aQ af,K8,rP,l1,l2,aB,ao hm];refine gb af af (.inl ⟨_,rfl⟩) cO sm rU rfl ho hd.src (by simp[eW]) (by decide) (pn _) (by omega) (by omega) hF hb ?_;intro o' s2 Cj zw fN Sp BP;have ajB:=ht.turns Sp iV;have j6:=hc.turns hb hF Sp zt;have K4:aI o' ≠some j:=by
  rcases BP with e|⟨q,e,hq⟩
  ·rw[e];exact iV
  rw[e];intro q;injection q with q;have:=ht.lt;omega
 have ajC:aI o' ≠some i:=by
  rcases BP with e|⟨q,e,hq⟩
  ·rw[e];exact zt
  rw[e];intro q;injection q with q;omega
 simp only[aj,QM,WP,↓ab,hn,rP];refine ba iA ajB rfl (by simp) Cj.aL.aT ?_;intro s3 jE oX bA;have hk3:aw base s2 s3:=aw.aK oX bA hj;simp only[aj,al,oneOf,QM,↓ab,hn,et];refine⟨⟨i,o',l,p,xM,hlen,jE,j6.turns (cc hb fN.next) (dN hj) (bG.aK oX bA) (fv (fun e=>Dd e.symm)),?_,zw,hj,ajC,K4,Dd,by have:=Sp.next;omega,fun k hk=>⟨by have:=(Ps k hk).1;have:=Sp.next;omega,(Ps k hk).2.1,(Ps k hk).2.2.1,fun e=> ?_⟩⟩,fN.trans hk3,fun k hk=>(bA k (Ps k hk).2.2.1).trans (Sp.get k (Ps k hk).1 (Ps k hk).2.2.2)⟩;rotate_left
 ·rcases BP with e' |⟨q,e',hq⟩
  ·rw[e'] at e;exact(Ps k hk).2.2.2 e
  rw[e'] at e;injection e with e;have:=(Ps k hk).1;omega
 rw[ct,ax];exact Cj.aK oX bA K4
end Go.Proofs.YtdfjfncifneocaaGreat
namespace Go.Cl.Uh
theorem afa (P:eB)(t:eI)(k' :IntKind)(a:av):dB P .shl t (.int .i64 a) (.int k' 4)=some (.int .i64 (cd.wrap (a*16))):=by
 rw[p9 P t .i64 a 4 k' (by decide)];rfl
theorem XV {n d:a0}(hn:n<16)(hd:d<16):cd.wrap (((ck cd.bits ((n:av)*16)|||ck cd.bits (d:av)).toNat:a0):av)=((n*16+d:a0):av):=by
 have e1:cd.bits=64:=rfl;rw[e1];have:(ck 64 ((n:av)*16)|||ck 64 (d:av)).toNat=n*16+d:=by
  have e2:((n:av)*16)=((n*16:a0):av):=by omega
  rw[e2,BitVec.toNat_or,cU,cU,dg,dg,dw (by omega),dw (by omega)];have:=Nat.shiftLeft_add_eq_or_of_lt (i:=4) (b:=d) hd n;rw[Nat.shiftLeft_eq] at this;exact this.symm
 rw[this,aB (by omega)]
def Bs (n:a0):a1:=c5 n
theorem vF {n:a0}(h:n<256):((Bs n).toNat:av)=n:=by
 unfold Bs;rw[eh];omega
end Go.Cl.Uh
namespace Go.Proofs.YtdfjfncifneocaaGreat
open Go.Cl Go.Cl.Uh
def Bu (M:av):bb a1->av->bb a1->bb a1×av
 |[],_,_=>([],2)
 |c::r,h,P=>
  if dY c.toNat then Bu M r h P
  else if(c.toNat:av)=62 then(if h<0 then(P,0) else if M-P.length<1 then([],7) else(P++[Bs (h.toNat*16)],0))
  else if digit c.toNat<0 then([],4)
  else if h<0 then Bu M r (digit c.toNat) P
  else if M-P.length<1 then([],7) else Bu M r (-1) (P++[Bs (h.toNat*16+(digit c.toNat).toNat)])
theorem La (c:av):digit c<16:=by unfold digit;repeat (first|(split;all_goals try omega)|omega)
theorem EA:∀r:bb a1,(sign r=(-1,[])/\∀M h P,Bu M r h P=([],2))\/∃(c:a1) (r' :bb a1),sign r=((c.toNat:av),r')/\dY c.toNat=false/\r'.length<r.length/\∀M h P,Bu M r h P=Bu M (c::r') h P
 |[]=> .inl ⟨rfl,fun _ _ _=>rfl⟩
 |c::r=>by
  by_cases hw:dY (c.toNat:av)=true
  ·rcases EA r with ⟨h1,h2⟩|⟨c',r',h1,h2,h3,h4⟩
   ·refine .inl ⟨by simp only[sign];rw[aC hw,h1],fun M h P=> ?_⟩;rw[Bu,aC hw];exact h2 M h P
   refine .inr ⟨c',r',by simp only[sign];rw[aC hw,h1],h2,by simp;omega,fun M h P=> ?_⟩;rw[Bu,aC hw];exact h4 M h P
  exact .inr ⟨c,r,by simp only[sign];rw[a2 hw],by simpa using hw,by simp,fun _ _ _=>rfl⟩
theorem HF {lib:aD}(hl:lib.at 111=none)(A:a0->Prop)(base:a0)(s:au)(j:a0)(r P:bb a1)(c:a1)(M:av)(b:ch)(h:oz A base s j r P M)(hb:base<=s.next)(hd:Own s 1 b 1 [.int .u8 c.toNat])(hP:P.length<=2147483648)(Ru:0<=M)(hM:M<9223372036854775808):
  Runs an lib 111 [jw j,b] s fun v s' =>v= .int .i64 (if M-P.length<1 then 7 else 0)/\oz A base s' j r (if M-P.length<1 then P else P++[c]) M/\aw base s s' /\Still A s s' :=by
 refine(uZ hl A base s j r P [c] M b h hb hd.aL (by simp) hP Ru hM).mono ?_;intro v s' h
 simpa using h
theorem Rv {lib:aD}(hl:lib.at 67=none)(mA:lib.at 108=none)(yf:lib.at 100=none)(Uz:lib.at 109=none)(Gl:lib.at 111=none)(eF:lib.at 110=none)
  (y9:lib.at 156=none) (wO:lib.at 155=none) (tI:lib.at 192=none) (qN:lib.at 186=none) (nS:lib.at 209=none) (iG:lib.at 105=none)
  (s:au) (x:ch) (l:bb a1) (most M:av) (Rx:(if most<0 then 0 else most)=M) (hx:aU s 1 x l.length (ofBytes l)) (hlen:l.length<=4000000) (hm:most<9223372036854775808):
  Runs an lib 67 [x,.int .i64 most] s (mv s.next s (Bu M l (-1) []).1 (Bu M l (-1) []).2):=by
 have Ru:0<=M:=by rw[<-Rx];split<;>omega
 have hM1:M<9223372036854775808:=by rw[<-Rx];split<;>omega
 refine Runs.enter 65 Tryz.func67 rfl hl rfl rfl ?_;intro f hn hf;have h0:f.get 0=x:=hf 0;have h1:f.get 1= .int .i64 most:=hf 1;clear hf;simp only[aj,ak,ad,QM,WP,↓ab,hn,h0,h1];refine(Br (fun _=>False) mA yf s.next s x l most hx.low (c6 _) (by omega) (fun _ h=>h.elim)).mono ?_;rintro _ s1 ⟨j,rfl,hR,aF⟩;rw[Rx] at hR;simp only[aj,QM,↓ab,hn];refine Comes.de (fun q f s' =>∃r h P,q=r.length/\Bu M r h P=Bu M l (-1) []/\P.length+r.length<=l.length/\h<16/\oz (fun _=>False) s.next s' j r P M/\aw s.next s s' /\f.n=65/\f.get 6=jw j/\f.get 7= .int .i64 h) ⟨l,-1,[],rfl,rfl,by simp,by omega,hR,aF,by simp only[aa,ag,↓ab,WP,hn,bz]⟩ ?_;clear hn h0 h1 f hR aF s1;rintro q f s1 ⟨r,h,P,rfl,hu,hPr,abp,hR,aF,hn,h6,h7⟩;have fp:=aF.next;simp only[aj,ak,ad,QM,↓ab,hn,h6];refine(ze Uz y9 wO tI qN nS iG _ s.next s1 j r P M hR fp).mono ?_;rintro _ s2 ⟨rfl,iq,aR,_⟩;have dP:=aF.trans aR;have dr:=dP.next;simp only[aj,ak,ad,QM,↓ab,hn];refine(Rr eF s2 _).mono ?_;rintro _ s2 ⟨rfl,rfl⟩;rcases EA r with ⟨hs,wR⟩|⟨c,r',hs,hw,xN,wR⟩
 ·have e1:(sign r).1= -1:=by rw[hs]
  rw[wR] at hu;simp only[aj,al,oneOf,QM,WP,↓ab,hn,e1,show((-1:av)<0)=True from a8 (by decide),<-hu,cv];exact⟨_,rfl,.nil,aM.nil _,dP⟩
 have e1:(sign r).1=(c.toNat:av):=by rw[hs]
 have e2:(sign r).2=r' :=by rw[hs]
 rw[e2] at iq;rw[wR,Bu,a2 (by rw[hw];decide)] at hu;have Hg:¬(c.toNat:av)<0:=by omega
 have hdg:=La c.toNat;have hcr:P.length+r'.length<l.length:=by omega
 have Wq:P.length<=2147483648:=by omega
 by_cases zA:(c.toNat:av)=62
 ·rw[aC zA] at hu;by_cases hh:h<0
  ·rw[aC hh] at hu;obtain⟨i,o,l',p,xM,dk,ht,hc,ho,hF,hj,zt,iV,Dd,V8⟩:=id iq;have ll:=ht.load (P:=an) gJ (off:=2) (c:=4) rfl (by simp);simp only[aj,ak,al,oneOf,QM,WP,↓ab,hn,h6,h7,e1,Hg,a8 zA,a8 hh,rP,ll,<-hu,cv];exact⟨o,rfl,ho,hF,dP⟩
  rw[a2 hh] at hu;obtain⟨n,rfl⟩:∃n:a0,h=n:=⟨h.toNat,by omega⟩
  rw[b5] at hu;have hv:((n:av)*16)%256=((Bs (n*16)).toNat:av):=by rw[vF (by omega)];omega
  simp(disch:=omega)only[aj,ak,ae,QM,WP,↓ab,hn,h6,h7,e1,Hg,a8 zA,ao hh,afa,aB,a9 bk bl,fO,hv,gI af cO rU];refine bc (by simp) ?_;intro b s3 hb M4 bA;simp(disch:=omega)only[aj,ak,ad,QM,WP,↓ab,hn];refine(HF Gl _ s.next s3 j r' P _ M b (iq.keeps dr bA) (by have:=bA.next;omega) hb Wq Ru hM1).mono ?_;rintro _ s4 ⟨rfl,rO,eP,_⟩;have qj:=dP.trans ((bA.weaken dr).trans eP);by_cases gN:M-(P.length:av)<1
  ·rw[aC gN] at hu;simp only[aj,ak,al,oneOf,QM,WP,↓ab,hn,a8 gN,show((7:av)=0)=False from ao (by decide),<-hu,cv];exact⟨_,rfl,.nil,aM.nil _,qj⟩
  rw[a2 gN] at hu rO;obtain⟨i,o,l',p,xM,dk,ht,hc,ho,hF,hj,zt,iV,Dd,V8⟩:=id rO;have ll:=ht.load (P:=an) gJ (off:=2) (c:=4) rfl (by simp);simp only[aj,ak,al,oneOf,QM,WP,↓ab,hn,h6,ao gN,rP,ll,<-hu,cv];exact⟨o,rfl,ho,hF,qj⟩
 rw[a2 zA] at hu;by_cases hd:digit c.toNat<0
 ·rw[aC hd] at hu;simp only[aj,ak,al,oneOf,QM,WP,↓ab,hn,e1,Hg,ao zA,a8 hd,show((4:av)=0)=False from ao (by decide),<-hu,cv];exact⟨_,rfl,.nil,aM.nil _,dP⟩
 rw[a2 hd] at hu;by_cases hh:h<0
 ·rw[aC hh] at hu;simp only[aj,ak,QM,WP,↓ab,hn,h7,e1,Hg,ao zA,ao hd,a8 hh];refine ar r'.length (by omega) ⟨r',_,P,rfl,hu,by omega,hdg,iq,dP,by simp only[aa,ag,↓ab,WP,hn,h6,bz]⟩
 rw[a2 hh] at hu;obtain⟨n,rfl⟩:∃n:a0,h=n:=⟨h.toNat,by omega⟩
 obtain⟨d,XW⟩:∃d:a0,digit c.toNat=d:=⟨(digit c.toNat).toNat,by omega⟩
 rw[XW,b5,b5] at hu;rw[XW] at hd;have hv:((n*16+d:a0):av)%256=((Bs (n*16+d)).toNat:av):=by rw[vF (by omega)];omega
 simp(disch:=omega)only[aj,ak,ae,QM,WP,↓ab,hn,h6,h7,e1,Hg,ao zA,XW,ao hd,ao hh,afa,aB,kd,XV,a9 bk bl,fO,hv,gI af cO rU];refine bc (by simp) ?_;intro b s3 hb M4 bA;simp(disch:=omega)only[aj,ak,ad,QM,WP,↓ab,hn];refine(HF Gl _ s.next s3 j r' P _ M b (iq.keeps dr bA) (by have:=bA.next;omega) hb Wq Ru hM1).mono ?_;rintro _ s4 ⟨rfl,rO,eP,_⟩;have qj:=dP.trans ((bA.weaken dr).trans eP);by_cases gN:M-(P.length:av)<1
 ·rw[aC gN] at hu;simp only[aj,ak,al,oneOf,QM,WP,↓ab,hn,a8 gN,show((7:av)=0)=False from ao (by decide),<-hu,cv];exact⟨_,rfl,.nil,aM.nil _,qj⟩
 rw[a2 gN] at hu rO;simp only[aj,ak,QM,WP,↓ab,hn,ao gN];refine ar r'.length (by omega) ⟨r',_,_,rfl,hu,by simp;omega,by omega,rO,qj,by simp only[aa,ag,↓ab,WP,hn,h6,bz]⟩
def iN (g:bb a0):a0->a0
 |0=>0
 |k+1=>iN g k*85+g.getD k 84
theorem u0 {g:bb a0}(h:∀d∈g,d<85):∀k,iN g k<85^k
 |0=>by simp[iN]
 |k+1=>by
  have:=u0 h k;have hd:g.getD k 84<85:=by
   rw[cx];by_cases hk:k<g.length
   ·rw[cg hk];exact h _ (ek hk)
   rw[eb (by omega)];decide
  simp only[iN,eD];omega
def mS (x:a0):bb a1:=[c5 (x/16777216),c5 (x/65536),c5 (x/256),c5 x]
def HG (M:av)(g:bb a0)(n:a0)(P:bb a1):bb a1×av:=
 if 4294967295<iN g 5 then(P,4) else if M-P.length<n then(P,7) else(P++(mS (iN g 5)).take n,0)
def sD (M:av)(r:bb a1)(g:bb a0)(P:bb a1):bb a1×av:=
 if g.length=1 then([],4)
 else if 1<g.length/\(HG M g (g.length-1) P).2≠0 then([],(HG M g (g.length-1) P).2)
 else if(sign r).1<0 then([],2)
 else if(sign r).1=62 then(if 1<g.length then(HG M g (g.length-1) P).1 else P,0)
 else([],4)
def sE (M:av):bb a1->bb a0->bb a1->bb a1×av
 |[],_,_=>([],2)
 |c::r,g,P=>
  if dY c.toNat then sE M r g P
  else if(c.toNat:av)=126 then sD M r g P
  else if(c.toNat:av)=122/\g=[] then(if M-P.length<4 then([],7) else sE M r [] (P++[0,0,0,0]))
  else if c.toNat<33\/117<c.toNat then([],4)
  else if g.length=4 then(if(HG M (g++[c.toNat-33]) 4 P).2=0 then sE M r [] (HG M (g++[c.toNat-33]) 4 P).1 else([],(HG M (g++[c.toNat-33]) 4 P).2))
  else sE M r (g++[c.toNat-33]) P
def nI (a:a0)(g:bb a0):bb ch:=g.map fun d=> .int .i64 ((d+a:a0):av)
theorem Bv {a:a0}{g:bb a0}{i:a0}(h:i<g.length):(nI a g).getD i undef= .int .i64 ((g.getD i 84+a:a0):av):=by
 simp[nI,eK,cg h]
theorem Pt {x:av}(h0: -2147483648<=x)(h:x<2147483648):eo.wrap x=x:=by
 have e1:eo.bits=32:=rfl;have e2:eo.signed=true:=rfl;simp only[eG,e1,e2,Bool.true_and];simp;omega
theorem zf {x:av}(h0:0<=x)(h:x<18446744073709551616):c7.wrap x=x:=by
 have e1:c7.bits=64:=rfl;have e2:c7.signed=false:=rfl;simp only[eG,e1,e2,Bool.false_and];simp;omega
theorem UX (P:eB)(t:eI)(k' :IntKind)(x:a0):dB P .shr t (.int .u64 x) (.int k' 24)=some (.int .u64 ((x/16777216:a0):av))/\dB P .shr t (.int .u64 x) (.int k' 16)=some (.int .u64 ((x/65536:a0):av))/\dB P .shr t (.int .u64 x) (.int k' 8)=some (.int .u64 ((x/256:a0):av)):=by
 refine⟨?_,?_,?_⟩
 ·rw[mL P t .u64 _ 24 k' (by decide)];have:((x:av)).fdiv (2^(min (24:av).toNat c7.bits))=((x/16777216:a0):av):=by
   show((x:av)).fdiv 16777216=_;rw[ca _ (by omega)];omega
  rw[this]
 ·rw[mL P t .u64 _ 16 k' (by decide)];have:((x:av)).fdiv (2^(min (16:av).toNat c7.bits))=((x/65536:a0):av):=by
   show((x:av)).fdiv 65536=_;rw[ca _ (by omega)];omega
  rw[this]
 rw[mL P t .u64 _ 8 k' (by decide)];have:((x:av)).fdiv (2^(min (8:av).toNat c7.bits))=((x/256:a0):av):=by
  show((x:av)).fdiv 256=_;rw[ca _ (by omega)];omega
 rw[this]
theorem Pu (x:a0):((x:av))%256=(((c5 x).toNat:a0):av):=by rw[eh];omega
theorem Lb {lib:aD}(hl:lib.at 113=none)(Gl:lib.at 111=none)(A:a0->Prop)(base:a0)(s:au)(j:a0)(r P:bb a1)(M:av)(g:bb a0)(v:ch)(n:a0)(h:oz A base s j r P M)(hb:base<=s.next)(hv:aU s 1 v g.length (nI 33 g))(hg:∀d∈g,d<85)(tw:n<=4)(hP:P.length<=2147483648)(Ru:0<=M)(hM:M<9223372036854775808):
  Runs an lib 113 [jw j,v,.int .i64 n] s fun w s' =>w= .int .i64 (HG M g n P).2/\oz A base s' j r (HG M g n P).1 M/\aw base s s' /\Still A s s' :=by
 refine Runs.enter 47 Tryz.func113 rfl hl rfl rfl ?_;intro f hn hf;have h0:f.get 0=jw j:=hf 0;have h1:f.get 1=v:=hf 1;have h2:f.get 2= .int .i64 n:=hf 2;clear hf;simp(disch:=omega)only[aj,QM,↓ab,hn];refine Comes.bD (fun q f s' =>∃k:a0,q=5-k/\k<=5/\s' =s/\f.n=47/\f.get 0=jw j/\f.get 1=v/\f.get 2= .int .i64 n/\f.get 7= .int .u64 (iN g k)/\f.get 10= .int .i64 k)
  (fun y f s' =>y= .exit 0/\s' =s/\f.n=47/\f.get 0=jw j/\f.get 2= .int .i64 n/\f.get 7= .int .u64 (iN g 5))
  ⟨0,rfl,by omega,rfl,by simp only[ag,hn],by simp only[aa,↓ab,WP,h0],by simp only[aa,↓ab,WP,h1],by simp only[aa,↓ab,WP,h2],by simp only[aa,↓ab,WP];rfl,by simp only[aa,↓ab];rfl⟩ ?_ ?_
 ·clear hn h0 h1 h2 f;rintro Q hQ q f s1 ⟨k,rfl,hk,fL,hn,h0,h1,h2,h7,cJ⟩;subst fL;by_cases hk5:k<5
  ·have I3:(k:av)<5:=by omega
   have ajE:iN g k<52200626:=by
    have:=u0 hg k;have h2:85^k<=85^4:=Nat.pow_le_pow_right (by omega) (by omega);have h3:(85:a0)^4=52200625:=by decide
    omega
   by_cases XX:k<g.length
   ·obtain⟨d,hd⟩:∃d,d=g.getD k 84:=⟨_,rfl⟩
    have UY:d<85:=by rw[hd,cx,cg XX];exact hg _ (ek XX)
    have e:((d+33:a0):av)-33=(d:av):=by omega
    have pI:((iN g k:a0):av)*85+(d:av)=((iN g (k+1):a0):av):=by simp only[iN];rw[<-hd];omega
    simp(disch:=omega)only[aj,ad,QM,WP,↓ab,hn,h1,h7,cJ,a8 I3,hv.aQ a3,XX,hv.indexAddr a3 aV,hv.cu aP,Bv,<-hd,a9 bk dt,Pt,e,a9 dt ds,zf,pI,aB];refine ar (5-(k+1)) (by omega) ⟨k+1,rfl,by omega,rfl,by simp only[ag,hn],by simp only[aa,↓ab,WP,h0],by simp only[aa,↓ab,WP,h1],by simp only[aa,↓ab,WP,h2],by simp only[aa,↓ab,WP],by simp only[aa,↓ab];rfl⟩
   have pI:((iN g k:a0):av)*85+84=((iN g (k+1):a0):av):=by
    have:g.getD k 84=84:=by rw[cx,eb (by omega)];rfl
    simp only[iN];rw[this];omega
   have e:(117:av)-33=84:=by decide
   simp(disch:=omega)only[aj,ad,QM,WP,↓ab,hn,h1,h7,cJ,a8 I3,hv.aQ a3,XX,e,Pt,a9 dt ds,zf,pI,aB];refine ar (5-(k+1)) (by omega) ⟨k+1,rfl,by omega,rfl,by simp only[ag,hn],by simp only[aa,↓ab,WP,h0],by simp only[aa,↓ab,WP,h1],by simp only[aa,↓ab,WP,h2],by simp only[aa,↓ab,WP],by simp only[aa,↓ab];rfl⟩
  obtain rfl:k=5:=by omega
  have I3:¬((5:a0):av)<5:=by omega
  simp(disch:=omega)only[aj,QM,↓ab,hn,cJ,ao I3];exact hQ _ _ _ ⟨rfl,rfl,by simp only[ag,hn],by simp only[aa,↓ab,WP,h0],by simp only[aa,↓ab,WP,h2],by simp only[aa,↓ab,WP,h7]⟩
 clear hn h0 h1 h2 f;rintro _ f s1 ⟨rfl,fL,hn,h0,h2,h7⟩;subst fL;obtain⟨x,hx⟩:∃x,x=iN g 5:=⟨_,rfl⟩
 have hx5:=u0 hg 5;have h5:(85:a0)^5=4437053125:=by decide
 unfold HG;rw[<-hx] at h7 hx5|-
 by_cases FC:4294967295<x
 ·have jL:(4294967295:av)<(x:av):=by omega
  simp only[aC FC];simp(disch:=omega)only[aj,al,oneOf,QM,↓ab,hn,h7,a8 jL,eu];exact⟨h,aw.refl _ _,Still.refl _ _⟩
 have jL:¬(4294967295:av)<(x:av):=by omega
 simp only[a2 FC];simp(disch:=omega)only[aj,ae,QM,WP,↓ab,hn,h0,h7,ao jL,(UX _ _ _ _).1,(UX _ _ _ _).2.1,(UX _ _ _ _).2.2,a9 ds bl,fO,Pu,TA af cO rU];refine bc (by simp) ?_;intro b s2 dr M4 aR;have kD:=dr.aL.IB (l:=mS x) (lo:=0) (hi:=n) (by omega) (by show n<=4;omega);rw[List.drop_zero,Nat.sub_zero] at kD;have a7:((mS x).take n).length=n:=by rw[cT];show min n 4=n;omega
 simp(disch:=omega)only[aj,ak,ad,ai,QM,WP,↓ab,hn,h2,dr.aL.ra af cO];refine(uZ Gl A base s2 j r P ((mS x).take n) M _ (h.keeps hb aR) (cc hb aR.next) kD (by omega) hP Ru hM).mono ?_;rintro _ s3 ⟨rfl,uU,bA,ajG⟩;rw[a7] at uU;simp(disch:=omega)only[aj,al,oneOf,QM,↓ab,hn,a7,eu];refine⟨?_,?_,(aR.weaken hb).trans bA,(h.still aR).trans ajG⟩
 ·split<;>rfl
 split
 ·rename_i h;rw[aC h] at uU;exact uU
 rename_i h;rw[a2 h] at uU;exact uU
def Ends (A:a0->Prop)(base:a0)(s:au)(j:a0)(M:av)(z:bb a1×av)(w:ch)(s' :au):Prop:=
 w= .int .i64 z.2/\(∃r' P',oz A base s' j r' P' M/\(z.2=0->P' =z.1))/\aw base s s' /\Still A s s'
theorem XY {lib:aD}(hl:lib.at 112=none)(sR:lib.at 113=none)(Uz:lib.at 109=none)(Gl:lib.at 111=none)(y9:lib.at 156=none)(wO:lib.at 155=none)(tI:lib.at 192=none)(qN:lib.at 186=none)(nS:lib.at 209=none)(iG:lib.at 105=none)
  (A:a0->Prop) (base:a0) (s:au) (j:a0) (r P:bb a1) (M:av) (g:bb a0) (v:ch) (h:oz A base s j r P M) (hb:base<=s.next) (hv:aU s 1 v g.length (nI 33 g)) (hg:∀d∈g,d<85) (hg4:g.length<=4) (hP:P.length<=2147483648) (Ru:0<=M) (hM:M<9223372036854775808):
  Runs an lib 112 [jw j,v] s (Ends A base s j M (sD M r g P)):=by
 refine Runs.enter 30 Tryz.func112 rfl hl rfl rfl ?_;intro f hn hf;have h0:f.get 0=jw j:=hf 0;have h1:f.get 1=v:=hf 1;clear hf;by_cases c1:g.length=1
 ·have wG:(g.length:av)=1:=by omega
  have hz:sD M r g P=([],4):=by unfold sD;rw[aC c1]
  simp only[aj,al,oneOf,ad,QM,WP,↓ab,hn,h1,hv.aQ a3,a8 wG,hz,b7];exact⟨rfl,⟨r,P,h,fun e=>b4 e (by decide)⟩,aw.refl _ _,Still.refl _ _⟩
 have wG:¬(g.length:av)=1:=by omega
 by_cases c2:1<g.length
 ·have Hw:(1:av)<(g.length:av):=by omega
  have e:(g.length:av)-1=((g.length-1:a0):av):=by omega
  simp(disch:=omega)only[aj,ak,ad,QM,WP,↓ab,hn,h0,h1,hv.aQ a3,ao wG,a8 Hw,e,aB];refine(Lb sR Gl A base s j r P M g v (g.length-1) h hb hv hg (by omega) hP Ru hM).mono ?_;rintro _ s1 ⟨rfl,nH,aY,afb⟩;obtain⟨y,hy⟩:∃y,y=HG M g (g.length-1) P:=⟨_,rfl⟩
  rw[<-hy] at nH;by_cases fF:y.2=0
  ·have hz:sD M r g P=(if(sign r).1<0 then([],2) else if(sign r).1=62 then(y.1,0) else([],4)):=by
    unfold sD;rw[a2 c1,<-hy,a2 (by simp[fF]),aC c2]
   simp only[aj,ak,ad,QM,WP,↓ab,hn,h0,<-hy,a8 fF];refine(ze Uz y9 wO tI qN nS iG A base s1 j r y.1 M nH (cc hb aY.next)).mono ?_;rintro _ s2 ⟨rfl,iq,aR,K9⟩;have Hl:=afb.trans K9;have aF:=aY.trans aR;rw[hz];by_cases d1:(sign r).1<0
   ·simp only[aj,al,oneOf,QM,↓ab,hn,a8 d1,b7];exact⟨rfl,⟨_,_,iq,fun e=>b4 e (by decide)⟩,aF,Hl⟩
   by_cases d2:(sign r).1=62
   ·simp only[aj,ak,al,oneOf,QM,WP,↓ab,hn,ao d1,a8 d2,b7];exact⟨rfl,⟨_,_,iq,fun _=>rfl⟩,aF,Hl⟩
   simp only[aj,ak,al,oneOf,QM,WP,↓ab,hn,ao d1,ao d2,b7];exact⟨rfl,⟨_,_,iq,fun e=>b4 e (by decide)⟩,aF,Hl⟩
  have hz:sD M r g P=([],y.2):=by unfold sD;rw[a2 c1,<-hy,aC ⟨c2,fF⟩]
  rw[hz];simp only[aj,ak,al,oneOf,QM,WP,↓ab,hn,<-hy,ao fF,b7];exact⟨rfl,⟨_,_,nH,fun e=>b4 e fF⟩,aY,afb⟩
 have Hw:¬(1:av)<(g.length:av):=by omega
 have hz:sD M r g P=(if(sign r).1<0 then([],2) else if(sign r).1=62 then(P,0) else([],4)):=by
  unfold sD;rw[a2 c1,a2 (by simp[c2]),a2 c2]
 simp only[aj,ak,ad,QM,WP,↓ab,hn,h0,h1,hv.aQ a3,ao wG,ao Hw];refine(ze Uz y9 wO tI qN nS iG A base s j r P M h hb).mono ?_;rintro _ s2 ⟨rfl,iq,aF,Hl⟩;rw[hz];by_cases d1:(sign r).1<0
 ·simp only[aj,al,oneOf,QM,↓ab,hn,a8 d1,b7];exact⟨rfl,⟨_,_,iq,fun e=>b4 e (by decide)⟩,aF,Hl⟩
 by_cases d2:(sign r).1=62
 ·simp only[aj,ak,al,oneOf,QM,WP,↓ab,hn,ao d1,a8 d2,b7];exact⟨rfl,⟨_,_,iq,fun _=>rfl⟩,aF,Hl⟩
 simp only[aj,ak,al,oneOf,QM,WP,↓ab,hn,ao d1,ao d2,b7];exact⟨rfl,⟨_,_,iq,fun e=>b4 e (by decide)⟩,aF,Hl⟩
theorem HH {s s' :au}{z:a0}{v:ch}{n:a0}{l:bb ch}(h:Own s z v n l)(hn:s.next<=s'.next)(k:Still (fun k=>aI v=some k) s s'):Own s' z v n l:=by
 cases h with
 |nil=>exact .nil
 |of i n low l hi hb hl hlen=>
  refine .of i n low l (bw hi hn) ?_ hl hlen;simp only[au.bL,k i rfl];exact hb
theorem Lc:∀r:bb a1,(sign r=(-1,[])/\∀M g P,sE M r g P=([],2))\/∃(c:a1) (r' :bb a1),sign r=((c.toNat:av),r')/\dY c.toNat=false/\r'.length<r.length/\∀M g P,sE M r g P=sE M (c::r') g P
 |[]=> .inl ⟨rfl,fun _ _ _=>rfl⟩
 |c::r=>by
  by_cases hw:dY (c.toNat:av)=true
  ·rcases Lc r with ⟨h1,h2⟩|⟨c',r',h1,h2,h3,h4⟩
   ·refine .inl ⟨by simp only[sign];rw[aC hw,h1],fun M h P=> ?_⟩;rw[sE,aC hw];exact h2 M h P
   refine .inr ⟨c',r',by simp only[sign];rw[aC hw,h1],h2,by simp;omega,fun M h P=> ?_⟩;rw[sE,aC hw];exact h4 M h P
  exact .inr ⟨c,r,by simp only[sign];rw[a2 hw],by simpa using hw,by simp,fun _ _ _=>rfl⟩
theorem UZ {M:av}{r:bb a1}{g:bb a0}{P:bb a1}(h:(sD M r g P).2≠0):(sD M r g P).1=[]:=by
 unfold sD at h|-
 split
 ·rfl
 split
 ·rfl
 split
 ·rfl
 split
 ·rename_i h1 h2 h3 h4;rw[a2 h1,a2 h2,a2 h3,aC h4] at h;exact b4 rfl h
 rfl
theorem Pv (M:av)(g:bb a0)(n:a0)(P:bb a1)(hn:n<=4):(HG M g n P).1.length<=P.length+4:=by
 unfold HG;split
 ·simp
 split
 ·simp
 simp[mS];omega
theorem NU {lib:aD}(hl:lib.at 68=none)(hle:lib.at 112=none)(sR:lib.at 113=none)(mA:lib.at 108=none)(yf:lib.at 100=none)(Uz:lib.at 109=none)(Gl:lib.at 111=none)
  (y9:lib.at 156=none) (wO:lib.at 155=none) (tI:lib.at 192=none) (qN:lib.at 186=none) (nS:lib.at 209=none) (iG:lib.at 105=none)
  (s:au) (x:ch) (l:bb a1) (most M:av) (Rx:(if most<0 then 0 else most)=M) (hx:aU s 1 x l.length (ofBytes l)) (hlen:l.length<=4000000) (hm:most<9223372036854775808):
  Runs an lib 68 [x,.int .i64 most] s (mv s.next s (sE M l [] []).1 (sE M l [] []).2):=by
 have Ru:0<=M:=by rw[<-Rx];split<;>omega
 have hM1:M<9223372036854775808:=by rw[<-Rx];split<;>omega
 refine Runs.enter 61 Tryz.func68 rfl hl rfl rfl ?_;intro f hn hf;have h0:f.get 0=x:=hf 0;have h1:f.get 1= .int .i64 most:=hf 1;clear hf;simp only[aj,ak,ad,QM,WP,↓ab,hn,h0,h1];refine(Br (fun k=>aI (.slice none 0 0)=some k) mA yf s.next s x l most hx.low (c6 _) (by omega) (fun _ h=>by cases h)).mono ?_;rintro _ s1 ⟨j,rfl,hR,aF⟩;rw[Rx] at hR;simp only[aj,QM,↓ab,hn];refine Comes.de (fun q f s' =>∃r g P v,q=r.length/\sE M r g P=sE M l [] []/\P.length+4*r.length<=4*l.length/\g.length<=4/\(∀d∈g,d<85)/\Own s' 1 v g.length (nI 33 g)/\aM s.next v/\oz (fun k=>aI v=some k) s.next s' j r P M/\aw s.next s s' /\f.n=61/\f.get 6=jw j/\f.get 7=v) ⟨l,[],[],_,rfl,rfl,by simp,by simp,by simp,.nil,aM.nil _,hR,aF,by simp only[aa,ag,↓ab,WP,hn,bz]⟩ ?_;clear hn h0 h1 f hR aF s1;rintro q f s1 ⟨r,g,P,v,rfl,hu,hPr,hg4,Ry,hv,xp,hR,aF,hn,h6,h7⟩;have fp:=aF.next;simp only[aj,ak,ad,QM,↓ab,hn,h6];refine(ze Uz y9 wO tI qN nS iG _ s.next s1 j r P M hR fp).mono ?_;rintro _ s2 ⟨rfl,iq,aR,K9⟩;have dP:=aF.trans aR;have dr:=dP.next;have Hh:=HH hv aR.next K9;rcases Lc r with ⟨hs,wR⟩|⟨c,r',hs,hw,xN,wR⟩
 ·have e1:(sign r).1= -1:=by rw[hs]
  rw[wR] at hu;simp only[aj,al,oneOf,QM,WP,↓ab,hn,e1,show((-1:av)<0)=True from a8 (by decide),<-hu,cb];exact⟨_,rfl,.nil,aM.nil _,dP⟩
 have e1:(sign r).1=(c.toNat:av):=by rw[hs]
 have e2:(sign r).2=r' :=by rw[hs]
 rw[e2] at iq;rw[wR,sE,a2 (by rw[hw];decide)] at hu;have Hg:¬(c.toNat:av)<0:=by omega
 have Wq:P.length<=2147483648:=by omega
 by_cases sF:(c.toNat:av)=126
 ·rw[aC sF] at hu;simp only[aj,ak,ad,QM,WP,↓ab,hn,h6,h7,e1,Hg,a8 sF];refine(XY hle sR Uz Gl y9 wO tI qN nS iG _ s.next s2 j r' P M g v iq dr Hh.aL Ry hg4 Wq Ru hM1).mono ?_;rintro _ s3 ⟨rfl,⟨r3,P3,uU,hP3⟩,bA,_⟩;have mq:=dP.trans bA;obtain⟨y,hy⟩:∃y,y=sD M r' g P:=⟨_,rfl⟩
  rw[<-hy] at hP3 hu;by_cases fF:y.2=0
  ·obtain⟨i,o,l',p,xM,dk,ht,hc,ho,hF,hj,zt,iV,Dd,V8⟩:=id uU;have ll:=ht.load (P:=an) gJ (off:=2) (c:=4) rfl (by simp);simp only[aj,ak,al,oneOf,QM,WP,↓ab,hn,h6,<-hy,a8 fF,rP,ll,<-hu,cb];rw[hP3 fF] at ho;exact⟨o,by rw[fF],ho,hF,mq⟩
  have Gx:y.1=[]:=by rw[hy];exact UZ (by rw[<-hy];exact fF)
  simp only[aj,ak,al,oneOf,QM,WP,↓ab,hn,<-hy,ao fF,<-hu,Gx,cb];exact⟨_,rfl,.nil,aM.nil _,mq⟩
 rw[a2 sF] at hu;by_cases cz:(c.toNat:av)=122/\g=[]
 ·obtain⟨u7,rfl⟩:=cz;rw[aC ⟨u7,rfl⟩] at hu;simp only[aj,ak,ad,ae,QM,WP,↓ab,hn,h6,h7,e1,Hg,ao sF,a8 u7,Hh.aL.aQ a3,c9,Int.natCast_zero,TA af cO rU];refine bc (by simp) ?_;intro b s3 hb M4 bA;simp only[aj,ak,ad,QM,WP,↓ab,hn];refine(uZ Gl _ s.next s3 j r' P [0,0,0,0] M b (iq.keeps dr bA) (cc dr bA.next) hb.aL (by simp) Wq Ru hM1).mono ?_;rintro _ s4 ⟨rfl,rO,eP,ajH⟩;have qj:=dP.trans ((bA.weaken dr).trans eP);have Uv:=HH (Hh.keeps bA) eP.next ajH;have e4:((([0,0,0,0]:bb a1).length:a0):av)=4:=rfl;rw[e4] at rO;by_cases gN:M-(P.length:av)<4
  ·rw[aC gN] at hu;simp only[aj,ak,al,oneOf,QM,WP,↓ab,hn,e4,a8 gN,show((7:av)=0)=False from ao (by decide),<-hu,cb];exact⟨_,rfl,.nil,aM.nil _,qj⟩
  rw[a2 gN] at hu rO;simp only[aj,ak,QM,↓ab,hn,e4,ao gN];refine ar r'.length (by omega) ⟨r',[],_,v,rfl,hu,by simp;omega,by simp,by simp,Uv,xp,rO,qj,by simp only[aa,ag,↓ab,WP,hn,h6,h7,bz]⟩
 rw[a2 cz] at hu;by_cases u7:(c.toNat:av)=122
 ·have XZ:¬(g.length:av)=0:=fun e=>cz ⟨u7,List.eq_nil_of_length_eq_zero (by omega)⟩
  have d1:¬(c.toNat:av)<33:=by omega
  have d2:(117:av)<c.toNat:=by omega
  rw[aC (by omega)] at hu;simp only[aj,ak,al,oneOf,ad,QM,WP,↓ab,hn,h7,e1,Hg,ao sF,a8 u7,ao XZ,ao d1,a8 d2,Hh.aL.aQ a3,show((4:av)=0)=False from ao (by decide),<-hu,cb];exact⟨_,rfl,.nil,aM.nil _,dP⟩
 by_cases d1:(c.toNat:av)<33
 ·rw[aC (by omega)] at hu;simp only[aj,ak,al,oneOf,QM,WP,↓ab,hn,e1,Hg,ao sF,ao u7,a8 d1,show((4:av)=0)=False from ao (by decide),<-hu,cb];exact⟨_,rfl,.nil,aM.nil _,dP⟩
 by_cases d2:(117:av)<c.toNat
 ·rw[aC (by omega)] at hu;simp only[aj,ak,al,oneOf,QM,WP,↓ab,hn,e1,Hg,ao sF,ao u7,ao d1,a8 d2,show((4:av)=0)=False from ao (by decide),<-hu,cb];exact⟨_,rfl,.nil,aM.nil _,dP⟩
 rw[a2 (by omega)] at hu;obtain⟨d,hd⟩:∃d,d=c.toNat-33:=⟨_,rfl⟩
 rw[<-hd] at hu;have UY:d<85:=by omega
 simp only[aj,ak,ae,QM,WP,↓ab,hn,h7,e1,Hg,ao sF,ao u7,ao d1,ao d2,gI a3 aV W4];refine cj a3 aV YW W4 rfl Hh (by simp only[aa,↓ab,WP]) (by decide) (by simp only[ag,hn];decide) (by simp only[ag,hn];decide) (by rfl) (by decide) rfl (by omega) (by omega) xp dr ?_;intro bs v' s3 Gi IY bA jE B1;have U0:nI 33 g++[.int .i64 (c.toNat:av)]=nI 33 (g++[d]):=by
  have:((d+33:a0):av)=(c.toNat:av):=by omega
  simp only[nI,List.map_append,List.map_cons,List.map_nil,this]
 rw[U0] at Gi;have Tk:∀a∈g++[d],a<85:=fun a ha=>by
  rcases List.mem_append.mp ha with ha|ha
  ·exact Ry a ha
  rw[List.mem_singleton.mp ha];exact UY
 have XZ:(g++[d]).length=g.length+1:=by simp
 have uU:oz (fun k=>aI v' =some k) s.next s3 j r' P M:=iq.turns dr (fun k hk=>hk) xp jE (fun q hq=>⟨Gi.ei q hq,by
  rcases B1 with e|⟨i,e,hi⟩
  ·exact .inl (by rw[<-e];exact hq)
  refine .inr ?_;have hq:aI v' =some q:=hq;rw[e] at hq;injection hq with hq;omega⟩)
 have mq:=dP.trans bA;by_cases g5:g.length=4
 ·have g5' :((g.length+1:a0):av)=5:=by omega
  rw[aC g5] at hu;simp only[aj,ak,ad,QM,WP,↓ab,hn,h6,Gi.aL.aQ a3,a8 g5'];rw[<-XZ] at Gi;refine(Lb sR Gl _ s.next s3 j r' P M (g++[d]) v' 4 uU mq.next Gi.aL Tk (by omega) Wq Ru hM1).mono ?_;rintro _ s4 ⟨rfl,rO,eP,_⟩;have qj:=mq.trans eP;have tD:=Pv M (g++[d]) 4 P (by omega);obtain⟨y,hy⟩:∃y,y=HG M (g++[d]) 4 P:=⟨_,rfl⟩
  rw[<-hy] at rO tD hu;by_cases fF:y.2=0
  ·rw[aC fF] at hu;simp only[aj,ak,QM,WP,↓ab,hn,<-hy,a8 fF];have U2:oz (fun k=>aI (.slice none 0 0)=some k) s.next s4 j r' y.1 M:=by
    obtain⟨i,o,l',p,q1,q2,q3,q4,q5,q6,q7,q8,q9,q10,q11,_⟩:=rO;exact⟨i,o,l',p,q1,q2,q3,q4,q5,q6,q7,q8,q9,q10,q11,fun k hk=>by cases hk⟩
   refine ar r'.length (by omega) ⟨r',[],_,_,rfl,hu,by omega,by simp,by simp,.nil,aM.nil _,U2,qj,by simp only[aa,ag,↓ab,WP,hn,h6,bz]⟩
  rw[a2 fF] at hu;simp only[aj,ak,al,oneOf,QM,WP,↓ab,hn,<-hy,ao fF,<-hu,cb];exact⟨_,rfl,.nil,aM.nil _,qj⟩
 have g5' :¬((g.length+1:a0):av)=5:=by omega
 rw[a2 g5] at hu;simp only[aj,ak,ad,QM,WP,↓ab,hn,Gi.aL.aQ a3,ao g5'];rw[<-XZ] at Gi;refine ar r'.length (by omega) ⟨r',_,P,v',rfl,hu,by omega,by omega,Tk,Gi,IY,uU,mq,by simp only[aa,ag,↓ab,WP,hn,h6,bz]⟩
end Go.Proofs.YtdfjfncifneocaaGreat
namespace Go.Proofs.YtdfjfncifneocaaGreat
open Go.Cl
theorem EB {lib:aD}(hl:lib.at 128=none)(s:au)(x:ch)(l:bb a1)(i:a0)(hx:aU s 1 x l.length (ofBytes l)):
  Runs an lib 128 [x,.int .i64 i] s fun v s' =>v= .int .i64 (if i<l.length then((l.getD i 0).toNat:av) else-1)/\s' =s:=by
 refine Runs.enter 18 Tryz.func128 rfl hl rfl rfl ?_;intro f hn hf;have h0:f.get 0=x:=hf 0;have h1:f.get 1= .int .i64 i:=hf 1;clear hf;have c0:¬(i:av)<0:=by omega
 by_cases hi:i<l.length
 ·have c1:¬l.length<=i:=by omega
  have hb:((l.getD i 0).toNat:av)<256:=by have:=(l.getD i 0).toNat_lt;omega
  simp(disch:=omega)only[aj,ak,al,oneOf,ad,QM,WP,↓ab,hn,h0,h1,hx.aQ af,c0,c1,hi,hx.indexAddr af cO,hx.cu gQ,aW,a9 bl bk,aB,ev]
 have c1:l.length<=i:=by omega
 simp(disch:=omega)only[aj,ak,al,oneOf,ad,QM,WP,↓ab,hn,h0,h1,hx.aQ af,c0,c1,hi,ev]
end Go.Proofs.YtdfjfncifneocaaGreat
namespace Go.Proofs.YtdfjfncifneocaaGreat
open Go.Cl Go.Cl.Runs
theorem room_le {most:av}{P:bb a1}{j:a0}:(most<=((P.length+j:a0):av))↔room most P<=j:=by unfold room;omega
theorem Ld {lib:aD}(hl:lib.at 69=none)(s:au)(x:ch)(l:bb a1)(most:av)(hx:aU s 1 x l.length (ofBytes l))(hlen:l.length<=4000000):
  Runs an lib 69 [x,.int .i64 most] s (mv s.next s (dec most l []).1 (dec most l []).2):=by
 refine Runs.enter 63 Tryz.func69 rfl hl rfl rfl ?_;intro f hn hf;have h0:f.get 0=x:=hf 0;have h1:f.get 1= .int .i64 most:=hf 1;clear hf;simp only[aj,QM,↓ab,hn];refine Comes.de (fun k f s' =>∃(i:a0) (o:ch) (P:bb a1),k=l.length-i/\i<=l.length/\P.length<=128*i/\dec most (l.drop i) P=dec most l []/\Own s' 1 o P.length (ofBytes P)/\aM s.next o/\aw s.next s s' /\f.n=63/\f.get 0=x/\f.get 1= .int .i64 most/\f.get 7= .int .i64 i/\f.get 6=o) ⟨0,_,[],rfl,by omega,by simp,rfl,.nil,aM.nil _,aw.refl _ _,by simp only[ag,hn],by simp only[aa,↓ab,WP,h0],by simp only[aa,↓ab,WP,h1],by simp only[aa,↓ab];rfl,by simp only[aa,↓ab,WP]⟩ ?_;clear hn h0 h1 f;rintro k f s1 ⟨i,o,P,rfl,hi,hP,ff,ho,wL,aF,hn,h0,h1,h7,h6⟩;have kU:=hx.keeps aF;have fail:∀(f:aZ) (s2:au) (e:av),f.n=63->f.get 4= .slice none 0 0->f.get 5= .int .i64 e->aw s.next s s2->dec most l []=([],e)->L9 an (Tryz.f69).results.toList (mv s.next s (dec most l []).1 (dec most l []).2) .ret f s2:=by
  intro f s2 e hn h4 h5 aF he;simp only[aj,al,oneOf,QM,↓ab,hn,h4,h5,ew,he];exact⟨_,rfl,.nil,aM.nil _,aF⟩
 by_cases a7:i<l.length
 ·have hb:=(l.getD i 0).toNat_lt;rw[drop_cons a7] at ff;generalize JD:(l.getD i 0).toNat=n at*;simp(disch:=omega)only[aj,ad,QM,WP,↓ab,hn,h0,h7,a7,kU.aQ af,kU.indexAddr af cO,kU.cu gQ,aW,JD,a9 bl bk,aB];by_cases ajI:n=128
  ·have I4:(n:av)=128:=by omega
   simp(disch:=omega)only[aj,al,oneOf,QM,WP,↓ab,hn,h6,I4,ew];rw[yX (by omega)] at ff;rw[<-ff];exact⟨_,rfl,ho,wL,aF⟩
  have I4:¬(n:av)=128:=by omega
  by_cases nD:128<n
  ·obtain⟨times,ht⟩:∃times:a0,(257:av)-n=times:=⟨257-n,by omega⟩
   have EC:(128:av)<n:=by omega
   have htn:257-n=times:=by omega
   simp(disch:=omega)only[aj,QM,WP,↓ab,hn,I4,EC,aB,ht];refine Comes.de (fun k f s' =>∃(j:a0) (o:ch),k=times-j/\j<=times/\j<=room most P/\(0<j->i+1<l.length)/\Own s' 1 o (P.length+j) (ofBytes (P++bq j (l.getD (i+1) 0)))/\aM s.next o/\aw s.next s s' /\f.n=63/\f.get 0=x/\f.get 1= .int .i64 most/\f.get 7= .int .i64 (if j=times then(i+2:a0) else(i+1:a0))/\f.get 6=o/\f.get 9= .bool true/\f.get 10= .int .i64 times/\f.get 33= .int .i64 times/\f.get 34= .int .i64 j) ⟨0,o,rfl,by omega,by omega,by omega,by simpa using ho,wL,aF,by simp only[ag,hn],by simp only[aa,↓ab,WP,h0],by simp only[aa,↓ab,WP,h1],by simp only[aa,↓ab,WP];rw[a2 (by omega)];rfl,by simp only[aa,↓ab,WP,h6,ee];rfl⟩ ?_;clear hn h0 h1 h7 h6 f;rintro k f s2 ⟨j,o2,rfl,hj,hjr,Xz,iV,FH,aR,hn,h0,h1,h7,h6,h9,cJ,tG,rV⟩;have kA:=hx.keeps aR;by_cases NV:j<times
   ·rw[a2 (show¬j=times by omega)] at h7;by_cases jK:i+1<l.length
    ·have I5:¬((l.length:av)<=((i+1:a0):av)):=by omega
     by_cases hm:most<=((P.length+j:a0):av)
     ·simp(disch:=omega)only[aj,ad,QM,WP,↓ab,hn,h0,h1,h7,h6,tG,rV,NV,kA.aQ af,I5,iV.aL.aQ af,hm];refine fail _ s2 7 (by simp only[ag,hn]) (by simp only[aa,↓ab,WP]) (by simp only[aa,↓ab]) aR ?_;rw[<-ff,drop_cons jK,qD (by omega) (by rw[room_le] at hm;omega)]
     have U3:(((i+1:a0):av)).toNat=i+1:=by omega
     simp(disch:=omega)only[aj,ad,ae,QM,WP,↓ab,hn,h0,h1,h7,h6,tG,rV,NV,kA.aQ af,I5,iV.aL.aQ af,hm,kA.indexAddr af cO,U3,kA.cu gQ,aW,gI af cO rU];refine cj af cO sm rU rfl iV (by simp only[aa,↓ab,WP]) (by decide) (by simp only[ag,hn];decide) (by simp only[ag,hn];decide) (by rfl) (by decide) rfl (by omega) (by omega) FH aR.next ?_;intro bs o3 s3 wM X0 bA _ _;have ue:P++bq (j+1) (l.getD (i+1) 0)=(P++bq j (l.getD (i+1) 0))++[l.getD (i+1) 0]:=by rw[c8,cp]
     by_cases Zm:(j:av)=times-1
     ·simp(disch:=omega)only[aj,ak,QM,WP,↓ab,hn,h7,h9,cJ,rV,aB,Zm];refine ar (times-(j+1)) (by omega) ⟨j+1,o3,rfl,by omega,by rw[room_le] at hm;omega,fun _=>jK,?_,X0,aR.trans bA,by simp only[ag,hn],by simp only[aa,↓ab,WP,h0],by simp only[aa,↓ab,WP,h1],by simp only[aa,↓ab,WP];rw[aC (by omega)];rfl,by simp only[aa,↓ab,WP],by simp only[aa,↓ab,WP,h9],by simp only[aa,↓ab,WP,cJ],by simp only[aa,↓ab,WP,tG],by simp only[aa,↓ab];congr 1;omega⟩;rw[ue,ct];exact wM
     simp(disch:=omega)only[aj,ak,QM,WP,↓ab,hn,h9,cJ,rV,aB,Zm];refine ar (times-(j+1)) (by omega) ⟨j+1,o3,rfl,by omega,by rw[room_le] at hm;omega,fun _=>jK,?_,X0,aR.trans bA,by simp only[ag,hn],by simp only[aa,↓ab,WP,h0],by simp only[aa,↓ab,WP,h1],by simp only[aa,↓ab,WP,h7];rw[a2 (by omega)],by simp only[aa,↓ab,WP,h9,cJ,tG,ee];rfl⟩;rw[ue,ct];exact wM
    have I5:((l.length:av)<=((i+1:a0):av)):=by omega
    simp(disch:=omega)only[aj,ad,QM,WP,↓ab,hn,h0,h7,tG,rV,NV,kA.aQ af,I5];refine fail _ s2 2 (by simp only[ag,hn]) (by simp only[aa,↓ab,WP]) (by simp only[aa,↓ab]) aR ?_;rw[<-ff,b8 (by omega),wB (by omega)]
   obtain rfl:j=times:=by omega
   rw[aC rfl] at h7;have jK:=Xz (by omega);simp(disch:=omega)only[aj,QM,↓ab,hn,tG,rV,NV];refine ar (l.length-(i+2)) (by omega) ⟨i+2,o2,P++bq j (l.getD (i+1) 0),rfl,by omega,?_,?_,(by rw[ax,bt];exact iV),FH,aR,by simp only[aa,ag,↓ab,WP,hn,h0,h1,h7,h6,bz]⟩
   ·rw[ax,bt];omega
   rw[<-ff,drop_cons jK,vD (by omega) (by omega),JD,htn]
  obtain⟨times,ht⟩:∃times:a0,(n:av)+1=times:=⟨n+1,by omega⟩
  have EC:¬(128:av)<n:=by omega
  have htn:n+1=times:=by omega
  have Wf:(l.drop (i+1)).length=l.length-(i+1):=en;simp(disch:=omega)only[aj,QM,WP,↓ab,hn,I4,EC,aB,ht];refine Comes.de (fun k f s' =>∃(j:a0) (o:ch),k=times-j/\j<=times/\j<=room most P/\i+1+j<=l.length/\Own s' 1 o (P.length+j) (ofBytes (P++(l.drop (i+1)).take j))/\aM s.next o/\aw s.next s s' /\f.n=63/\f.get 0=x/\f.get 1= .int .i64 most/\f.get 7= .int .i64 (i+1+j:a0)/\f.get 6=o/\f.get 9= .bool false/\f.get 10= .int .i64 times/\f.get 33= .int .i64 times/\f.get 34= .int .i64 j) ⟨0,o,rfl,by omega,by omega,by omega,by simpa using ho,wL,aF,by simp only[ag,hn],by simp only[aa,↓ab,WP,h0],by simp only[aa,↓ab,WP,h1],by simp only[aa,↓ab,WP];rfl,by simp only[aa,↓ab,WP,h6,ee];rfl⟩ ?_;clear hn h0 h1 h7 h6 f;rintro k f s2 ⟨j,o2,rfl,hj,hjr,Xz,iV,FH,aR,hn,h0,h1,h7,h6,h9,cJ,tG,rV⟩;have kA:=hx.keeps aR;by_cases NV:j<times
  ·by_cases jK:i+1+j<l.length
   ·have I5:¬((l.length:av)<=((i+1+j:a0):av)):=by omega
    by_cases hm:most<=((P.length+j:a0):av)
    ·simp(disch:=omega)only[aj,ad,QM,WP,↓ab,hn,h0,h1,h7,h6,tG,rV,NV,kA.aQ af,I5,iV.aL.aQ af,hm];refine fail _ s2 7 (by simp only[ag,hn]) (by simp only[aa,↓ab,WP]) (by simp only[aa,↓ab]) aR ?_;rw[<-ff,wD (by omega) (by rw[room_le] at hm;omega) (by rw[room_le] at hm;omega)]
    have U3:(((i+1+j:a0):av)).toNat=i+1+j:=by omega
    simp(disch:=omega)only[aj,ad,ae,QM,WP,↓ab,hn,h0,h1,h7,h6,tG,rV,NV,kA.aQ af,I5,iV.aL.aQ af,hm,kA.indexAddr af cO,U3,kA.cu gQ,aW,gI af cO rU];refine cj af cO sm rU rfl iV (by simp only[aa,↓ab,WP]) (by decide) (by simp only[ag,hn];decide) (by simp only[ag,hn];decide) (by rfl) (by decide) rfl (by omega) (by omega) FH aR.next ?_;intro bs o3 s3 wM X0 bA _ _;have ue:P++(l.drop (i+1)).take (j+1)=(P++(l.drop (i+1)).take j)++[l.getD (i+1+j) 0]:=by rw[oW (by omega),cp,Ht]
    simp(disch:=omega)only[aj,ak,QM,WP,↓ab,hn,h7,h9,rV,aB];refine ar (times-(j+1)) (by omega) ⟨j+1,o3,rfl,by omega,by rw[room_le] at hm;omega,by omega,?_,X0,aR.trans bA,by simp only[ag,hn],by simp only[aa,↓ab,WP,h0],by simp only[aa,↓ab,WP,h1],by simp only[aa,↓ab,WP];rfl,by simp only[aa,↓ab,WP,h9,cJ,tG,ee];rfl⟩;rw[ue,ct];exact wM
   have I5:((l.length:av)<=((i+1+j:a0):av)):=by omega
   simp(disch:=omega)only[aj,ad,QM,WP,↓ab,hn,h0,h7,tG,rV,NV,kA.aQ af,I5];refine fail _ s2 2 (by simp only[ag,hn]) (by simp only[aa,↓ab,WP]) (by simp only[aa,↓ab]) aR ?_;rw[<-ff,wC (by omega) (by omega) (by omega)]
  obtain rfl:j=times:=by omega
  simp(disch:=omega)only[aj,QM,↓ab,hn,tG,rV,NV];have X1:((l.drop (i+1)).take j).length=j:=by rw[cT];omega
  refine ar (l.length-(i+1+j)) (by omega) ⟨i+1+j,o2,P++(l.drop (i+1)).take j,rfl,by omega,?_,?_,(by rw[ax,X1];exact iV),FH,aR,by simp only[aa,ag,↓ab,WP,hn,h0,h1,h7,h6,bz]⟩
  ·rw[ax,X1];omega
  rw[<-ff,Pf (by omega) (by omega) (by omega),JD,htn,ey]
 simp(disch:=omega)only[aj,ad,QM,WP,↓ab,hn,h0,h7,a7,kU.aQ af];refine fail _ s1 2 (by simp only[ag,hn]) (by simp only[aa,↓ab,WP]) (by simp only[aa,↓ab]) aF ?_;rw[<-ff,b8 (by omega),qg]
theorem U4 (c:a1):((c.toNat:av))%256=c.toNat:=by have:=c.toNat_lt;omega
theorem U5:(-1:av)%256=((255:a1).toNat:av):=by decide
theorem I6 {lib:aD}(hl:lib.at 75=none)(nS:lib.at 128=none)(iG:lib.at 122=none)(U6:lib.at 123=none)(X2:lib.at 124=none)(s:au)(x:ch)(l:bb a1)(most:av)(hx:aU s 1 x l.length (ofBytes l))(hlen:l.length<=4000000):
  Runs an lib 75 [x,.int .i64 most] s (mv s.next s (dec most l []).1 (dec most l []).2):=by
 refine Runs.enter 90 Tryz.func75 rfl hl rfl rfl ?_;intro f hn hf;have h0:f.get 0=x:=hf 0;have h1:f.get 1= .int .i64 most:=hf 1;clear hf;simp only[aj,ad,ae,QM,WP,↓ab,hn,h1,zc];rw[<-Xy];generalize (if 0>most then 0 else most)=mx;refine aA ?_;intro s1 ho aF vR;simp only[aj,QM,eg,↓ab,hn,dv,c9];refine Comes.de (fun k f s' =>∃(i:a0) (P:bb a1) (bad:av),k=(if bad=0 then l.length+1-i else 0)/\(bad=0->i<=l.length/\P.length<=128*i/\dec mx (l.drop i) P=dec mx l [])/\(bad≠0->dec mx l []=([],bad))/\gK s.next s' s.next P mx bad/\aw s.next s s' /\f.n=90/\f.get 0=x/\f.get 7= .int .i64 i/\f.get 6= .pointer (some ⟨s.next,0,some 4⟩))
  ⟨0,[],0,rfl,fun _=>⟨by omega,by simp,rfl⟩,fun h=>b4 rfl h,⟨_,ho,.nil,aM.nil _,(by intro h;cases h),c6 _⟩,aF,by simp only[ag,hn],by simp only[aa,↓ab,WP,h0],by simp only[aa,↓ab];rfl,by simp only[aa,↓ab,WP]⟩ ?_
 clear hn h0 h1 f ho aF vR s1;rintro k f s1 ⟨i,P,bad,rfl,kI,fF,nJ,aF,hn,h0,h7,h6⟩;have kU:=hx.keeps aF;obtain⟨B,Rz,hB,hF,cE,Ma⟩:=id nJ;have l2:=Rz.load (P:=an) aP (off:=2) (c:=4) rfl (by simp);by_cases hb:bad=0
 ·subst hb;obtain⟨hi,hP,ff⟩:=kI rfl;simp(disch:=omega)only[aj,ak,ad,QM,WP,↓ab,hn,h0,h7,h6,pG,l2];refine(EB nS s1 x l i kU).mono ?_;rintro _ s1 ⟨rfl,rfl⟩;clear l2 Rz hB;by_cases a7:i<l.length
  ·have hb:=(l.getD i 0).toNat_lt;rw[drop_cons a7] at ff;generalize JD:(l.getD i 0).toNat=n at*;simp(disch:=omega)only[aj,QM,WP,↓ab,hn,h7,a7,aB,show¬(n:av)<0 by omega];by_cases ajI:n=128
   ·have I4:(n:av)=128:=by omega
    simp(disch:=omega)only[aj,ak,ad,QM,WP,↓ab,hn,h6,I4];refine(cZ U6 s.next s1 s.next P mx 0 nJ).mono ?_;rintro _ s2 ⟨B2,rfl,h1,h2,h3⟩;simp(disch:=omega)only[aj,al,oneOf,QM,WP,↓ab,hn,aH,ec,dI,dT,eA];rw[yX (by omega)] at ff;rw[<-ff];exact⟨_,rfl,h1,h2,aF.trans (h3.weaken (c6 _))⟩
   have I4:¬(n:av)=128:=by omega
   by_cases nD:n<128
   ·have EC:(n:av)<128:=by omega
    have Wf:(l.drop (i+1)).length=l.length-(i+1):=en;simp(disch:=omega)only[aj,QM,WP,↓ab,hn,I4,EC];refine Comes.de (fun k f s' =>∃(j:a0) (P' :bb a1) (bad:av),k=n+1-j/\j<=n+1/\(bad=0->i+1+j<=l.length/\P' =P++(l.drop (i+1)).take j/\j<=room mx P)/\(bad≠0->dec mx l []=([],bad))/\P'.length<=P.length+j/\gK s.next s' s.next P' mx bad/\aw s.next s s' /\f.n=90/\f.get 0=x/\f.get 7= .int .i64 (i+1+j:a0)/\f.get 8= .int .i64 n/\f.get 9= .int .i64 j/\f.get 6= .pointer (some ⟨s.next,0,some 4⟩))
     ⟨0,P,0,rfl,by omega,fun _=>⟨by omega,by simp,by omega⟩,fun h=>b4 rfl h,by omega,nJ,aF,by simp only[ag,hn],by simp only[aa,↓ab,WP,h0],by simp only[aa,↓ab,WP];rfl,by simp only[aa,↓ab,WP],by simp only[aa,↓ab];rfl,by simp only[aa,↓ab,WP,h6]⟩ ?_
    clear hn h0 h7 h6 f nJ cE;rintro k f s2 ⟨j,P',mC,rfl,hj,Bg,dr,Ws,nJ,aR,hn,h0,h7,h8,h9,h6⟩;have kA:=hx.keeps aR;obtain⟨B,Rz,hB,hF,cE,Ma⟩:=id nJ;have l2:=Rz.load (P:=an) aP (off:=2) (c:=4) rfl (by simp);clear Rz hB;by_cases YS:j<=n
    ·by_cases jL:mC=0
     ·subst jL;obtain⟨xJ,rfl,fe⟩:=Bg rfl;simp(disch:=omega)only[aj,ak,ad,QM,WP,↓ab,hn,h0,h7,h8,h9,h6,YS,pG,l2];refine(EB nS s2 x l (i+1+j) kA).mono ?_;rintro _ s2 ⟨rfl,rfl⟩;by_cases jK:i+1+j<l.length
      ·have NW:=(l.getD (i+1+j) 0).toNat_lt;simp(disch:=omega)only[aj,ak,ad,QM,WP,↓ab,hn,h6,jK,show¬((l.getD (i+1+j) 0).toNat:av)<0 by omega,a9 bk bl,fO,U4];refine(ji X2 s.next s2 s.next _ mx 0 _ nJ (by omega)).mono ?_;rintro v s3 ⟨jy,bA⟩;have X1:((l.drop (i+1)).take j).length=j:=by rw[cT];omega
       simp(disch:=omega)only[aj,QM,WP,↓ab,hn,h7,h9,aB];by_cases hm:mx<=((P.length+j:a0):av)
       ·have ME:mx<=((P++(l.drop (i+1)).take j).length:av):=by rw[ax,X1];exact hm
        rw[a2 (by omega),aC ⟨rfl,ME⟩] at jy;refine ar (n+1-(j+1)) (by omega) ⟨j+1,_,7,rfl,by omega,fun h=>b4 h (by decide),fun _=> ?_,by omega,jy,aR.trans bA,by simp only[ag,hn],by simp only[aa,↓ab,WP,h0],by simp only[aa,↓ab,WP];rfl,by simp only[aa,↓ab,WP,h8],by simp only[aa,↓ab];rfl,by simp only[aa,↓ab,WP,h6]⟩;rw[<-ff,wD (by omega) (by rw[room_le] at hm;omega) (by rw[room_le] at hm;omega)]
       have ME:¬mx<=((P++(l.drop (i+1)).take j).length:av):=by rw[ax,X1];exact hm
       rw[aC ⟨rfl,by omega⟩,a2 (by intro h;exact ME h.2)] at jy;refine ar (n+1-(j+1)) (by omega) ⟨j+1,_,0,rfl,by omega,fun _=>⟨by omega,?_,by rw[room_le] at hm;omega⟩,fun h=>b4 rfl h,by simp;omega,jy,aR.trans bA,by simp only[ag,hn],by simp only[aa,↓ab,WP,h0],by simp only[aa,↓ab,WP];rfl,by simp only[aa,↓ab,WP,h8],by simp only[aa,↓ab];rfl,by simp only[aa,↓ab,WP,h6]⟩;rw[oW (by omega),Ht,cp]
      simp(disch:=omega)only[aj,ak,ad,QM,WP,↓ab,hn,h6,jK,show(-1:av)<0 by decide];refine(cy iG s.next s2 s.next _ mx 0 2 nJ).mono ?_;rintro v s3 ⟨jy,bA⟩;rw[aC rfl] at jy;simp(disch:=omega)only[aj,ak,ad,QM,WP,↓ab,hn,h6,a9 bk bl,fO,U5];refine(ji X2 s.next s3 s.next _ mx 2 _ jy (by omega)).mono ?_;rintro v s4 ⟨I7,eP⟩;rw[a2 (by simp),a2 (by simp)] at I7;simp(disch:=omega)only[aj,QM,WP,↓ab,hn,h7,h9,aB];refine ar (n+1-(j+1)) (by omega) ⟨j+1,_,2,rfl,by omega,fun h=>b4 h (by decide),fun _=> ?_,by omega,I7,(aR.trans bA).trans eP,by simp only[ag,hn],by simp only[aa,↓ab,WP,h0],by simp only[aa,↓ab,WP];rfl,by simp only[aa,↓ab,WP,h8],by simp only[aa,↓ab];rfl,by simp only[aa,↓ab,WP,h6]⟩;rw[<-ff,wC (by omega) (by omega) (by omega)]
     simp(disch:=omega)only[aj,ak,QM,WP,↓ab,hn,h8,h9,h6,YS,pG,l2,jL];refine ar 0 (by first|omega|(rw[aC rfl];omega)) ⟨i+1+j,P',mC,(a2 jL).symm,fun h=>b4 h jL,dr,nJ,aR,by simp only[aa,ag,↓ab,WP,hn,h0,h7,h6,bz]⟩
    obtain rfl:j=n+1:=by omega
    have ajJ:¬(((n+1:a0):av)<=n):=by omega
    simp(disch:=omega)only[aj,ak,QM,WP,↓ab,hn,h8,h9,ajJ];by_cases jL:mC=0
    ·subst jL;obtain⟨xJ,rfl,fe⟩:=Bg rfl;have X1:((l.drop (i+1)).take (n+1)).length=n+1:=by rw[cT];omega
     refine ar (l.length+1-(i+1+(n+1))) (by first|omega|(rw[aC rfl];omega)) ⟨i+1+(n+1),_,0,(aC rfl).symm,fun _=>⟨by omega,by rw[ax,X1];omega,?_⟩,fun h=>b4 rfl h,nJ,aR,by simp only[aa,ag,↓ab,WP,hn,h0,h7,h6,bz]⟩;rw[<-ff,Pf (by omega) (by omega) (by omega),JD,ey]
    refine ar 0 (by first|omega|(rw[aC rfl];omega)) ⟨i+1+(n+1),P',mC,(a2 jL).symm,fun h=>b4 h jL,dr,nJ,aR,by simp only[aa,ag,↓ab,WP,hn,h0,h7,h6,bz]⟩
   have EC:¬(n:av)<128:=by omega
   simp(disch:=omega)only[aj,ak,ad,QM,WP,↓ab,hn,h0,I4,EC];refine(EB nS s1 x l (i+1) kU).mono ?_;rintro _ s1 ⟨rfl,rfl⟩;obtain⟨times,ht⟩:∃times:a0,(257:av)-n=times:=⟨257-n,by omega⟩
   have htn:257-n=times:=by omega
   by_cases jK:i+1<l.length
   ·have NW:=(l.getD (i+1) 0).toNat_lt;simp(disch:=omega)only[aj,QM,WP,↓ab,hn,jK,show¬((l.getD (i+1) 0).toNat:av)<0 by omega,aB];obtain⟨c,hc⟩:∃c,c=l.getD (i+1) 0:=⟨_,rfl⟩
    obtain⟨d,hd0⟩:∃d:av,d=(l.getD (i+1) 0).toNat:=⟨_,rfl⟩
    obtain⟨b0,xB⟩:∃b0:av,b0=0:=⟨_,rfl⟩
    have mI:b0=0->i+1<l.length/\c=l.getD (i+1) 0:=fun _=>⟨jK,hc⟩
    have fp:b0≠0->dec mx l []=([],b0):=fun h=>b4 xB h
    have hd:d%256=c.toNat:=by rw[hd0,hc];exact U4 _
    have NX:gK s.next s1 s.next P mx b0:=by rw[xB];exact nJ
    have U7:=aF;have RA:Value.int .i64 ((l.getD (i+1) 0).toNat:av)= .int .i64 d:=by rw[hd0]
    refine Comes.de (fun k f s' =>∃(j:a0) (P' :bb a1) (bad:av),k=times-j/\j<=times/\(bad=0->b0=0/\P' =P++bq j c/\j<=room mx P)/\(bad≠0->dec mx l []=([],bad))/\P'.length<=P.length+j/\gK s.next s' s.next P' mx bad/\aw s.next s s' /\f.n=90/\f.get 0=x/\f.get 7= .int .i64 (i+2:a0)/\f.get 8= .int .i64 n/\f.get 11= .int .i64 d/\f.get 12= .int .i64 j/\f.get 6= .pointer (some ⟨s.next,0,some 4⟩))
     ⟨0,P,b0,rfl,by omega,fun h=>⟨h,by simp,by omega⟩,fp,by omega,NX,U7,by simp only[ag,hn],by simp only[aa,↓ab,WP,h0],by simp only[aa,↓ab,WP];first|rfl|(congr 1;omega),by simp only[aa,↓ab,WP],by simp only[aa,↓ab,WP,RA],by simp only[aa,↓ab];rfl,by simp only[aa,↓ab,WP,h6]⟩ ?_
    clear hn h0 h7 h6 f nJ cE NX U7;rintro k f s2 ⟨j,P',mC,rfl,hj,Bg,dr,Ws,nJ,aR,hn,h0,h7,h8,eC,oF,h6⟩;by_cases NV:j<times
    ·have NY:(j:av)<257-n:=by omega
     simp(disch:=omega)only[aj,ak,ad,QM,WP,↓ab,hn,h8,eC,oF,h6,aB,NY,a9 bk bl,fO,hd];refine(ji X2 s.next s2 s.next P' mx mC c nJ (by omega)).mono ?_;rintro v s3 ⟨jy,bA⟩;simp(disch:=omega)only[aj,QM,WP,↓ab,hn,oF,aB];by_cases jL:mC=0
     ·subst jL;obtain⟨xB,rfl,fe⟩:=Bg rfl;obtain⟨jK,hc⟩:=mI xB;have pg:(P++bq j c).length=P.length+j:=by rw[ax,bt]
      by_cases hm:mx<=((P.length+j:a0):av)
      ·rw[a2 (by rw[pg];omega),aC ⟨rfl,by rw[pg];exact hm⟩] at jy;refine ar (times-(j+1)) (by omega) ⟨j+1,_,7,rfl,by omega,fun h=>b4 h (by decide),fun _=> ?_,by omega,jy,aR.trans bA,by simp only[ag,hn],by simp only[aa,↓ab,WP,h0],by simp only[aa,↓ab,WP,h7],by simp only[aa,↓ab,WP,h8],by simp only[aa,↓ab,WP,eC],by simp only[aa,↓ab];rfl,by simp only[aa,↓ab,WP,h6]⟩;rw[<-ff,drop_cons jK,qD (by omega) (by rw[room_le] at hm;omega)]
      rw[aC ⟨rfl,by rw[pg];omega⟩,a2 (by rw[pg];intro h;exact hm h.2)] at jy;refine ar (times-(j+1)) (by omega) ⟨j+1,_,0,rfl,by omega,fun _=>⟨xB,?_,by rw[room_le] at hm;omega⟩,fun h=>b4 rfl h,by rw[ax,pg,ed];omega,jy,aR.trans bA,by simp only[ag,hn],by simp only[aa,↓ab,WP,h0],by simp only[aa,↓ab,WP,h7],by simp only[aa,↓ab,WP,h8],by simp only[aa,↓ab,WP,eC],by simp only[aa,↓ab];rfl,by simp only[aa,↓ab,WP,h6]⟩;rw[c8,cp]
     rw[a2 (by intro h;exact jL h.1),a2 (by intro h;exact jL h.1)] at jy;refine ar (times-(j+1)) (by omega) ⟨j+1,_,mC,rfl,by omega,fun h=>b4 h jL,dr,by omega,jy,aR.trans bA,by simp only[ag,hn],by simp only[aa,↓ab,WP,h0],by simp only[aa,↓ab,WP,h7],by simp only[aa,↓ab,WP,h8],by simp only[aa,↓ab,WP,eC],by simp only[aa,↓ab];rfl,by simp only[aa,↓ab,WP,h6]⟩
    obtain rfl:j=times:=by omega
    have NY:¬(j:av)<257-n:=by omega
    simp(disch:=omega)only[aj,ak,QM,WP,↓ab,hn,h8,oF,aB,NY];by_cases jL:mC=0
    ·subst jL;obtain⟨xB,rfl,fe⟩:=Bg rfl;obtain⟨jK,hc⟩:=mI xB;have pg:(P++bq j c).length=P.length+j:=by rw[ax,bt]
     refine ar (l.length+1-(i+2)) (by first|omega|(rw[aC rfl];omega)) ⟨i+2,_,0,(aC rfl).symm,fun _=>⟨by omega,by rw[pg];omega,?_⟩,fun h=>b4 rfl h,nJ,aR,by simp only[aa,ag,↓ab,WP,hn,h0,h7,h6,bz]⟩;rw[<-ff,drop_cons jK,vD (by omega) (by omega),JD,htn,hc]
    refine ar 0 (by first|omega|(rw[aC rfl];omega)) ⟨i+2,P',mC,(a2 jL).symm,fun h=>b4 h jL,dr,nJ,aR,by simp only[aa,ag,↓ab,WP,hn,h0,h7,h6,bz]⟩
   simp(disch:=omega)only[aj,ak,ad,QM,WP,↓ab,hn,h6,jK,show(-1:av)<0 by decide];refine(cy iG s.next s1 s.next _ mx 0 2 nJ).mono ?_;rintro v s3 ⟨NX,bA⟩;rw[aC rfl] at NX;simp(disch:=omega)only[aj,QM,WP,↓ab,hn,aB];obtain⟨c,hc⟩:∃c:a1,c=255:=⟨_,rfl⟩
   obtain⟨d,hd0⟩:∃d:av,d= -1:=⟨_,rfl⟩
   obtain⟨b0,xB⟩:∃b0:av,b0=2:=⟨_,rfl⟩
   have mI:b0=0->i+1<l.length/\c=l.getD (i+1) 0:=fun h=>by omega
   have fp:b0≠0->dec mx l []=([],b0):=fun _=>by rw[<-ff,b8 (by omega),wB (by omega),xB]
   have hd:d%256=c.toNat:=by rw[hd0,hc];exact U5
   rw[<-xB] at NX;have U7:=aF.trans bA;have RA:Value.int .i64 (-1)= .int .i64 d:=by rw[hd0]
   refine Comes.de (fun k f s' =>∃(j:a0) (P' :bb a1) (bad:av),k=times-j/\j<=times/\(bad=0->b0=0/\P' =P++bq j c/\j<=room mx P)/\(bad≠0->dec mx l []=([],bad))/\P'.length<=P.length+j/\gK s.next s' s.next P' mx bad/\aw s.next s s' /\f.n=90/\f.get 0=x/\f.get 7= .int .i64 (i+2:a0)/\f.get 8= .int .i64 n/\f.get 11= .int .i64 d/\f.get 12= .int .i64 j/\f.get 6= .pointer (some ⟨s.next,0,some 4⟩))
    ⟨0,P,b0,rfl,by omega,fun h=>⟨h,by simp,by omega⟩,fp,by omega,NX,U7,by simp only[ag,hn],by simp only[aa,↓ab,WP,h0],by simp only[aa,↓ab,WP];first|rfl|(congr 1;omega),by simp only[aa,↓ab,WP],by simp only[aa,↓ab,WP,RA],by simp only[aa,↓ab];rfl,by simp only[aa,↓ab,WP,h6]⟩ ?_
   clear hn h0 h7 h6 f nJ cE NX U7;rintro k f s2 ⟨j,P',mC,rfl,hj,Bg,dr,Ws,nJ,aR,hn,h0,h7,h8,eC,oF,h6⟩;by_cases NV:j<times
   ·have NY:(j:av)<257-n:=by omega
    simp(disch:=omega)only[aj,ak,ad,QM,WP,↓ab,hn,h8,eC,oF,h6,aB,NY,a9 bk bl,fO,hd];refine(ji X2 s.next s2 s.next P' mx mC c nJ (by omega)).mono ?_;rintro v s3 ⟨jy,bA⟩;simp(disch:=omega)only[aj,QM,WP,↓ab,hn,oF,aB];by_cases jL:mC=0
    ·subst jL;obtain⟨xB,rfl,fe⟩:=Bg rfl;obtain⟨jK,hc⟩:=mI xB;have pg:(P++bq j c).length=P.length+j:=by rw[ax,bt]
     by_cases hm:mx<=((P.length+j:a0):av)
     ·rw[a2 (by rw[pg];omega),aC ⟨rfl,by rw[pg];exact hm⟩] at jy;refine ar (times-(j+1)) (by omega) ⟨j+1,_,7,rfl,by omega,fun h=>b4 h (by decide),fun _=> ?_,by omega,jy,aR.trans bA,by simp only[ag,hn],by simp only[aa,↓ab,WP,h0],by simp only[aa,↓ab,WP,h7],by simp only[aa,↓ab,WP,h8],by simp only[aa,↓ab,WP,eC],by simp only[aa,↓ab];rfl,by simp only[aa,↓ab,WP,h6]⟩;rw[<-ff,drop_cons jK,qD (by omega) (by rw[room_le] at hm;omega)]
     rw[aC ⟨rfl,by rw[pg];omega⟩,a2 (by rw[pg];intro h;exact hm h.2)] at jy;refine ar (times-(j+1)) (by omega) ⟨j+1,_,0,rfl,by omega,fun _=>⟨xB,?_,by rw[room_le] at hm;omega⟩,fun h=>b4 rfl h,by rw[ax,pg,ed];omega,jy,aR.trans bA,by simp only[ag,hn],by simp only[aa,↓ab,WP,h0],by simp only[aa,↓ab,WP,h7],by simp only[aa,↓ab,WP,h8],by simp only[aa,↓ab,WP,eC],by simp only[aa,↓ab];rfl,by simp only[aa,↓ab,WP,h6]⟩;rw[c8,cp]
    rw[a2 (by intro h;exact jL h.1),a2 (by intro h;exact jL h.1)] at jy;refine ar (times-(j+1)) (by omega) ⟨j+1,_,mC,rfl,by omega,fun h=>b4 h jL,dr,by omega,jy,aR.trans bA,by simp only[ag,hn],by simp only[aa,↓ab,WP,h0],by simp only[aa,↓ab,WP,h7],by simp only[aa,↓ab,WP,h8],by simp only[aa,↓ab,WP,eC],by simp only[aa,↓ab];rfl,by simp only[aa,↓ab,WP,h6]⟩
   obtain rfl:j=times:=by omega
   have NY:¬(j:av)<257-n:=by omega
   simp(disch:=omega)only[aj,ak,QM,WP,↓ab,hn,h8,oF,aB,NY];by_cases jL:mC=0
   ·subst jL;obtain⟨xB,rfl,fe⟩:=Bg rfl;obtain⟨jK,hc⟩:=mI xB;have pg:(P++bq j c).length=P.length+j:=by rw[ax,bt]
    refine ar (l.length+1-(i+2)) (by first|omega|(rw[aC rfl];omega)) ⟨i+2,_,0,(aC rfl).symm,fun _=>⟨by omega,by rw[pg];omega,?_⟩,fun h=>b4 rfl h,nJ,aR,by simp only[aa,ag,↓ab,WP,hn,h0,h7,h6,bz]⟩;rw[<-ff,drop_cons jK,vD (by omega) (by omega),JD,htn,hc]
   refine ar 0 (by first|omega|(rw[aC rfl];omega)) ⟨i+2,P',mC,(a2 jL).symm,fun h=>b4 h jL,dr,nJ,aR,by simp only[aa,ag,↓ab,WP,hn,h0,h7,h6,bz]⟩
  obtain rfl:i=l.length:=by omega
  simp(disch:=omega)only[aj,ak,ad,QM,WP,↓ab,hn,h7,h6,a7,aB,show(-1:av)<0 by decide];refine(cy iG s.next s1 s.next _ mx 0 2 nJ).mono ?_;rintro v s3 ⟨jy,bA⟩;rw[aC rfl] at jy;simp(disch:=omega)only[aj,QM,↓ab,hn];refine ar 0 (by first|omega|(rw[aC rfl];omega)) ⟨l.length+1,P,2,rfl,fun h=>b4 h (by decide),fun _=> ?_,jy,aF.trans bA,by simp only[ag,hn],by simp only[aa,↓ab,WP,h0],by simp only[aa,↓ab,WP];rfl,by simp only[aa,↓ab,WP,h6]⟩;rw[<-ff,List.drop_length,qg]
 simp(disch:=omega)only[aj,ak,ad,QM,WP,↓ab,hn,h6,pG,l2,hb];refine(cZ U6 s.next s1 s.next P mx bad nJ).mono ?_;rintro _ s2 ⟨B2,rfl,h1,h2,h3⟩;simp(disch:=omega)only[aj,al,oneOf,QM,WP,↓ab,hn,aH,ec,dI,dT,eA];rw[fF hb];rw[a2 hb] at h1;exact⟨_,rfl,h1,h2,aF.trans (h3.weaken (c6 _))⟩
end Go.Proofs.YtdfjfncifneocaaGreat
namespace Go.Cl.Bt
open Go.Cl.Sto
theorem Pw (x:a0)(h:x<9223372036854775808):cd.wrap (((ck cd.bits (x:av)&&&ck cd.bits 1).toNat:a0):av)=((x%2:a0):av):=by
 have e1:cd.bits=64:=rfl;rw[e1];have:(ck 64 (x:av)&&&ck 64 1).toNat=x%2:=by
  rw[BitVec.toNat_and,cU,dg,dw (by omega)];show x&&&1=_;exact Nat.and_one_is_mod _
 rw[this,aB (by omega)]
theorem X3 (P:eB)(t:eI)(k' :IntKind)(x:a0):dB P .shr t (.int .i64 (x:av)) (.int k' 1)=some (.int .i64 ((x/2:a0):av)):=by
 rw[mL P t .i64 _ 1 k' (by decide)];have:((x:av)).fdiv (2^(min (1:av).toNat cd.bits))=((x/2:a0):av):=by
  show((x:av)).fdiv 2=_;rw[ca _ (by omega)];omega
 rw[this]
def rest (b:bb a1)(p left:a0):a0:=(b.getD (p-1) 0).toNat/2^(8-left)
theorem HI (b:bb a1)(p:a0):rest b (p+1) 8=(b.getD p 0).toNat:=by simp[rest]
theorem vG {b:bb a1}{p left:a0}(h1:1<=left)(h8:left<=8):rest b p left/2=rest b p (left-1):=by
 unfold rest;rw[Nat.div_div_eq_div_mul,show 8-(left-1)=(8-left)+1 by omega,eD]
theorem zg {b:bb a1}{p left a:a0}(h1:1<=left)(h8:left<=8)(ha:a+left=8*p):rest b p left%2=bit b a:=by
 unfold rest bit;rw[show a/8=p-1 by omega,show a%8=8-left by omega]
end Go.Cl.Bt
namespace Go.Cl.Bt
structure eZ (jx ic:a0) (s s' :au):Prop where
 next:s.next<=s'.next
 get:∀i,i<s.next->i≠jx->i≠ic->s'.heap.get i=s.heap.get i
theorem eZ.refl (jx ic:a0)(s:au):eZ jx ic s s:=⟨c6 _,fun _ _ _ _=>rfl⟩
theorem eZ.trans {jx ic:a0}{s s' Fq:au}(h:eZ jx ic s s')(k:eZ jx ic s' Fq):eZ jx ic s Fq:=⟨cc h.next k.next,fun i hi h1 h2=>(k.get i (bw hi h.next) h1 h2).trans (h.get i hi h1 h2)⟩
theorem eZ.put {jx ic:a0}{s s' :au}(h1:s'.next=s.next)(h2:∀j,j≠jx->s'.heap.get j=s.heap.get j):eZ jx ic s s' :=⟨by omega,fun i _ h _=>h2 i h⟩
end Go.Cl.Bt
namespace Go.Proofs.YtdfjfncifneocaaGreat
open Go.Cl Go.Cl.Sto Go.Cl.Bt Go.Cl.Rw
theorem eZ.turns {jx ic:a0}{s s' :au}(h:bG (iM ic) s s'):eZ jx ic s s' :=⟨h.next,fun i hi _ h2=>h.get i hi (fun e=>h2 (by injection e with e;exact e.symm))⟩
theorem ED:bU an 112=some false:=by kernel_rfl
theorem I8:br an 112=some 1:=by kernel_rfl
theorem u9 (i o c:a0):ay an 184 (.pointer (some ⟨i,o,some c⟩)) 0=some (.pointer (some ⟨i,o+0,some c⟩)):=by
 unfold ay;rw[cB];simp[I8]
theorem HJ (i o c:a0):ay an 184 (.pointer (some ⟨i,o,some c⟩)) 1=some (.pointer (some ⟨i,o+1,some c⟩)):=by
 unfold ay;rw[cB];simp[aV]
theorem mT (i o c:a0):ay an 184 (.pointer (some ⟨i,o,some c⟩)) 2=some (.pointer (some ⟨i,o+2,some c⟩)):=by
 unfold ay;rw[cB];simp[aV]
abbrev rQ (j:a0):ch:= .pointer (some ⟨j,0,some 4⟩)
theorem ajK (i:a0):da an 184 [(0,iM i)]=some (.agg #[iM i,.int .i64 0,.int .i64 0]):=by
 unfold da;rw[cB]
 have hz:b6 an 184=some (.agg #[.pointer none,.int .i64 0,.int .i64 0]):=by kernel_rfl
 rw[hz];have c1:(iM i).cells.toList=[iM i]:=rfl;simp only[iu,placeOf,c1];simp[I8,aV,cr,iD,bJ,setAt]
structure RB (base:a0) (s:au) (jx ic:a0) (b:bb a1) (a p now left:a0):Prop where
 c:lB base s ic b p
 t:az s jx [iM ic,.int .i64 now,.int .i64 left]
 e:a+left=8*p
 l8:left<=8
 r:0<left->now=rest b p left
 now:now<256
 lx:base<=jx
 lc:base<=ic
 ne:jx≠ic
def jO (base:a0)(s:au)(jx ic:a0)(b:bb a1)(a:a0):Prop:=∃p now left,RB base s jx ic b a p now left/\left<=7
theorem U8 {lib:aD}(hl:lib.at 149=none)(wO:lib.at 100=none)(base:a0)(s:au)(x:ch)(b:bb a1)(hx:ML base s 1 x b.length (ofBytes b))(hb:base<=s.next):
  Runs an lib 149 [x] s fun v s' =>∃jx ic,v=rQ jx/\jO base s' jx ic b 0/\aw s.next s s' :=by
 refine Runs.enter 7 Tryz.func149 rfl hl rfl rfl ?_;intro f hn hf;have h0:f.get 0=x:=hf 0;clear hf;simp only[aj,ak,ad,QM,WP,↓ab,hn,h0];refine(I1 wO base s x b hx hb).mono ?_;rintro _ s1 ⟨rfl,hc,aF,vR⟩;simp only[aj,ae,QM,↓ab,hn,ajK];refine aA ?_;intro s2 ht aR mf;simp only[aj,al,oneOf,QM,eg,↓ab,hn,dv,c9,Tryz.results149];exact⟨s1.next,s.next,rfl,⟨0,0,0,⟨hc.keeps (by omega) aR,ht,rfl,by omega,fun h=>by omega,by omega,by omega,by omega,by omega⟩,by omega⟩,aF.trans (aR.weaken (by omega))⟩
theorem RC {lib:aD}(hl:lib.at 211=none)(base:a0)(s:au)(jx ic:a0)(b:bb a1)(a:a0)(h:jO base s jx ic b a)(hb:base<=s.next):
  Runs an lib 211 [rQ jx] s fun _ s' =>jO base s' jx ic b (8*((a+7)/8))/\eZ jx ic s s' :=by
 obtain⟨p,now,left,h,uH⟩:=h;have he:=h.e;refine Runs.enter 7 Tryz.func211 rfl hl rfl rfl ?_;intro f hn hf;have h0:f.get 0=rQ jx:=hf 0;clear hf;simp only[aj,QM,WP,↓ab,hn,h0,Tv cm,mT];refine ba aV h.t rfl (by simp) rfl ?_;intro t2 dK mf dA;simp only[aj,ah,Tryz.results211];have aF:eZ jx ic s t2:=eZ.put mf dA;have ha:8*((a+7)/8)=8*p:=by omega
 exact⟨⟨p,now,0,⟨h.c.turns hb (dN h.lx) (bG.aK mf dA) (fv h.ne),dK,by omega,by omega,fun h=>by omega,h.now,h.lx,h.lc,h.ne⟩,by omega⟩,aF⟩
def takes (b:bb a1)(a:a0)(n:av):Prop:=0<=n/\n<=16/\n<=8*(b.length:av)-a
instance (b:bb a1) (a:a0) (n:av):Decidable (takes b a n):=by unfold takes;infer_instance
def qF (b:bb a1)(a:a0)(n:av):av:=if takes b a n then(bY b a n.toNat:a0) else-1
def afc (base:a0)(s:au)(jx ic:a0)(b:bb a1)(a:a0)(n:av)(v:ch)(s' :au):Prop:=
 v= .int .i64 (qF b a n)/\jO base s' jx ic b (if takes b a n then a+n.toNat else a)/\eZ jx ic s s'
theorem HK {lib:aD}(hl:lib.at 210=none)(wO:lib.at 155=none)(tI:lib.at 192=none)(qN:lib.at 186=none)(nS:lib.at 209=none)(iG:lib.at 105=none)
  (base:a0) (s:au) (jx ic:a0) (b:bb a1) (a:a0) (n:av) (h:jO base s jx ic b a) (hb:base<=s.next) (hlen:b.length<=4000000):
  Runs an lib 210 [rQ jx,.int .i64 n] s (afc base s jx ic b a n):=by
 obtain⟨p,now,left,h,uH⟩:=id h;have he:=h.e;have Xz:=h.t.lt;have pg:p<=b.length:=h.c.choose_spec.2.2.2;have g0:=h.t.load (P:=an) ED (off:=0) (c:=4) rfl (by simp);have g2:=h.t.load (P:=an) aP (off:=2) (c:=4) rfl (by simp);refine Runs.enter 93 Tryz.func210 rfl hl rfl rfl ?_;intro f hn hf;have h0:f.get 0=rQ jx:=hf 0;have h1:f.get 1= .int .i64 n:=hf 1;clear hf;have no:¬takes b a n->afc base s jx ic b a n (.int .i64 (-1)) s:=fun BX=>⟨by unfold qF;rw[a2 BX],by rw[a2 BX];exact⟨p,now,left,h,uH⟩,eZ.refl _ _ _⟩
 simp only[aj,QM,↓ab,hn];obtain⟨A,hA⟩:∃A:a0->Bool,A=fun j=>decide (j<s.next):=⟨_,rfl⟩
 have gu:∀j,A j=true->j<s.next:=by
  intro j h;rw[hA] at h;exact of_decide_eq_true h
 have ml:∀k,LA.di A (some (.pointer (some ⟨jx,k,some 4⟩)))=true:=fun k=>LA.bN (A:=A) (i:=jx) (by rw[hA];exact decide_eq_true Xz)
 have ml0:LA.di A (some (rQ jx))=true:=ml 0;refine LB.cN.dx A gu 1 0 (by kernel_rfl) (by kernel_rfl) ?_;clear hA;by_cases c1:n<0
 ·simp only[aj,ak,bg,bn,ea,QM,WP,↓ab,undef,hn,h0,h1,gx cm,gx cD,u9,g0,ml,sl,a8 c1];simp only[aj,al,oneOf,QM,↓ab,hn,dc];exact no (fun q=>by have:=q.1;omega)
 by_cases c2:16<n
 ·simp only[aj,ak,bg,bn,ea,QM,WP,↓ab,undef,hn,h0,h1,gx cm,gx cD,u9,g0,ml,sl,ao c1,a8 c2];simp only[aj,al,oneOf,QM,↓ab,hn,dc];exact no (fun q=>by have:=q.2.1;omega)
 obtain⟨m,rfl⟩:∃m:a0,n=m:=⟨n.toNat,by omega⟩
 have Rf:(m:av)<=8*(b.length:av)-a->takes b a m:=fun q=>⟨by omega,by omega,q⟩
 by_cases c3:left<m;have Gb:(left:av)<(m:av):=by omega
 have e1:(m:av)-(left:av)+7=((m-left+7:a0):av):=by omega
 simp(disch:=omega)only[aj,ak,bg,bn,ea,ad,QM,WP,↓ab,undef,hn,h0,h1,gx cm,gx cD,u9,mT,g0,g2,ml,sl,ao c1,ao c2,a8 Gb,aB,e1,gA,Nq];refine(Ez qN nS iG base s ic b p h.c (by omega)).mono ?_;rintro _ s1 ⟨rfl,fL⟩;subst fL;refine⟨fun _=>LA.dz.refl _ _,?_⟩;by_cases c4:b.length-p<(m-left+7)/8
 ·have Wo:((b.length-p:a0):av)<(((m-left+7)/8:a0):av):=by omega
  simp only[aj,ak,bg,bn,QM,WP,↓ab,hn,a8 Wo];simp only[aj,al,oneOf,QM,↓ab,hn,dc];exact no (fun q=>by have:=q.2.2;omega)
 have Wo:¬((b.length-p:a0):av)<(((m-left+7)/8:a0):av):=by omega
 have gm:(m:av)<=8*(b.length:av)-a:=by omega
 simp only[aj,ak,bg,bn,QM,WP,↓ab,hn,h1,ao Wo];rotate_left;have Gb:¬(left:av)<(m:av):=by omega
 have gm:(m:av)<=8*(b.length:av)-a:=by omega
 simp only[aj,ak,bg,bn,ea,QM,WP,↓ab,undef,hn,h0,h1,gx cm,gx cD,u9,mT,g0,g2,ml,sl,ao c1,ao c2,ao Gb];obtain⟨s1,rfl⟩:∃t,t=s:=⟨_,rfl⟩
 all_goals
  refine Comes.de (fun q f s' =>∃(i p now left:a0),q=m-i/\i<=m/\RB base s' jx ic b (a+i) p now left/\left<=7/\eZ jx ic s1 s' /\f.n=93/\f.get 0=rQ jx/\f.get 5= .int .i64 (bY b a i:a0)/\f.get 48= .int .i64 m/\f.get 49= .int .i64 i)
   ⟨0,p,now,left,rfl,by omega,h,uH,eZ.refl _ _ _,by simp only[ag,hn],by simp only[aa,↓ab,WP,h0],by simp only[aa,↓ab,WP];rfl,by simp only[aa,↓ab,WP,ee];rfl⟩ ?_
  clear hn h0 h1 f g0 g2 h he uH pg c3 Gb no;rintro q f s2 ⟨i,p,nw,lf,rfl,hi,h,uH,aF,hn,h0,h5,oJ,B7⟩;have fp:=cc hb aF.next;have he:=h.e;have pg:p<=b.length:=h.c.choose_spec.2.2.2;by_cases him:i<m
  ·have I9:(i:av)<m:=by omega
   have g0:=h.t.load (P:=an) ED (off:=0) (c:=4) rfl (by simp);have g2:=h.t.load (P:=an) aP (off:=2) (c:=4) rfl (by simp);by_cases hz:lf=0;have Gz:(lf:av)=0:=by omega
   have ajL:p<b.length:=by omega
   simp only[aj,ak,ad,QM,WP,↓ab,hn,h0,oJ,B7,a8 I9,u9,mT,g0,g2,a8 Gz];refine(zd wO tI qN nS iG base s2 ic b p h.c fp (by omega)).mono ?_;rintro _ s3 ⟨rfl,qO,jE⟩;have oC:fT b p=((b.getD p 0).toNat:av):=by unfold fT;rw[aC (by omega),b5]
   have htx:=h.t.turns jE (fv (fun e=>h.ne e.symm));have bA:=aF.trans (eZ.turns (jx:=jx) jE);rw[ep (by omega)] at qO;simp only[aj,QM,WP,↓ab,hn,oC,HJ];refine ba aV htx rfl (by simp) rfl ?_;intro t1 eJ gZ fL;simp only[aj,QM,WP,↓ab,hn,mT];refine ba aV eJ rfl (by simp) rfl ?_;intro t2 dK mf dA;have FJ:=cc hb bA.next;have Gj:=qO.turns FJ (dN h.lx) (bG.aK gZ fL) (fv h.ne);have U9:=Gj.turns (by omega) (dN h.lx) (bG.aK mf dA) (fv h.ne);have oR:=bA.trans ((eZ.put (ic:=ic) gZ fL).trans (eZ.put mf dA));have h8:RB base t2 jx ic b (a+i) (p+1) (b.getD p 0).toNat 8:=⟨U9,dK,by omega,by omega,fun _=>(HI b p).symm,(b.getD p 0).toNat_lt,h.lx,h.lc,h.ne⟩;simp only[aj,QM,WP,↓ab,hn,h0,h5];clear qO jE htx bA eJ gZ fL dK mf dA FJ Gj U9 h g0 g2;rotate_left;have Gz:¬(lf:av)=0:=by omega
   simp only[aj,ak,QM,WP,↓ab,hn,h0,oJ,B7,h5,a8 I9,mT,g2,ao Gz];obtain⟨t2,rfl⟩:∃t,t=s2:=⟨_,rfl⟩
   have h8:=h;have oR:=aF
   all_goals
    obtain⟨p,nw,lf,h,lw⟩:∃p w l,RB base t2 jx ic b (a+i) p w l/\0<l:=⟨_,_,_,h8,by omega⟩
    have g1:=h.t.load (P:=an) aP (off:=1) (c:=4) rfl (by simp);have hle:=h.e;have Gd:=h.l8;have vd:=h.r (by omega);have zC:=zg (b:=b) (a:=a+i) (by omega) Gd hle;rw[<-vd] at zC;have hv:=cY b a i;have dr:=qC b (a+i);have vf:i<32:=by omega
    have xx:bY b a i+bit b (a+i)*2^i=bY b a (i+1):=rfl;have oh:=orI hv dr vf;rw[xx] at oh;have oG:=KI an 3 .i64 dr vf;have abr:=h.now;have Px:=Pw nw (by omega);rw[zC] at Px;simp only[aj,ak,QM,WP,↓ab,hn,h0,HJ,g1,fY,Px,oG,kd,oh,X3];refine ba aV h.t rfl (by simp) rfl ?_;intro t1 eJ gZ fL;have g2:=eJ.load (P:=an) aP (off:=2) (c:=4) rfl (by simp);have e1:((lf:a0):av)-1=((lf-1:a0):av):=by omega
    simp(disch:=omega)only[aj,ak,QM,WP,↓ab,hn,h0,mT,g2,e1,aB];refine ba aV eJ rfl (by simp) rfl ?_;intro t2 dK mf dA;simp(disch:=omega)only[aj,QM,WP,↓ab,hn,B7,aB];have mI:=cc hb oR.next;have iy:=h.c.turns mI (dN h.lx) (bG.aK gZ fL) (fv h.ne);have j6:=iy.turns (by omega) (dN h.lx) (bG.aK mf dA) (fv h.ne);have aR:=oR.trans ((eZ.put (ic:=ic) gZ fL).trans (eZ.put mf dA));refine ar (m-(i+1)) (by omega) ⟨i+1,_,nw/2,lf-1,rfl,by omega,⟨j6,dK,by omega,by omega,fun sR=>by rw[vd];exact vG (by omega) Gd,by omega,h.lx,h.lc,h.ne⟩,by omega,aR,by simp only[aa,ag,↓ab,WP,hn,h0,oJ,ee];rfl⟩
  obtain rfl:i=m:=by omega
  have I9:¬(i:av)<i:=by omega
  simp only[aj,al,oneOf,QM,WP,↓ab,hn,oJ,B7,h5,ao I9,dc];refine⟨by unfold qF;rw[aC (Rf gm),b5],?_,aF⟩;rw[aC (Rf gm),b5];exact⟨p,nw,lf,h,uH⟩
end Go.Proofs.YtdfjfncifneocaaGreat
namespace Go.Proofs.YtdfjfncifneocaaGreat
open Go.Cl Go.Cl.Sto Go.Cl.Rw
abbrev dF (j:a0):ch:= .pointer (some ⟨j,0,some 4⟩)
theorem Cs:br an 190=some 1:=by kernel_rfl
theorem cq:bU an 190=some false:=by kernel_rfl
theorem HL (i o c:a0):ay an 192 (.pointer (some ⟨i,o,some c⟩)) 0=some (.pointer (some ⟨i,o+0,some c⟩)):=by
 unfold ay;rw[cL];simp[iA]
theorem zh (i o c:a0):ay an 192 (.pointer (some ⟨i,o,some c⟩)) 1=some (.pointer (some ⟨i,o+1,some c⟩)):=by
 unfold ay;rw[cL];simp[aV]
theorem cP (i o c:a0):ay an 192 (.pointer (some ⟨i,o,some c⟩)) 2=some (.pointer (some ⟨i,o+2,some c⟩)):=by
 unfold ay;rw[cL];simp[aV]
theorem bT (i o c:a0):ay an 194 (.pointer (some ⟨i,o,some c⟩)) 0=some (.pointer (some ⟨i,o+0,some c⟩)):=by
 unfold ay;rw[cM];simp[Cs]
theorem Bw (i o c:a0):ay an 194 (.pointer (some ⟨i,o,some c⟩)) 1=some (.pointer (some ⟨i,o+1,some c⟩)):=by
 unfold ay;rw[cM];simp[iA]
theorem Zn (i o c:a0):ay an 194 (.pointer (some ⟨i,o,some c⟩)) 2=some (.pointer (some ⟨i,o+2,some c⟩)):=by
 unfold ay;rw[cM];simp[aV]
theorem Le {P:eB}{lib:aD}{all r:bb Oper}{id:a0}{f:aZ}{s:au}{d:Option Tmp}{Q:aZ->au->Prop}{e:eI}(cX:br P e=some 1){i:a0}{cs:bb ch}(h:az s i cs){off c:a0}(hc:c=cs.length+1)(ho:off<cs.length){v:ch}(hv:aT v=true)
  (K:∀s',az s' i (cs.set off v)->s'.next=s.next->(∀j,j≠i->s'.heap.get j=s.heap.get j)->uv P lib all r id f d Q undef s'):rh P lib all r id f d s Q (Fk (fw P s e (.pointer (some ⟨i,off,some c⟩)) v)):=by
 obtain⟨s',h1,h2,h3,h4⟩:=h.store cX hc ho hv;rw[h1,kW];exact K s' h2 h3 h4
structure Fl (base:a0) (s:au) (jf jb:a0) (D:bb a1) (p:a0) (P:bb a1) (M:av) (bv o:ch):Prop where
 b:az s jb [bv,.int .i64 (p:a0),.int .i64 0]
 f:az s jf [dF jb,o,.int .i64 M]
 low:ML base s 1 bv D.length (ofBytes D)
 own:Own s 1 o P.length (ofBytes P)
 fresh:aM base o
 nb:aI o≠some jb
 nf:aI o≠some jf
 ne:jb≠jf
 lb:base<=jb
 lf:base<=jf
theorem Fl.at {base:a0}{s s' :au}{jf jb:a0}{D P:bb a1}{p p' :a0}{M:av}{bv o:ch}(h:Fl base s jf jb D p P M bv o)(hb:az s' jb [bv,.int .i64 (p' :a0),.int .i64 0])(hn:s'.next=s.next)(hs:∀i,i≠jb->s'.heap.get i=s.heap.get i):Fl base s' jf jb D p' P M bv o:=
 ⟨hb,h.f.turns (bG.aK (i:=jb) (o:=0) (c:=none) hn hs) (fun e=>h.ne (by injection e)),h.low.stay (aw.aK hn hs h.lb),h.own.aK hn hs h.nb,h.fresh,h.nb,h.nf,h.ne,h.lb,h.lf⟩
theorem afd {v:ch}(hv:v.cells.toList=[v]):da an 192 [(0,v)]=some (.agg #[v,.int .i64 0,.int .i64 0]):=by
 unfold da;rw[cL]
 have hz:b6 an 192=some (.agg #[.slice none 0 0,.int .i64 0,.int .i64 0]):=by kernel_rfl
 rw[hz];simp only[iu,placeOf,hv];simp[iA,aV,cr,iD,bJ,setAt]
theorem afe (j:a0)(m:av):da an 194 [(0,dF j),(2,.int .i64 m)]=some (.agg #[dF j,.slice none 0 0,.int .i64 m]):=by
 unfold da;rw[cM]
 have hz:b6 an 194=some (.agg #[.pointer none,.slice none 0 0,.int .i64 0]):=by kernel_rfl
 rw[hz];have c1:(dF j).cells.toList=[dF j]:=rfl;have c2:(Value.int .i64 m).cells.toList=[.int .i64 m]:=rfl;simp only[iu,placeOf,c1,c2];simp[Cs,iA,aV,cr,iD,bJ,setAt]
end Go.Proofs.YtdfjfncifneocaaGreat
namespace Go.Cl.Fx
open Go.Cl.Rw Go.Cl.Sto
theorem tb (z j:a0):z/2^j%2=(z.testBit j).toNat:=by
 rw[Nat.testBit_eq_decide_div_mod_eq];have:z/2^j%2<2:=Nat.mod_lt _ (by omega);generalize z/2^j%2=q at this;have:q=0\/q=1:=by omega
 rcases this with rfl|rfl<;>rfl
def Zs (p:bb a1×a0):Prop:=∀i,p.2<=i->bit p.1 i=0
structure Pre (p q:bb a1×a0):Prop where
 le:p.2<=q.2
 bits:∀i,i<p.2->bit q.1 i=bit p.1 i
structure aph (p:bb a1×a0):Prop where
 ok:Ok p
 zs:Zs p
def hi (D:bb a1)(a:a0):a0->a0
 |0=>0
 |k+1=>2*hi D a k+bit D (a+k)
def lenOf (s x:a0):a0:=if s<=264 then s-254 else if s=285 then 258 else(4+(s-265)%4)*2^((s-261)/4)+3+x
def jz (s:a0):a0:=if s<=264\/s=285 then 0 else(s-261)/4
def nm (c x:a0):a0:=if c<=3 then c+1 else(2+c%2)*2^(c/2-1)+1+x
def lW (c:a0):a0:=if c<=3 then 0 else c/2-1
end Go.Cl.Fx