import Derived.Test.YtdfjfncifneocaaGreatNfJ
import Derived.Test.YtdfjfncifneocaaGreatB85P
import Derived.Test.YtdfjfncifneocaaGreatUnhexP
import Derived.Test.YtdfjfncifneocaaGreatNum
import Derived.Test.YtdfjfncifneocaaGreatLzwS
import Derived.Test.YtdfjfncifneocaaGreatBitsP
import Derived.Test.YtdfjfncifneocaaGreatFixW
import Derived.Test.YtdfjfncifneocaaGreatNfE
open Nat renaming reduceLT->QS,reduceEqDiff->WP
set_option linter.unusedSimpArgs false
set_option linter.unusedVariables false
set_option maxRecDepth 100000
namespace Go.Proofs.YtdfjfncifneocaaGreat
open Go.Cl Go.Cl.Rw Go.Cl.Sto Go.Cl.Fx Go.Cl.Nf Go.Cl.Bt
def NV (jr jx ic:Nat)(o:Value)(s:aq)(j:Nat)(C:List Nat):Prop:=∃sv,av s j (cj C sv)/\EL jx ic s sv C/\(∀i,aE sv=some i->i≠jr/\aE o≠some i)/\j≠jr/\j≠jx/\j≠ic/\aE o≠some j
theorem NV.to {jr jx ic j:Nat}{o o' :Value}{s s' :aq}{C:List Nat}(h:NV jr jx ic o s j C)(k:tB jr jx ic o s o' s'):NV jr jx ic o' s' j C:=by
 obtain⟨sv,h1,h2,h3,h4,h5,h6,h7⟩:=h
 have key:∀i,i<s.next->aE o≠some i->aE o' ≠some i:=fun i hi ck=>by
  rcases k.id with e|⟨q,e,hq⟩
  ·rw[e];exact ck
  ·rw[e];intro e2;injection e2 with e2;omega
 exact⟨sv,tC h1 k.next (k.get j h1.lt h4 h5 h6 h7),h2.rto h3 k,fun i hi=>⟨(h3 i hi).1,key i (h2.2 i hi).1 (h3 i hi).2⟩,h4,h5,h6,key j h1.lt h7⟩
set_option maxHeartbeats 8000000 in
theorem NW {lib:az}(hL:NH lib)(base:Nat)(s:aq)(jr jx ic:Nat)(D P0:List UInt8)(p0 m N:Nat)(M:Int)(hM:m=M.toNat)(o:Value)(h:Rs base s jr jx ic D p0 P0 M o)(hb:base<=s.next)(hlen:D.length<=1000000)(NT:P0.length<=m)(hm:m<=100000000)(hN:8*D.length<N)(va vb:Value)(A B:List Nat)(hA:NS jr jx ic o s va A)(hB:NS jr jx ic o s vb B)(nH:A.length<=300)(LO:B.length<=1000):
  Runs Tryz.prog lib 190 [ry jr,va,vb] s fun v s' =>Iv base jr jx ic D M o s v s' (fP D m A B N p0 P0):=by
 obtain⟨sa,rfl,hSa,agN⟩:=hA
 obtain⟨sb,rfl,hSb,agO⟩:=hB
 have bc:=h.bit.lt
 have ala:=h.t.lt
 have EW:∀i,aE o=some i->i<s.next:=fun i hi=>h.own.g8 i hi
 refine Runs.enter 39 Tryz.func190 rfl (hL _ rfl) rfl rfl ?_
 intro f hn hf
 have h0:f.get 0=ry jr:=hf 0
 have h1:f.get 1= .agg (cj A sa).toArray:=hf 1
 have h2:f.get 2= .agg (cj B sb).toArray:=hf 2
 clear hf
 simp-implicitDefEqProofs(disch:=omega)only[aj,QS,↓reduceIte,hn,h1]
 refine ax ?_
 intro s1 iT bm iY
 obtain⟨ja,hja⟩:∃j,j=s.next:=⟨_,rfl⟩
 rw[<-hja] at iT
 simp-implicitDefEqProofs(disch:=omega)only[aj,QS,WP,Nat.reduceAdd,↓reduceIte,hn,h2,<-hja,aw]
 refine ax ?_
 intro s2 uD aU oN
 obtain⟨jb,PE⟩:∃j,j=s1.next:=⟨_,rfl⟩
 rw[<-PE] at uD
 have DB:ar s.next s s2:=bm.trans (aU.weaken (by omega))
 have k2:tB jr jx ic o s o s2:=(tB.refl jr jx ic o s).kept DB
 have gR:=h.keeps hb DB
 have cA:NV jr jx ic o s2 ja A:=⟨sa,iT.keeps aU,hSa.rto agN k2,agN,by omega,by omega,by omega,fun e=>by have:=EW _ e;omega⟩
 have cB:NV jr jx ic o s2 jb B:=⟨sb,uD,hSb.rto agO k2,agO,by omega,by omega,by omega,fun e=>by have:=EW _ e;omega⟩
 obtain⟨R,hR⟩:∃R,R=fP D m A B N p0 P0:=⟨_,rfl⟩
 rw[<-hR]
 have dG:∀o' t,tB jr jx ic o s o' t->ar base s t:=fun o' t k=>k.stay h.lr bc.2.2.1 bc.2.2.2.1 h.fresh hb
 simp-implicitDefEqProofs(disch:=omega)only[aj,QS,Nat.reduceAdd,↓reduceIte,hn,<-PE,aw]
 refine Comes.bK (fun z f t=>∃(p:Nat) (P:List UInt8) (o1:Value),fP D m A B z p P=R/\8*D.length<p+z/\P.length<=m/\Rs base t jr jx ic D p P M o1/\tB jr jx ic o s o1 t/\NV jr jx ic o1 t ja A/\NV jr jx ic o1 t jb B/\base<=t.next/\f.n=39/\f.get 0=ry jr/\f.get 4= .pointer (some ⟨ja,0,some 18⟩)/\f.get 5= .pointer (some ⟨jb,0,some 18⟩))
  (fun z f t=>z= .ret/\f.n=39/\∃v,f.get 6=v/\Iv base jr jx ic D M o s v t R)
  ⟨p0,P0,o,hR.symm,by omega,NT,gR,k2,cA,cB,by omega,by simp only[ag,hn],by simp only[aa,↓reduceIte,WP,h0],by simp only[aa,↓reduceIte,WP],by simp only[aa,↓reduceIte,WP]⟩ ?_ ?_
 rotate_left
 ·clear hn h0 h1 h2 f
  rintro z f t ⟨rfl,hn,v,h6,hO⟩
  simp-implicitDefEqProofs(disch:=omega)only[aj,al,oneOf,QS,↓reduceIte,hn,h6,Tryz.results190]
  exact hO
 clear hn h0 h1 h2 f cA cB gR iT uD k2
 rintro Q hQ z f t ⟨p,P,o1,hz,hpz,NT,Se,eX,cA,cB,Iq,hn,h0,h4,h5⟩
 have hpD:=Se.bit.le
 obtain⟨k,rfl⟩:∃k,z=k+1:=⟨z-1,by omega⟩
 rw[fP] at hz
 have cA0:=cA
 obtain⟨xa,hca,hxa,aqb,-,-,-,-⟩:=cA0
 simp-implicitDefEqProofs(disch:=omega)only[aj]
 obtain⟨A2,WG⟩:∃A:Nat->Bool,A=fun j=>decide (j<t.next):=⟨_,rfl⟩
 have acH:∀j,A2 j=true->j<t.next:=by
  intro j h
  rw[WG] at h
  exact of_decide_eq_true h
 have V5:∀j,j<t.next->A2 j=true:=fun j h=>by rw[WG];exact decide_eq_true h
 have oB:=ar.spare t 0
 have SF:(spare t 0).next=t.next+0:=bU _ _
 have Iw:=Se.keeps Iq oB
 have hcq:=hca.keeps oB
 have kq:kl jx ic t (spare t 0):=⟨by omega,fun i hi _ _=>oB.get i hi⟩
 have lr:∀k,LA.fg A2 (some (.pointer (some ⟨jr,k,some 4⟩)))=true:=fun k=>LA.cD (A:=A2) (i:=jr) (V5 _ Se.t.lt)
 have lb:∀k,LA.fg A2 (some (.pointer (some ⟨ja,k,some 18⟩)))=true:=fun k=>LA.cD (A:=A2) (i:=ja) (V5 _ hca.lt)
 have r0q:=Iw.t.load (P:=Tryz.prog) jw (off:=0) (c:=4) rfl (by simp)
 have NN:=hcq.bu (P:=Tryz.prog) iI (by rw[aw];exact dA) (c:=18) (by rw[aw])
 refine LB.da.fL A2 acH 0 0 (by kernel_rfl) (by kernel_rfl) ?_
 simp-implicitDefEqProofs(disch:=omega)only[aj,ak,bS,bT,Nat.reduceSub,ad,QS,WP,↓reduceIte,hn,h0,h4,pS,r0q,NN,lr,lb,vk A hxa.1]
 refine(KZ hL base (spare t 0) jx ic D p Iw.bit (by omega) hlen A xa (hxa.to kq) (by omega)).mono ?_
 intro v t3 hY
 refine⟨fun h=>h.elim,?_⟩
 cases hy:sym D A p with
 |error e=>
  rw[hy] at hY hz
  obtain⟨he,rfl,wY⟩:=hY
  have c0:¬(e:Int)=0:=by omega
  simp-implicitDefEqProofs(disch:=omega)only[aj,ak,bS,bT,QS,WP,↓reduceIte,aj,ak,QS,WP,↓reduceIte,hn,dy,dz,lG,eq_false c0]
  exact hQ _ _ _ ⟨rfl,by simp only[ag,hn],_,by simp only[aa,↓reduceIte];rfl,by rw[<-hz];exact⟨he,rfl,dG _ _ (eX.trans (qD (kq.trans wY)))⟩⟩
 |ok y=>
 obtain⟨x,q⟩:=y
 rw[hy] at hY hz
 obtain⟨rfl,Ep,Es⟩:=hY
 have tH:=Iu hy
 have zT:=Iw.bits Ep Es
 have kk3:tB jr jx ic o1 t o1 t3:=qD (kq.trans Es)
 have k3:=eX.trans kk3
 have rz:base<=t3.next:=by have:=Es.next;omega
 dsimp only at hz
 by_cases cx:x=256
 ·have d1:((x:Nat):Int)=256:=by omega
  rw[if_pos cx] at hz
  simp-implicitDefEqProofs(disch:=omega)only[aj,ak,bS,bT,QS,WP,↓reduceIte,aj,ak,QS,WP,↓reduceIte,hn,dy,dz,lG,eq_true d1]
  exact hQ _ _ _ ⟨rfl,by simp only[ag,hn],_,by simp only[aa,↓reduceIte];rfl,by rw[<-hz];exact⟨rfl,o1,zT,k3⟩⟩
 have d1:¬((x:Nat):Int)=256:=by omega
 rw[if_neg cx] at hz
 by_cases cl:x<256
 ·have d2:((x:Nat):Int)<256:=by omega
  rw[if_pos cl] at hz
  simp-implicitDefEqProofs(disch:=omega)only[aj,ak,bS,bT,ad,QS,WP,↓reduceIte,aj,ak,ad,QS,WP,↓reduceIte,hn,h0,dy,dz,lG,eq_false d1,eq_true d2,bR Tryz.underlying3 Tryz.underlying5,b0]
  refine(Dz hL base t3 jr jx ic D P q m M hM (UInt8.ofNat x) o1 zT rz (by omega)).mono ?_
  intro v t4 hO
  by_cases cm:m<=P.length
  ·rw[if_pos cm] at hO hz
   obtain⟨-,rfl,eD⟩:=hO
   simp-implicitDefEqProofs(disch:=omega)only[aj,ak,QS,WP,↓reduceIte,hn,eq_false (show¬((7:Nat):Int)=0 by decide)]
   exact hQ _ _ _ ⟨rfl,by simp only[ag,hn],_,by simp only[aa,↓reduceIte];rfl,by rw[<-hz];exact⟨by decide,rfl,(dG _ _ k3).trans eD⟩⟩
  rw[if_neg cm] at hO hz
  obtain⟨rfl,o6,hR6,P5⟩:=hO
  have kk:=kk3.trans P5
  simp-implicitDefEqProofs(disch:=omega)only[aj,ak,QS,↓reduceIte,hn]
  have n6:=P5.next
  exact au k (by omega) ⟨q,_,o6,hz,by omega,by rw[List.length_append,List.length_singleton];omega,hR6,eX.trans kk,cA.to kk,cB.to kk,by omega,by simp only[ag,hn],by simp only[aa,↓reduceIte,WP,h0],by simp only[aa,↓reduceIte,WP,h4],by simp only[aa,↓reduceIte,WP,h5]⟩
 have d2:¬((x:Nat):Int)<256:=by omega
 rw[if_neg cl] at hz
 have cB3:=cB.to kk3
 obtain⟨xb,IG,hxb,alb,-,-,-,-⟩:=id cB3
 have agP:=IG.bu (P:=Tryz.prog) iI (by rw[aw];exact dA) (c:=18) (by rw[aw])
 simp-implicitDefEqProofs(disch:=omega)only[aj,ak,bS,bT,ad,QS,WP,↓reduceIte,aj,ak,ad,QS,WP,↓reduceIte,hn,h0,h5,dy,dz,lG,eq_false d1,eq_false d2,agP]
 refine(Sd hL base t3 jr jx ic D P q m M hM o1 zT rz hlen NT hm x (by omega) (by omega) _ B ⟨xb,rfl,hxb,alb⟩ LO).mono ?_
 intro v t4 hO
 cases hcx:kn D m B x q P with
 |error e=>
  rw[hcx] at hO hz
  obtain⟨he,rfl,eD⟩:=hO
  have c0:¬(e:Int)=0:=by omega
  simp-implicitDefEqProofs(disch:=omega)only[aj,ak,QS,WP,↓reduceIte,hn,eq_false c0]
  exact hQ _ _ _ ⟨rfl,by simp only[ag,hn],_,by simp only[aa,↓reduceIte];rfl,by rw[<-hz];exact⟨he,rfl,(dG _ _ k3).trans eD⟩⟩
 |ok y=>
  obtain⟨r,P'⟩:=y
  rw[hcx] at hO hz
  obtain⟨rfl,o6,hR6,P5⟩:=hO
  have kk:=kk3.trans P5
  have jH:=KW hcx NT
  simp-implicitDefEqProofs(disch:=omega)only[aj,ak,QS,↓reduceIte,hn]
  have n6:=P5.next
  exact au k (by omega) ⟨r,P',o6,hz,by omega,jH.2.2,hR6,eX.trans kk,cA.to kk,cB.to kk,by omega,by simp only[ag,hn],by simp only[aa,↓reduceIte,WP,h0],by simp only[aa,↓reduceIte,WP,h4],by simp only[aa,↓reduceIte,WP,h5]⟩
theorem acJ {n k:Nat}(hn:n<65536)(hk:k<65536):(IntKind.i64.wrap (((BitVec.ofInt IntKind.i64.bits (n:Int)^^^BitVec.ofInt IntKind.i64.bits (k:Int)).toNat:Nat):Int)=65535)=(n+k=65535):=by
 have e1:IntKind.i64.bits=64:=rfl
 rw[e1]
 have hx:(BitVec.ofInt 64 (n:Int)^^^BitVec.ofInt 64 (k:Int)).toNat=n^^^k:=by
  rw[BitVec.toNat_xor,BitVec.ofInt_natCast,BitVec.ofInt_natCast,BitVec.toNat_ofNat,BitVec.toNat_ofNat,Nat.mod_eq_of_lt (by omega),Nat.mod_eq_of_lt (by omega)]
 have bc:n^^^k<65536:=Nat.xor_lt_two_pow (n:=16) hn hk
 rw[hx,aB (by omega)]
 have key:(65535^^^k)=65535-k:=by
  have:=ae0 (m:=k) hk
  rw[e1,aB (by
   rw[BitVec.toNat_xor,BitVec.ofInt_natCast]
   have e2:(BitVec.ofInt 64 65535)=BitVec.ofNat 64 65535:=rfl
   rw[e2,BitVec.toNat_ofNat,BitVec.toNat_ofNat,Nat.mod_eq_of_lt (by omega),Nat.mod_eq_of_lt (by omega)]
   have:k^^^65535<2^16:=Nat.xor_lt_two_pow (n:=16) hk (by omega)
   have:(2:Nat)^16=65536:=by decide
   omega)] at this
  rw[BitVec.toNat_xor,BitVec.ofInt_natCast] at this
  have e2:(BitVec.ofInt 64 65535)=BitVec.ofNat 64 65535:=rfl
  rw[e2,BitVec.toNat_ofNat,BitVec.toNat_ofNat,Nat.mod_eq_of_lt (by omega),Nat.mod_eq_of_lt (by omega)] at this
  rw[Nat.xor_comm]
  omega
 refine propext ⟨fun h=> ?_,fun h=> ?_⟩
 ·have h:n^^^k=65535:=by omega
  have:n=65535^^^k:=by rw[<-h,Nat.xor_assoc,Nat.xor_self,Nat.xor_zero]
  omega
 ·have:n=65535^^^k:=by omega
  rw[this,Nat.xor_assoc,Nat.xor_self,Nat.xor_zero];rfl
theorem acK {base:Nat}{s:aq}{jx ic:Nat}{D:List UInt8}{a:Nat}(h:gL base s jx ic D (8*a)):∃now,RZ base s jx ic D (8*a) a now 0:=by
 obtain⟨q,now,left,h,h7⟩:=h
 have he:=h.e
 obtain rfl:left=0:=by omega
 obtain rfl:q=a:=by omega
 exact⟨now,h⟩
set_option maxHeartbeats 8000000 in
theorem K9 {lib:az}(hL:NH lib)(base:Nat)(s:aq)(jr jx ic:Nat)(D P:List UInt8)(p m:Nat)(M:Int)(hM:m=M.toNat)(o:Value)(h:Rs base s jr jx ic D p P M o)(hb:base<=s.next)(hlen:D.length<=1000000)(NT:P.length<=m)(hm:m<=100000000):
  Runs Tryz.prog lib 188 [ry jr] s fun v s' =>Iv base jr jx ic D M o s v s' (gM D m p P):=by
 obtain⟨a,ha⟩:∃a,a=(p+7)/8:=⟨_,rfl⟩
 have hpD:=h.bit.le
 have bc:=h.bit.lt
 have dG:∀o' t,tB jr jx ic o s o' t->ar base s t:=fun o' t k=>k.stay h.lr bc.2.2.1 bc.2.2.2.1 h.fresh hb
 refine Runs.enter 60 Tryz.func188 rfl (hL _ rfl) rfl rfl ?_
 intro f hn hf
 have h0:f.get 0=ry jr:=hf 0
 clear hf
 have r0:=h.t.load (P:=Tryz.prog) jw (off:=0) (c:=4) rfl (by simp)
 simp-implicitDefEqProofs(disch:=omega)only[aj,ak,ad,QS,WP,↓reduceIte,hn,h0,pS,r0]
 refine(R0 (hL _ rfl) base s jx ic D p h.bit hb).mono ?_
 rintro _ s1 ⟨Hv,Et⟩
 rw[<-ha] at Hv
 have oV:=h.bits Hv Et
 have gu:base<=s1.next:=by have:=Et.next;omega
 have r0:=oV.t.load (P:=Tryz.prog) jw (off:=0) (c:=4) rfl (by simp)
 unfold gM
 rw[<-ha]
 simp-implicitDefEqProofs(disch:=omega)only[aj,ak,ad,QS,WP,↓reduceIte,hn,h0,pS,r0]
 refine(nF hL base s1 jx ic D (8*a) 16 Hv gu (by omega) hlen).mono ?_
 intro v s2 hN
 by_cases c1:8*a+16<=8*D.length
 rotate_left
 ·rw[lF c1] at hN
  obtain⟨-,rfl,eX⟩:=hN
  rw[if_neg (show¬8*a+32<=8*D.length by omega)]
  simp-implicitDefEqProofs(disch:=omega)only[aj,ak,al,oneOf,QS,WP,↓reduceIte,hn,dy,dz,eq_false (show¬(2:Int)=0 by decide),Tryz.results188]
  exact⟨by decide,rfl,dG _ _ (qD (Et.trans eX))⟩
 rw[dW c1] at hN
 obtain⟨rfl,WQ,AD⟩:=hN
 have gR:=oV.bits WQ AD
 have AD:=Et.trans AD
 have dB:base<=s2.next:=by have:=AD.next;omega
 have r0:=gR.t.load (P:=Tryz.prog) jw (off:=0) (c:=4) rfl (by simp)
 have I3:=iV D (8*a) 16
 obtain⟨n,Oy⟩:∃n,n=bM D (8*a) 16:=⟨_,rfl⟩
 rw[<-Oy] at I3|-
 have aqe:(2:Nat)^16=65536:=by decide
 simp-implicitDefEqProofs(disch:=omega)only[aj,ak,ad,QS,WP,↓reduceIte,hn,h0,dy,dz,pS,r0]
 refine(nF hL base s2 jx ic D (8*a+16) 16 WQ dB (by omega) hlen).mono ?_
 intro v s3 hN
 by_cases c2:8*a+16+16<=8*D.length
 rotate_left
 ·rw[lF c2] at hN
  obtain⟨-,rfl,eX⟩:=hN
  rw[if_neg (show¬8*a+32<=8*D.length by omega)]
  simp-implicitDefEqProofs(disch:=omega)only[aj,ak,al,oneOf,QS,WP,↓reduceIte,hn,dy,dz,eq_false (show¬(2:Int)=0 by decide),Tryz.results188]
  exact⟨by decide,rfl,dG _ _ (qD (AD.trans eX))⟩
 rw[dW c2] at hN
 obtain⟨rfl,Ep,Es⟩:=hN
 have zT:=gR.bits Ep Es
 have Es:=AD.trans Es
 have rz:base<=s3.next:=by have:=Es.next;omega
 have hkl:=iV D (8*a+16) 16
 obtain⟨k,rK⟩:∃k,k=bM D (8*a+16) 16:=⟨_,rfl⟩
 rw[<-rK] at hkl|-
 rw[if_pos (show 8*a+32<=8*D.length by omega)]
 have hx:=acJ (n:=n) (k:=k) (by omega) (by omega)
 by_cases cx:n+k=65535
 rotate_left
 ·rw[if_neg cx]
  have hx:(IntKind.i64.wrap (((BitVec.ofInt IntKind.i64.bits (n:Int)^^^BitVec.ofInt IntKind.i64.bits (k:Int)).toNat:Nat):Int)=65535)=False:=by rw[hx];exact eq_false cx
  simp-implicitDefEqProofs(disch:=omega)only[aj,ak,al,oneOf,QS,WP,↓reduceIte,hn,dy,dz,OO,hx,Tryz.results188]
  exact⟨by decide,rfl,dG _ _ (qD Es)⟩
 rw[if_pos cx]
 have hx:(IntKind.i64.wrap (((BitVec.ofInt IntKind.i64.bits (n:Int)^^^BitVec.ofInt IntKind.i64.bits (k:Int)).toNat:Nat):Int)=65535)=True:=by rw[hx];exact eq_true cx
 rw[show 8*a+16+16=8*(a+4) by omega] at zT
 simp-implicitDefEqProofs(disch:=omega)only[aj,ak,QS,WP,↓reduceIte,hn,dy,dz,OO,hx]
 refine Comes.bK (fun z f t=>∃(i:Nat) (P1:List UInt8) (o1:Value),z=n-i/\i<=n/\oQ D m (n-i) (a+4+i) P1=oQ D m n (a+4) P/\P1.length<=m/\Rs base t jr jx ic D (8*(a+4+i)) P1 M o1/\tB jr jx ic o s o1 t/\base<=t.next/\f.n=60/\f.get 0=ry jr/\f.get 39= .int .i64 (n:Nat)/\f.get 40= .int .i64 (i:Nat))
  (fun z f t=>f.n=60/\((z= .exit 0/\∃(q:Nat) (P1:List UInt8) (o1:Value),oQ D m n (a+4) P= .ok (q,P1)/\Rs base t jr jx ic D q P1 M o1/\tB jr jx ic o s o1 t)\/(z= .ret/\∃e:Nat,oQ D m n (a+4) P= .error e/\0<e/\f.get 2= .int .i64 (e:Nat)/\ar base s t)))
  ⟨0,P,o,rfl,by omega,rfl,NT,zT,qD Es,rz,by simp only[ag,hn],by simp only[aa,↓reduceIte,WP,h0],by simp only[aa,↓reduceIte,WP],by simp only[aa,↓reduceIte];rfl⟩ ?_ ?_
 rotate_left
 ·clear hn h0 f
  rintro z f t ⟨hn,(⟨rfl,q,P1,o1,NU,hR,eX⟩|⟨rfl,e,NU,he,h2,aD⟩)⟩
  ·simp-implicitDefEqProofs(disch:=omega)only[aj,al,oneOf,QS,↓reduceIte,hn,Tryz.results188]
   rw[NU]
   exact⟨rfl,o1,hR,eX⟩
  ·simp-implicitDefEqProofs(disch:=omega)only[aj,al,oneOf,QS,↓reduceIte,hn,h2,Tryz.results188]
   rw[NU]
   exact⟨he,rfl,aD⟩
 clear hn h0 f r0 oV gR zT Hv WQ Ep Et AD Es
 rintro Q hQ z f t ⟨i,P1,o1,rfl,hi,aD,hP1,hR,eX,Iq,hn,h0,NM,PX⟩
 by_cases L1:i<n
 rotate_left
 ·obtain rfl:i=n:=by omega
  have e1:¬((i:Nat):Int)<((i:Nat):Int):=by omega
  rw[Nat.sub_self,oQ] at aD
  simp-implicitDefEqProofs(disch:=omega)only[aj,QS,↓reduceIte,hn,NM,PX,eq_false e1]
  exact hQ _ _ _ ⟨by simp only[ag,hn],.inl ⟨rfl,_,P1,o1,aD.symm,hR,eX⟩⟩
 have e1:((i:Nat):Int)<((n:Nat):Int):=by omega
 rw[show n-i=(n-(i+1))+1 by omega,oQ] at aD
 obtain⟨now,Sf⟩:=acK hR.bit
 have hcp:a+4+i<=D.length:=Sf.c.choose_spec.2.2.2
 have r0:=hR.t.load (P:=Tryz.prog) jw (off:=0) (c:=4) rfl (by simp)
 have g0:=Sf.t.load (P:=Tryz.prog) Dm (off:=0) (c:=4) rfl (by simp)
 simp-implicitDefEqProofs(disch:=omega)only[aj,ak,ad,QS,WP,↓reduceIte,hn,h0,NM,PX,eq_true e1,pS,r0,ta,g0]
 refine(w7 (hL _ rfl) (hL _ rfl) (hL _ rfl) (hL _ rfl) (hL _ rfl) base t ic D (a+4+i) Sf.c Iq (by omega)).mono ?_
 rintro _ t3 ⟨rfl,xN,jt⟩
 have kb:kl jx ic t t3:=kl.turns jt
 by_cases r3:a+4+i<D.length
 rotate_left
 ·rw[if_neg r3] at aD
  have rS:eG D ((a+4+i:Nat):Int)= -1:=by unfold eG;rw[if_neg (by omega)]
  simp-implicitDefEqProofs(disch:=omega)only[aj,QS,↓reduceIte,hn,rS,eq_true (show(-1:Int)<0 by decide)]
  exact hQ _ _ _ ⟨by simp only[ag,hn],.inr ⟨rfl,2,aD.symm,by decide,by simp only[aa,↓reduceIte];rfl,dG _ _ (eX.trans (qD kb))⟩⟩
 rw[if_pos r3] at aD
 have hc8:=(D.getD (a+4+i) 0).toNat_lt
 have rS:eG D ((a+4+i:Nat):Int)=((D.getD (a+4+i) 0).toNat:Int):=by unfold eG;rw[if_pos (by omega),Int.toNat_natCast]
 have Bg:IntKind.u8.wrap (((D.getD (a+4+i) 0).toNat:Nat):Int)=(((D.getD (a+4+i) 0).toNat:Nat):Int):=by rw[gA];omega
 have d1:¬(((D.getD (a+4+i) 0).toNat:Nat):Int)<0:=by omega
 rw[Nat.min_eq_left (by omega)] at xN
 have hB4:gL base t3 jx ic D (8*(a+4+(i+1))):=⟨a+4+i+1,now,0,⟨xN,Sf.t.turns jt (dO (fun e=>Sf.ne e.symm)),by omega,by omega,fun h=>by omega,Sf.now,Sf.lx,Sf.lc,Sf.ne⟩,by omega⟩
 have xD:=hR.bits hB4 kb
 have Qv:base<=t3.next:=by have:=kb.next;omega
 simp-implicitDefEqProofs(disch:=omega)only[aj,ak,ad,QS,WP,↓reduceIte,hn,h0,rS,eq_false d1,bR Tryz.underlying3 Tryz.underlying5,Bg]
 refine(Dz hL base t3 jr jx ic D P1 _ m M hM (D.getD (a+4+i) 0) o1 xD Qv (by omega)).mono ?_
 intro v t6 hO
 by_cases cm:m<=P1.length
 ·rw[if_pos cm] at hO aD
  obtain⟨-,rfl,eD⟩:=hO
  simp-implicitDefEqProofs(disch:=omega)only[aj,ak,QS,WP,↓reduceIte,hn,eq_false (show¬((7:Nat):Int)=0 by decide)]
  exact hQ _ _ _ ⟨by simp only[ag,hn],.inr ⟨rfl,7,aD.symm,by decide,by simp only[aa,↓reduceIte],(dG _ _ (eX.trans (qD kb))).trans eD⟩⟩
 rw[if_neg cm] at hO aD
 obtain⟨rfl,o6,hR6,P5⟩:=hO
 simp-implicitDefEqProofs(disch:=omega)only[aj,ak,QS,WP,↓reduceIte,hn,PX,aB]
 have n6:=P5.next
 exact au (n-(i+1)) (by omega) ⟨i+1,_,o6,rfl,by omega,aD,by rw[List.length_append,List.length_singleton];omega,hR6,eX.trans ((qD kb).trans P5),by omega,by simp only[ag,hn],by simp only[aa,↓reduceIte,WP,h0],by simp only[aa,↓reduceIte,WP,NM],by simp only[aa,↓reduceIte];rfl⟩
end Go.Proofs.YtdfjfncifneocaaGreat
set_option linter.unusedSimpArgs false
set_option linter.unusedVariables false
set_option maxRecDepth 100000
namespace Go.Proofs.YtdfjfncifneocaaGreat
open Go.Cl Go.Cl.Rw Go.Cl.Sto Go.Cl.Fx Go.Cl.Nf Go.Cl.Bt
end Go.Proofs.YtdfjfncifneocaaGreat
set_option linter.unusedSimpArgs false
set_option linter.unusedVariables false
set_option maxRecDepth 100000
namespace Go.Cl.Bt
theorem kl.kept {jx ic:Nat}{s t t' :aq}(h:kl jx ic s t)(k:ar t.next t t'):kl jx ic s t' :=⟨by have:=h.next;have:=k.next;omega,fun i hi h1 h2=>(k.get i (by have:=h.next;omega)).trans (h.get i hi h1 h2)⟩
end Go.Cl.Bt
namespace Go.Proofs.YtdfjfncifneocaaGreat
open Go.Cl Go.Cl.Rw Go.Cl.Sto Go.Cl.Fx Go.Cl.Nf Go.Cl.Bt
theorem Rs.low {base:Nat}{t t' :aq}{jr jx ic:Nat}{D P:List UInt8}{p:Nat}{M:Int}{o:Value}(h:Rs base t jr jx ic D p P M o){B:Nat}(hn:t.next<=t'.next)(hg:∀i,i<B->t'.heap.get i=t.heap.get i)(b1:base<=B)(b2:jr<B)(b3:jx<B)(b4:ic<B)(b5:∀i,aE o=some i->i<B):Rs base t' jr jx ic D p P M o:=by
 obtain⟨q5,now,left,YU,h7⟩:=h.bit
 obtain⟨bb,c1,c2,c3,c4⟩:=YU.c
 have aD:ar base t t' :=⟨hn,fun i hi=>hg i (by omega)⟩
 exact⟨⟨q5,now,left,⟨⟨bb,tC c1 hn (hg ic b4),c2.stay aD,c3,c4⟩,tC YU.t hn (hg jx b3),YU.e,YU.l8,YU.r,YU.now,YU.lx,YU.lc,YU.ne⟩,h7⟩,tC h.t hn (hg jr b2),aak h.own hn (fun i hi _=>hg i (b5 i hi)),h.fresh,h.nr,h.nx,h.nc,h.rx,h.rc,h.lr⟩
end Go.Proofs.YtdfjfncifneocaaGreat
set_option linter.unusedSimpArgs false
set_option linter.unusedVariables false
set_option maxRecDepth 100000
namespace Go.Proofs.YtdfjfncifneocaaGreat
open Go.Cl Go.Cl.Rw Go.Cl.Sto Go.Cl.Fx Go.Cl.Nf Go.Cl.Bt
theorem Iv.from {base jr jx ic:Nat}{D:List UInt8}{M:Int}{o:Value}{s t t' :aq}{v:Value}{B:Except Nat (Nat×List UInt8)}(h:Iv base jr jx ic D M o t v t' B)(k:tB jr jx ic o s o t)(hs:ar base s t):Iv base jr jx ic D M o s v t' B:=by
 cases B with
 |error e=>exact⟨h.1,h.2.1,hs.trans h.2.2⟩
 |ok y=>
  obtain⟨h1,o',h2,h3⟩:=h
  exact⟨h1,o',h2,k.trans h3⟩
def ald (base jr jx ic:Nat)(D:List UInt8)(M:Int)(o:Value)(s:aq)(v:Value)(s' :aq):Except Nat (Nat×Nat×List UInt8)->Prop
 | .ok (last,q,P')=>v= .tuple #[.bool (decide (((last:Nat):Int)=1)),.int .i64 0]/\∃o',Rs base s' jr jx ic D q P' M o' /\tB jr jx ic o s o' s'
 | .error e=>0<e/\(∃b,v= .tuple #[.bool b,.int .i64 (e:Nat)])/\ar base s s'
theorem YV (jx:Nat)(M:Int):cE Tryz.prog 180 [(0,pQ jx),(1,.int .i64 M)]=some (.agg #[pQ jx,.int .i64 M,.slice none 0 0]):=by
 unfold cE;rw[Tryz.underlying180]
 have hz:bW Tryz.prog 180=some (.agg #[.pointer none,.int .i64 0,.slice none 0 0]):=by kernel_rfl
 rw[hz]
 have c1:(pQ jx).cells.toList=[pQ jx]:=rfl
 have c2:(Value.int .i64 M).cells.toList=[.int .i64 M]:=rfl
 simp only[fI,placeOf,c1,c2]
 simp[AM,bB,gv,bP,gS,bO,setAt]
end Go.Proofs.YtdfjfncifneocaaGreat
namespace Go.Cl.Nf
open Go.Cl.Fx Go.Cl.Sto
theorem jL {D:List UInt8}{p n e:Nat}(h:di D p n= .error e):0<e:=by
 unfold di at h
 split at h<;>cases h
 decide
theorem mL {D:List UInt8}{C:List Nat}{p e:Nat}(h:sym D C p= .error e):0<e:=by
 rcases KT h with h|h<;>omega
theorem P6 {M b:Nat}:∀{n:Nat} {P:List UInt8} {e:Nat},rep M b n P= .error e->0<e
 |0,P,e,h=>by cases h
 |n+1,P,e,h=>by
  unfold rep at h
  split at h
  ·cases h;decide
  ·exact P6 h
theorem La {D:List UInt8}{M:Nat}:∀{k a:Nat} {P:List UInt8} {e:Nat},oQ D M k a P= .error e->0<e
 |0,a,P,e,h=>by cases h
 |k+1,a,P,e,h=>by
  unfold oQ at h
  repeat' split at h
  all_goals first|(cases h<;>decide)|exact La h
theorem Lb {D:List UInt8}{M p:Nat}{P:List UInt8}{e:Nat}(h:gM D M p P= .error e):0<e:=by
 unfold gM at h
 repeat' split at h
 all_goals first|(cases h<;>first|decide|exact jL ‹_›|exact mL ‹_›)|exact La h
theorem Sg {D:List UInt8}{M:Nat}{B:List Nat}{s p:Nat}{P:List UInt8}{e:Nat}(h:kn D M B s p P= .error e):0<e:=by
 unfold kn at h
 repeat' split at h
 all_goals first|(cases h<;>first|decide|exact jL ‹_›|exact mL ‹_›|exact P6 ‹_›)
theorem DE {D:List UInt8}{M:Nat}{A B:List Nat}:∀{k p:Nat} {P:List UInt8} {e:Nat},fP D M A B k p P= .error e->0<e
 |0,p,P,e,h=>by cases h;decide
 |k+1,p,P,e,h=>by
  unfold fP at h
  repeat' split at h
  all_goals first|(cases h<;>first|decide|exact mL ‹_›|exact Sg ‹_›)|exact DE h
theorem Sh {D:List UInt8}{p e:Nat}(h:PM D p= .error e):0<e:=by
 unfold PM at h
 repeat' split at h
 all_goals first|(cases h<;>first|decide|exact jL ‹_›|exact mL ‹_›)
theorem Lc {D:List UInt8}:∀{r:List Nat} {p:Nat} {o:List Nat} {e:Nat},NF D r p o= .error e->0<e
 |[],p,o,e,h=>by cases h
 |i::r,p,o,e,h=>by
  unfold NF at h
  split at h
  ·cases h;exact jL ‹_›
  ·exact Lc h
theorem NX {D:List UInt8}{s p:Nat}{l:List Nat}{e:Nat}(h:yH D s p l= .error e):0<e:=by
 unfold yH at h
 repeat' split at h
 all_goals first|(cases h<;>first|decide|exact jL ‹_›|exact mL ‹_›)
theorem GS {D:List UInt8}{C:List Nat}{many:Nat}:∀{k p:Nat} {l:List Nat} {e:Nat},Du D C many k p l= .error e->0<e
 |0,p,l,e,h=>by cases h;decide
 |k+1,p,l,e,h=>by
  unfold Du at h
  repeat' split at h
  all_goals first|(cases h<;>first|decide|exact mL ‹_›|exact NX ‹_›)|exact GS h
theorem V6 {N:Nat}{D:List UInt8}{p e:Nat}(h:KV N D p= .error e):0<e:=by
 unfold KV at h
 repeat' split at h
 all_goals first|(cases h<;>first|decide|exact jL ‹_›|exact mL ‹_›|exact Sh ‹_›|exact Lc ‹_›|exact GS ‹_›)
theorem Si {N:Nat}{D:List UInt8}{M kind p:Nat}{P:List UInt8}{e:Nat}(h:gN N D M kind p P= .error e):0<e:=by
 unfold gN at h
 repeat' split at h
 all_goals first|(cases h<;>first|decide|exact jL ‹_›|exact mL ‹_›|exact V6 ‹_›)|exact Lb h|exact DE h
theorem NY {N:Nat}{D:List UInt8}{M p:Nat}{P:List UInt8}{e:Nat}(h:eH N D M p P= .error e):0<e:=by
 unfold eH at h
 repeat' split at h
 all_goals first|(cases h<;>first|decide|exact jL ‹_›|exact mL ‹_›|exact Si ‹_›)
theorem z5 {N:Nat}{D:List UInt8}{M:Nat}:∀{k p:Nat} {P:List UInt8} {e:Nat},fw N D M k p P= .error e->0<e
 |0,p,P,e,h=>by cases h;decide
 |k+1,p,P,e,h=>by
  unfold fw at h
  repeat' split at h
  all_goals first|(cases h<;>first|decide|exact NY ‹_›)|exact z5 h
theorem Sj {N:Nat}{D:List UInt8}{M e:Nat}(h:qW N D M= .error e):0<e:=z5 h
def Ld (a b:Nat):Prop:=a%16≠8\/7<a/16\/(a*256+b)%31≠0\/b/32%2≠0
instance (a b:Nat):Decidable (Ld a b):=by unfold Ld;infer_instance
def qX (N:Nat)(D:List UInt8)(M:Nat):Except Nat (Nat×List UInt8):=
 if D.length<2 then .error 2
 else if Ld (D.getD 0 0).toNat (D.getD 1 0).toNat then .error 4
 else match qW N (D.drop 2) M with
  | .error e=> .error e
  | .ok (q,P)=>if D.length<2+(q+7)/8+4 then .error 2 else if jJ ((D.drop (2+(q+7)/8)).take 4)=zD P then .ok (2+(q+7)/8+4,P) else .error 10
theorem V7 {N:Nat}{D:List UInt8}{M n:Nat}{P:List UInt8}(h:qX N D M= .ok (n,P)):P.length<=M:=by
 unfold qX at h
 repeat' split at h
 all_goals first|(cases h;done)|(cases h;exact(Dx ‹_›).2)
def ale (s:aq)(v:Value)(s' :aq):Except Nat (Nat×List UInt8)->Prop
 | .ok (n,P)=>∃o,v= .tuple #[o,.int .i64 (n:Nat),.int .i64 0]/\Own s' 1 o P.length (ofBytes P)/\aH s.next o/\ar s.next s s'
 | .error e=>v= .tuple #[.slice none 0 0,.int .i64 0,.int .i64 (e:Nat)]/\ar s.next s s'
theorem agQ {k:IntKind}{n m:Nat}(hn:n<2^k.bits)(hm:m<2^k.bits):(BitVec.ofInt k.bits (n:Int)&&&BitVec.ofInt k.bits (m:Int)).toNat=n&&&m:=by
 rw[BitVec.toNat_and,BitVec.ofInt_natCast,BitVec.ofInt_natCast,BitVec.toNat_ofNat,BitVec.toNat_ofNat,Nat.mod_eq_of_lt hn,Nat.mod_eq_of_lt hm]
theorem Ut (n:Nat):n&&&15=n%16:=Nat.and_two_pow_sub_one_eq_mod n 4
theorem agR (n:Nat):n&&&32=n/32%2*32:=by
 have hb:n.testBit 5=decide (n/2^5%2=1):=Nat.testBit_eq_decide_div_mod_eq
 rw[show(2:Nat)^5=32 from rfl] at hb
 apply Nat.eq_of_testBit_eq
 intro i
 rw[Nat.testBit_and,show(32:Nat)=2^5 from rfl,Nat.testBit_two_pow,show(2:Nat)^5=32 from rfl]
 rcases Nat.mod_two_eq_zero_or_one (n/32) with h|h<;>rw[h] at hb|-
 ·rw[Nat.zero_mul,Nat.zero_testBit]
  by_cases c:5=i
  ·subst c;rw[hb];rfl
  ·rw[decide_eq_false c,Bool.and_false]
 ·rw[Nat.one_mul,show(32:Nat)=2^5 from rfl,Nat.testBit_two_pow]
  by_cases c:5=i
  ·subst c;rw[hb];rfl
  ·rw[decide_eq_false c,Bool.and_false]
theorem acL {n:Nat}(h:n<65536):IntKind.i64.wrap (((BitVec.ofInt IntKind.i64.bits (n:Int)&&&BitVec.ofInt IntKind.i64.bits 15).toNat:Nat):Int)=((n%16:Nat):Int):=by
 rw[show(15:Int)=((15:Nat):Int) from rfl,agQ (Nat.lt_of_lt_of_le h (by decide)) (by decide),Ut,aB (by omega)]
theorem acM {n:Nat}(h:n<65536):IntKind.i64.wrap (((BitVec.ofInt IntKind.i64.bits (n:Int)&&&BitVec.ofInt IntKind.i64.bits 32).toNat:Nat):Int)=((n/32%2*32:Nat):Int):=by
 rw[show(32:Int)=((32:Nat):Int) from rfl,agQ (Nat.lt_of_lt_of_le h (by decide)) (by decide),agR,aB (by omega)]
end Go.Cl.Nf
set_option linter.unusedSimpArgs false
set_option linter.unusedVariables false
set_option maxRecDepth 100000
namespace Go.Proofs.YtdfjfncifneocaaGreat
open Go.Cl
theorem acN {lib:az}(hl:lib.at 103=none)(base:Nat)(s:aq)(i:Nat)(b:Value)(l:List UInt8)(p:Nat)(k:Int)(hc:KH base s i b l p)(hb:base<=s.next):
  Runs Tryz.prog lib 103 [fO i,.int .i64 k] s fun v s' =>v= .bool (decide (0<=k/\k<=l.length))/\KH base s' i b l (if 0<=k/\k<=l.length then k.toNat else p)/\aY (fO i) s s' :=by
 refine Runs.enter 24 Tryz.func103 rfl hl rfl rfl ?_
 intro f hn hf
 have h0:f.get 0=fO i:=hf 0
 have h1:f.get 1= .int .i64 k:=hf 1
 clear hf
 obtain⟨ht,nP,hi,hp⟩:=id hc
 have l0:=ht.load (P:=Tryz.prog) gw (off:=0) (c:=3) rfl (by simp)
 by_cases c1:k<0
 ·simp-implicitDefEqProofs(disch:=omega)only[aj,ak,al,oneOf,QS,WP,↓reduceIte,hn,h0,h1,cP Tryz.underlying112,c1,Tryz.results103]
  rw[if_neg (by omega)]
  exact⟨by rw[decide_eq_false (by omega)],hc,Nat.le_refl _,fun _ _ _=>rfl⟩
 ·by_cases c2:(l.length:Int)<k
  ·simp-implicitDefEqProofs(disch:=omega)only[aj,ak,al,oneOf,ad,QS,WP,↓reduceIte,hn,h0,h1,cP Tryz.underlying112,c1,c2,KI,l0,nP.aG.bh Tryz.underlying22,Tryz.results103]
   rw[if_neg (by omega)]
   exact⟨by rw[decide_eq_false (by omega)],hc,Nat.le_refl _,fun _ _ _=>rfl⟩
  ·simp-implicitDefEqProofs(disch:=omega)only[aj,ak,ad,QS,WP,↓reduceIte,hn,h0,h1,cP Tryz.underlying112,c1,c2,KI,GB,l0,nP.aG.bh Tryz.underlying22]
   refine aX bB ht rfl (by simp) rfl ?_
   intro s1 eO iJ bm
   simp-implicitDefEqProofs(disch:=omega)only[aj,al,oneOf,QS,↓reduceIte,hn,Tryz.results103]
   rw[if_pos (by omega)]
   refine⟨by rw[decide_eq_true (by omega)],⟨?_,nP.stay (ar.aI iJ bm hi),hi,by omega⟩,aY.aI iJ bm⟩
   have:((k.toNat:Nat):Int)=k:=by omega
   rw[this];exact eO
theorem V8 {lib:az}(hl:lib.at 103=none)(base:Nat)(s:aq)(i:Nat)(l:List UInt8)(p:Nat)(k:Int)(hc:ji base s i l p)(hb:base<=s.next):
  Runs Tryz.prog lib 103 [fO i,.int .i64 k] s fun v s' =>v= .bool (decide (0<=k/\k<=l.length))/\ji base s' i l (if 0<=k/\k<=l.length then k.toNat else p)/\aY (fO i) s s' :=by
 obtain⟨b,hc⟩:=hc
 refine(acN hl base s i b l p k hc hb).mono ?_
 rintro v s' ⟨h1,h2,h3⟩
 exact⟨h1,⟨b,h2⟩,h3⟩
theorem vm {lib:az}(hl:lib.at 36=none)(s:aq)(x:Value)(l:List UInt8)(hx:aN s 1 x l.length (ofBytes l))(hlen:l.length<=4294967296):
  Runs Tryz.prog lib 36 [x] s fun v s' =>cC s v s' l:=by
 refine Runs.enter 8 Tryz.func36 rfl hl rfl rfl ?_
 intro f hn hf
 have h0:f.get 0=x:=hf 0
 clear hf
 simp-implicitDefEqProofs(disch:=omega)only[aj,QS,WP,↓reduceIte,hn,h0,hx.nV Tryz.underlying22]
 refine iq (fun h=> ?_) (fun h=> ?_)
 ·obtain⟨h1,_,_⟩:=hx.isNil h
  have:l=[]:=List.eq_nil_of_length_eq_zero h1
  subst this
  simp-implicitDefEqProofs(disch:=omega)only[aj,al,oneOf,QS,↓reduceIte,hn,Tryz.results36]
  exact⟨.nil,aH.nil _,ar.refl _ _⟩
 ·simp-implicitDefEqProofs(disch:=omega)only[aj,ae,uH Tryz.underlying22 bL lh rfl rfl]
  refine aQ (by rfl) ?_
  intro b s1 hb hF aD
  simp-implicitDefEqProofs(disch:=omega)only[aj,ad,QS,WP,↓reduceIte,hn,h0]
  refine bV Tryz.underlying22 Tryz.underlying22 (.inl ⟨_,rfl⟩) bL kG lh rfl hb (hx.keeps aD).src (by simp[bF]) (by decide) (dj _) (by omega) (by omega) hF aD.next ?_
  intro b' s2 oT HO dC _ _
  simp-implicitDefEqProofs(disch:=omega)only[aj,al,oneOf,QS,↓reduceIte,hn,Tryz.results36]
  exact⟨by simpa using oT,HO,aD.trans dC⟩
def kU (l:List UInt8)(p:Nat)(k:Int):List UInt8:=if 0<=k/\k<=(l.length-p:Nat) then(l.drop p).take k.toNat else []
def Ix (base:Nat)(s:aq)(i:Nat)(b:Value)(l:List UInt8)(p:Nat)(k:Int)(v:Value)(s' :aq):Prop:=
 ∃B,v= .tuple #[B,.bool (decide (0<=k/\k<=(l.length-p:Nat)))]/\Own s' 1 B (kU l p k).length (ofBytes (kU l p k))/\aH s.next B/\KH base s' i b l (if 0<=k/\k<=(l.length-p:Nat) then p+k.toNat else p)/\aY (fO i) s s'
theorem YX {lib:az}(hl:lib.at 148=none)(m9:lib.at 186=none)(kX:lib.at 209=none)(jS:lib.at 105=none)(UY:lib.at 36=none)(base:Nat)(s:aq)(i:Nat)(b:Value)(l:List UInt8)(p:Nat)(k:Int)(hc:KH base s i b l p)(hb:base<=s.next)(hlen:l.length<=4294967296):
  Runs Tryz.prog lib 148 [fO i,.int .i64 k] s (Ix base s i b l p k):=by
 refine Runs.enter 44 Tryz.func148 rfl hl rfl rfl ?_
 intro f hn hf
 have h0:f.get 0=fO i:=hf 0
 have h1:f.get 1= .int .i64 k:=hf 1
 clear hf
 have fail:∀(f:aT),f.n=44->f.get 4= .slice none 0 0->f.get 5= .bool false->¬(0<=k/\k<=(l.length-p:Nat))->WE Tryz.prog (Tryz.f148).results.toList (Ix base s i b l p k) .ret f s:=by
  intro f hn h4 h5 hk
  simp only[aj,al,oneOf,QS,↓reduceIte,hn,h4,h5,Tryz.results148]
  unfold Ix kU
  rw[if_neg hk,if_neg hk,decide_eq_false hk]
  exact⟨_,rfl,.nil,aH.nil _,hc,Nat.le_refl _,fun _ _ _=>rfl⟩
 by_cases c1:k<0
 ·simp-implicitDefEqProofs(disch:=omega)only[aj,ak,QS,WP,↓reduceIte,hn,h0,h1,cP Tryz.underlying112,c1]
  exact fail _ (by simp only[ag,hn]) (by simp only[aa,↓reduceIte,WP]) (by simp only[aa,↓reduceIte]) (by omega)
 ·simp-implicitDefEqProofs(disch:=omega)only[aj,ak,ad,QS,WP,↓reduceIte,hn,h0,h1,cP Tryz.underlying112,c1]
  refine(Dj m9 kX jS base s i l p ⟨b,hc⟩ hlen).mono ?_
  rintro _ s1 ⟨rfl,hs⟩
  subst hs
  by_cases c2:((l.length-p:Nat):Int)<k
  ·simp-implicitDefEqProofs(disch:=omega)only[aj,ak,QS,WP,↓reduceIte,hn,c2]
   exact fail _ (by simp only[ag,hn]) (by simp only[aa,↓reduceIte,WP]) (by simp only[aa,↓reduceIte]) (by omega)
  ·obtain⟨ht,nP,hi,hp⟩:=id hc
   have l0:=ht.load (P:=Tryz.prog) gw (off:=0) (c:=3) rfl (by simp)
   have l1:=ht.load (P:=Tryz.prog) bC (off:=1) (c:=3) rfl (by simp)
   simp-implicitDefEqProofs(disch:=omega)only[aj,ak,QS,WP,↓reduceIte,hn,c2]
   refine da.uL (by kernel_rfl) ?_
   have hk:((p:Int)+k).toNat=p+k.toNat:=by omega
   have ez:=nP.aG.sx (lo:=p) (hi:=p+k.toNat) (by omega) (by omega)
   rw[show p+k.toNat-p=k.toNat by omega] at ez
   simp-implicitDefEqProofs(disch:=omega)only[aj,ak,ad,ai,QS,WP,↓reduceIte,hn,h0,h1,KI,GB,l0,l1,nP.aG.self,aB,nP.aG.FG Tryz.underlying22 bL,hk]
   refine(vm UY s1 _ _ ez (by rw[List.length_take,List.length_drop];omega)).mono ?_
   rintro B s2 ⟨hB,hBF,aD⟩
   have dZ:=ht.keeps aD
   have XE:=dZ.load (P:=Tryz.prog) bC (off:=1) (c:=3) rfl (by simp)
   simp-implicitDefEqProofs(disch:=omega)only[aj,ak,QS,WP,↓reduceIte,hn,h0,h1,GB,XE,aB,hB.self]
   refine aX bB dZ rfl (by simp) rfl ?_
   intro s3 jt mm bH
   simp-implicitDefEqProofs(disch:=omega)only[aj,al,oneOf,QS,WP,↓reduceIte,hn,Tryz.results148]
   unfold Ix kU
   rw[if_pos (by omega),if_pos (by omega),decide_eq_true (by omega)]
   have ck:aE B≠some i:=fun e=>by have:=hBF i e;have:=ht.lt;omega
   refine⟨B,rfl,hB.aI mm bH ck,hBF,⟨?_,nP.stay ((aD.weaken hb).trans (ar.aI mm bH hi)),hi,by omega⟩,⟨by have:=aD.next;omega,fun j hj gz=> ?_⟩⟩
   ·have:((p+k.toNat:Nat):Int)=(p:Int)+k:=by omega
    rw[this];exact jt
   ·rw[bH j (fun e=>gz (by rw[e];rfl)),aD.get j hj]
def acO (base:Nat)(s:aq)(i:Nat)(l:List UInt8)(p:Nat)(k:Int)(v:Value)(s' :aq):Prop:=
 v= .tuple #[.int .i64 (if 1<=k/\k<=7 then jJ (kU l p k) else 0),.bool (decide (1<=k/\k<=7/\k<=(l.length-p:Nat)))]/\ji base s' i l (if 1<=k/\k<=7/\k<=(l.length-p:Nat) then p+k.toNat else p)/\aY (fO i) s s'
def Iy (base:Nat)(s:aq)(i:Nat)(b:Value)(l:List UInt8)(p:Nat)(k:Int)(v:Value)(s' :aq):Prop:=
 v= .tuple #[.int .i64 (if 1<=k/\k<=7 then jJ (kU l p k) else 0),.bool (decide (1<=k/\k<=7/\k<=(l.length-p:Nat)))]/\KH base s' i b l (if 1<=k/\k<=7/\k<=(l.length-p:Nat) then p+k.toNat else p)/\aY (fO i) s s'
theorem acP {lib:az}(hl:lib.at 101=none)(bc:lib.at 148=none)(m9:lib.at 186=none)(kX:lib.at 209=none)(jS:lib.at 105=none)(UY:lib.at 36=none)(base:Nat)(s:aq)(i:Nat)(b:Value)(l:List UInt8)(p:Nat)(k:Int)(hc:KH base s i b l p)(hb:base<=s.next)(hlen:l.length<=4294967296):
  Runs Tryz.prog lib 101 [fO i,.int .i64 k] s (Iy base s i b l p k):=by
 refine Runs.enter 37 Tryz.func101 rfl hl rfl rfl ?_
 intro f hn hf
 have h0:f.get 0=fO i:=hf 0
 have h1:f.get 1= .int .i64 k:=hf 1
 clear hf
 have fail:∀(f:aT),f.n=37->f.get 4= .int .i64 0->f.get 5= .bool false->¬(1<=k/\k<=7)->WE Tryz.prog (Tryz.f101).results.toList (Iy base s i b l p k) .ret f s:=by
  intro f hn h4 h5 hk
  simp only[aj,al,oneOf,QS,↓reduceIte,hn,h4,h5,Tryz.results101]
  unfold Iy
  rw[if_neg hk,if_neg (fun h=>hk ⟨h.1,h.2.1⟩),decide_eq_false (fun h=>hk ⟨h.1,h.2.1⟩)]
  exact⟨rfl,hc,Nat.le_refl _,fun _ _ _=>rfl⟩
 by_cases c1:k<1
 ·simp-implicitDefEqProofs(disch:=omega)only[aj,ak,QS,WP,↓reduceIte,hn,h1,c1]
  exact fail _ (by simp only[ag,hn]) (by simp only[aa,↓reduceIte,WP]) (by simp only[aa,↓reduceIte]) (by omega)
 ·by_cases c2:7<k
  ·simp-implicitDefEqProofs(disch:=omega)only[aj,ak,QS,WP,↓reduceIte,hn,h1,c1,c2]
   exact fail _ (by simp only[ag,hn]) (by simp only[aa,↓reduceIte,WP]) (by simp only[aa,↓reduceIte]) (by omega)
  ·simp-implicitDefEqProofs(disch:=omega)only[aj,ak,ad,QS,WP,↓reduceIte,hn,h0,h1,c1,c2]
   refine(YX bc m9 kX jS UY base s i b l p k hc hb hlen).mono ?_
   rintro _ s1 ⟨B,rfl,hB,hBF,iT,eO⟩
   obtain⟨L,hL⟩:∃L,L=kU l p k:=⟨_,rfl⟩
   have hL7:L.length<=7:=by rw[hL];unfold kU;split<;>simp;omega
   rw[<-hL] at hB
   simp-implicitDefEqProofs(disch:=omega)only[aj,ad,QS,WP,↓reduceIte,hn,ba,List.getElem?_toArray,List.getElem?_cons_zero,List.getElem?_cons_succ,hB.aG.bh Tryz.underlying22]
   refine Comes.eU (fun q f s' =>∃j:Nat,q=L.length-j/\j<=L.length/\f.n=37/\f.get 7= .bool (decide (0<=k/\k<=(l.length-p:Nat)))/\f.get 8= .int .i64 (jJ (L.take j))/\f.get 23=B/\f.get 24= .int .i64 L.length/\f.get 25= .int .i64 j/\s' =s1) ⟨0,rfl,by omega,by simp only[ag,hn],by simp only[aa,↓reduceIte,WP],by simp only[aa,↓reduceIte,WP];rfl,by simp only[aa,↓reduceIte,WP],by simp only[aa,↓reduceIte,WP],by simp only[aa,↓reduceIte];rfl,rfl⟩ ?_
   clear hn h0 h1 f
   rintro q f s1 ⟨j,rfl,hj,hn,h7,h8,WV,h24,h25,rfl⟩
   by_cases c:j<L.length
   ·have lP:jJ (L.take j)<4503599627370496:=JM (by rw[List.length_take];omega)
    have hb8:=(L.getD j 0).toNat_lt
    have lN:jJ (L.take j)*256+(L.getD j 0).toNat=jJ (L.take (j+1)):=by rw[pw c,uP]
    simp-implicitDefEqProofs(disch:=omega)only[aj,QS,WP,↓reduceIte,hn,h8,WV,h24,h25,c,T0,aB,hB.aG.indexAddr Tryz.underlying22 bL,hB.aG.dJ mB,bG,bR Tryz.underlying5 Tryz.underlying3,jB,XB,lN]
    refine au (L.length-(j+1)) (by omega) ⟨j+1,rfl,by omega,by simp only[ag,hn],by simp only[aa,↓reduceIte,WP,h7],by simp only[aa,↓reduceIte,WP],by simp only[aa,↓reduceIte,WP,WV],by simp only[aa,↓reduceIte,WP,h24],by simp only[aa,↓reduceIte];rfl,rfl⟩
   ·simp-implicitDefEqProofs(disch:=omega)only[aj,al,oneOf,QS,WP,↓reduceIte,hn,h7,h8,h24,h25,c,Tryz.results101]
    rw[List.take_of_length_le (by omega)]
    have e1:(0<=k/\k<=(l.length-p:Nat))↔(1<=k/\k<=7/\k<=(l.length-p:Nat)):=by omega
    refine⟨?_,?_,eO⟩
    ·rw[if_pos (by omega),hL,decide_eq_decide.mpr e1]
    ·simp only[e1] at iT;exact iT
theorem Le {lib:az}(hl:lib.at 101=none)(bc:lib.at 148=none)(m9:lib.at 186=none)(kX:lib.at 209=none)(jS:lib.at 105=none)(UY:lib.at 36=none)(base:Nat)(s:aq)(i:Nat)(l:List UInt8)(p:Nat)(k:Int)(hc:ji base s i l p)(hb:base<=s.next)(hlen:l.length<=4294967296):
  Runs Tryz.prog lib 101 [fO i,.int .i64 k] s (acO base s i l p k):=by
 obtain⟨b,hc⟩:=hc
 refine(acP hl bc m9 kX jS UY base s i b l p k hc hb hlen).mono ?_
 rintro v s' ⟨h1,h2,h3⟩
 exact⟨h1,⟨b,h2⟩,h3⟩
end Go.Proofs.YtdfjfncifneocaaGreat
set_option linter.unusedSimpArgs false
set_option linter.unusedVariables false
set_option maxRecDepth 100000
namespace Go.Proofs.YtdfjfncifneocaaGreat
open Go.Cl Go.Cl.Rw Go.Cl.Sto Go.Cl.Fx Go.Cl.Nf Go.Cl.Bt
theorem V9 (n:Nat):((n:Int)).tmod 31=((n%31:Nat):Int):=by rw[Int.tmod_eq_emod_of_nonneg (by omega)];omega
theorem YY {D:List UInt8}(h:2<=D.length):jJ (kU D 0 2)=(D.getD 0 0).toNat*256+(D.getD 1 0).toNat:=by
 match D,h with
 |a::b::r,_=>
  have:kU (a::b::r) 0 2=[a,b]:=by
   unfold kU
   rw[if_pos (by simp only[List.length_cons];omega)]
   rfl
  rw[this]
  simp[jJ]
theorem agS {s:aq}{x:Value}{D:List UInt8}(hx:aN s 1 x D.length (ofBytes D))(h:2<=D.length):aN s 1 (eB 1 x 2 D.length) (D.drop 2).length (ofBytes (D.drop 2)):=by
 have k:=hx.sx (lo:=2) (hi:=D.length) h (Nat.le_refl _)
 rw[List.take_of_length_le (by rw[List.length_drop];exact Nat.le_refl _)] at k
 exact k
theorem alg:NH eC:=by
 have h:(nfp.all fun g=>(eC.at g).isNone)=true:=by rfl
 intro g hg
 have:=List.all_eq_true.1 h g (by simpa using hg)
 exact Option.isNone_iff_eq_none.1 this
end Go.Proofs.YtdfjfncifneocaaGreat
set_option linter.unusedSimpArgs false
set_option linter.unusedVariables false
set_option maxRecDepth 100000
namespace Go.Cl.Lz
theorem Wa (b:List UInt8)(most:Nat):∀(k p:Nat) (T:List (List UInt8)) (L out:List UInt8),out.length<=most->(dec b most k p T L out).2.length<=most:=by
 intro k
 induction k with
 |zero=>intro p T L out h;simpa [dec] using h
 |succ k ih=>
  intro p T L out h
  rw[dec]
  split
  ·simp
  ·split
   ·exact h
   ·split
    ·exact ih _ _ _ _ h
    ·split
     ·simp
     ·split
      ·simp
      ·exact ih _ _ _ _ (by rw[List.length_append];omega)
theorem NZ (b:List UInt8)(most:Nat):(sP b most).2.length<=most:=Wa b most _ _ _ _ _ (Nat.zero_le _)
end Go.Cl.Lz
namespace Go.Cl.Ch
open Go.Cl.Pr Go.Cl.Hx Go.Cl.B85
def fuelZ:Nat:=2000000
theorem Lf:fuelZ=2000000:=rfl
attribute [irreducible] fuelZ
def agT:Except Nat (Nat×List UInt8)->List UInt8×Int
 | .ok r=>(r.2,0)
 | .error e=>([],((e:Nat):Int))
def P7 (b:List UInt8)(most:Int):List UInt8×Int:=agT (Nf.qX (8*b.length+fuelZ) b most.toNat)
def SO (b:List UInt8)(most:Int):List UInt8×Int:=((Lz.sP b most.toNat).2,(((Lz.sP b most.toNat).1:Nat):Int))
def jM (l:Lk)(r:List UInt8×Int):List UInt8×Int:=if r.2≠0 then([],r.2) else qT l.p l.co l.cl r.1
def oR (m:Int):Int:=if m<0 then 0 else m
theorem Wb (b:List UInt8)(most:Int):(P7 b most).1.length<=most.toNat:=by
 unfold P7
 cases h:Nf.qX (8*b.length+fuelZ) b most.toNat with
 |error e=>simp[agT]
 |ok r=>obtain⟨n,P⟩:=r;exact Nf.V7 h
theorem Wc (b:List UInt8)(most:Int):(SO b most).1.length<=most.toNat:=Lz.NZ b _
end Go.Cl.Ch
namespace Go.Proofs.YtdfjfncifneocaaGreat
open Go.Cl Go.Cl.Pr Go.Cl.Ch Go.Cl.Hx Go.Cl.B85 Go.Cl.Uh
def eY (l:Lk)(b:List UInt8)(most:Int):List UInt8×Int:=
 if l.name=gC then jM l (P7 b most) else if l.name=yq then jM l (SO b most)
 else if l.name=sM then EJ (oR most) b (-1) [] else if l.name=Kq then rB (oR most) b [] []
 else Runs.dec most b []
theorem sX.YZ {s s' :aq}{l:List UInt8}{bad:Int}{v:Value}(h:sX s.next s l bad v s'):uf s (l,bad) v s' :=by
 obtain⟨B,rfl,h1,h2,h3⟩:=h
 exact⟨B,rfl,⟨h1,h2,h3⟩⟩
end Go.Proofs.YtdfjfncifneocaaGreat
namespace Go.Cl.Jn
open Go.Cl.Sto
end Go.Cl.Jn
namespace Go.Cl.Nf
open Go.Cl.Sto Go.Cl.Fx Go.Cl.Rw Go.Cl.Jn
theorem P8 {D:List UInt8}{C:List Nat}{p w q:Nat}(oU:w<=15)(hD:p+w<=8*D.length)(hq:q<C.length)(hw:C.getD q 0=w)(hc:fst C w+(C.take q).count w=hi D p w)(RT:∀k,1<=k->k<w->¬xe D C p k):∀m n,n+m+1=w->As D C p (15-n) n= .ok (q,p+w)
 |0,n,h=>by
  obtain⟨h1,h2⟩:=VN (D:=D) (p:=p) hq hw hc
  rw[show 15-n=(15-(n+1))+1 by omega]
  unfold As
  rw[show n+1=w by omega,if_pos hD,if_pos h1,h2]
 |m+1,n,h=>by
  rw[show 15-n=(15-(n+1))+1 by omega]
  unfold As
  rw[if_pos (by omega),if_neg (RT (n+1) (by omega) (by omega))]
  exact P8 oU hD hq hw hc RT m (n+1) (by omega)
theorem Wd {D:List UInt8}{C:List Nat}{p w q:Nat}(h1:1<=w)(oU:w<=15)(hD:p+w<=8*D.length)(hq:q<C.length)(hw:C.getD q 0=w)(hc:fst C w+(C.take q).count w=hi D p w)(RT:∀k,1<=k->k<w->¬xe D C p k):sym D C p= .ok (q,p+w):=
 P8 oU hD hq hw hc RT (w-1) 0 (by omega)
theorem uq:dM.length=288:=by simp[dM]
theorem GU {s:Nat}(h:s<288):dM.getD s 0=(gB s).2:=by simp[dM,List.getD_eq_getElem?_getD,List.getElem?_map,List.getElem?_range h]
def Iz:Nat->Bool
 |0=>true
 |s+1=>decide (fst dM (gB s).2+(dM.take s).count (gB s).2=(gB s).1)&&Iz s
theorem DF:∀{m:Nat},Iz m=true->∀s,s<m->fst dM (gB s).2+(dM.take s).count (gB s).2=(gB s).1
 |m+1,h,s,hs=>by
  simp only[Iz,Bool.and_eq_true,decide_eq_true_eq] at h
  by_cases e:s=m
  ·subst e;exact h.1
  ·exact DF h.2 s (by omega)
set_option maxRecDepth 100000 in
theorem DG {s:Nat}(h:s<288):fst dM (gB s).2+(dM.take s).count (gB s).2=(gB s).1:=DF (m:=288) (by decide+kernel) s h
theorem GV {i:Nat}(h:i<32):fD.getD i 0=5:=by
 have key:∀i,i<32->fD.getD i 0=5:=by decide
 exact key i h
theorem Lg {i:Nat}(h:i<32):fst fD 5+(fD.take i).count 5=i:=by
 have key:∀i,i<32->fst fD 5+(fD.take i).count 5=i:=by decide+kernel
 exact key i h
theorem DH {p:List UInt8×Nat}(h:mK p){s:Nat}(hs:s<288){D:List UInt8}{nb:Nat}(hD:Pre (iW p s) (D,nb))(Eh:nb<=8*D.length):sym D dM p.2= .ok (s,(iW p s).2):=by
 have hc:=YK hs
 have hw:=wA s
 have hle:(iW p s).2<=nb:=hD.le
 rw[pB] at hle|-
 have e:=vh h (gB s).1 (gB s).2 hD (Nat.le_refl _)
 rw[Nat.sub_self,Nat.pow_zero,Nat.div_one,Nat.mod_eq_of_lt hc] at e
 refine Wd (by omega) (by omega) (by omega) (by rw[uq];exact hs) (GU hs) (by rw[DG hs,e]) (fun k h1 hk RB=> ?_)
 obtain⟨k1,k2,k3⟩:=It RB
 rw[uq] at k1
 rw[GU k1] at k2
 have k4:=DG k1
 rw[k2,k3,vh h (gB s).1 (gB s).2 hD (Nat.le_of_lt hk)] at k4
 have:=VH hs k1 (Nat.le_of_lt hk) k2 k4.symm
 rw[this] at k2
 omega
theorem Y0 {p:List UInt8×Nat}(h:mK p){q:Nat}(hq:q<32){D:List UInt8}{nb:Nat}(hD:Pre (gH p q 5) (D,nb))(Eh:nb<=8*D.length):sym D fD p.2= .ok (q,p.2+5):=by
 have hle:(gH p q 5).2<=nb:=hD.le
 rw[kH] at hle
 have e5:hi D p.2 5=q:=by
  rw[vh h q 5 hD (Nat.le_refl _)]
  simp
  omega
 refine Wd (by omega) (by omega) (by omega) (by have:fD.length=32:=rfl;omega) (GV hq) (by rw[Lg hq,e5]) (fun k h1 hk RB=> ?_)
 obtain⟨k1,k2,-⟩:=It RB
 rw[GV k1] at k2
 omega
theorem Lh {l:List UInt8}{a:Nat}(h:a<l.length):l.take (a+1)=l.take a++[l.getD a 0]:=by
 rw[List.take_add_one,List.getElem?_eq_getElem h,List.getD_eq_getElem?_getD,List.getElem?_eq_getElem h];rfl
theorem Li {l:List UInt8}{M d:Nat}(hM:l.length<=M)(tT:1<=d):∀m a,(∀i,i<m->l.getD (a+i-d) 0=l.getD (a+i) 0)->a+m<=l.length->d<=a->rep M d m (l.take a)= .ok (l.take (a+m))
 |0,a,_,_,_=>rfl
 |m+1,a,h,ha,hd=>by
  have hl:(l.take a).length=a:=by rw[List.length_take];omega
  have h0:=h 0 (by omega)
  rw[Nat.add_zero] at h0
  unfold rep
  rw[hl,if_neg (by omega)]
  have e:(l.take a).getD (a-d) 0=l.getD a 0:=by
   rw[<-h0,List.getD_eq_getElem?_getD,List.getElem?_take_of_lt (by omega),List.getD_eq_getElem?_getD]
  rw[e,<-Lh (by omega),Li hM tT m (a+1) (fun i hi=>by
   have:=h (i+1) (by omega)
   rw[show a+1+i=a+(i+1) by omega];exact this) (by omega) (by omega),show a+1+m=a+(m+1) by omega]
theorem Sk {l:List UInt8}{M a n d:Nat}(hM:l.length<=M)(h3:3<=n)(hn:n<=258)(tT:1<=d)(hd:d<=64)(Ee:d<=a)(R1:a+n<=l.length)(Y1:∀i,i<n->l.getD (a+i-d) 0=l.getD (a+i) 0){p:List UInt8×Nat}(h:mK p){D:List UInt8}{nb:Nat}(hD:Pre (lU p n d) (D,nb))(Eh:nb<=8*D.length):
  sym D dM p.2= .ok ((ch n).1,(iW p (ch n).1).2)/\257<=(ch n).1/\kn D M fD (ch n).1 (iW p (ch n).1).2 (l.take a)= .ok ((lU p n d).2,l.take (a+n)):=by
 have Ub:=yg h3 hn
 have alh:=CG tT hd
 have lj:=VI h3 hn
 have hdb:=VJ tT hd
 obtain⟨f1,g1⟩:=pR h (ch n).1
 obtain⟨f2,g2⟩:=tA f1 (ch n).2.1 (ch n).2.2
 obtain⟨f3,g3,-⟩:=kT (n:=(dS d).1) 5 f2
 obtain⟨f4,g4⟩:=tA f3 (dS d).2.1 (dS d).2.2
 have hPS:Pre (gE (gH (gE (iW p (ch n).1) (ch n).2.1 (ch n).2.2) (dS d).1 5) (dS d).2.1 (dS d).2.2) (D,nb):=hD
 have P3:=g4.trans hPS
 have P2:=g3.trans P3
 have P1:=g2.trans P2
 have z2:(gE (iW p (ch n).1) (ch n).2.1 (ch n).2.2).2<=nb:=P2.le
 have z4:(gE (gH (gE (iW p (ch n).1) (ch n).2.1 (ch n).2.2) (dS d).1 5) (dS d).2.1 (dS d).2.2).2<=nb:=hPS.le
 have y2:(gE (iW p (ch n).1) (ch n).2.1 (ch n).2.2).2=(iW p (ch n).1).2+(ch n).2.2:=sF ..
 have y3:(gH (gE (iW p (ch n).1) (ch n).2.1 (ch n).2.2) (dS d).1 5).2=(gE (iW p (ch n).1) (ch n).2.1 (ch n).2.2).2+5:=kH ..
 have y4:(gE (gH (gE (iW p (ch n).1) (ch n).2.1 (ch n).2.2) (dS d).1 5) (dS d).2.1 (dS d).2.2).2=(gH (gE (iW p (ch n).1) (ch n).2.1 (ch n).2.2) (dS d).1 5).2+(dS d).2.2:=sF ..
 have x1:=GK f1 (ch n).2.1 (ch n).2.2 P2
 have x2:=GK f3 (dS d).2.1 (dS d).2.2 hPS
 rw[Nat.mod_eq_of_lt Ub.2.2.2] at x1
 rw[Nat.mod_eq_of_lt alh.2.2.2] at x2
 have hl:(l.take a).length=a:=by rw[List.length_take];omega
 refine⟨DH h (by omega) P1 Eh,Ub.2.1,?_⟩
 have s2:=Y0 f2 (q:=(dS d).1) (by omega) P3 Eh
 unfold kn
 rw[if_neg (by omega),lj.2,dW (by omega),x1]
 dsimp only
 rw[<-y2,s2]
 dsimp only
 rw[if_neg (by omega),hdb.2,<-y3,dW (by omega),x2]
 dsimp only
 rw[hdb.1,lj.1,hl,if_neg (by omega),Li hM tT n a Y1 R1 Ee]
 dsimp only
 rw[<-y4]
 rfl
theorem DI {l:List UInt8}{M:Nat}(hM:l.length<=M){D:List UInt8}{nb:Nat}(hD:Pre (rk l) (D,nb))(Eh:nb<=8*D.length):∀(k a:Nat) (p:List UInt8×Nat),l.length<a+k->a<=l.length->mK p->tG l a p=tG l 0 jK->fP D M dM fD k p.2 (l.take a)= .ok ((rk l).2,l)
 |0,a,p,h,ha,_,_=>by omega
 |k+1,a,p,h,ha,hp,Ga=>by
  have H8:rk l=iW (tG l 0 jK) 256:=AB l
  unfold fP
  by_cases bc:a<l.length
  rotate_left
  ·obtain rfl:a=l.length:=by omega
   rw[pC l p (Nat.le_refl _)] at Ga
   have ali:Pre (iW p 256) (D,nb):=by rw[Ga,<-H8];exact hD
   rw[DH hp (by decide) ali Eh]
   dsimp only
   rw[if_pos rfl,List.take_length,H8,Ga]
  have hgt:=pA l a
  have hle:=CH l bc
  rw[tj l p bc] at Ga
  obtain⟨hpS,aqg⟩:=Dr l a hp
  obtain⟨hfA,agU⟩:=yG l l.length (iX l a) (iA l a p) (by omega) hpS
  rw[Ga] at hfA agU
  have hPS:Pre (iA l a p) (D,nb):=agU.trans (by rw[H8] at hD;exact(pR hfA 256).2.trans hD)
  have ih:=DI hM hD Eh k (iX l a) (iA l a p) (by omega) hle hpS Ga
  by_cases c3:(cS l a (nL a)).1<3
  ·have eA:iX l a=a+1:=by unfold iX;rw[if_pos c3]
   have eP:iA l a p=iW p (l.getD a 0).toNat:=by unfold iA;rw[if_pos c3]
   rw[eP] at hPS ih
   rw[eA] at ih
   have hc:=(l.getD a 0).toNat_lt
   have hl:(l.take a).length=a:=by rw[List.length_take];omega
   rw[DH hp (by omega) hPS Eh]
   dsimp only
   rw[if_neg (by omega),if_pos (by omega),hl,if_neg (by omega),show UInt8.ofNat (l.getD a 0).toNat=l.getD a 0 from UInt8.ofNat_toNat,<-Lh bc]
   exact ih
  ·have Ud:=CI c3
   have eA:iX l a=a+(cS l a (nL a)).1:=by unfold iX;rw[if_neg c3]
   have eP:iA l a p=lU p (cS l a (nL a)).1 (cS l a (nL a)).2:=by unfold iA;rw[if_neg c3]
   rw[eA] at hle ih
   rw[eP] at hPS ih
   have Y1:=abp l a (cS l a (nL a)).2
   rw[<-Ud.2.2.2.2.2] at Y1
   obtain⟨s1,s2,s3⟩:=Sk hM Ud.1 Ud.2.1 Ud.2.2.1 Ud.2.2.2.1 Ud.2.2.2.2.1 hle Y1 hp hPS Eh
   rw[s1]
   dsimp only
   rw[if_neg (by omega),if_neg (by omega),s3]
   exact ih
theorem N0 {l T:List UInt8}{i:Nat}(h:i<8*l.length):bit (l++T) i=bit l i:=YM l T h
theorem DJ (l T:List UInt8):Pre (rk l) (fixed l++T,8*(fixed l++T).length):=by
 have h:=(HV l).1.1
 have h:(rk l).2<=8*(fixed l).length:=h
 refine⟨by show(rk l).2<=8*(fixed l++T).length;rw[List.length_append];omega,fun i hi=> ?_⟩
 exact N0 (by omega)
theorem GW (l:List UInt8):Pre jK (rk l):=by
 rw[AB]
 obtain⟨h1,h2⟩:=yG l l.length 0 jK (by omega) Ds
 exact h2.trans (pR h1 256).2
theorem DK (l T:List UInt8):bM (fixed l++T) 0 1=1/\bM (fixed l++T) 1 2=1:=by
 have h:=(GW l).trans (DJ l T)
 have b0:=h.bits 0 (by decide)
 have b1:=h.bits 1 (by decide)
 have b2:=h.bits 2 (by decide)
 have c0:bit jK.1 0=1:=by decide
 have c1:bit jK.1 1=1:=by decide
 have c2:bit jK.1 2=0:=by decide
 rw[c0] at b0
 rw[c1] at b1
 rw[c2] at b2
 have b0:bit (fixed l++T) 0=1:=b0
 have b1:bit (fixed l++T) 1=1:=b1
 have b2:bit (fixed l++T) 2=0:=b2
 constructor
 ·simp only[bM,Nat.add_zero];rw[b0]
 ·simp only[bM,Nat.add_zero];rw[b1,show 1+1=2 from rfl,b2]
theorem N1 (l:List UInt8):((rk l).2+7)/8=(fixed l).length:=by
 have h:=(HV l).1
 have h1:(rk l).2<=8*(fixed l).length:=h.1
 have h2:8*(fixed l).length<(rk l).2+8:=h.2
 omega
theorem N2 (N:Nat)(l T:List UInt8){M:Nat}(hM:l.length<=M)(hN:l.length+1<=N):qW N (fixed l++T) M= .ok ((rk l).2,l):=by
 obtain⟨k,rfl⟩:∃k,N=k+1:=⟨N-1,by omega⟩
 have fU:=DJ l T
 have h3:jK.2=3:=wB.2
 have hle:jK.2<=8*(fixed l++T).length:=((GW l).trans fU).le
 obtain⟨b1,b2⟩:=DK l T
 have hc:=DI hM fU (Nat.le_refl _) (k+1) 0 jK (by omega) (by omega) Ds rfl
 rw[List.take_zero,h3] at hc
 have hb:eH (k+1) (fixed l++T) M 0 []= .ok (1,(rk l).2,l):=by
  unfold eH
  rw[dW (by omega),b1]
  dsimp only
  rw[Nat.zero_add,dW (by omega),b2]
  dsimp only
  unfold gN
  rw[if_neg (by decide),if_pos rfl,hc]
 unfold qW fw
 rw[hb]
 dsimp only
 rw[if_pos rfl]
theorem mU {D X:List UInt8}{a:Nat}(h:D.drop a=X)(j:Nat):D.getD (a+j) 0=X.getD j 0:=by
 rw[List.getD_eq_getElem?_getD,<-List.getElem?_drop,h,List.getD_eq_getElem?_getD]
theorem GX {D T:List UInt8}{M:Nat}:∀(x:List UInt8) (a:Nat) (P:List UInt8),D.drop a=x++T->P.length+x.length<=M->oQ D M x.length a P= .ok (8*(a+x.length),P++x)
 |[],a,P,_,_=>by simp[oQ]
 |c::x,a,P,h,hM=>by
  have ha:a<D.length:=by
   have:=congrArg List.length h
   simp at this;omega
  have e:D.getD a 0=c:=by have:=mU h 0;rw[Nat.add_zero] at this;rw[this];rfl
  have hd:D.drop (a+1)=x++T:=by rw[<-List.drop_drop,h];rfl
  rw[List.length_cons] at hM|-
  unfold oQ
  rw[if_pos ha,if_neg (by omega),e,GX x (a+1) (P++[c]) hd (by rw[List.length_append,List.length_singleton];omega),List.append_assoc,show a+1+x.length=a+(x.length+1) by omega]
  rfl
theorem GY (N:Nat){D x T:List UInt8}{M a last:Nat}{P:List UInt8}(h:D.drop a=F5 x.length last++(x++T))(hl:last<2)(hx:x.length<=65535)(hM:P.length+x.length<=M):eH N D M (8*a) P= .ok (last,8*(a+5+x.length),P++x):=by
 have d0:=mU h 0
 have d1:=mU h 1
 have d2:=mU h 2
 have d3:=mU h 3
 have d4:=mU h 4
 rw[Nat.add_zero] at d0
 have e0:D.getD a 0=UInt8.ofNat last:=d0
 have e1:D.getD (a+1) 0=UInt8.ofNat x.length:=d1
 have e2:D.getD (a+1+1) 0=UInt8.ofNat (x.length/256):=d2
 have e3:D.getD (a+1+2) 0=UInt8.ofNat (255-x.length%256):=d3
 have e4:D.getD (a+1+2+1) 0=UInt8.ofNat (255-x.length/256%256):=d4
 have hlen:a+5+x.length<=D.length:=by
  have:=congrArg List.length h
  rw[List.length_drop,List.length_append,List.length_append,ia] at this
  omega
 have b1v:bM D (8*a) 1=last:=by rw[aeY,e0,UInt8.toNat_ofNat'];omega
 have b2v:bM D (8*a+1) 2=0:=by rw[aeZ,e0,UInt8.toNat_ofNat'];omega
 have hd5:D.drop (a+1+4)=x++T:=by rw[show a+1+4=a+5 by omega,<-List.drop_drop,h];rfl
 have ha:(8*a+1+2+7)/8=a+1:=by omega
 have n1:bM D (8*(a+1)) 16=x.length:=by
  rw[T6,e1,e2,UInt8.toNat_ofNat',UInt8.toNat_ofNat'];omega
 have n2:bM D (8*(a+1)+16) 16=65535-x.length:=by
  rw[show 8*(a+1)+16=8*(a+1+2) by omega,T6,e3,e4,UInt8.toNat_ofNat',UInt8.toNat_ofNat'];omega
 have hs:=GX x (a+1+4) P hd5 hM
 unfold eH
 rw[dW (by omega),b1v]
 dsimp only
 rw[dW (by omega),b2v]
 dsimp only
 unfold gN
 rw[if_pos rfl]
 unfold gM
 rw[show 8*a+3=8*a+1+2 by omega,ha,if_pos (by omega),n1,n2,if_pos (by omega),hs]
theorem DL (N:Nat){D T:List UInt8}{M:Nat}:∀(k:Nat) (l:List UInt8) (a:Nat) (P:List UInt8),D.drop a=yf l++T->l.length<k->P.length+l.length<=M->fw N D M k (8*a) P= .ok (8*(a+(yf l).length),P++l)
 |0,l,a,P,_,h,_=>by omega
 |k+1,l,a,P,hD,h,hM=>by
  unfold fw
  by_cases c:l.length<=65535
  ·rw[sD c] at hD|-
   rw[List.append_assoc] at hD
   rw[GY N hD (by omega) c hM]
   dsimp only
   rw[if_pos rfl,List.length_append,ia]
   rw[show a+5+l.length=a+(5+l.length) by omega]
  ·rw[wz c] at hD
   have hl:(l.take 65535).length=65535:=by rw[List.length_take];omega
   have hD2:D.drop a=F5 (l.take 65535).length 0++(l.take 65535++(yf (l.drop 65535)++T)):=by
    rw[hD,hl];simp only[List.append_assoc]
   rw[GY N hD2 (by omega) (by omega) (by omega)]
   dsimp only
   rw[if_neg (by decide),hl]
   have UZ:D.drop (a+5+65535)=yf (l.drop 65535)++T:=by
    rw[<-List.drop_drop,<-List.drop_drop,hD2]
    show(((l.take 65535)++(yf (l.drop 65535)++T))).drop 65535=_
    rw[List.drop_append_of_le_length (by omega),List.drop_of_length_le (by omega),List.nil_append]
   rw[DL N k (l.drop 65535) (a+5+65535) (P++l.take 65535) UZ (by rw[List.length_drop];omega) (by rw[List.length_append,hl,List.length_drop];omega),List.append_assoc,List.take_append_drop,wz c]
   rw[List.length_append,List.length_append,ia,hl]
   rw[show a+5+65535+(yf (l.drop 65535)).length=a+(5+65535+(yf (l.drop 65535)).length) by omega]
theorem We (N:Nat)(l T:List UInt8){M:Nat}(hM:l.length<=M)(hN:l.length<N):qW N (yf l++T) M= .ok (8*(yf l).length,l):=by
 have:=DL N (D:=yf l++T) (T:=T) N l 0 [] rfl hN (by simpa using hM)
 rw[Nat.mul_zero,Nat.zero_add,List.nil_append] at this
 exact this
end Go.Cl.Nf
