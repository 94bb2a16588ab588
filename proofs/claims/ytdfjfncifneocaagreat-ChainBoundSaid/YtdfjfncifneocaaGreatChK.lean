import Derived.Test.YtdfjfncifneocaaGreatNfB
import Derived.Test.YtdfjfncifneocaaGreatB85P
import Derived.Test.YtdfjfncifneocaaGreatLzwU
import Derived.Test.YtdfjfncifneocaaGreatLzwS
import Derived.Test.YtdfjfncifneocaaGreatCosF
open Nat renaming reduceLT->QS,reduceEqDiff->WP
set_option linter.unusedSimpArgs false
set_option linter.unusedVariables false
set_option maxRecDepth 100000
namespace Go.Cl.Nf
open Go.Cl.Sto Go.Cl.Fx
theorem Lj {N:Nat}{D:List UInt8}{M p:Nat}{P:List UInt8}{a q:Nat}{P' :List UInt8}(h:eH N D M p P= .ok (a,q,P')):a=bM D p 1:=by
 unfold eH at h
 by_cases c:p+1<=8*D.length
 ·rw[dW c] at h
  dsimp only at h
  split at h
  ·cases h
  ·split at h
   ·cases h
   ·injection h with h;injection h with h _;exact h.symm
 ·rw[lF c] at h
  cases h
theorem Y2 (D:List UInt8)(h:D.getD 0 0=1):bM D 0 1=1/\bM D 1 2=0:=by
 rw[List.getD_eq_getElem?_getD] at h
 simp[bM,bit,h]
theorem Sl (l T:List UInt8)(hl:l.length<=65535):bM (jd l++T) 0 1=1/\bM (jd l++T) 1 2≠2:=by
 unfold jd
 split
 ·have h:=Y2 (yf l++T) (by rw[sD hl];rfl)
  exact⟨h.1,by rw[h.2];decide⟩
 ·have h:=DK l T
  exact⟨h.1,by rw[h.2];decide⟩
end Go.Cl.Nf
namespace Go.Proofs.YtdfjfncifneocaaGreat
open Go.Cl Go.Cl.Rw Go.Cl.Sto Go.Cl.Fx Go.Cl.Nf Go.Cl.Bt
set_option maxHeartbeats 16000000 in
theorem N3 {lib:az}(hL:NH lib)(base:Nat)(s:aq)(jr jx ic:Nat)(D P:List UInt8)(p m N:Nat)(M:Int)(hM:m=M.toNat)(o:Value)(h:Rs base s jr jx ic D p P M o)(hb:base<=s.next)(hlen:D.length<=1000000)(mv:bM D (p+1) 2≠2)(NT:P.length<=m)(hm:m<=100000000)(hN:8*D.length+1<N):
  Runs Tryz.prog lib 150 [ry jr] s fun v s' =>ald base jr jx ic D M o s v s' (eH N D m p P):=by
 have bc:=h.bit.lt
 have ala:=h.t.lt
 have EW:∀i,aE o=some i->i<s.next:=fun i hi=>h.own.g8 i hi
 have dG:∀o' t,tB jr jx ic o s o' t->ar base s t:=fun o' t k=>k.stay h.lr bc.2.2.1 bc.2.2.2.1 h.fresh hb
 refine Runs.enter 65 Tryz.func150 rfl (hL _ rfl) rfl rfl ?_
 intro f hn hf
 have h0:f.get 0=ry jr:=hf 0
 clear hf
 have r0:=h.t.load (P:=Tryz.prog) jw (off:=0) (c:=4) rfl (by simp)
 have ne2:¬(2:Int)=0:=by decide
 rw[acw]
 simp-implicitDefEqProofs(disch:=omega)only[aj,ak,ad,QS,WP,↓reduceIte,hn,h0,pS,r0]
 refine(nF hL base s jx ic D p 1 h.bit hb (by omega) hlen).mono ?_
 intro v s1 hN1
 by_cases c1:p+1<=8*D.length
 rotate_left
 ·rw[lF c1] at hN1
  rw[xi c1,R8,mT]
  obtain⟨-,rfl,eX⟩:=hN1
  simp-implicitDefEqProofs(disch:=omega)only[aj,ak,al,oneOf,QS,WP,↓reduceIte,hn,dy,dz,eq_false ne2,Tryz.results150]
  exact⟨by decide,⟨_,rfl⟩,dG _ _ (qD eX)⟩
 rw[dW c1] at hN1
 rw[xh c1,xg c1]
 obtain⟨rfl,Hv,Et⟩:=hN1
 have oV:=h.bits Hv Et
 have gu:base<=s1.next:=by have:=Et.next;omega
 have r0:=oV.t.load (P:=Tryz.prog) jw (off:=0) (c:=4) rfl (by simp)
 generalize bM D p 1=last
 simp-implicitDefEqProofs(disch:=omega)only[aj,ak,ad,QS,WP,↓reduceIte,hn,h0,dy,dz,pS,r0]
 refine(nF hL base s1 jx ic D (p+1) 2 Hv gu (by omega) hlen).mono ?_
 intro v s2 hN2
 by_cases c2:p+1+2<=8*D.length
 rotate_left
 ·rw[lF c2] at hN2
  rw[xi c2,mT]
  obtain⟨-,rfl,eX⟩:=hN2
  simp-implicitDefEqProofs(disch:=omega)only[aj,ak,al,oneOf,QS,WP,↓reduceIte,hn,dy,dz,eq_false ne2,Tryz.results150]
  exact⟨by decide,⟨_,rfl⟩,dG _ _ (qD (Et.trans eX))⟩
 rw[dW c2] at hN2
 rw[xh c2,xg c2,ko]
 obtain⟨rfl,WQ,AD⟩:=hN2
 have AD:=Et.trans AD
 have gR:=h.bits WQ AD
 have dB:base<=s2.next:=by have:=AD.next;omega
 have k2:tB jr jx ic o s o s2:=qD AD
 have st2:=dG _ _ k2
 have n2:=AD.next
 have aqj:p+1+2<=8*D.length:=WQ.le
 generalize bM D (p+1) 2=kind at mv|-
 obtain⟨B,hB⟩:∃B,B=gN N D m kind (p+1+2) P:=⟨_,rfl⟩
 rw[<-hB]
 simp-implicitDefEqProofs(disch:=omega)only[aj,ak,QS,WP,↓reduceIte,hn,dy,dz]
 refine VT (fun f' t' =>f'.n=65/\f'.get 4= .int .i64 (last:Nat)/\∃v,f'.get 5=v/\Iv base jr jx ic D M o s v t' B) ?_ ?_
 rotate_left
 ·clear hn h0 f
  rintro f t ⟨hn,h4,v,h5,hO⟩
  cases B with
  |error e=>
   obtain⟨he,rfl,aD⟩:=hO
   simp-implicitDefEqProofs(disch:=omega)only[aj,al,oneOf,QS,WP,↓reduceIte,hn,h4,h5,Tryz.results150]
   rw[mT]
   exact⟨he,⟨_,rfl⟩,aD⟩
  |ok y=>
   obtain⟨q,P'⟩:=y
   obtain⟨rfl,o',hR,eX⟩:=hO
   simp-implicitDefEqProofs(disch:=omega)only[aj,al,oneOf,QS,WP,↓reduceIte,hn,h4,h5,Tryz.results150]
   rw[ko]
   exact⟨rfl,o',hR,eX⟩
 intro Q' Uc
 by_cases ck0:kind=0
 ·have d0:((kind:Nat):Int)=0:=by omega
  simp-implicitDefEqProofs(disch:=omega)only[aj,ak,ad,QS,WP,↓reduceIte,hn,h0,eq_true d0]
  refine(K9 hL base s2 jr jx ic D P (p+1+2) m M hM o gR dB hlen NT hm).mono ?_
  intro v t hO
  simp-implicitDefEqProofs(disch:=omega)only[aj,QS,↓reduceIte,hn]
  refine Uc _ _ ⟨by simp only[ag,hn],by simp only[aa,↓reduceIte,WP],v,by simp only[aa,↓reduceIte],?_⟩
  rw[hB]
  unfold gN
  rw[if_pos ck0]
  exact hO.from k2 st2
 have d0:¬((kind:Nat):Int)=0:=by omega
 by_cases ck1:kind=1
 ·have d1:((kind:Nat):Int)=1:=by omega
  simp-implicitDefEqProofs(disch:=omega)only[aj,ak,ad,QS,WP,↓reduceIte,hn,eq_false d0,eq_true d1]
  refine(NP hL s2).mono ?_
  rintro _ t ⟨sa,sb,rfl,hsa,WC,YO,YP,k3⟩
  have n3:=k3.next
  simp-implicitDefEqProofs(disch:=omega)only[aj,QS,WP,↓reduceIte,hn,dy,dz,zY,zZ]
  refine ax ?_
  intro t1 iT bm iY
  obtain⟨ja,hja⟩:∃j,j=t.next:=⟨_,rfl⟩
  rw[<-hja] at iT
  simp-implicitDefEqProofs(disch:=omega)only[aj,QS,Nat.reduceAdd,↓reduceIte,hn,<-hja,aw,zY,zZ]
  refine ax ?_
  intro t2 uD aU oN
  obtain⟨jb,PE⟩:∃j,j=t1.next:=⟨_,rfl⟩
  rw[<-PE] at uD
  simp-implicitDefEqProofs(disch:=omega)only[aj,QS,WP,Nat.reduceAdd,↓reduceIte,hn,<-PE,aw]
  refine aA dA (by decide) (iT.keeps aU) (aw _ _) rfl (aw _ _) (kp _ hsa.aG.aJ) ?_
  intro t3 xN mm ij
  have xN:av t3 ja (cj dM sa):=xN
  simp-implicitDefEqProofs(disch:=omega)only[aj,QS,WP,↓reduceIte,hn]
  refine aA dA (by decide) (uD.aI mm ij (by omega)) (aw _ _) rfl (aw _ _) (kp _ WC.aG.aJ) ?_
  intro t4 XA u0 ru
  have XA:av t4 jb (cj fD sb):=XA
  have Vx:=xN.aI u0 ru (by omega)
  have lca:=Vx.bu (P:=Tryz.prog) iI (by rw[aw];exact dA) (c:=18) (by rw[aw])
  have lcb:=XA.bu (P:=Tryz.prog) iI (by rw[aw];exact dA) (c:=18) (by rw[aw])
  have kk:ar s2.next s2 t4:=(((k3.trans (bm.weaken n3)).trans (aU.weaken (by omega))).trans (ar.aI mm ij (by omega))).trans (ar.aI u0 ru (by omega))
  have xD:=gR.keeps dB kk
  have k4:=k2.kept kk
  have fin:∀(y:Value) (K:List Nat),Own t 1 y (dd K 15).length (fZ (dd K 15))->aH s2.next y->NS jr jx ic o t4 (.agg (cj K y).toArray) K:=fun y K h1 h2=>by
   have h3:=(((h1.keeps bm).keeps aU).aI mm ij (fun e=>by have:=h1.g8 _ e;omega)).aI u0 ru (fun e=>by have:=h1.g8 _ e;omega)
   exact⟨y,rfl,⟨h3.aG,fun i hi=>⟨h3.g8 i hi,by have:=h2 i hi;omega,by have:=h2 i hi;omega⟩⟩,fun i hi=>⟨by have:=h2 i hi;omega,fun e=>by have:=EW i e;have:=h2 i hi;omega⟩⟩
  simp-implicitDefEqProofs(disch:=omega)only[aj,ak,ad,QS,WP,↓reduceIte,hn,h0,lca,lcb]
  refine(NW hL base t4 jr jx ic D P (p+1+2) m N M hM o xD (by have:=kk.next;omega) hlen NT hm (by omega) _ _ dM fD (fin sa _ hsa YO) (fin sb _ WC YP) (by rw[show dM.length=288 from zC];decide) (by decide)).mono ?_
  intro v t5 hO
  simp-implicitDefEqProofs(disch:=omega)only[aj,QS,↓reduceIte,hn]
  refine Uc _ _ ⟨by simp only[ag,hn],by simp only[aa,↓reduceIte,WP],v,by simp only[aa,↓reduceIte],?_⟩
  rw[hB]
  unfold gN
  rw[if_neg ck0,if_pos ck1]
  exact hO.from k4 (dG _ _ k4)
 have d1:¬((kind:Nat):Int)=1:=by omega
 by_cases ck2:kind=2
 rotate_left
 ·have d2:¬((kind:Nat):Int)=2:=by omega
  simp-implicitDefEqProofs(disch:=omega)only[aj,QS,WP,↓reduceIte,hn,eq_false d0,eq_false d1,eq_false d2]
  refine Uc _ _ ⟨by simp only[ag,hn],by simp only[aa,↓reduceIte,WP],_,by simp only[aa,↓reduceIte];rfl,?_⟩
  rw[hB]
  unfold gN
  rw[if_neg ck0,if_neg ck1,if_neg ck2]
  exact⟨by decide,rfl,st2⟩
 exact absurd ck2 mv
set_option maxHeartbeats 16000000 in
theorem Ll {lib:az}(hL:NH lib)(s:aq)(x:Value)(D:List UInt8)(N:Nat)(hx:aN s 1 x D.length (ofBytes D))(hlen:D.length<=1000000)(h0b:bM D 0 1=1)(mv:bM D 1 2≠2)(M:Int)(hM:M<=100000000)(hN:8*D.length+1<N):
  Runs Tryz.prog lib 102 [x,.int .i64 M] s fun v s' =>agw s v s' (qW N D M.toNat):=by
 obtain⟨m,hm⟩:∃m,m=M.toNat:=⟨_,rfl⟩
 rw[<-hm]
 refine Runs.enter 36 Tryz.func102 rfl (hL _ rfl) rfl rfl ?_
 intro f hn hf
 have h0:f.get 0=x:=hf 0
 have h1:f.get 1= .int .i64 M:=hf 1
 clear hf
 simp-implicitDefEqProofs(disch:=omega)only[aj,ak,ad,QS,WP,↓reduceIte,hn,h0]
 refine(VE (hL _ rfl) (hL _ rfl) s.next s x D hx.low (Nat.le_refl _)).mono ?_
 rintro _ s1 ⟨jx,ic,rfl,hB,k1⟩
 have bc:=hB.lt
 have n1:=k1.next
 simp-implicitDefEqProofs(disch:=omega)only[aj,ae,QS,WP,↓reduceIte,hn,h1,YV]
 refine ax ?_
 intro s2 gr aU oN
 obtain⟨jr,hjr⟩:∃j,j=s1.next:=⟨_,rfl⟩
 rw[<-hjr] at gr
 have gR:Rs s.next s2 jr jx ic D 0 [] M (.slice none 0 0):=⟨hB.keeps n1 aU,gr,.nil,aH.nil _,(fun e=>by cases e),(fun e=>by cases e),(fun e=>by cases e),by omega,by omega,by omega⟩
 have k2:ar s.next s s2:=k1.trans (aU.weaken n1)
 obtain⟨R,hR⟩:∃R,R=qW N D m:=⟨_,rfl⟩
 rw[<-hR]
 simp-implicitDefEqProofs(disch:=omega)only[aj,QS,Nat.reduceAdd,↓reduceIte,hn,<-hjr,List.length_cons,List.length_nil]
 refine Comes.bK (fun z f t=>∃(p:Nat) (P:List UInt8) (o:Value),p=0/\fw N D m z p P=R/\8*D.length<p+z/\P.length<=m/\Rs s.next t jr jx ic D p P M o/\ar s.next s t/\s.next<=t.next/\f.n=36/\f.get 7=ry jr)
  (fun z f t=>z= .ret/\f.n=36/\∃a b c,f.get 4=a/\f.get 5=b/\f.get 6=c/\agw s (.tuple #[a,b,c]) t R)
  (k:=N) ⟨0,[],_,rfl,hR.symm,by omega,Nat.zero_le _,gR,k2,k2.next,by simp only[ag,hn],by simp only[aa,↓reduceIte]⟩ ?_ ?_
 rotate_left
 ·clear hn h0 h1 f
  rintro z f t ⟨rfl,hn,a,b,c,h4,h5,h6,hO⟩
  simp-implicitDefEqProofs(disch:=omega)only[aj,al,oneOf,QS,↓reduceIte,hn,h4,h5,h6,Tryz.results102]
  exact hO
 clear hn h0 h1 f gR hB k1 gr aU hR
 rintro Q hQ z f t ⟨p,P,o,hp0,hz,hpz,NT,Se,aD,D4,hn,h7⟩
 have hpD:=Se.bit.le
 obtain⟨k,rfl⟩:∃k,z=k+1:=⟨z-1,by omega⟩
 rw[fw] at hz
 simp-implicitDefEqProofs(disch:=omega)only[aj,ak,ad,QS,↓reduceIte,hn,h7]
 refine(N3 hL s.next t jr jx ic D P p m N M hm o Se D4 hlen (by rw[hp0];exact mv) NT (by omega) hN).mono ?_
 intro v t1 LO
 cases YT:eH N D m p P with
 |error e=>
  rw[YT] at LO hz
  obtain⟨he,⟨b,rfl⟩,bm⟩:=LO
  have c0:¬(e:Int)=0:=by omega
  simp-implicitDefEqProofs(disch:=omega)only[aj,ak,QS,WP,↓reduceIte,hn,dy,dz,eq_false c0]
  exact hQ _ _ _ ⟨rfl,by simp only[ag,hn],_,_,_,by simp only[aa,↓reduceIte,WP];rfl,by simp only[aa,↓reduceIte,WP];rfl,by simp only[aa,↓reduceIte];rfl,by rw[<-hz];exact⟨rfl,aD.trans bm⟩⟩
 |ok y=>
 obtain⟨last,q,P'⟩:=y
 rw[YT] at LO hz
 obtain⟨rfl,o',oV,eX⟩:=LO
 dsimp only at hz
 have hle:=GL YT NT
 have I5:=Sa YT NT
 have bm:=aD.trans (eX.stay Se.lr Se.bit.lt.2.2.1 Se.bit.lt.2.2.2.1 Se.fresh D4)
 have iJ:s.next<=t1.next:=bm.next
 by_cases cl:last=1
 rotate_left
 ·exact absurd (by rw[Lj YT,hp0];exact h0b) cl
 have d1:((last:Nat):Int)=1:=by omega
 rw[if_pos cl] at hz
 simp-implicitDefEqProofs(disch:=omega)only[aj,ak,QS,WP,↓reduceIte,hn,dy,dz,eq_true d1]
 obtain⟨A,hA⟩:∃A:Nat->Bool,A=fun j=>decide (j<t1.next):=⟨_,rfl⟩
 have nH:∀j,A j=true->j<t1.next:=by
  intro j h
  rw[hA] at h
  exact of_decide_eq_true h
 have Ao:∀j,j<t1.next->A j=true:=fun j h=>by rw[hA];exact decide_eq_true h
 have oB:=ar.spare t1 0
 have SF:(spare t1 0).next=t1.next+0:=bU _ _
 have Iw:=oV.keeps iJ oB
 obtain⟨pc,now,left,Sf,h7l⟩:=Iw.bit
 have he:=Sf.e
 have lr:∀k,LA.fg A (some (.pointer (some ⟨jr,k,some 4⟩)))=true:=fun k=>LA.cD (A:=A) (i:=jr) (Ao _ oV.t.lt)
 have lx:∀k,LA.fg A (some (.pointer (some ⟨jx,k,some 4⟩)))=true:=fun k=>LA.cD (A:=A) (i:=jx) (Ao _ oV.bit.lt.1)
 have r0:=Iw.t.load (P:=Tryz.prog) jw (off:=0) (c:=4) rfl (by simp)
 have r2:=Iw.t.load (P:=Tryz.prog) gw (off:=2) (c:=4) rfl (by simp)
 have g0:=Sf.t.load (P:=Tryz.prog) Dm (off:=0) (c:=4) rfl (by simp)
 refine LB.da.fL A nH 1 0 (by kernel_rfl) (by kernel_rfl) ?_
 simp-implicitDefEqProofs(disch:=omega)only[aj,ak,bS,bT,Nat.sub_self,ad,QS,WP,↓reduceIte,hn,h7,pS,zX,ta,r0,r2,g0,lr,lx,oV.own.self]
 refine(AL (hL _ rfl) s.next (spare t1 0) ic D pc Sf.c).mono ?_
 rintro _ t2 ⟨rfl,dZ⟩
 rw[dZ];clear dZ t2
 refine⟨fun _=>LA.dD.refl _ _,?_⟩
 try simp-implicitDefEqProofs(disch:=omega)only[aj,↓reduceIte,aj,↓reduceIte]
 have ep:pc=(q+7)/8:=by omega
 exact hQ _ _ _ ⟨rfl,by simp only[ag,hn],_,_,_,by simp only[aa,↓reduceIte,WP];rfl,by simp only[aa,↓reduceIte,WP];rfl,by simp only[aa,↓reduceIte];rfl,by rw[<-hz];exact⟨o',by rw[ep],Iw.own,Iw.fresh,bm.trans (oB.weaken iJ)⟩⟩
end Go.Proofs.YtdfjfncifneocaaGreat
set_option linter.unusedSimpArgs false
set_option linter.unusedVariables false
set_option maxRecDepth 100000
namespace Go.Proofs.YtdfjfncifneocaaGreat
open Go.Cl Go.Cl.Rw Go.Cl.Sto Go.Cl.Fx Go.Cl.Nf Go.Cl.Bt
set_option maxRecDepth 100000 in
set_option maxHeartbeats 16000000 in
theorem Sm (s:aq)(x:Value)(D:List UInt8)(N:Nat)(hx:aN s 1 x D.length (ofBytes D))(hDl:D.length<=1000000)(h0b:bM (D.drop 2) 0 1=1)(mv:bM (D.drop 2) 1 2≠2)(M:Int)(hM:M<=100000000)(hN:8*D.length+1<N):
  Runs Tryz.prog eC 65 [x,.int .i64 M] s fun v s' =>ale s v s' (qX N D M.toNat):=by
 refine Runs.enter 78 Tryz.func65 rfl rfl rfl rfl ?_
 intro f hn hf
 have h0:f.get 0=x:=hf 0
 have h1:f.get 1= .int .i64 M:=hf 1
 clear hf
 simp-implicitDefEqProofs(disch:=omega)only[aj,ak,ad,QS,WP,↓reduceIte,hn,h0]
 refine(Ik rfl s.next s x D hx.low (Nat.le_refl _)).mono ?_
 rintro _ s1 ⟨rfl,iT,k1,n1⟩
 obtain⟨ic,DS⟩:∃i,i=s.next:=⟨_,rfl⟩
 have iT:ji s.next s1 ic D 0:=by rw[DS];exact iT
 rw[<-DS]
 have WA:aH s.next (fO ic):=cQ (by omega)
 simp-implicitDefEqProofs(disch:=omega)only[aj,ak,ad,QS,↓reduceIte,hn]
 refine(Le rfl rfl rfl rfl rfl rfl s.next s1 ic D 0 2 iT (by omega) (by omega)).mono ?_
 rintro v s2 ⟨hv,lI,AD⟩
 have k2:ar s.next s s2:=k1.trans (AD.keeps WA (by omega))
 have kv:=hx.keeps k2
 obtain⟨R,hR⟩:∃R,R=qX N D M.toNat:=⟨_,rfl⟩
 rw[<-hR]
 unfold qX at hR
 by_cases c1:D.length<2
 ·rw[if_pos c1] at hR
  rw[decide_eq_false (by omega)] at hv
  subst hv
  simp-implicitDefEqProofs(disch:=omega)only[aj,al,oneOf,QS,WP,↓reduceIte,hn,dy,dz,Tryz.results65]
  rw[hR]
  exact⟨rfl,k2⟩
 rw[if_neg c1] at hR
 rw[if_pos (by decide),YY (by omega),decide_eq_true (by omega)] at hv
 generalize (if(1:Int)<=2/\(2:Int)<=7/\(2:Int)<=((D.length-0:Nat):Int) then 0+(2:Int).toNat else 0)=p2 at lI
 have a8:=(D.getD 0 0).toNat_lt
 have b8:=(D.getD 1 0).toNat_lt
 generalize (D.getD 0 0).toNat=a at hv a8 hR
 generalize (D.getD 1 0).toNat=b at hv b8 hR
 subst hv
 obtain⟨w,hw⟩:∃w,w=a*256+b:=⟨_,rfl⟩
 rw[<-hw]
 have s8:cI Tryz.prog .shr 3 (.int .i64 (w:Nat)) (.int .u64 8)=some (.int .i64 (a:Nat)):=by
  have k:=XJ Tryz.prog 3 .u64 w (k:=8) (by decide)
  rw[show w/2^8=a by omega] at k
  exact k
 have AN:cI Tryz.prog .shr 3 (.int .i64 (w:Nat)) (.int .u64 12)=some (.int .i64 ((a/16:Nat):Int)):=by
  have k:=XJ Tryz.prog 3 .u64 w (k:=12) (by decide)
  rw[show w/2^12=a/16 by omega] at k
  exact k
 have n15:=acL (n:=a) (by omega)
 have n32:=acM (n:=w) (by omega)
 rw[show w/32%2=b/32%2 by omega] at n32
 by_cases b1:a%16=8
 rotate_left
 ·have g1:¬((a%16:Nat):Int)=8:=by omega
  rw[if_pos (.inl b1)] at hR
  simp-implicitDefEqProofs(disch:=omega)only[aj,ak,al,oneOf,QS,WP,↓reduceIte,undef,hn,dy,dz,s8,eL,n15,eq_false g1,Tryz.results65]
  rw[hR]
  exact⟨rfl,k2⟩
 have g1:((a%16:Nat):Int)=8:=by omega
 by_cases b2:7<a/16
 ·have g2:((a/16:Nat):Int)>7:=by omega
  rw[if_pos (.inr (.inl b2))] at hR
  simp-implicitDefEqProofs(disch:=omega)only[aj,ak,al,oneOf,QS,WP,↓reduceIte,undef,hn,dy,dz,s8,AN,eL,n15,g1,eq_true g2,Tryz.results65]
  rw[hR]
  exact⟨rfl,k2⟩
 have g2:¬((a/16:Nat):Int)>7:=by omega
 by_cases b3:w%31=0
 rotate_left
 ·have g3:¬((w%31:Nat):Int)=0:=by omega
  rw[if_pos (.inr (.inr (.inl (by rw[<-hw];exact b3))))] at hR
  simp-implicitDefEqProofs(disch:=omega)only[aj,ak,al,oneOf,QS,WP,↓reduceIte,undef,hn,dy,dz,s8,AN,eL,n15,g1,eq_false g2,eK,V9,eq_false g3,Tryz.results65]
  rw[hR]
  exact⟨rfl,k2⟩
 have g3:((w%31:Nat):Int)=0:=by omega
 by_cases b4:b/32%2=0
 rotate_left
 ·have g4:¬((b/32%2*32:Nat):Int)=0:=by omega
  rw[if_pos (.inr (.inr (.inr b4)))] at hR
  simp-implicitDefEqProofs(disch:=omega)only[aj,ak,al,oneOf,QS,WP,↓reduceIte,hn,dy,dz,s8,AN,eL,n15,n32,g1,eq_false g2,eK,V9,g3,eq_false g4,Tryz.results65]
  rw[hR]
  exact⟨rfl,k2⟩
 have g4:((b/32%2*32:Nat):Int)=0:=by omega
 rw[if_neg (by unfold Ld;omega)] at hR
 simp-implicitDefEqProofs(disch:=omega)only[aj,ak,ad,ai,QS,WP,↓reduceIte,hn,h0,dy,dz,s8,AN,eL,n15,n32,g1,eq_false g2,eK,V9,g3,g4,kv.fp Tryz.underlying22 bL]
 have ez:=agS kv (by omega)
 refine(vm rfl s2 _ (D.drop 2) ez (by rw[List.length_drop];omega)).mono ?_
 rintro y s3 ⟨hy,kJ,k3⟩
 have k3' :ar s.next s s3:=k2.trans (k3.weaken k2.next)
 simp-implicitDefEqProofs(disch:=omega)only[aj,ak,ad,QS,WP,↓reduceIte,hn,h1]
 refine(Ll alg s3 y (D.drop 2) N hy.aG (by rw[List.length_drop];omega) h0b mv M hM (by rw[List.length_drop];omega)).mono ?_
 intro v s4 hB
 cases hi:qW N (D.drop 2) M.toNat with
 |error e=>
  rw[hi] at hB hR
  obtain⟨rfl,k4⟩:=hB
  have he:=Sj hi
  have g5:¬((e:Nat):Int)=0:=by omega
  simp-implicitDefEqProofs(disch:=omega)only[aj,ak,al,oneOf,QS,WP,↓reduceIte,hn,O8,O9,Pa,eq_false g5,Tryz.results65]
  rw[hR]
  exact⟨rfl,k3'.trans (k4.weaken k3'.next)⟩
 |ok r=>
 obtain⟨q,P⟩:=r
 rw[hi] at hB
 obtain⟨o,rfl,ho,hoF,k4⟩:=hB
 have k4' :ar s.next s s4:=k3'.trans (k4.weaken k3'.next)
 have Vx:ji s.next s4 ic D p2:=(lI.keeps k2.next k3).keeps k3'.next k4
 have hle:=Dx hi
 rw[List.length_drop] at hle
 obtain⟨n,SF⟩:∃n,n=(q+7)/8:=⟨_,rfl⟩
 rw[hi] at hR
 dsimp only at hR
 rw[<-SF] at hR|-
 have n4:=k4'.next
 have e2:(2:Int)+(n:Nat)=((2+n:Nat):Int):=by omega
 have ck:aE o≠some ic:=fun e=>by have:=hoF _ e;have:=lI.choose_spec.1.lt;have:=k3.next;omega
 simp-implicitDefEqProofs(disch:=omega)only[aj,ak,ad,QS,WP,↓reduceIte,hn,O8,O9,Pa,aB,e2]
 refine(V8 rfl s.next s4 ic D p2 _ Vx n4).mono ?_
 rintro _ s5 ⟨rfl,hc5,to5⟩
 rw[if_pos (by omega),Int.toNat_natCast] at hc5
 have Zg:=ho.turns to5 (fun i hi e=>ck (hi.trans e.symm))
 have k5:ar s.next s s5:=k4'.trans (to5.keeps WA n4)
 simp-implicitDefEqProofs(disch:=omega)only[aj,ak,ad,QS,WP,↓reduceIte,hn]
 refine(Le rfl rfl rfl rfl rfl rfl s.next s5 ic D (2+n) 4 hc5 k5.next (by omega)).mono ?_
 rintro v s6 ⟨hv,Z1,P5⟩
 have WM:=Zg.turns P5 (fun i hi e=>ck (hi.trans e.symm))
 have k6:ar s.next s s6:=k5.trans (P5.keeps WA k5.next)
 by_cases c2:D.length<2+n+4
 ·rw[if_pos c2] at hR
  rw[decide_eq_false (by omega)] at hv
  subst hv
  simp-implicitDefEqProofs(disch:=omega)only[aj,al,oneOf,QS,WP,↓reduceIte,hn,dy,dz,Tryz.results65]
  rw[hR]
  exact⟨rfl,k6⟩
 rw[if_neg c2] at hR
 have TZ:kU D (2+n) 4=(D.drop (2+n)).take 4:=by
  unfold kU
  rw[if_pos (by omega)]
  rfl
 rw[if_pos (by decide),TZ,decide_eq_true (by omega)] at hv
 rw[if_pos (by omega),show(4:Int).toNat=4 from rfl] at Z1
 have Qv:((D.drop (2+n)).take 4).length<=4:=by rw[List.length_take];omega
 have nP:=JL ((D.drop (2+n)).take 4) _ rfl
 have nP:jJ ((D.drop (2+n)).take 4)<4294967296:=Nat.lt_of_lt_of_le nP (Nat.le_trans (Nat.pow_le_pow_right (by decide) Qv) (by decide:256^4<=4294967296))
 generalize jJ ((D.drop (2+n)).take 4)=g at nP hv hR
 subst hv
 have Tl:=Ug P
 obtain⟨xa,xn,xc,Wx⟩:=aN.yl WM.aG
 simp-implicitDefEqProofs(disch:=omega)only[aj,ae,QS,WP,↓reduceIte,hn,dy,dz,bR Tryz.underlying3 Tryz.underlying117,wD,Wx,Pe]
 refine aQ rfl ?_
 intro yy s7 hyy aqm k7
 rw[<-Wx] at hyy
 have Aq:=WM.keeps k7
 simp-implicitDefEqProofs(disch:=omega)only[aj,ak,ad,QS,↓reduceIte,hn,<-Wx]
 refine(Gd rfl rfl s7 yy o P hyy.aG Aq.aG (by have:=hle.2;omega)).mono ?_
 rintro _ s8 ⟨rfl,rfl⟩
 have k8:ar s.next s s8:=k6.trans (k7.weaken k6.next)
 have hc8:=Z1.keeps k6.next k7
 by_cases c3:g=zD P
 rotate_left
 ·have g6:¬((g:Nat):Int)=((zD P:Nat):Int):=by omega
  rw[if_neg c3] at hR
  simp-implicitDefEqProofs(disch:=omega)only[aj,ak,al,oneOf,QS,WP,↓reduceIte,hn,eq_false g6,Tryz.results65]
  rw[hR]
  exact⟨rfl,k8⟩
 have g6:((g:Nat):Int)=((zD P:Nat):Int):=by omega
 rw[if_pos c3] at hR
 simp-implicitDefEqProofs(disch:=omega)only[aj,ak,ad,QS,WP,↓reduceIte,hn,g6]
 refine(AL rfl s.next s8 ic D (2+n+4) hc8).mono ?_
 rintro _ s9 ⟨rfl,rfl⟩
 simp-implicitDefEqProofs(disch:=omega)only[aj,al,oneOf,QS,WP,↓reduceIte,hn,Tryz.results65]
 rw[hR]
 exact⟨o,rfl,Aq,fun i hi=>by have:=hoF i hi;have:=k3'.next;omega,k8⟩
end Go.Proofs.YtdfjfncifneocaaGreat
set_option linter.unusedSimpArgs false
set_option linter.unusedVariables false
set_option maxRecDepth 100000
namespace Go.Proofs.YtdfjfncifneocaaGreat
open Go.Cl Go.Cl.Pr Go.Cl.Ch Go.Cl.Hx Go.Cl.B85 Go.Cl.Uh
def acR (l:Lk)(b:List UInt8):Prop:=l.name=gC->Sto.bM (b.drop 2) 0 1=1/\Sto.bM (b.drop 2) 1 2≠2
set_option maxHeartbeats 4000000 in
theorem Wf (s:aq)(l:Lk)(hp:l.p=1/\l.co=1/\l.cl=1)(x:Value)(b:List UInt8)(HW:acR l b)(most:Int)(hx:aN s 1 x b.length (ofBytes b))(hb:b.length<=100000)(hm:most<=20000000):
  Runs Tryz.prog eC 37 [fC l,x,.int .i64 most] s (uf s (eY l b most)):=by
 obtain⟨QQ,gp⟩:∃QQ:Value->aq->Prop,QQ=uf s (eY l b most):=⟨_,rfl⟩
 rw[<-gp]
 refine Runs.enter 56 Tryz.func37 rfl rfl rfl rfl ?_
 intro f hn hf
 have h0:f.get 0=fC l:=hf 0
 have h1:f.get 1=x:=hf 1
 have h2:f.get 2= .int .i64 most:=hf 2
 clear hf
 simp-implicitDefEqProofs(disch:=omega)only[aj,QS,↓reduceIte,hn,h0]
 refine ax ?_
 intro s1 ht aD DQ
 have ht:av s1 s.next l.cells:=ht
 have hd:l.cells.length+1=6:=rfl
 have lM:=hx.keeps aD
 have n1:=aD.next
 have p3:aR Tryz.prog s1 9 (.pointer (some ⟨s.next,3,some 6⟩))=some (.string ⟨l.name.toArray⟩):=ht.load uN (off:=3) (c:=6) rfl (by simp[Lk.cells])
 have la:∀t,ar s1.next s1 t->aR Tryz.prog t 56 (.pointer (some ⟨s.next,0,some 6⟩))=some (i3 l.p l.co l.cl):=fun t h=>by
  have:=av.tn (P:=Tryz.prog) zz qS (ht.keeps h) (off:=0) (c:=6) rfl (by simp[Lk.cells])
  rw[this];rfl
 have e1:=kh (P:=Tryz.prog) (t:=9) l.name gC
 have e2:=kh (P:=Tryz.prog) (t:=9) l.name yq
 have e3:=kh (P:=Tryz.prog) (t:=9) l.name sM
 have e4:=kh (P:=Tryz.prog) (t:=9) l.name Kq
 rw[show gC.toArray= #[70,108,97,116,101,68,101,99,111,100,101] from rfl] at e1
 rw[show yq.toArray= #[76,90,87,68,101,99,111,100,101] from rfl] at e2
 rw[show sM.toArray= #[65,83,67,73,73,72,101,120,68,101,99,111,100,101] from rfl] at e3
 rw[show Kq.toArray= #[65,83,67,73,73,56,53,68,101,99,111,100,101] from rfl] at e4
 by_cases c1:l.name=gC
 ·rw[decide_eq_true c1] at e1
  have eu:eY l b most=jM l (P7 b most):=by unfold eY;rw[if_pos c1]
  have ZL:=Wb b most
  simp-implicitDefEqProofs(disch:=omega)only[aj,ak,ad,QS,WP,↓reduceIte,hn,h1,h2,hd,yw,p3,e1]
  have r:=Sm s1 x b (8*b.length+fuelZ) lM (by omega) (HW c1).1 (HW c1).2 most (by omega) (by rw[Lf];omega)
  refine r.mono ?_
  intro v s2 hv
  have hv:∃w n,v= .tuple #[w,.int .i64 n,.int .i64 (P7 b most).2]/\cC s1 w s2 (P7 b most).1:=by
   unfold P7
   cases h:Nf.qX (8*b.length+fuelZ) b most.toNat with
   |error e=>rw[h] at hv;obtain⟨rfl,k⟩:=hv;exact⟨_,_,rfl,⟨.nil,aH.nil _,k⟩⟩
   |ok r=>rw[h] at hv;obtain⟨o,rfl,ho,hF,k⟩:=hv;exact⟨_,_,rfl,⟨ho,hF,k⟩⟩
  obtain⟨w,n,rfl,hw⟩:=hv
  generalize P7 b most=r at ZL hw eu
  have x0:ba (.tuple #[w,.int .i64 n,.int .i64 r.2]) 0=some w:=rfl
  have x1:ba (.tuple #[w,.int .i64 n,.int .i64 r.2]) 1=some (.int .i64 n):=rfl
  have x2:ba (.tuple #[w,.int .i64 n,.int .i64 r.2]) 2=some (.int .i64 r.2):=rfl
  have hk:ar s.next s s2:=aD.trans (hw.stay.weaken n1)
  by_cases c9:r.2=0
  rotate_left
  ·have e9:jM l r=([],r.2):=by unfold jM;rw[if_pos c9]
   simp-implicitDefEqProofs(disch:=omega)only[aj,ak,al,oneOf,QS,WP,↓reduceIte,hn,x0,x1,x2,decide_not,decide_eq_false c9,Tryz.results37]
   rw[gp,eu,e9]
   exact⟨_,rfl,⟨.nil,aH.nil _,hk⟩⟩
  have e9:jM l r=qT l.p l.co l.cl r.1:=by unfold jM;rw[if_neg (fun h=>h c9)]
  simp-implicitDefEqProofs(disch:=omega)only[aj,ak,ad,QS,WP,↓reduceIte,hn,x0,x1,x2,decide_not,decide_eq_true c9,yv,la _ hw.stay]
  refine(zP (lib:=eC) acd rfl s2 l.p l.co l.cl hp.1 hp.2.1 hp.2.2 w r.1 hw.own.aG (by omega)).mono ?_
  rintro _ s3 ⟨z,rfl,hz⟩
  have y0:∀q,ba (.tuple #[z,q]) 0=some z:=fun _=>rfl
  have y1:∀q,ba (.tuple #[z,q]) 1=some q:=fun _=>rfl
  simp-implicitDefEqProofs(disch:=omega)only[aj,al,oneOf,QS,WP,↓reduceIte,hn,y0,y1,Tryz.results37]
  rw[gp,eu,e9]
  exact⟨z,rfl,hz.behind hk⟩
 rw[decide_eq_false c1] at e1
 by_cases c2:l.name=yq
 ·rw[decide_eq_true c2] at e2
  have eu:eY l b most=jM l (SO b most):=by unfold eY;rw[if_neg c1,if_pos c2]
  have ZL:=Wc b most
  simp-implicitDefEqProofs(disch:=omega)only[aj,ak,ad,QS,WP,↓reduceIte,hn,h1,h2,hd,yw,p3,e1,e2]
  refine(NA (lib:=eC) rfl rfl rfl rfl rfl rfl s1 x b most lM hb (.inl hm)).mono ?_
  intro v s2 hv
  obtain⟨w,rfl,hw⟩:∃w,v= .tuple #[w,.int .i64 (SO b most).2]/\cC s1 w s2 (SO b most).1:=sX.YZ hv
  generalize SO b most=r at ZL hw eu
  have x0:ba (.tuple #[w,.int .i64 r.2]) 0=some w:=rfl
  have x1:ba (.tuple #[w,.int .i64 r.2]) 1=some (.int .i64 r.2):=rfl
  have hk:ar s.next s s2:=aD.trans (hw.stay.weaken n1)
  by_cases c9:r.2=0
  rotate_left
  ·have e9:jM l r=([],r.2):=by unfold jM;rw[if_pos c9]
   simp-implicitDefEqProofs(disch:=omega)only[aj,ak,al,oneOf,QS,WP,↓reduceIte,hn,x0,x1,decide_not,decide_eq_false c9,Tryz.results37]
   rw[gp,eu,e9]
   exact⟨_,rfl,⟨.nil,aH.nil _,hk⟩⟩
  have e9:jM l r=qT l.p l.co l.cl r.1:=by unfold jM;rw[if_neg (fun h=>h c9)]
  simp-implicitDefEqProofs(disch:=omega)only[aj,ak,ad,QS,WP,↓reduceIte,hn,x0,x1,decide_not,decide_eq_true c9,yv,la _ hw.stay]
  refine(zP (lib:=eC) acd rfl s2 l.p l.co l.cl hp.1 hp.2.1 hp.2.2 w r.1 hw.own.aG (by omega)).mono ?_
  rintro _ s3 ⟨z,rfl,hz⟩
  have y0:∀q,ba (.tuple #[z,q]) 0=some z:=fun _=>rfl
  have y1:∀q,ba (.tuple #[z,q]) 1=some q:=fun _=>rfl
  simp-implicitDefEqProofs(disch:=omega)only[aj,al,oneOf,QS,WP,↓reduceIte,hn,y0,y1,Tryz.results37]
  rw[gp,eu,e9]
  exact⟨z,rfl,hz.behind hk⟩
 rw[decide_eq_false c2] at e2
 by_cases c3:l.name=sM
 ·rw[decide_eq_true c3] at e3
  have eu:eY l b most=EJ (oR most) b (-1) []:=by unfold eY;rw[if_neg c1,if_neg c2,if_pos c3]
  simp-implicitDefEqProofs(disch:=omega)only[aj,ak,ad,QS,WP,↓reduceIte,hn,h1,h2,hd,yw,p3,e1,e2,e3]
  refine(RY (lib:=eC) rfl rfl rfl rfl rfl rfl rfl rfl rfl rfl rfl rfl s1 x b most (oR most) rfl lM (by omega) (by omega)).mono ?_
  intro v s2 hv
  obtain⟨w,rfl,hw⟩:=sX.YZ hv
  have x0:∀z,ba (.tuple #[w,z]) 0=some w:=fun _=>rfl
  have x1:∀z,ba (.tuple #[w,z]) 1=some z:=fun _=>rfl
  simp-implicitDefEqProofs(disch:=omega)only[aj,al,oneOf,QS,WP,↓reduceIte,hn,x0,x1,Tryz.results37]
  rw[gp,eu]
  exact⟨w,rfl,hw.behind aD⟩
 rw[decide_eq_false c3] at e3
 by_cases c4:l.name=Kq
 ·rw[decide_eq_true c4] at e4
  have eu:eY l b most=rB (oR most) b [] []:=by unfold eY;rw[if_neg c1,if_neg c2,if_neg c3,if_pos c4]
  simp-implicitDefEqProofs(disch:=omega)only[aj,ak,ad,QS,WP,↓reduceIte,hn,h1,h2,hd,yw,p3,e1,e2,e3,e4]
  refine(NC (lib:=eC) rfl rfl rfl rfl rfl rfl rfl rfl rfl rfl rfl rfl rfl s1 x b most (oR most) rfl lM (by omega) (by omega)).mono ?_
  intro v s2 hv
  obtain⟨w,rfl,hw⟩:=sX.YZ hv
  have x0:∀z,ba (.tuple #[w,z]) 0=some w:=fun _=>rfl
  have x1:∀z,ba (.tuple #[w,z]) 1=some z:=fun _=>rfl
  simp-implicitDefEqProofs(disch:=omega)only[aj,al,oneOf,QS,WP,↓reduceIte,hn,x0,x1,Tryz.results37]
  rw[gp,eu]
  exact⟨w,rfl,hw.behind aD⟩
 rw[decide_eq_false c4] at e4
 have eu:eY l b most=Runs.dec most b []:=by unfold eY;rw[if_neg c1,if_neg c2,if_neg c3,if_neg c4]
 simp-implicitDefEqProofs(disch:=omega)only[aj,ak,ad,QS,WP,↓reduceIte,hn,h1,h2,hd,yw,p3,e1,e2,e3,e4]
 refine(KP (lib:=eC) rfl s1 x b most lM (by omega)).mono ?_
 intro v s2 hv
 obtain⟨w,rfl,hw⟩:=sX.YZ hv
 have x0:∀z,ba (.tuple #[w,z]) 0=some w:=fun _=>rfl
 have x1:∀z,ba (.tuple #[w,z]) 1=some z:=fun _=>rfl
 simp-implicitDefEqProofs(disch:=omega)only[aj,al,oneOf,QS,WP,↓reduceIte,hn,x0,x1,Tryz.results37]
 rw[gp,eu]
 exact⟨w,rfl,hw.behind aD⟩
end Go.Proofs.YtdfjfncifneocaaGreat
set_option linter.unusedSimpArgs false
set_option linter.unusedVariables false
set_option maxRecDepth 100000
namespace Go.Cl
theorem GZ {k n:Int}{b:List UInt8}{l d:List (List UInt8×O)}{L:List O}(hb:b.length<=100000000)(hL:L.length<=100000)(ED:∀x∈L,Small x)(hd:d.length+l.length<=100000)(h1:∀e∈d,e.1.length<=100000/\Small e.2)(h2:∀e∈l,e.1.length<=100000/\Small e.2):Small (.mk k n b L (cX d l)):=by
 have h3:=CU d l
 have h4:∀e∈cX d l,e.1.length<=100000/\Small e.2:=fun e he=>by
  rcases MV l d he with h|h
  ·exact h1 e h
  ·exact h2 e h
 exact .mk hb hL (by omega) (fun e he=>(h4 e he).1) ED (fun e he=>(h4 e he).2)
end Go.Cl
namespace Go.Cl.Ch
def vn (l:List O):O:= .mk 6 0 [] l []
def dX (L:List Lk):List O:=L.map fun l=>lC l.name
def pT (L:List Lk):List O:=L.map kP
def yI (L:List Lk):Bool:=L.any fun l=>decide (l.p≠1)
def jN (L:List Lk):List (List UInt8×O):=
 match L with
 |[]=>[]
 |[l]=>[(br,lC l.name),(eF,kP l)]
 |a::b::r=>if yI (a::b::r) then [(br,vn (dX (a::b::r))),(eF,vn (pT (a::b::r)))] else [(br,vn (dX (a::b::r)))]
theorem qF (l:Lk):Small (kP l):=by
 unfold kP
 split
 ·exact Small.none
 ·refine GZ (by simp) (by simp) (fun e h=>by cases h) (by simp[Vb]) (fun e h=>by cases h) (fun e he=>⟨?_,Nb l e he⟩)
  simp only[Vb,List.mem_cons,List.not_mem_nil,or_false] at he
  rcases he with rfl|rfl|rfl|rfl<;>simp[Gt,tt,pJ,Gu]
theorem td {b:List UInt8}(h:b.length<=100000):Small (lC b):= .mk (by omega) (by simp) (by simp) (fun e h=>by cases h) (fun e h=>by cases h) (fun e h=>by cases h)
theorem xm {L:List Lk}(h:∀l∈L,l.name.length<=100000):∀o∈dX L,Small o:=by
 intro o ho
 obtain⟨l,hl,rfl⟩:=List.mem_map.1 ho
 exact td (h l hl)
theorem Lm (L:List Lk):∀o∈pT L,Small o:=by
 intro o ho
 obtain⟨l,hl,rfl⟩:=List.mem_map.1 ho
 exact qF l
theorem G1 (L:List Lk):(jN L).length<=2:=by
 unfold jN
 split
 ·simp
 ·simp
 ·split<;>simp
theorem DM {L:List Lk}(h:∀l∈L,l.name.length<=100000)(hL:L.length<=100000):∀e∈jN L,e.1.length<=100000/\Small e.2:=by
 have sAn:Small (vn (dX L)):= .mk (by simp) (by simp[dX];omega) (by simp) (fun e h=>by cases h) (xm h) (fun e h=>by cases h)
 have sAp:Small (vn (pT L)):= .mk (by simp) (by simp[pT];omega) (by simp) (fun e h=>by cases h) (Lm L) (fun e h=>by cases h)
 intro e he
 unfold jN at he
 split at he
 ·cases he
 ·simp only[List.mem_cons,List.not_mem_nil,or_false] at he
  rcases he with rfl|rfl
  ·exact⟨by simp[br],td (h _ (by simp))⟩
  ·exact⟨by simp[eF],qF _⟩
 ·split at he
  ·simp only[List.mem_cons,List.not_mem_nil,or_false] at he
   rcases he with rfl|rfl
   ·exact⟨by simp[br],sAn⟩
   ·exact⟨by simp[eF],sAp⟩
  ·simp only[List.mem_cons,List.not_mem_nil,or_false] at he
   subst he
   exact⟨by simp[br],sAn⟩
theorem Ln {L:List Lk}(h:∀l∈L,l.name.length<=100000)(hL:L.length<=100000):∀e∈jN L,Small e.2:=fun e he=>(DM h hL e he).2
end Go.Cl.Ch
namespace Go.Proofs.YtdfjfncifneocaaGreat
open Go.Cl Go.Cl.Pr Go.Cl.Ch
def aar (s:aq)(D:List (List UInt8×O))(v:Value)(s' :aq):Prop:=∃lx,aN s' 6 v D.length lx/\aS dU 6 (fun j=>s.next<=j) s' D lx/\ar s.next s s'
def qG (b:Nat)(X:Nat->Prop)(y z:Value)(j:Nat):Prop:=b<=j/\¬(X j\/aE z=some j)/\aE y≠some j
theorem qG.swap {b:Nat}{X:Nat->Prop}{y z:Value}{j:Nat}(h:qG b X y z j):qG b X z y j:=⟨h.1,fun k=>k.elim (fun k=>h.2.1 (.inl k)) h.2.2,fun k=>h.2.1 (.inr k)⟩
theorem qG.grow {b:Nat}{X:Nat->Prop}{y y' z:Value}{T T' :aq}{D:List O}{lc:List Value}(h:aS dk 5 (qG b X y z) T D lc){o:O}{cs:List Value}(hc:cs.length=5)(ho:dk (qG b X y z) T cs o)(ht:aY y T T')(qU:aE y' =aE y\/∃i,aE y' =some i/\T.next<=i):aS dk 5 (qG b X y' z) T' (D++[o]) (lc++cs):=
 aS.grow (X:=fun j=>X j\/aE z=some j) cw h hc ho ht qU
theorem qG.other {b:Nat}{X:Nat->Prop}{y y' z:Value}{T T' :aq}{D:List O}{lc:List Value}(h:aS dk 5 (qG b X y z) T D lc)(ht:aY y T T')(qU:aE y' =aE y\/∃i,aE y' =some i/\T.next<=i):aS dk 5 (qG b X y' z) T' D lc:=by
 refine aS.mono cw (aS.turns cw (aS.below cw h) ht (fun j hj=>hj.1.2.2)) (fun j hj=>⟨hj.1.1,hj.1.2.1,fun e=> ?_⟩)
 rcases qU with h1|⟨i,h1,h2⟩
 ·exact hj.1.2.2 (by rw[<-h1];exact e)
 ·rw[h1] at e;injection e with e;have:=hj.2;omega
theorem qG.P9 {b:Nat}{X:Nat->Prop}{y z:Value}{T:aq}{D:List O}{lc:List Value}(h:aS dk 5 (qG b X y z) T D lc):aS dk 5 (qG b X z y) T D lc:=h.mono cw (fun _ h=>h.swap)
theorem qG.aas {b n:Nat}{y z:Value}{T:aq}{D:List O}{lc:List Value}(h:aS dk 5 (qG b (fun _=>False) y z) T D lc)(hn:T.next<=n):aS dk 5 (qG b (fun j=>j=n) y z) T D lc:=
 (h.below cw).mono cw (fun j hj=>⟨hj.1.1,fun k=>k.elim (fun k=>by have:=hj.2;omega) (fun k=>hj.1.2.1 (.inr k)),hj.1.2.2⟩)
theorem qG.put {b n:Nat}{y z:Value}{T T' :aq}{D:List O}{lc:List Value}(h:aS dk 5 (qG b (fun j=>j=n) y z) T D lc)(h1:T'.next=T.next)(h2:∀j,j≠n->T'.heap.get j=T.heap.get j):aS dk 5 (qG b (fun _=>False) y z) T' D lc:=
 (aS.turns cw (u:= .pointer (some ⟨n,0,none⟩)) h (aY.aI h1 h2) (fun j hj e=>by
  have e:some n=some j:=e
  injection e with e;exact hj.2.1 (.inl e.symm))).mono cw (fun j hj=>⟨hj.1,fun k=>k.elim (fun k=>k) (fun k=>hj.2.1 (.inr k)),hj.2.2⟩)
end Go.Proofs.YtdfjfncifneocaaGreat
set_option linter.unusedSimpArgs false
set_option linter.unusedVariables false
set_option maxRecDepth 100000
namespace Go.Cl
theorem dk.G2 {F:Nat->Prop}{s:aq}{cs:List Value}{o:O}(h:dk F s cs o):cs.getD 0 undef= .int .i64 o.kind/\cs.getD 1 undef= .int .i64 o.num:=by
 cases o with
 |mk k n b l d=>obtain⟨bv,lv,dv,lc,dc,rfl,-⟩:=h.parts;exact⟨rfl,rfl⟩
theorem av.Lo {s s' :aq}{i jl jo:Nat}{cs:List Value}(h:av s i cs)(hn:s.next<=s'.next)(hg:∀j,j<s.next->j≠jl->j≠jo->s'.heap.get j=s.heap.get j)(h1:i≠jl)(h2:i≠jo):av s' i cs:=by
 obtain⟨low,z,b1,b2⟩:=h.dK
 exact⟨Nat.lt_of_lt_of_le h.lt hn,low,z,by simp only[aq.bA,hg _ h.lt h1 h2];exact b1,b2⟩
end Go.Cl
namespace Go.Cl.Ch
open Go.Cl.Pr
def IA:List UInt8:=[69,97,114,108,121,67,104,97,110,103,101]
def fh (o:O)(k:List UInt8)(d:Int):Int×Bool:=if(fB o k).kind=0 then(d,true) else((fB o k).num,decide ((fB o k).kind=2))
def ur (n p:O):Lk:=⟨(fh p Gu 1).1,(fh p tt 1).1,(fh p pJ 1).1,n.bytes,(fh p IA 1).1⟩
def aat (p:O):Bool:=(fh p Gu 1).2&&(fh p tt 1).2&&(fh p pJ 1).2&&(fh p IA 1).2
def G3 (n p:O):Bool:=(aat p&&decide (ri (ur n p).p (ur n p).co (ur n p).cl))&&decide ((ur n p).early=1)&&(decide ((ur n p).p=1)||(fh p Gt 8).2&&decide ((fh p Gt 8).1=8))
def pU (n p:O):Lk×Bool:=if n.kind≠5\/p.kind≠0/\p.kind≠7 then(⟨0,0,0,[],0⟩,false) else(ur n p,G3 n p)
end Go.Cl.Ch
namespace Go.Proofs.YtdfjfncifneocaaGreat
open Go.Cl Go.Cl.Pr Go.Cl.Ch
theorem DN (F:Nat->Prop)(s:aq)(cs:List Value)(o:O)(ho:dk F s cs o)(lP:Small o)(k:List UInt8):Runs Tryz.prog eC 61 [.agg cs.toArray,.string ⟨k.toArray⟩] s (lW s (fB o k)):=Yi rfl rfl rfl rfl rfl F s cs o ho lP k
set_option maxHeartbeats 4000000 in
theorem G4 (F:Nat->Prop)(s:aq)(cs:List Value)(o:O)(ho:dk F s cs o)(lP:Small o)(k:List UInt8)(d:Int):
  Runs Tryz.prog eC 63 [.agg cs.toArray,.string ⟨k.toArray⟩,.int .i64 d] s fun v s' =>v= .tuple #[.int .i64 (fh o k d).1,.bool (fh o k d).2]/\ar s.next s s' :=by
 have jH:=ho.len
 refine Runs.enter 21 Tryz.func63 rfl rfl rfl rfl ?_
 intro f hn hf
 have h0:f.get 0= .agg cs.toArray:=hf 0
 have h1:f.get 1= .string ⟨k.toArray⟩:=hf 1
 have h2:f.get 2= .int .i64 d:=hf 2
 clear hf
 have mO:cU.length+1=6:=rfl
 simp-implicitDefEqProofs(disch:=omega)only[aj,QS,↓reduceIte,hn,h0]
 refine ax ?_
 intro s1 eO bm iY
 simp-implicitDefEqProofs(disch:=omega)only[aj,ak,ad,QS,WP,Nat.reduceAdd,↓reduceIte,hn,h1,jH,av.ga eO jH]
 refine(DN F s1 cs o (ho.keeps bm) lP k).mono ?_
 rintro _ s2 ⟨c2,rfl,fx,k2⟩
 have n1:=bm.next
 have n2:=k2.next
 simp-implicitDefEqProofs(disch:=omega)only[aj,QS,↓reduceIte,hn,zO,xB]
 refine ax ?_
 intro s3 jt bH M8
 simp-implicitDefEqProofs(disch:=omega)only[aj,QS,WP,↓reduceIte,hn,mO]
 refine aA iH (by decide) jt rfl rfl fx.len fx.ok ?_
 intro s4 ie u0 ru
 have ie:av s4 s2.next c2:=ie
 have dY:ar s.next s s4:=((bm.trans (k2.weaken n1)).trans (bH.weaken (by omega))).trans ⟨by omega,fun j hj=>ru j (by omega)⟩
 obtain⟨q0,q1⟩:=dk.G2 fx
 have l0:aR Tryz.prog s4 3 (.pointer (some ⟨s2.next,0,some 6⟩))=some (.int .i64 (fB o k).kind):=by
  have:=ie.load (P:=Tryz.prog) bC (off:=0) (c:=6) (by rw[fx.len]) (by rw[fx.len];omega)
  rw[this,q0]
 have l1:aR Tryz.prog s4 2 (.pointer (some ⟨s2.next,1,some 6⟩))=some (.int .i64 (fB o k).num):=by
  have:=ie.load (P:=Tryz.prog) ZN (off:=1) (c:=6) (by rw[fx.len]) (by rw[fx.len];omega)
  rw[this,q1]
 by_cases c0:(fB o k).kind=0
 ·simp-implicitDefEqProofs(disch:=omega)only[aj,al,oneOf,QS,WP,↓reduceIte,hn,h2,EC,l0,c0,Tryz.results63]
  exact⟨by unfold fh;rw[if_pos c0],dY⟩
 ·simp-implicitDefEqProofs(disch:=omega)only[aj,al,oneOf,QS,WP,↓reduceIte,hn,EC,of1,l0,l1,decide_eq_false c0,Tryz.results63]
  exact⟨by unfold fh;rw[if_neg c0],dY⟩
end Go.Proofs.YtdfjfncifneocaaGreat
namespace Go.Proofs.YtdfjfncifneocaaGreat
open Go.Cl Go.Cl.Pr Go.Cl.Ch
set_option maxHeartbeats 4000000 in
theorem xo (F:Nat->Prop)(s:aq)(cs:List Value)(o:O)(ho:dk F s cs o)(lP:Small o)(k:List UInt8)(d:Int)(jl jp jo m:Nat)(lc:List Value)(b:Bool)(h5:lc.length=5)(hm:m<5)(hl:av s jl lc)(hp:av s jp cs)(hb:av s jo [.bool b])(ck:jl≠jo):
  Runs Tryz.prog eC 62 [.pointer (some ⟨jl,m,some 6⟩),.string ⟨k.toArray⟩,.int .i64 d,.pointer (some ⟨jp,0,some 6⟩),.pointer (some ⟨jo,0,some 2⟩)] s fun v s' =>v= .tuple #[]/\av s' jl (lc.set m (.int .i64 (fh o k d).1))/\av s' jo [.bool (b&&(fh o k d).2)]/\s.next<=s'.next/\∀j,j<s.next->j≠jl->j≠jo->s'.heap.get j=s.heap.get j:=by
 have jH:=ho.len
 refine Runs.enter 24 Tryz.func62 rfl rfl rfl rfl ?_
 intro f hn hf
 have h0:f.get 0= .pointer (some ⟨jl,m,some 6⟩):=hf 0
 have h1:f.get 1= .string ⟨k.toArray⟩:=hf 1
 have h2:f.get 2= .int .i64 d:=hf 2
 have h3:f.get 3= .pointer (some ⟨jp,0,some 6⟩):=hf 3
 have h4:f.get 4= .pointer (some ⟨jo,0,some 2⟩):=hf 4
 clear hf
 have lp:=av.ga hp jH
 simp-implicitDefEqProofs(disch:=omega)only[aj,ak,ad,QS,WP,↓reduceIte,hn,h1,h2,h3,lp]
 refine(G4 F s cs o ho lP k d).mono ?_
 rintro _ s1 ⟨rfl,k1⟩
 have kX:=hl.keeps k1
 have gu:=hb.keeps k1
 have n1:=k1.next
 obtain⟨R,hR⟩:∃R,R=fh o k d:=⟨_,rfl⟩
 rw[<-hR]
 have x0:ba (.tuple #[.int .i64 R.1,.bool R.2]) 0=some (.int .i64 R.1):=rfl
 have x1:ba (.tuple #[.int .i64 R.1,.bool R.2]) 1=some (.bool R.2):=rfl
 simp-implicitDefEqProofs(disch:=omega)only[aj,QS,WP,↓reduceIte,hn,x0,x1]
 obtain⟨A,hA⟩:∃A:Nat->Bool,A=fun j=>decide (j<s1.next/\j≠jl):=⟨_,rfl⟩
 have nH:∀j,A j=true->j<s1.next:=by
  intro j h
  rw[hA] at h
  exact(of_decide_eq_true h).1
 have hAj:A jl=false:=by rw[hA];exact decide_eq_false (fun h=>h.2 rfl)
 have Ao:A jo=true:=by rw[hA];exact decide_eq_true ⟨gu.lt,Ne.symm ck⟩
 refine LB.da.fL A nH 1 0 (by kernel_rfl) (by kernel_rfl) ?_
 have eI:=ar.spare s1 0
 have X3:(spare s1 0).next=s1.next+0:=bU _ _
 have ra:∀k,LA.fg A (some (.pointer (some ⟨jo,k,some 2⟩)))=true:=fun k=>LA.cD (A:=A) (i:=jo) Ao
 have l4:aR Tryz.prog (spare s1 0) 4 (.pointer (some ⟨jo,0,some 2⟩))=some (.bool b):=(gu.keeps eI).load Nl (off:=0) (c:=2) rfl (by simp)
 have jS:=kX.keeps eI
 have dB:=gu.keeps eI
 have fin:∀(c:Bool) (T1 T2:aq),av T1 jl (over lc m [.int .i64 R.1])->T1.next=(spare s1 0).next->(∀j,j≠jl->T1.heap.get j=(spare s1 0).heap.get j)->av T2 jo [.bool c]->T2.next=T1.next->(∀j,j≠jo->T2.heap.get j=T1.heap.get j)->av T2 jl (lc.set m (.int .i64 R.1))/\av T2 jo [.bool c]/\s.next<=T2.next/\∀j,j<s.next->j≠jl->j≠jo->T2.heap.get j=s.heap.get j:=by
  intro c T1 T2 a1 a2 a3 b1 b2 b3
  have e:over lc m [.int .i64 R.1]=lc.set m (.int .i64 R.1):=by
   unfold over;rw[List.set_eq_take_append_cons_drop,if_pos (by omega)];simp
  rw[e] at a1
  refine⟨a1.aI b2 b3 ck,b1,by omega,fun j hj h1 h2=> ?_⟩
  rw[b3 j h2,a3 j h1,eI.get j (by omega),k1.get j hj]
 cases b with
 |true=>
  simp-implicitDefEqProofs(disch:=omega)only[aj,ak,bS,bT,QS,WP,↓reduceIte,hn,h0,h4,ra,l4]
  refine LB.eN (m:=1) bB (by decide) jS (by omega) rfl rfl (by omega) rfl (fun _=>hAj) ?_
  intro T1 a1 a2 a3
  simp-implicitDefEqProofs(disch:=omega)only[aj,bT,Nat.sub_self,QS,WP,↓reduceIte,hn,h4]
  refine LB.eN (m:=1) yz (by decide) (dB.aI a2 a3 (Ne.symm ck)) rfl rfl rfl (by decide) rfl (fun h=>absurd rfl h) ?_
  intro T2 b1 b2 b3
  simp-implicitDefEqProofs(disch:=omega)only[aj,ah,oneOf,aj,bT,Nat.reduceSub,oneOf,Tryz.results62]
  exact fin _ T1 T2 a1 a2 a3 b1 b2 b3
 |false=>
  simp-implicitDefEqProofs(disch:=omega)only[aj,ak,bS,bT,QS,WP,↓reduceIte,hn,h0,h4,ra,l4]
  refine LB.eN (m:=1) bB (by decide) jS (by omega) rfl rfl (by omega) rfl (fun _=>hAj) ?_
  intro T1 a1 a2 a3
  simp-implicitDefEqProofs(disch:=omega)only[aj,bT,Nat.sub_self,QS,WP,↓reduceIte,hn,h4]
  refine LB.eN (m:=1) yz (by decide) (dB.aI a2 a3 (Ne.symm ck)) rfl rfl rfl (by decide) rfl (fun h=>absurd rfl h) ?_
  intro T2 b1 b2 b3
  simp-implicitDefEqProofs(disch:=omega)only[aj,ah,oneOf,aj,bT,Nat.reduceSub,oneOf,Tryz.results62]
  exact fin _ T1 T2 a1 a2 a3 b1 b2 b3
end Go.Proofs.YtdfjfncifneocaaGreat
namespace Go.Proofs.YtdfjfncifneocaaGreat
open Go.Cl Go.Cl.Pr Go.Cl.Ch
set_option maxHeartbeats 4000000 in
theorem Wg (F G:Nat->Prop)(s:aq)(cn cs:List Value)(n o:O)(hN:dk F s cn n)(hO:dk G s cs o)(lP:Small o):
  Runs Tryz.prog eC 32 [.agg cn.toArray,.agg cs.toArray] s fun v s' =>v= .tuple #[fC (pU n o).1,.bool (pU n o).2]/\ar s.next s s' :=by
 have Um:=hN.len
 have jH:=hO.len
 obtain⟨QQ,gp⟩:∃QQ:Value->aq->Prop,QQ=fun v s' =>v= .tuple #[fC (pU n o).1,.bool (pU n o).2]/\ar s.next s s' :=⟨_,rfl⟩
 rw[<-gp]
 refine Runs.enter 75 Tryz.func32 rfl rfl rfl rfl ?_
 intro f hn hf
 have h0:f.get 0= .agg cn.toArray:=hf 0
 have h1:f.get 1= .agg cs.toArray:=hf 1
 clear hf
 have mO:(⟨0,0,0,[],0⟩:Lk).cells.length+1=6:=rfl
 have IQ:bW Tryz.prog 58=some (fC ⟨0,0,0,[],0⟩):=by kernel_rfl
 have vo:bP (fC ⟨0,0,0,[],0⟩)=true:=by kernel_rfl
 simp-implicitDefEqProofs(disch:=omega)only[aj,QS,↓reduceIte,hn,h0]
 refine ax ?_
 intro s1 eO bm iY
 simp-implicitDefEqProofs(disch:=omega)only[aj,QS,WP,Nat.reduceAdd,↓reduceIte,hn,h1,Um]
 refine ax ?_
 intro s2 dZ aU oN
 simp-implicitDefEqProofs(disch:=omega)only[aj,QS,Nat.reduceAdd,↓reduceIte,hn,jH,IQ,vo]
 refine ax ?_
 intro s3 jt bH M8
 have jt:av s3 s2.next (⟨0,0,0,[],0⟩:Lk).cells:=jt
 have n1:=bm.next
 have n2:=aU.next
 have n3:=bH.next
 have ij:ar s.next s s3:=(bm.trans (aU.weaken n1)).trans (bH.weaken (by omega))
 have eO:=eO.keeps (aU.trans (bH.weaken n2))
 have dZ:=dZ.keeps bH
 obtain⟨a0,-⟩:=dk.G2 hN
 obtain⟨b0,-⟩:=dk.G2 hO
 have l1:aR Tryz.prog s3 3 (.pointer (some ⟨s.next,0,some 6⟩))=some (.int .i64 n.kind):=by
  have:=eO.load (P:=Tryz.prog) bC (off:=0) (c:=6) (by omega) (by omega)
  rw[this,a0]
 have l2:aR Tryz.prog s3 3 (.pointer (some ⟨s1.next,0,some 6⟩))=some (.int .i64 o.kind):=by
  have:=dZ.load (P:=Tryz.prog) bC (off:=0) (c:=6) (by omega) (by omega)
  rw[this,b0]
 have bz:cE Tryz.prog 58 []=some (fC ⟨0,0,0,[],0⟩):=by kernel_rfl
 by_cases c1:n.kind≠5\/o.kind≠0/\o.kind≠7
 ·have e:pU n o=(⟨0,0,0,[],0⟩,false):=by unfold pU;rw[if_pos c1]
  have fin:∀s4:aq,av s4 s2.next (fC ⟨0,0,0,[],0⟩).cells.toList->s4.next=s3.next->(∀j,j≠s2.next->s4.heap.get j=s3.heap.get j)->aR Tryz.prog s4 58 (.pointer (some ⟨s2.next,0,some 6⟩))=some (fC ⟨0,0,0,[],0⟩)/\ar s.next s s4:=fun s4 h1 h2 h3=>⟨av.bu (P:=Tryz.prog) (cs:=(⟨0,0,0,[],0⟩:Lk).cells) lB cV h1 (c:=6) rfl,ij.trans ⟨by omega,fun j hj=>h3 j (by omega)⟩⟩
  by_cases c5:n.kind=5
  ·obtain⟨c2,c3⟩:o.kind≠0/\o.kind≠7:=c1.elim (fun h=>absurd c5 h) id
   simp-implicitDefEqProofs(disch:=omega)only[aj,ak,ae,QS,WP,↓reduceIte,hn,mO,EC,l1,l2,bz,decide_not,c5,decide_eq_false c2,decide_eq_false c3]
   refine aA cV (by decide) jt rfl rfl rfl rfl ?_
   intro s4 ie u0 ru
   obtain⟨e1,e2⟩:=fin s4 ie u0 ru
   simp-implicitDefEqProofs(disch:=omega)only[aj,al,oneOf,QS,WP,↓reduceIte,hn,aV,e1,Tryz.results32]
   rw[gp,e]
   exact⟨rfl,e2⟩
  ·simp-implicitDefEqProofs(disch:=omega)only[aj,ak,ae,QS,WP,↓reduceIte,undef,hn,mO,EC,l1,bz,decide_not,decide_eq_false c5]
   refine aA cV (by decide) jt rfl rfl rfl rfl ?_
   intro s4 ie u0 ru
   obtain⟨e1,e2⟩:=fin s4 ie u0 ru
   simp-implicitDefEqProofs(disch:=omega)only[aj,al,oneOf,QS,WP,↓reduceIte,hn,aV,e1,Tryz.results32]
   rw[gp,e]
   exact⟨rfl,e2⟩
 have c5:n.kind=5:=Classical.byContradiction fun h=>c1 (.inl h)
 have c7:o.kind=0\/o.kind=7:=Classical.byContradiction fun h=>c1 (.inr ⟨fun e=>h (.inl e),fun e=>h (.inr e)⟩)
 have e:pU n o=(ur n o,G3 n o):=by unfold pU;rw[if_neg c1]
 obtain⟨bv,wT,m8⟩:∃bv,cn.getD 2 undef=bv/\aN s 1 bv n.bytes.length (ofBytes n.bytes):=by
  cases n with
  |mk k m b l d=>obtain⟨bv,lv,dv,lc,dc,rfl,h1,-⟩:=hN.parts;exact⟨bv,rfl,h1⟩
 have l3:aR Tryz.prog s3 22 (.pointer (some ⟨s.next,2,some 6⟩))=some bv:=by
  have:=eO.load (P:=Tryz.prog) gw (off:=2) (c:=6) (by omega) (by omega)
  rw[this,wT]
 have aln:=(m8.keeps ij).str (P:=Tryz.prog) Tryz.underlying22 Tryz.underlying9 Tryz.underlying5
 have bl:cE Tryz.prog 58 [(1,.string ⟨n.bytes.toArray⟩)]=some (fC ⟨0,0,0,n.bytes,0⟩):=by kernel_rfl
 have zB:bW Tryz.prog 4=some (.bool false):=by kernel_rfl
 simp-implicitDefEqProofs(disch:=omega)only[aj,ak,QS,WP,↓reduceIte,hn,mO,EC,l1,c5]
 generalize hK:Fj Tryz.prog eC (Code.seq (Code.region 3 _ _) _) _=K
 have go:∀f:aT,f.n=75->f.get 2= .pointer (some ⟨s.next,0,some 6⟩)->f.get 3= .pointer (some ⟨s1.next,0,some 6⟩)->f.get 4= .pointer (some ⟨s2.next,0,some 6⟩)->K .normal f s3:=by
  clear hn h0 h1 f
  intro f hn h2 h3 h4
  subst hK
  simp-implicitDefEqProofs(disch:=omega)only[aj,ae,QS,↓reduceIte,hn,h2,of2,l3,aln,bl,IQ,vo]
  refine ax ?_
  intro s4 ie dY Am
  have ie:av s4 s3.next (⟨0,0,0,[],0⟩:Lk).cells:=ie
  simp-implicitDefEqProofs(disch:=omega)only[aj,QS,WP,↓reduceIte,hn,mO]
  refine aA cV (by decide) ie rfl rfl rfl rfl ?_
  intro s5 vv WO IM
  have vv:av s5 s3.next (⟨0,0,0,n.bytes,0⟩:Lk).cells:=vv
  have n4:=dY.next
  have hk5:ar s3.next s3 s5:=dY.trans ⟨by omega,fun j hj=>IM j (by omega)⟩
  simp-implicitDefEqProofs(disch:=omega)only[aj,zB]
  refine ax ?_
  intro s6 M6 eD abX
  have M6:av s6 s5.next [.bool false]:=M6
  have n6:=eD.next
  simp-implicitDefEqProofs(disch:=omega)only[aj,QS,↓reduceIte,hn]
  refine aX yz M6 rfl (by decide) rfl ?_
  intro s7 tI hn7 XT
  have tI:av s7 s5.next [.bool true]:=tI
  have hk7:ar s3.next s3 s7:=(hk5.trans (eD.weaken (by omega))).trans ⟨by omega,fun j hj=>XT j (by omega)⟩
  have yp:av s7 s3.next (⟨0,0,0,n.bytes,0⟩:Lk).cells:=(vv.keeps eD).aI hn7 XT (by omega)
  have hp7:=dZ.keeps hk7
  have uD:(Value.bool false).cells.toList.length+1=2:=rfl
  have hz7:ar s.next s s7:=ij.trans (hk7.weaken (by omega))
  have hq7:=jt.keeps hk7
  have Yb:=tI
  obtain⟨w1,hw1⟩:∃w,w=fh o Gu 1:=⟨_,rfl⟩
  obtain⟨w2,M0⟩:∃w,w=fh o tt 1:=⟨_,rfl⟩
  obtain⟨w3,JV⟩:∃w,w=fh o pJ 1:=⟨_,rfl⟩
  obtain⟨w4,JX⟩:∃w,w=fh o IA 1:=⟨_,rfl⟩
  obtain⟨w5,hw5⟩:∃w,w=fh o Gt 8:=⟨_,rfl⟩
  simp-implicitDefEqProofs(disch:=omega)only[aj,ak,ad,QS,WP,↓reduceIte,hn,h3,uD,qw,yv,wu]
  refine(xo G s7 cs o (hO.keeps hz7) lP Gu 1 s3.next s1.next s5.next 0 (⟨0,0,0,n.bytes,0⟩:Lk).cells true rfl (by decide) yp hp7 Yb (by omega)).mono ?_
  rintro _ s8 ⟨rfl,KQ,hb8,Q7,hg8⟩
  rw[<-hw1] at KQ hb8
  have hp8:av s8 s1.next cs:=hp7.Lo Q7 hg8 (by omega) (by omega)
  have ha8:ar s.next s s8:=hz7.trans ⟨by omega,fun j hj=>hg8 j (by omega) (by omega) (by omega)⟩
  have hz8:=ha8
  have uj:av s8 s2.next _:=hq7.Lo Q7 hg8 (by omega) (by omega)
  have hq8:=uj
  have KQ:av s8 s3.next (⟨w1.1,0,0,n.bytes,0⟩:Lk).cells:=KQ
  simp-implicitDefEqProofs(disch:=omega)only[aj,ak,ad,QS,WP,↓reduceIte,hn,yv,TX]
  refine(xo G s8 cs o (hO.keeps hz8) lP tt 1 s3.next s1.next s5.next 1 (⟨w1.1,0,0,n.bytes,0⟩:Lk).cells (true&&w1.2) rfl (by decide) KQ hp8 hb8 (by omega)).mono ?_
  rintro _ s9 ⟨rfl,hl9,hb9,hn9,hg9⟩
  rw[<-M0] at hl9 hb9
  have hp9:av s9 s1.next cs:=hp8.Lo hn9 hg9 (by omega) (by omega)
  have ha9:ar s.next s s9:=hz8.trans ⟨by omega,fun j hj=>hg9 j (by omega) (by omega) (by omega)⟩
  have hz9:=ha9
  have ht9:av s9 s2.next _:=hq8.Lo hn9 hg9 (by omega) (by omega)
  have hq9:=ht9
  have hl9:av s9 s3.next (⟨w1.1,w2.1,0,n.bytes,0⟩:Lk).cells:=hl9
  simp-implicitDefEqProofs(disch:=omega)only[aj,ak,ad,QS,WP,↓reduceIte,hn,yv,TY]
  refine(xo G s9 cs o (hO.keeps hz9) lP pJ 1 s3.next s1.next s5.next 2 (⟨w1.1,w2.1,0,n.bytes,0⟩:Lk).cells ((true&&w1.2)&&w2.2) rfl (by decide) hl9 hp9 hb9 (by omega)).mono ?_
  rintro _ WN ⟨rfl,Wh,acS,agX,acT⟩
  rw[<-JV] at Wh acS
  have agY:av WN s1.next cs:=hp9.Lo agX acT (by omega) (by omega)
  have als:ar s.next s WN:=hz9.trans ⟨by omega,fun j hj=>acT j (by omega) (by omega) (by omega)⟩
  have agZ:=als
  have alu:av WN s2.next _:=hq9.Lo agX acT (by omega) (by omega)
  have alv:=alu
  have Wh:av WN s3.next (⟨w1.1,w2.1,w3.1,n.bytes,0⟩:Lk).cells:=Wh
  simp-implicitDefEqProofs(disch:=omega)only[aj,ak,ad,QS,WP,↓reduceIte,hn,Va]
  refine(xo G WN cs o (hO.keeps agZ) lP IA 1 s3.next s1.next s5.next 4 (⟨w1.1,w2.1,w3.1,n.bytes,0⟩:Lk).cells (((true&&w1.2)&&w2.2)&&w3.2) rfl (by decide) Wh agY acS (by omega)).mono ?_
  rintro _ s11 ⟨rfl,Wi,acU,ag0,acV⟩
  rw[<-JX] at Wi acU
  have alw:av s11 s1.next cs:=agY.Lo ag0 acV (by omega) (by omega)
  have alx:ar s.next s s11:=agZ.trans ⟨by omega,fun j hj=>acV j (by omega) (by omega) (by omega)⟩
  have acW:=alx
  have aly:av s11 s2.next _:=alv.Lo ag0 acV (by omega) (by omega)
  have alz:=aly
  have Wi:av s11 s3.next (⟨w1.1,w2.1,w3.1,n.bytes,w4.1⟩:Lk).cells:=Wi
  have lp:=av.ga alw jH
  simp-implicitDefEqProofs(disch:=omega)only[aj,ak,ad,QS,WP,↓reduceIte,hn,h3,lp]
  refine(G4 G s11 cs o (hO.keeps acW) lP Gt 8).mono ?_
  rintro _ AN ⟨rfl,k12⟩
  rw[<-hw5]
  have x0:ba (.tuple #[.int .i64 w5.1,.bool w5.2]) 0=some (.int .i64 w5.1):=rfl
  have x1:ba (.tuple #[.int .i64 w5.1,.bool w5.2]) 1=some (.bool w5.2):=rfl
  simp-implicitDefEqProofs(disch:=omega)only[aj,QS,WP,↓reduceIte,hn,x0,x1]
  obtain⟨ok,dF⟩:∃ok,ok=((((true&&w1.2)&&w2.2)&&w3.2)&&w4.2):=⟨_,rfl⟩
  obtain⟨l,hl⟩:∃l:Lk,l=⟨w1.1,w2.1,w3.1,n.bytes,w4.1⟩:=⟨_,rfl⟩
  have hQl:ur n o=l:=by unfold ur;rw[<-hw1,<-M0,<-JV,<-JX,hl]
  have hU:G3 n o=((ok&&decide (ri l.p l.co l.cl))&&decide (l.early=1)&&(decide (l.p=1)||w5.2&&decide (w5.1=8))):=by
   unfold G3;rw[hQl,<-hw5];unfold aat;rw[<-hw1,<-M0,<-JV,<-JX,dF,Bool.true_and]
  have Y3:av s11 s3.next l.cells:=by rw[hl];exact Wi
  have Y4:av s11 s5.next [.bool ok]:=by rw[dF];exact acU
  have Y3:=Y3.keeps k12
  have Y4:=Y4.keeps k12
  have acG:=alz.keeps k12
  have ag1:=acW.trans (k12.weaken acW.next)
  clear yp KQ hl9 Wh Wi Yb hb8 hb9 acS acU
  obtain⟨A,hA⟩:∃A:Nat->Bool,A=fun j=>decide (j<AN.next):=⟨_,rfl⟩
  have nH:∀j,A j=true->j<AN.next:=by
   intro j h
   rw[hA] at h
   exact of_decide_eq_true h
  have hA3:A s3.next=true:=by rw[hA];exact decide_eq_true Y3.lt
  have hA5:A s5.next=true:=by rw[hA];exact decide_eq_true Y4.lt
  refine LB.da.fL A nH 1 0 (by kernel_rfl) (by kernel_rfl) ?_
  have eI:=ar.spare AN 0
  have X3:(spare AN 0).next=AN.next+0:=bU _ _
  have lo3:∀k,LA.fg A (some (.pointer (some ⟨s3.next,k,some 6⟩)))=true:=fun k=>LA.cD (A:=A) (i:=s3.next) hA3
  have lo5:∀k,LA.fg A (some (.pointer (some ⟨s5.next,k,some 2⟩)))=true:=fun k=>LA.cD (A:=A) (i:=s5.next) hA5
  have ac0:=Y3.keeps eI
  have ag2:=acG.keeps eI
  have Y5:ar s.next s (spare AN 0):=ag1.trans (eI.weaken ag1.next)
  have gF:cf (fC l) (fC l)=true:=by simp[cf,fK,cN,Lk.cells]
  have pl:aR Tryz.prog (spare AN 0) 58 (.pointer (some ⟨s3.next,0,some 6⟩))=some (fC l):=av.bu (P:=Tryz.prog) (cs:=l.cells) lB cV ac0 (c:=6) rfl
  have pb:aR Tryz.prog (spare AN 0) 4 (.pointer (some ⟨s5.next,0,some 2⟩))=some (.bool ok):=(Y4.keeps eI).load Nl (off:=0) (c:=2) rfl (by simp)
  have ps:aR Tryz.prog (spare AN 0) 56 (.pointer (some ⟨s3.next,0,some 6⟩))=some (i3 l.p l.co l.cl):=by
   have:=av.tn (P:=Tryz.prog) zz qS ac0 (off:=0) (c:=6) rfl (by simp[Lk.cells])
   rw[this];rfl
  have CV:cf (i3 l.p l.co l.cl) (i3 l.p l.co l.cl)=true:=by simp[cf,fK,cN]
  cases ok with
  |false=>
   simp-implicitDefEqProofs(disch:=omega)only[aj,ak,bS,bT,Nat.sub_self,QS,WP,↓reduceIte,undef,hn,h4,lo3,lo5,pl,pb,gF]
   refine LB.cF cV (by decide) ag2 rfl rfl rfl rfl (fun h=>absurd rfl h) ?_
   intro u Wj II LS
   have lo:=av.bu (P:=Tryz.prog) (cs:=l.cells) lB cV Wj (c:=6) rfl
   simp-implicitDefEqProofs(disch:=omega)only[aj,al,oneOf,QS,WP,↓reduceIte,aj,bS,bT,Nat.reduceSub,oneOf,QS,WP,↓reduceIte,hn,h4,aV,lo,Tryz.results32]
   rw[gp,e,hU,hQl]
   exact⟨by simp,Y5.trans ⟨by omega,fun j hj=>LS j (by omega)⟩⟩
  |true=>
   simp-implicitDefEqProofs(disch:=omega)only[aj,ak,bS,bT,Nat.sub_self,ad,QS,WP,↓reduceIte,hn,lo3,lo5,pl,pb,gF,yv,ps,CV]
   refine(wv (lib:=eC) rfl (spare AN 0) l.p l.co l.cl).mono ?_
   rintro _ s13 ⟨rfl,k13⟩
   refine⟨fun _=>LA.ar.OW nH (k13.weaken (by omega)),?_⟩
   have Wk:=ag2.keeps k13
   have ag3:=ac0.keeps k13
   have Wl:ar s.next s s13:=Y5.trans (k13.weaken Y5.next)
   have nz:=Y5.next
   have pe:aR Tryz.prog s13 3 (.pointer (some ⟨s3.next,4,some 6⟩))=some (.int .i64 l.early):=ag3.load bC (off:=4) (c:=6) rfl (by simp[Lk.cells])
   have pp:aR Tryz.prog s13 3 (.pointer (some ⟨s3.next,0,some 6⟩))=some (.int .i64 l.p):=ag3.load bC (off:=0) (c:=6) rfl (by simp[Lk.cells])
   by_cases d1:ri l.p l.co l.cl
   rotate_left
   ·rw[decide_eq_false d1] at hU|-
    simp-implicitDefEqProofs(disch:=omega)only[aj,ak,bS,bT,QS,WP,↓reduceIte,undef,hn,h4]
    refine LB.cF cV (by decide) Wk rfl rfl rfl rfl (fun h=>absurd rfl h) ?_
    intro u Wj II LS
    have lo:=av.bu (P:=Tryz.prog) (cs:=l.cells) lB cV Wj (c:=6) rfl
    simp-implicitDefEqProofs(disch:=omega)only[aj,al,oneOf,QS,WP,↓reduceIte,aj,bS,bT,Nat.reduceSub,oneOf,QS,WP,↓reduceIte,hn,h4,aV,lo,Tryz.results32]
    rw[gp,e,hU,hQl]
    exact⟨by simp,Wl.trans ⟨by omega,fun j hj=>LS j (by omega)⟩⟩
   rw[decide_eq_true d1] at hU|-
   by_cases d2:l.early=1
   rotate_left
   ·rw[decide_eq_false d2] at hU
    simp-implicitDefEqProofs(disch:=omega)only[aj,ak,bS,bT,QS,WP,↓reduceIte,undef,hn,h4,lo3,Va,pe,eq_false d2]
    refine LB.cF cV (by decide) Wk rfl rfl rfl rfl (fun h=>absurd rfl h) ?_
    intro u Wj II LS
    have lo:=av.bu (P:=Tryz.prog) (cs:=l.cells) lB cV Wj (c:=6) rfl
    simp-implicitDefEqProofs(disch:=omega)only[aj,al,oneOf,QS,WP,↓reduceIte,aj,bS,bT,Nat.reduceSub,oneOf,QS,WP,↓reduceIte,hn,h4,aV,lo,Tryz.results32]
    rw[gp,e,hU,hQl]
    exact⟨by simp,Wl.trans ⟨by omega,fun j hj=>LS j (by omega)⟩⟩
   rw[decide_eq_true d2] at hU
   by_cases d3:l.p=1
   ·rw[decide_eq_true d3] at hU
    simp-implicitDefEqProofs(disch:=omega)only[aj,ak,bS,bT,QS,WP,↓reduceIte,undef,hn,h4,lo3,Va,yv,wu,pe,pp,eq_true d2,eq_true d3]
    refine LB.cF cV (by decide) Wk rfl rfl rfl rfl (fun h=>absurd rfl h) ?_
    intro u Wj II LS
    have lo:=av.bu (P:=Tryz.prog) (cs:=l.cells) lB cV Wj (c:=6) rfl
    simp-implicitDefEqProofs(disch:=omega)only[aj,al,oneOf,QS,WP,↓reduceIte,aj,bS,bT,Nat.reduceSub,oneOf,QS,WP,↓reduceIte,hn,h4,aV,lo,Tryz.results32]
    rw[gp,e,hU,hQl]
    exact⟨by simp,Wl.trans ⟨by omega,fun j hj=>LS j (by omega)⟩⟩
   rw[decide_eq_false d3] at hU
   obtain⟨wn,wb⟩:=w5
   cases wb with
   |false=>
    simp-implicitDefEqProofs(disch:=omega)only[aj,ak,bS,bT,QS,WP,↓reduceIte,undef,hn,h4,lo3,Va,yv,wu,pe,pp,eq_true d2,eq_false d3]
    refine LB.cF cV (by decide) Wk rfl rfl rfl rfl (fun h=>absurd rfl h) ?_
    intro u Wj II LS
    have lo:=av.bu (P:=Tryz.prog) (cs:=l.cells) lB cV Wj (c:=6) rfl
    simp-implicitDefEqProofs(disch:=omega)only[aj,al,oneOf,QS,WP,↓reduceIte,aj,bS,bT,Nat.reduceSub,oneOf,QS,WP,↓reduceIte,hn,h4,aV,lo,Tryz.results32]
    rw[gp,e,hU,hQl]
    exact⟨by simp,Wl.trans ⟨by omega,fun j hj=>LS j (by omega)⟩⟩
   |true=>
    simp-implicitDefEqProofs(disch:=omega)only[aj,ak,bS,bT,QS,WP,↓reduceIte,hn,h4,lo3,Va,yv,wu,pe,pp,eq_true d2,eq_false d3]
    refine LB.cF cV (by decide) Wk rfl rfl rfl rfl (fun h=>absurd rfl h) ?_
    intro u Wj II LS
    have lo:=av.bu (P:=Tryz.prog) (cs:=l.cells) lB cV Wj (c:=6) rfl
    simp-implicitDefEqProofs(disch:=omega)only[aj,al,oneOf,QS,WP,↓reduceIte,aj,bS,bT,Nat.reduceSub,oneOf,QS,WP,↓reduceIte,hn,h4,aV,lo,Tryz.results32]
    rw[gp,e,hU,hQl]
    exact⟨by simp,Wl.trans ⟨by omega,fun j hj=>LS j (by omega)⟩⟩
 rcases c7 with c7|c7
 ·simp-implicitDefEqProofs(disch:=omega)only[aj,ak,QS,WP,↓reduceIte,undef,hn,l2,c7]
  exact go _ (by simp only[ag,hn]) (by simp only[aa,↓reduceIte,WP]) (by simp only[aa,↓reduceIte,WP]) (by simp only[aa,↓reduceIte,WP])
 ·have d70:decide ((7:Int)=0)=false:=rfl
  simp-implicitDefEqProofs(disch:=omega)only[aj,ak,QS,WP,↓reduceIte,hn,EC,l2,decide_not,c7,d70]
  exact go _ (by simp only[ag,hn]) (by simp only[aa,↓reduceIte,WP]) (by simp only[aa,↓reduceIte,WP]) (by simp only[aa,↓reduceIte,WP])
end Go.Proofs.YtdfjfncifneocaaGreat
