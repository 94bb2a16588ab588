import Derived.Test.YtdfjfncifneocaaGreatUnhexP
import Derived.Test.YtdfjfncifneocaaGreatBitsP
import Derived.Test.YtdfjfncifneocaaGreatNum
import Derived.Test.YtdfjfncifneocaaGreatFixW
import Derived.Test.YtdfjfncifneocaaGreatPrim
open Nat renaming reduceLT->QS,reduceEqDiff->WP
set_option linter.unusedSimpArgs false
set_option linter.unusedVariables false
set_option maxRecDepth 100000
namespace Go.Cl.Bt
structure kl (jx ic:Nat) (s s' :aq):Prop where
 next:s.next<=s'.next
 get:∀i,i<s.next->i≠jx->i≠ic->s'.heap.get i=s.heap.get i
theorem kl.refl (jx ic:Nat)(s:aq):kl jx ic s s:=⟨Nat.le_refl _,fun _ _ _ _=>rfl⟩
theorem kl.trans {jx ic:Nat}{s s' ss:aq}(h:kl jx ic s s')(k:kl jx ic s' ss):kl jx ic s ss:=⟨Nat.le_trans h.next k.next,fun i hi h1 h2=>(k.get i (Nat.lt_of_lt_of_le hi h.next) h1 h2).trans (h.get i hi h1 h2)⟩
theorem kl.put {jx ic:Nat}{s s' :aq}(h1:s'.next=s.next)(h2:∀j,j≠jx->s'.heap.get j=s.heap.get j):kl jx ic s s' :=⟨by omega,fun i _ h _=>h2 i h⟩
theorem kl.stay {jx ic base:Nat}{s s' :aq}(h:kl jx ic s s')(h1:base<=jx)(h2:base<=ic)(hb:base<=s.next):ar base s s' :=⟨h.next,fun i hi=>h.get i (by omega) (by omega) (by omega)⟩
end Go.Cl.Bt
namespace Go.Proofs.YtdfjfncifneocaaGreat
open Go.Cl Go.Cl.Sto Go.Cl.Bt Go.Cl.Rw
theorem kl.turns {jx ic:Nat}{s s' :aq}(h:aY (fO ic) s s'):kl jx ic s s' :=⟨h.next,fun i hi _ h2=>h.get i hi (fun e=>h2 (by injection e with e;exact e.symm))⟩
theorem Dm:bY Tryz.prog 112=some false:=by kernel_rfl
theorem Io:aW Tryz.prog 112=some 1:=by kernel_rfl
theorem ta (i o c:Nat):ay Tryz.prog 184 (.pointer (some ⟨i,o,some c⟩)) 0=some (.pointer (some ⟨i,o+0,some c⟩)):=by
 unfold ay;rw[Tryz.underlying184];simp[Io]
theorem GH (i o c:Nat):ay Tryz.prog 184 (.pointer (some ⟨i,o,some c⟩)) 1=some (.pointer (some ⟨i,o+1,some c⟩)):=by
 unfold ay;rw[Tryz.underlying184];simp[bB]
theorem km (i o c:Nat):ay Tryz.prog 184 (.pointer (some ⟨i,o,some c⟩)) 2=some (.pointer (some ⟨i,o+2,some c⟩)):=by
 unfold ay;rw[Tryz.underlying184];simp[bB]
abbrev pQ (j:Nat):Value:= .pointer (some ⟨j,0,some 4⟩)
theorem akK (i:Nat):cE Tryz.prog 184 [(0,fO i)]=some (.agg #[fO i,.int .i64 0,.int .i64 0]):=by
 unfold cE;rw[Tryz.underlying184]
 have hz:bW Tryz.prog 184=some (.agg #[.pointer none,.int .i64 0,.int .i64 0]):=by kernel_rfl
 rw[hz]
 have c1:(fO i).cells.toList=[fO i]:=rfl
 simp only[fI,placeOf,c1]
 simp[Io,bB,bP,gS,bO,setAt]
structure RZ (base:Nat) (s:aq) (jx ic:Nat) (b:List UInt8) (a p now left:Nat):Prop where
 c:ji base s ic b p
 t:av s jx [fO ic,.int .i64 now,.int .i64 left]
 e:a+left=8*p
 l8:left<=8
 r:0<left->now=rest b p left
 now:now<256
 lx:base<=jx
 lc:base<=ic
 ne:jx≠ic
def gL (base:Nat)(s:aq)(jx ic:Nat)(b:List UInt8)(a:Nat):Prop:=∃p now left,RZ base s jx ic b a p now left/\left<=7
theorem VE {lib:az}(hl:lib.at 149=none)(yQ:lib.at 100=none)(base:Nat)(s:aq)(x:Value)(b:List UInt8)(hx:x6 base s 1 x b.length (ofBytes b))(hb:base<=s.next):
  Runs Tryz.prog lib 149 [x] s fun v s' =>∃jx ic,v=pQ jx/\gL base s' jx ic b 0/\ar s.next s s' :=by
 refine Runs.enter 7 Tryz.func149 rfl hl rfl rfl ?_
 intro f hn hf
 have h0:f.get 0=x:=hf 0
 clear hf
 simp-implicitDefEqProofs(disch:=omega)only[aj,ak,ad,QS,WP,↓reduceIte,hn,h0]
 refine(Ik yQ base s x b hx hb).mono ?_
 rintro _ s1 ⟨rfl,hc,aD,DQ⟩
 simp-implicitDefEqProofs(disch:=omega)only[aj,ae,QS,↓reduceIte,hn,akK]
 refine ax ?_
 intro s2 ht aU im
 simp-implicitDefEqProofs(disch:=omega)only[aj,al,oneOf,QS,Nat.reduceAdd,↓reduceIte,hn,List.length_cons,List.length_nil,Tryz.results149]
 exact⟨s1.next,s.next,rfl,⟨0,0,0,⟨hc.keeps (by omega) aU,ht,rfl,by omega,fun h=>by omega,by omega,by omega,by omega,by omega⟩,by omega⟩,aD.trans (aU.weaken (by omega))⟩
theorem R0 {lib:az}(hl:lib.at 211=none)(base:Nat)(s:aq)(jx ic:Nat)(b:List UInt8)(a:Nat)(h:gL base s jx ic b a)(hb:base<=s.next):
  Runs Tryz.prog lib 211 [pQ jx] s fun _ s' =>gL base s' jx ic b (8*((a+7)/8))/\kl jx ic s s' :=by
 obtain⟨p,now,left,h,yp⟩:=h
 have he:=h.e
 refine Runs.enter 7 Tryz.func211 rfl hl rfl rfl ?_
 intro f hn hf
 have h0:f.get 0=pQ jx:=hf 0
 clear hf
 simp-implicitDefEqProofs(disch:=omega)only[aj,QS,WP,↓reduceIte,hn,h0,TI Tryz.underlying177,km]
 refine aX bB h.t rfl (by simp) rfl ?_
 intro t2 dZ im dg
 simp-implicitDefEqProofs(disch:=omega)only[aj,ah,Tryz.results211]
 have aD:kl jx ic s t2:=kl.put im dg
 have ha:8*((a+7)/8)=8*p:=by omega
 exact⟨⟨p,now,0,⟨h.c.turns hb (cQ h.lx) (aY.aI im dg) (dO h.ne),dZ,by omega,by omega,fun h=>by omega,h.now,h.lx,h.lc,h.ne⟩,by omega⟩,aD⟩
def takes (b:List UInt8)(a:Nat)(n:Int):Prop:=0<=n/\n<=16/\n<=8*(b.length:Int)-a
instance (b:List UInt8) (a:Nat) (n:Int):Decidable (takes b a n):=by unfold takes;infer_instance
def oP (b:List UInt8)(a:Nat)(n:Int):Int:=if takes b a n then(bM b a n.toNat:Nat) else-1
def agr (base:Nat)(s:aq)(jx ic:Nat)(b:List UInt8)(a:Nat)(n:Int)(v:Value)(s' :aq):Prop:=
 v= .int .i64 (oP b a n)/\gL base s' jx ic b (if takes b a n then a+n.toNat else a)/\kl jx ic s s'
set_option maxRecDepth 100000 in
set_option maxHeartbeats 8000000 in
theorem GI {lib:az}(hl:lib.at 210=none)(yQ:lib.at 155=none)(jQ:lib.at 192=none)(m9:lib.at 186=none)(kX:lib.at 209=none)(jS:lib.at 105=none)
  (base:Nat) (s:aq) (jx ic:Nat) (b:List UInt8) (a:Nat) (n:Int) (h:gL base s jx ic b a) (hb:base<=s.next) (hlen:b.length<=1000000):
  Runs Tryz.prog lib 210 [pQ jx,.int .i64 n] s (agr base s jx ic b a n):=by
 obtain⟨p,now,left,h,yp⟩:=id h
 have he:=h.e
 have SL:=h.t.lt
 have oY:p<=b.length:=h.c.choose_spec.2.2.2
 have g0:=h.t.load (P:=Tryz.prog) Dm (off:=0) (c:=4) rfl (by simp)
 have g2:=h.t.load (P:=Tryz.prog) bC (off:=2) (c:=4) rfl (by simp)
 refine Runs.enter 93 Tryz.func210 rfl hl rfl rfl ?_
 intro f hn hf
 have h0:f.get 0=pQ jx:=hf 0
 have h1:f.get 1= .int .i64 n:=hf 1
 clear hf
 have no:¬takes b a n->agr base s jx ic b a n (.int .i64 (-1)) s:=fun RT=>⟨by unfold oP;rw[if_neg RT],by rw[if_neg RT];exact⟨p,now,left,h,yp⟩,kl.refl _ _ _⟩
 simp-implicitDefEqProofs(disch:=omega)only[aj,QS,↓reduceIte,hn]
 obtain⟨A,hA⟩:∃A:Nat->Bool,A=fun j=>decide (j<s.next):=⟨_,rfl⟩
 have nH:∀j,A j=true->j<s.next:=by
  intro j h
  rw[hA] at h
  exact of_decide_eq_true h
 have ml:∀k,LA.fg A (some (.pointer (some ⟨jx,k,some 4⟩)))=true:=fun k=>LA.cD (A:=A) (i:=jx) (by rw[hA];exact decide_eq_true SL)
 have ml0:LA.fg A (some (pQ jx))=true:=ml 0
 refine LB.da.fL A nH 1 0 (by kernel_rfl) (by kernel_rfl) ?_
 clear hA
 by_cases c1:n<0
 ·simp-implicitDefEqProofs(disch:=omega)only[aj,ak,bS,bT,Nat.sub_self,QS,WP,↓reduceIte,undef,hn,h0,h1,cP Tryz.underlying177,cP Tryz.underlying112,ta,g0,ml,qi,eq_true c1]
  simp-implicitDefEqProofs(disch:=omega)only[aj,al,oneOf,QS,↓reduceIte,hn,Tryz.results210]
  exact no (fun q=>by have:=q.1;omega)
 by_cases c2:16<n
 ·simp-implicitDefEqProofs(disch:=omega)only[aj,ak,bS,bT,Nat.sub_self,QS,WP,↓reduceIte,undef,hn,h0,h1,cP Tryz.underlying177,cP Tryz.underlying112,ta,g0,ml,qi,eq_false c1,eq_true c2]
  simp-implicitDefEqProofs(disch:=omega)only[aj,al,oneOf,QS,↓reduceIte,hn,Tryz.results210]
  exact no (fun q=>by have:=q.2.1;omega)
 obtain⟨m,rfl⟩:∃m:Nat,n=m:=⟨n.toNat,by omega⟩
 have YJ:(m:Int)<=8*(b.length:Int)-a->takes b a m:=fun q=>⟨by omega,by omega,q⟩
 by_cases c3:left<m
 ·have Ks:(left:Int)<(m:Int):=by omega
  have e1:(m:Int)-(left:Int)+7=((m-left+7:Nat):Int):=by omega
  simp-implicitDefEqProofs(disch:=omega)only[aj,ak,bS,bT,Nat.sub_self,ad,QS,WP,↓reduceIte,undef,hn,h0,h1,cP Tryz.underlying177,cP Tryz.underlying112,ta,km,g0,g2,ml,qi,eq_false c1,eq_false c2,eq_true Ks,aB,e1,mw,Q6]
  refine(Dj m9 kX jS base s ic b p h.c (by omega)).mono ?_
  rintro _ s1 ⟨rfl,jZ⟩
  subst jZ
  refine⟨fun _=>LA.dD.refl _ _,?_⟩
  by_cases c4:b.length-p<(m-left+7)/8
  ·have WU:((b.length-p:Nat):Int)<(((m-left+7)/8:Nat):Int):=by omega
   simp-implicitDefEqProofs(disch:=omega)only[aj,ak,bS,bT,QS,WP,↓reduceIte,hn,eq_true WU]
   simp-implicitDefEqProofs(disch:=omega)only[aj,al,oneOf,QS,↓reduceIte,hn,Tryz.results210]
   exact no (fun q=>by have:=q.2.2;omega)
  ·have WU:¬((b.length-p:Nat):Int)<(((m-left+7)/8:Nat):Int):=by omega
   have kA:(m:Int)<=8*(b.length:Int)-a:=by omega
   simp-implicitDefEqProofs(disch:=omega)only[aj,ak,bS,bT,QS,WP,↓reduceIte,hn,h1,eq_false WU]
   refine Comes.eU (fun q f s' =>∃(i p now left:Nat),q=m-i/\i<=m/\RZ base s' jx ic b (a+i) p now left/\left<=7/\kl jx ic s1 s' /\f.n=93/\f.get 0=pQ jx/\f.get 5= .int .i64 (bM b a i:Nat)/\f.get 48= .int .i64 m/\f.get 49= .int .i64 i)
    ⟨0,p,now,left,rfl,by omega,h,yp,kl.refl _ _ _,by simp only[ag,hn],by simp only[aa,↓reduceIte,WP,h0],by simp only[aa,↓reduceIte,WP];rfl,by simp only[aa,↓reduceIte,WP],by simp only[aa,↓reduceIte];rfl⟩ ?_
   clear hn h0 h1 f g0 g2 h he yp oY c3 Ks no
   rintro q f s2 ⟨i,p,nw,lf,rfl,hi,h,yp,aD,hn,h0,h5,tg,Ar⟩
   have gu:=Nat.le_trans hb aD.next
   have he:=h.e
   have oY:p<=b.length:=h.c.choose_spec.2.2.2
   by_cases him:i<m
   ·have Ip:(i:Int)<m:=by omega
    have g0:=h.t.load (P:=Tryz.prog) Dm (off:=0) (c:=4) rfl (by simp)
    have g2:=h.t.load (P:=Tryz.prog) bC (off:=2) (c:=4) rfl (by simp)
    by_cases hz:lf=0
    ·have uy:(lf:Int)=0:=by omega
     have akL:p<b.length:=by omega
     simp-implicitDefEqProofs(disch:=omega)only[aj,ak,ad,QS,WP,↓reduceIte,hn,h0,tg,Ar,eq_true Ip,ta,km,g0,g2,eq_true uy]
     refine(w7 yQ jQ m9 kX jS base s2 ic b p h.c gu (by omega)).mono ?_
     rintro _ s3 ⟨rfl,xN,jt⟩
     have rS:eG b p=((b.getD p 0).toNat:Int):=by unfold eG;rw[if_pos (by omega),Int.toNat_natCast]
     have htx:=h.t.turns jt (dO (fun e=>h.ne e.symm))
     have bH:=aD.trans (kl.turns (jx:=jx) jt)
     rw[Nat.min_eq_left (by omega)] at xN
     simp-implicitDefEqProofs(disch:=omega)only[aj,QS,WP,↓reduceIte,hn,rS,GH]
     refine aX bB htx rfl (by simp) rfl ?_
     intro t1 eO iJ jZ
     simp-implicitDefEqProofs(disch:=omega)only[aj,QS,WP,↓reduceIte,hn,km]
     refine aX bB eO rfl (by simp) rfl ?_
     intro t2 dZ im dg
     have rz:=Nat.le_trans hb bH.next
     have Vx:=xN.turns rz (cQ h.lx) (aY.aI iJ jZ) (dO h.ne)
     have hc5:=Vx.turns (by omega) (cQ h.lx) (aY.aI im dg) (dO h.ne)
     have qx:=bH.trans ((kl.put (ic:=ic) iJ jZ).trans (kl.put im dg))
     have h8:RZ base t2 jx ic b (a+i) (p+1) (b.getD p 0).toNat 8:=⟨hc5,dZ,by omega,by omega,fun _=>(GG b p).symm,(b.getD p 0).toNat_lt,h.lx,h.lc,h.ne⟩
     simp-implicitDefEqProofs(disch:=omega)only[aj,QS,WP,↓reduceIte,hn,h0,h5]
     clear xN jt htx bH eO iJ jZ dZ im dg rz Vx hc5 h g0 g2
     have g1:=(h8).t.load (P:=Tryz.prog) bC (off:=1) (c:=4) rfl (by simp)
     have hle:=(h8).e
     have KQ:=(h8).l8
     have nZ:=(h8).r (by omega)
     have Iq:=w9 (b:=b) (a:=a+i) (by omega) KQ hle
     rw[<-nZ] at Iq
     have hv:=iV b a i
     have dB:=uQ b (a+i)
     have Dn:i<32:=by omega
     have Ih:bM b a i+bit b (a+i)*2^i=bM b a (i+1):=rfl
     have qU:=orI hv dB Dn
     rw[Ih] at qU
     have ug:=Q9 Tryz.prog 3 .i64 dB Dn
     have acq:=(h8).now
     have R1:=PI ((b.getD p 0).toNat) (by omega)
     rw[Iq] at R1
     simp-implicitDefEqProofs(disch:=omega)only[aj,ak,QS,WP,↓reduceIte,hn,h0,GH,g1,eL,R1,ug,jB,qU,YI]
     refine aX bB (h8).t rfl (by simp) rfl ?_
     intro t1 eO iJ jZ
     have g2:=eO.load (P:=Tryz.prog) bC (off:=2) (c:=4) rfl (by simp)
     have e1:((8:Nat):Int)-1=((8-1:Nat):Int):=by omega
     simp-implicitDefEqProofs(disch:=omega)only[aj,ak,QS,WP,↓reduceIte,hn,h0,km,g2,e1,aB]
     refine aX bB eO rfl (by simp) rfl ?_
     intro t2 dZ im dg
     simp-implicitDefEqProofs(disch:=omega)only[aj,QS,WP,↓reduceIte,hn,Ar,aB]
     have uv:=Nat.le_trans hb (qx).next
     have iT:=(h8).c.turns uv (cQ (h8).lx) (aY.aI iJ jZ) (dO (h8).ne)
     have lI:=iT.turns (by omega) (cQ (h8).lx) (aY.aI im dg) (dO (h8).ne)
     have aU:=(qx).trans ((kl.put (ic:=ic) iJ jZ).trans (kl.put im dg))
     refine au (m-(i+1)) (by omega) ⟨i+1,_,(b.getD p 0).toNat/2,8-1,rfl,by omega,⟨lI,dZ,by omega,by omega,fun IJ=>by rw[nZ];exact tz (by omega) KQ,by omega,(h8).lx,(h8).lc,(h8).ne⟩,by omega,aU,by simp only[ag,hn],by simp only[aa,↓reduceIte,WP,h0],by simp only[aa,↓reduceIte,WP],by simp only[aa,↓reduceIte,WP,tg],by simp only[aa,↓reduceIte];rfl⟩
    ·have uy:¬(lf:Int)=0:=by omega
     simp-implicitDefEqProofs(disch:=omega)only[aj,ak,QS,WP,↓reduceIte,hn,h0,tg,Ar,h5,eq_true Ip,km,g2,eq_false uy]
     have g1:=(h).t.load (P:=Tryz.prog) bC (off:=1) (c:=4) rfl (by simp)
     have hle:=(h).e
     have KQ:=(h).l8
     have nZ:=(h).r (by omega)
     have Iq:=w9 (b:=b) (a:=a+i) (by omega) KQ hle
     rw[<-nZ] at Iq
     have hv:=iV b a i
     have dB:=uQ b (a+i)
     have Dn:i<32:=by omega
     have Ih:bM b a i+bit b (a+i)*2^i=bM b a (i+1):=rfl
     have qU:=orI hv dB Dn
     rw[Ih] at qU
     have ug:=Q9 Tryz.prog 3 .i64 dB Dn
     have acq:=(h).now
     have R1:=PI (nw) (by omega)
     rw[Iq] at R1
     simp-implicitDefEqProofs(disch:=omega)only[aj,ak,QS,WP,↓reduceIte,hn,h0,GH,g1,eL,R1,ug,jB,qU,YI]
     refine aX bB (h).t rfl (by simp) rfl ?_
     intro t1 eO iJ jZ
     have g2:=eO.load (P:=Tryz.prog) bC (off:=2) (c:=4) rfl (by simp)
     have e1:((lf:Nat):Int)-1=((lf-1:Nat):Int):=by omega
     simp-implicitDefEqProofs(disch:=omega)only[aj,ak,QS,WP,↓reduceIte,hn,h0,km,g2,e1,aB]
     refine aX bB eO rfl (by simp) rfl ?_
     intro t2 dZ im dg
     simp-implicitDefEqProofs(disch:=omega)only[aj,QS,WP,↓reduceIte,hn,Ar,aB]
     have uv:=Nat.le_trans hb (aD).next
     have iT:=(h).c.turns uv (cQ (h).lx) (aY.aI iJ jZ) (dO (h).ne)
     have lI:=iT.turns (by omega) (cQ (h).lx) (aY.aI im dg) (dO (h).ne)
     have aU:=(aD).trans ((kl.put (ic:=ic) iJ jZ).trans (kl.put im dg))
     refine au (m-(i+1)) (by omega) ⟨i+1,_,nw/2,lf-1,rfl,by omega,⟨lI,dZ,by omega,by omega,fun IJ=>by rw[nZ];exact tz (by omega) KQ,by omega,(h).lx,(h).lc,(h).ne⟩,by omega,aU,by simp only[ag,hn],by simp only[aa,↓reduceIte,WP,h0],by simp only[aa,↓reduceIte,WP],by simp only[aa,↓reduceIte,WP,tg],by simp only[aa,↓reduceIte];rfl⟩
   ·obtain rfl:i=m:=by omega
    have Ip:¬(i:Int)<i:=by omega
    simp-implicitDefEqProofs(disch:=omega)only[aj,al,oneOf,QS,WP,↓reduceIte,hn,tg,Ar,h5,eq_false Ip,Tryz.results210]
    refine⟨by unfold oP;rw[if_pos (YJ kA),Int.toNat_natCast],?_,aD⟩
    rw[if_pos (YJ kA),Int.toNat_natCast]
    exact⟨p,nw,lf,h,yp⟩
 ·have Ks:¬(left:Int)<(m:Int):=by omega
  have kA:(m:Int)<=8*(b.length:Int)-a:=by omega
  simp-implicitDefEqProofs(disch:=omega)only[aj,ak,bS,bT,Nat.sub_self,QS,WP,↓reduceIte,undef,hn,h0,h1,cP Tryz.underlying177,cP Tryz.underlying112,ta,km,g0,g2,ml,qi,eq_false c1,eq_false c2,eq_false Ks]
  refine Comes.eU (fun q f s' =>∃(i p now left:Nat),q=m-i/\i<=m/\RZ base s' jx ic b (a+i) p now left/\left<=7/\kl jx ic s s' /\f.n=93/\f.get 0=pQ jx/\f.get 5= .int .i64 (bM b a i:Nat)/\f.get 48= .int .i64 m/\f.get 49= .int .i64 i)
   ⟨0,p,now,left,rfl,by omega,h,yp,kl.refl _ _ _,by simp only[ag,hn],by simp only[aa,↓reduceIte,WP,h0],by simp only[aa,↓reduceIte,WP];rfl,by simp only[aa,↓reduceIte,WP],by simp only[aa,↓reduceIte];rfl⟩ ?_
  clear hn h0 h1 f g0 g2 h he yp oY c3 Ks no
  rintro q f s2 ⟨i,p,nw,lf,rfl,hi,h,yp,aD,hn,h0,h5,tg,Ar⟩
  have gu:=Nat.le_trans hb aD.next
  have he:=h.e
  have oY:p<=b.length:=h.c.choose_spec.2.2.2
  by_cases him:i<m
  ·have Ip:(i:Int)<m:=by omega
   have g0:=h.t.load (P:=Tryz.prog) Dm (off:=0) (c:=4) rfl (by simp)
   have g2:=h.t.load (P:=Tryz.prog) bC (off:=2) (c:=4) rfl (by simp)
   by_cases hz:lf=0
   ·have uy:(lf:Int)=0:=by omega
    have akL:p<b.length:=by omega
    simp-implicitDefEqProofs(disch:=omega)only[aj,ak,ad,QS,WP,↓reduceIte,hn,h0,tg,Ar,eq_true Ip,ta,km,g0,g2,eq_true uy]
    refine(w7 yQ jQ m9 kX jS base s2 ic b p h.c gu (by omega)).mono ?_
    rintro _ s3 ⟨rfl,xN,jt⟩
    have rS:eG b p=((b.getD p 0).toNat:Int):=by unfold eG;rw[if_pos (by omega),Int.toNat_natCast]
    have htx:=h.t.turns jt (dO (fun e=>h.ne e.symm))
    have bH:=aD.trans (kl.turns (jx:=jx) jt)
    rw[Nat.min_eq_left (by omega)] at xN
    simp-implicitDefEqProofs(disch:=omega)only[aj,QS,WP,↓reduceIte,hn,rS,GH]
    refine aX bB htx rfl (by simp) rfl ?_
    intro t1 eO iJ jZ
    simp-implicitDefEqProofs(disch:=omega)only[aj,QS,WP,↓reduceIte,hn,km]
    refine aX bB eO rfl (by simp) rfl ?_
    intro t2 dZ im dg
    have rz:=Nat.le_trans hb bH.next
    have Vx:=xN.turns rz (cQ h.lx) (aY.aI iJ jZ) (dO h.ne)
    have hc5:=Vx.turns (by omega) (cQ h.lx) (aY.aI im dg) (dO h.ne)
    have qx:=bH.trans ((kl.put (ic:=ic) iJ jZ).trans (kl.put im dg))
    have h8:RZ base t2 jx ic b (a+i) (p+1) (b.getD p 0).toNat 8:=⟨hc5,dZ,by omega,by omega,fun _=>(GG b p).symm,(b.getD p 0).toNat_lt,h.lx,h.lc,h.ne⟩
    simp-implicitDefEqProofs(disch:=omega)only[aj,QS,WP,↓reduceIte,hn,h0,h5]
    clear xN jt htx bH eO iJ jZ dZ im dg rz Vx hc5 h g0 g2
    have g1:=(h8).t.load (P:=Tryz.prog) bC (off:=1) (c:=4) rfl (by simp)
    have hle:=(h8).e
    have KQ:=(h8).l8
    have nZ:=(h8).r (by omega)
    have Iq:=w9 (b:=b) (a:=a+i) (by omega) KQ hle
    rw[<-nZ] at Iq
    have hv:=iV b a i
    have dB:=uQ b (a+i)
    have Dn:i<32:=by omega
    have Ih:bM b a i+bit b (a+i)*2^i=bM b a (i+1):=rfl
    have qU:=orI hv dB Dn
    rw[Ih] at qU
    have ug:=Q9 Tryz.prog 3 .i64 dB Dn
    have acq:=(h8).now
    have R1:=PI ((b.getD p 0).toNat) (by omega)
    rw[Iq] at R1
    simp-implicitDefEqProofs(disch:=omega)only[aj,ak,QS,WP,↓reduceIte,hn,h0,GH,g1,eL,R1,ug,jB,qU,YI]
    refine aX bB (h8).t rfl (by simp) rfl ?_
    intro t1 eO iJ jZ
    have g2:=eO.load (P:=Tryz.prog) bC (off:=2) (c:=4) rfl (by simp)
    have e1:((8:Nat):Int)-1=((8-1:Nat):Int):=by omega
    simp-implicitDefEqProofs(disch:=omega)only[aj,ak,QS,WP,↓reduceIte,hn,h0,km,g2,e1,aB]
    refine aX bB eO rfl (by simp) rfl ?_
    intro t2 dZ im dg
    simp-implicitDefEqProofs(disch:=omega)only[aj,QS,WP,↓reduceIte,hn,Ar,aB]
    have uv:=Nat.le_trans hb (qx).next
    have iT:=(h8).c.turns uv (cQ (h8).lx) (aY.aI iJ jZ) (dO (h8).ne)
    have lI:=iT.turns (by omega) (cQ (h8).lx) (aY.aI im dg) (dO (h8).ne)
    have aU:=(qx).trans ((kl.put (ic:=ic) iJ jZ).trans (kl.put im dg))
    refine au (m-(i+1)) (by omega) ⟨i+1,_,(b.getD p 0).toNat/2,8-1,rfl,by omega,⟨lI,dZ,by omega,by omega,fun IJ=>by rw[nZ];exact tz (by omega) KQ,by omega,(h8).lx,(h8).lc,(h8).ne⟩,by omega,aU,by simp only[ag,hn],by simp only[aa,↓reduceIte,WP,h0],by simp only[aa,↓reduceIte,WP],by simp only[aa,↓reduceIte,WP,tg],by simp only[aa,↓reduceIte];rfl⟩
   ·have uy:¬(lf:Int)=0:=by omega
    simp-implicitDefEqProofs(disch:=omega)only[aj,ak,QS,WP,↓reduceIte,hn,h0,tg,Ar,h5,eq_true Ip,km,g2,eq_false uy]
    have g1:=(h).t.load (P:=Tryz.prog) bC (off:=1) (c:=4) rfl (by simp)
    have hle:=(h).e
    have KQ:=(h).l8
    have nZ:=(h).r (by omega)
    have Iq:=w9 (b:=b) (a:=a+i) (by omega) KQ hle
    rw[<-nZ] at Iq
    have hv:=iV b a i
    have dB:=uQ b (a+i)
    have Dn:i<32:=by omega
    have Ih:bM b a i+bit b (a+i)*2^i=bM b a (i+1):=rfl
    have qU:=orI hv dB Dn
    rw[Ih] at qU
    have ug:=Q9 Tryz.prog 3 .i64 dB Dn
    have acq:=(h).now
    have R1:=PI (nw) (by omega)
    rw[Iq] at R1
    simp-implicitDefEqProofs(disch:=omega)only[aj,ak,QS,WP,↓reduceIte,hn,h0,GH,g1,eL,R1,ug,jB,qU,YI]
    refine aX bB (h).t rfl (by simp) rfl ?_
    intro t1 eO iJ jZ
    have g2:=eO.load (P:=Tryz.prog) bC (off:=2) (c:=4) rfl (by simp)
    have e1:((lf:Nat):Int)-1=((lf-1:Nat):Int):=by omega
    simp-implicitDefEqProofs(disch:=omega)only[aj,ak,QS,WP,↓reduceIte,hn,h0,km,g2,e1,aB]
    refine aX bB eO rfl (by simp) rfl ?_
    intro t2 dZ im dg
    simp-implicitDefEqProofs(disch:=omega)only[aj,QS,WP,↓reduceIte,hn,Ar,aB]
    have uv:=Nat.le_trans hb (aD).next
    have iT:=(h).c.turns uv (cQ (h).lx) (aY.aI iJ jZ) (dO (h).ne)
    have lI:=iT.turns (by omega) (cQ (h).lx) (aY.aI im dg) (dO (h).ne)
    have aU:=(aD).trans ((kl.put (ic:=ic) iJ jZ).trans (kl.put im dg))
    refine au (m-(i+1)) (by omega) ⟨i+1,_,nw/2,lf-1,rfl,by omega,⟨lI,dZ,by omega,by omega,fun IJ=>by rw[nZ];exact tz (by omega) KQ,by omega,(h).lx,(h).lc,(h).ne⟩,by omega,aU,by simp only[ag,hn],by simp only[aa,↓reduceIte,WP,h0],by simp only[aa,↓reduceIte,WP],by simp only[aa,↓reduceIte,WP,tg],by simp only[aa,↓reduceIte];rfl⟩
  ·obtain rfl:i=m:=by omega
   have Ip:¬(i:Int)<i:=by omega
   simp-implicitDefEqProofs(disch:=omega)only[aj,al,oneOf,QS,WP,↓reduceIte,hn,tg,Ar,h5,eq_false Ip,Tryz.results210]
   refine⟨by unfold oP;rw[if_pos (YJ kA),Int.toNat_natCast],?_,aD⟩
   rw[if_pos (YJ kA),Int.toNat_natCast]
   exact⟨p,nw,lf,h,yp⟩
end Go.Proofs.YtdfjfncifneocaaGreat
set_option linter.unusedSimpArgs false
set_option linter.unusedVariables false
set_option maxRecDepth 100000
namespace Go.Proofs.YtdfjfncifneocaaGreat
open Go.Cl Go.Cl.Sto Go.Cl.Rw
abbrev acr (j:Nat):Value:= .pointer (some ⟨j,0,some 4⟩)
theorem PJ:bY Tryz.prog 190=some false:=by kernel_rfl
structure Fl (base:Nat) (s:aq) (jf jb:Nat) (D:List UInt8) (p:Nat) (P:List UInt8) (M:Int) (bv o:Value):Prop where
 b:av s jb [bv,.int .i64 (p:Nat),.int .i64 0]
 f:av s jf [acr jb,o,.int .i64 M]
 low:x6 base s 1 bv D.length (ofBytes D)
 own:Own s 1 o P.length (ofBytes P)
 fresh:aH base o
 nb:aE o≠some jb
 nf:aE o≠some jf
 ne:jb≠jf
 lb:base<=jb
 lf:base<=jf
theorem Fl.at {base:Nat}{s s' :aq}{jf jb:Nat}{D P:List UInt8}{p p' :Nat}{M:Int}{bv o:Value}(h:Fl base s jf jb D p P M bv o)(hb:av s' jb [bv,.int .i64 (p' :Nat),.int .i64 0])(hn:s'.next=s.next)(hs:∀i,i≠jb->s'.heap.get i=s.heap.get i):Fl base s' jf jb D p' P M bv o:=
 ⟨hb,h.f.turns (aY.aI (i:=jb) (o:=0) (c:=none) hn hs) (fun e=>h.ne (by injection e)),h.low.stay (ar.aI hn hs h.lb),h.own.aI hn hs h.nb,h.fresh,h.nb,h.nf,h.ne,h.lb,h.lf⟩
end Go.Proofs.YtdfjfncifneocaaGreat
set_option linter.unusedSimpArgs false
set_option linter.unusedVariables false
set_option maxRecDepth 100000
namespace Go.Proofs.YtdfjfncifneocaaGreat
open Go.Cl Go.Cl.Sto Go.Cl.Rw
end Go.Proofs.YtdfjfncifneocaaGreat
namespace Go.Cl.Fx
open Go.Cl.Rw Go.Cl.Sto
theorem tb (z j:Nat):z/2^j%2=(z.testBit j).toNat:=by
 rw[Nat.testBit_eq_decide_div_mod_eq]
 have:z/2^j%2<2:=Nat.mod_lt _ (by omega)
 generalize z/2^j%2=q at this
 have:q=0\/q=1:=by omega
 rcases this with rfl|rfl<;>rfl
theorem VF (y:UInt8)(x:Int){k j:Nat}(hk:k<8):(Eo y x k).toNat/2^j%2=if j=k/\x%2=1 then 1 else y.toNat/2^j%2:=by
 unfold Eo
 have hb:(x%2)=0\/(x%2)=1:=by omega
 rcases hb with hb|hb
 ·rw[hb]
  have:(UInt8.ofNat ((0:Int).toNat*2^k))=0:=by simp
  rw[this]
  simp
 ·rw[hb]
  have hp:2^k<256:=by
   have:2^k<=2^7:=Nat.pow_le_pow_right (by omega) (by omega)
   have:(2:Nat)^7=128:=rfl
   omega
  have e:(UInt8.ofNat ((1:Int).toNat*2^k)).toNat=2^k:=by
   rw[UInt8.toNat_ofNat',show(1:Int).toNat=1 from rfl,Nat.one_mul,Nat.mod_eq_of_lt hp]
  rw[tb,tb,UInt8.toNat_or,e,Nat.testBit_or,Nat.testBit_two_pow]
  by_cases c:j=k
  ·subst c;simp
  ·have:¬k=j:=fun h=>c h.symm
   simp[c,this]
theorem GJ (p:List UInt8×Nat)(q:Nat):(room p).getD q 0=p.1.getD q 0:=by
 unfold room
 split
 ·simp only[List.getD_eq_getElem?_getD]
  by_cases c:q<p.1.length
  ·rw[List.getElem?_append_left c]
  ·rw[List.getElem?_append_right (by omega),List.getElem?_eq_none (by omega:p.1.length<=q)]
   by_cases c2:q-p.1.length=0
   ·rw[c2];rfl
   ·rw[List.getElem?_eq_none (by simp;omega)]
 ·rfl
theorem yF {p:List UInt8×Nat}(h:Ok p)(x:Int)(i:Nat):bit (nh p x).1 i=if i=p.2/\x%2=1 then 1 else bit p.1 i:=by
 obtain⟨h1,h2⟩:=wx h
 unfold nh bit
 have hs:∀v:UInt8,((room p).set (p.2/8) v).getD (i/8) 0=if i/8=p.2/8 then v else p.1.getD (i/8) 0:=by
  intro v
  by_cases c:i/8=p.2/8
  ·rw[if_pos c,c,List.getD_eq_getElem?_getD,List.getElem?_set_self h1];rfl
  ·rw[if_neg c,<-GJ,List.getD_eq_getElem?_getD,List.getElem?_set_ne (Ne.symm c),List.getD_eq_getElem?_getD]
 simp only[hs]
 by_cases c:i/8=p.2/8
 ·rw[if_pos c,VF _ _ (Nat.mod_lt _ (by omega)),GJ,c]
  by_cases c2:i=p.2
  ·subst c2;simp
  ·rw[if_neg (by omega),if_neg (by omega)]
 ·rw[if_neg c,if_neg (by intro e;rw[e.1] at c;exact c rfl)]
def Zs (p:List UInt8×Nat):Prop:=∀i,p.2<=i->bit p.1 i=0
structure Pre (p q:List UInt8×Nat):Prop where
 le:p.2<=q.2
 bits:∀i,i<p.2->bit q.1 i=bit p.1 i
theorem Pre.refl (p:List UInt8×Nat):Pre p p:=⟨Nat.le_refl _,fun _ _=>rfl⟩
theorem Pre.trans {p q r:List UInt8×Nat}(h:Pre p q)(k:Pre q r):Pre p r:=⟨Nat.le_trans h.le k.le,fun i hi=>by rw[k.bits i (Nat.lt_of_lt_of_le hi h.le),h.bits i hi]⟩
structure mK (p:List UInt8×Nat):Prop where
 ok:Ok p
 zs:Zs p
theorem R2 {p:List UInt8×Nat}(h:mK p)(x:Int):mK (nh p x)/\Pre p (nh p x)/\bit (nh p x).1 p.2=(x%2).toNat:=by
 refine⟨⟨Ay h.ok,fun i hi=> ?_⟩,⟨by show p.2<=p.2+1;omega,fun i hi=> ?_⟩,?_⟩
 ·have hi:p.2+1<=i:=hi
  rw[yF h.ok,if_neg (by omega)];exact h.zs i (by omega)
 ·rw[yF h.ok,if_neg (by omega)]
 ·rw[yF h.ok,h.zs p.2 (Nat.le_refl _)]
  have hb:(x%2)=0\/(x%2)=1:=by omega
  rcases hb with hb|hb<;>simp[hb]
theorem mR {p:List UInt8×Nat}(h:mK p)(x:Int):∀w,mK (lz p x w)/\Pre p (lz p x w)/\∀i,i<w->bit (lz p x w).1 (p.2+i)=(x.fdiv (2^i)%2).toNat
 |0=>⟨h,Pre.refl p,fun i hi=>absurd hi (Nat.not_lt_zero i)⟩
 |w+1=>by
  obtain⟨h1,h2,h3⟩:=mR h x w
  obtain⟨k1,k2,k3⟩:=R2 h1 (x.fdiv (2^w))
  have e:(lz p x w).2=p.2+w:=ki p x w
  refine⟨k1,h2.trans k2,fun i hi=> ?_⟩
  show bit (nh (lz p x w) (x.fdiv (2^w))).1 (p.2+i)=_
  by_cases c:i=w
  ·subst c;rw[<-e,k3]
  ·rw[k2.bits _ (by rw[e];omega),h3 i (by omega)]
theorem VG (n i:Nat):(((n:Int).fdiv (2^i))%2).toNat=n/2^i%2:=by
 rw[Int.fdiv_eq_ediv_of_nonneg _ (by exact Int.pow_nonneg (by omega))]
 have:(n:Int)/(2:Int)^i=((n/2^i:Nat):Int):=by norm_cast
 rw[this];omega
theorem KR {D:List UInt8}{a n:Nat}:∀w,(∀i,i<w->bit D (a+i)=n/2^i%2)->bM D a w=n%2^w
 |0,_=>by simp[bM,Nat.mod_one]
 |w+1,h=>by
  simp only[bM]
  rw[KR w (fun i hi=>h i (by omega)),h w (by omega),Nat.mod_pow_succ,Nat.mul_comm]
theorem GK {p:List UInt8×Nat}(h:mK p)(x w:Nat){D:List UInt8}{nb:Nat}(hD:Pre (gE p x w) (D,nb)):bM D p.2 w=x%2^w:=by
 obtain⟨h1,h2,h3⟩:=mR h (x:Int) w
 refine KR w (fun i hi=> ?_)
 have e:(lz p (x:Int) w).2=p.2+w:=ki ..
 have:bit D (p.2+i)=bit (lz p (x:Int) w).1 (p.2+i):=hD.bits _ (by show p.2+i<(lz p (x:Int) w).2;rw[e];omega)
 rw[this,h3 i hi,VG]
theorem tA {p:List UInt8×Nat}(h:mK p)(x w:Nat):mK (gE p x w)/\Pre p (gE p x w):=⟨(mR h _ w).1,(mR h _ w).2.1⟩
def hi (D:List UInt8)(a:Nat):Nat->Nat
 |0=>0
 |k+1=>2*hi D a k+bit D (a+k)
theorem kT {n:Nat}:∀(w:Nat) {p:List UInt8×Nat},mK p->mK (gH p n w)/\Pre p (gH p n w)/\∀i,i<w->bit (gH p n w).1 (p.2+i)=n/2^(w-1-i)%2
 |0,p,h=>⟨h,Pre.refl p,fun i hi=>absurd hi (Nat.not_lt_zero i)⟩
 |w+1,p,h=>by
  obtain⟨h1,h2,h3⟩:=mR h ((n:Int).fdiv (2^w)) 1
  obtain⟨k1,k2,k3⟩:=kT (n:=n) w h1
  have e:(lz p ((n:Int).fdiv (2^w)) 1).2=p.2+1:=ki ..
  refine⟨k1,h2.trans k2,fun i hi=> ?_⟩
  show bit (gH (lz p ((n:Int).fdiv (2^w)) 1) n w).1 (p.2+i)=_
  cases i with
  |zero=>
   rw[Nat.add_zero,k2.bits _ (by rw[e];omega)]
   have:=h3 0 (by omega)
   rw[Nat.add_zero,show((n:Int).fdiv (2^w)).fdiv (2^0)=(n:Int).fdiv (2^w) by simp,VG] at this
   rw[this,show w+1-1-0=w by omega]
  |succ i=>
   have:=k3 i (by omega)
   rw[e] at this
   rw[show p.2+(i+1)=p.2+1+i by omega,this,show w+1-1-(i+1)=w-1-i by omega]
theorem aag {D:List UInt8}{a n w:Nat}:∀k,k<=w->(∀i,i<w->bit D (a+i)=n/2^(w-1-i)%2)->hi D a k=n/2^(w-k)%2^k
 |0,_,_=>by simp[hi,Nat.mod_one]
 |k+1,hk,h=>by
  simp only[hi]
  rw[aag k (by omega) h,h k (by omega),show w-1-k=w-(k+1) by omega]
  have e:n/2^(w-k)=n/2^(w-(k+1))/2:=by
   rw[Nat.div_div_eq_div_mul,<-Nat.pow_succ,show(w-(k+1)).succ=w-k by omega]
  rw[e]
  generalize n/2^(w-(k+1))=q
  rw[Nat.pow_succ,Nat.mul_comm (2^k) 2,Nat.mod_mul]
  omega
theorem vh {p:List UInt8×Nat}(h:mK p)(n w:Nat){D:List UInt8}{nb:Nat}(hD:Pre (gH p n w) (D,nb)){k:Nat}(hk:k<=w):hi D p.2 k=n/2^(w-k)%2^k:=by
 obtain⟨h1,h2,h3⟩:=kT (n:=n) w h
 refine aag k hk (fun i hi=> ?_)
 have:bit D (p.2+i)=bit (gH p n w).1 (p.2+i):=hD.bits _ (by show p.2+i<(gH p n w).2;rw[kH];omega)
 rw[this,h3 i hi]
theorem YK {s:Nat}(h:s<288):(gB s).1<2^(gB s).2:=by
 unfold gB
 split
 ·show 48+s<256;omega
 ·split
  ·show 256+s<512;omega
  ·split
   ·show s-256<128;omega
   ·show s-88<256;omega
theorem VH {s i k:Nat}(hs:s<288)(hi:i<288)(hk:k<=(gB s).2)(h2:(gB i).2=k)(h1:(gB i).1=(gB s).1/2^((gB s).2-k)%2^k):i=s:=by
 unfold gB at*
 repeat' split at h2
 all_goals
  repeat' split at h1
  all_goals
   first
   |omega
   |(simp only at h1 h2 hk
     subst h2
     simp at h1 hk
     omega)
def lenOf (s x:Nat):Nat:=if s<=264 then s-254 else if s=285 then 258 else(4+(s-265)%4)*2^((s-261)/4)+3+x
def nC (s:Nat):Nat:=if s<=264\/s=285 then 0 else(s-261)/4
def nD (c x:Nat):Nat:=if c<=3 then c+1 else(2+c%2)*2^(c/2-1)+1+x
def vi (c:Nat):Nat:=if c<=3 then 0 else c/2-1
def Ir:Nat->Bool
 |0=>true
 |n+1=>decide (lenOf (ch (n+3)).1 (ch (n+3)).2.1=n+3/\nC (ch (n+3)).1=(ch (n+3)).2.2)&&Ir n
theorem Dp:∀{m:Nat},Ir m=true->∀n,n<m->lenOf (ch (n+3)).1 (ch (n+3)).2.1=n+3/\nC (ch (n+3)).1=(ch (n+3)).2.2
 |m+1,h,n,hn=>by
  simp only[Ir,Bool.and_eq_true,decide_eq_true_eq] at h
  by_cases e:n=m
  ·subst e;exact h.1
  ·exact Dp h.2 n (by omega)
theorem VI {n:Nat}(h3:3<=n)(h:n<=258):lenOf (ch n).1 (ch n).2.1=n/\nC (ch n).1=(ch n).2.2:=by
 have:=Dp (m:=256) (by decide+kernel) (n-3) (by omega)
 rw[show n-3+3=n by omega] at this
 exact this
def Is:Nat->Bool
 |0=>true
 |n+1=>decide (nD (dS (n+1)).1 (dS (n+1)).2.1=n+1/\vi (dS (n+1)).1=(dS (n+1)).2.2)&&Is n
theorem Dq:∀{m:Nat},Is m=true->∀n,n<m->nD (dS (n+1)).1 (dS (n+1)).2.1=n+1/\vi (dS (n+1)).1=(dS (n+1)).2.2
 |m+1,h,n,hn=>by
  simp only[Is,Bool.and_eq_true,decide_eq_true_eq] at h
  by_cases e:n=m
  ·subst e;exact h.1
  ·exact Dq h.2 n (by omega)
theorem VJ {n:Nat}(h1:1<=n)(h:n<=64):nD (dS n).1 (dS n).2.1=n/\vi (dS n).1=(dS n).2.2:=by
 have:=Dq (m:=64) (by decide+kernel) (n-1) (by omega)
 rw[show n-1+1=n by omega] at this
 exact this
end Go.Cl.Fx
namespace Go.Cl.Fx
open Go.Cl.Rw Go.Cl.Sto
theorem pR {p:List UInt8×Nat}(h:mK p)(s:Nat):mK (iW p s)/\Pre p (iW p s):=⟨(kT _ h).1,(kT _ h).2.1⟩
theorem KS {p:List UInt8×Nat}(h:mK p)(n d:Nat):mK (lU p n d)/\Pre p (lU p n d):=by
 obtain⟨h1,k1⟩:=pR h (ch n).1
 obtain⟨h2,k2⟩:=tA h1 (ch n).2.1 (ch n).2.2
 obtain⟨h3,k3,-⟩:=kT (n:=(dS d).1) 5 h2
 obtain⟨h4,k4⟩:=tA h3 (dS d).2.1 (dS d).2.2
 exact⟨h4,((k1.trans k2).trans k3).trans k4⟩
theorem Dr (l:List UInt8)(a:Nat){p:List UInt8×Nat}(h:mK p):mK (iA l a p)/\Pre p (iA l a p):=by
 unfold iA
 split
 ·exact pR h _
 ·exact KS h _ _
theorem yG (l:List UInt8):∀(k a:Nat) (p:List UInt8×Nat),l.length<=a+k->mK p->mK (tG l a p)/\Pre p (tG l a p)
 |0,a,p,h,hp=>by rw[pC l p (by omega)];exact⟨hp,Pre.refl p⟩
 |k+1,a,p,h,hp=>by
  by_cases c:a<l.length
  ·rw[tj l p c]
   have h3:=pA l a
   obtain⟨h4,h5⟩:=Dr l a hp
   obtain⟨h6,h7⟩:=yG l k (iX l a) (iA l a p) (by omega) h4
   exact⟨h6,h5.trans h7⟩
  ·rw[pC l p (by omega)];exact⟨hp,Pre.refl p⟩
theorem VK:mK ([],0):=⟨⟨Nat.le_refl _,by decide⟩,fun i _=>by simp[bit]⟩
theorem Ds:mK jK:=(mR VK 3 3).1
end Go.Cl.Fx
set_option linter.unusedSimpArgs false
set_option linter.unusedVariables false
set_option maxRecDepth 100000
namespace Go.Cl.Fx
open Go.Cl.Rw Go.Cl.Sto
structure LR (jf jb:Nat) (o:Value) (s:aq) (o' :Value) (s' :aq):Prop where
 next:s.next<=s'.next
 get:∀i,i<s.next->i≠jf->i≠jb->aE o≠some i->s'.heap.get i=s.heap.get i
 id:aE o' =aE o\/∃i,aE o' =some i/\s.next<=i
theorem LR.refl (jf jb:Nat)(o:Value)(s:aq):LR jf jb o s o s:=⟨Nat.le_refl _,fun _ _ _ _ _=>rfl,.inl rfl⟩
theorem LR.trans {jf jb:Nat}{o o' o'' :Value}{s s' ss:aq}(h:LR jf jb o s o' s')(k:LR jf jb o' s' o'' ss):LR jf jb o s o'' ss:=by
 refine⟨Nat.le_trans h.next k.next,fun i hi h1 h2 h3=> ?_,?_⟩
 ·rw[k.get i (Nat.lt_of_lt_of_le hi h.next) h1 h2 ?_,h.get i hi h1 h2 h3]
  rcases h.id with e|⟨q,e,hq⟩
  ·rw[e];exact h3
  ·rw[e];intro q2;injection q2 with q2;omega
 ·rcases k.id with e|⟨q,e,hq⟩
  ·rcases h.id with e2|⟨q,e2,hq⟩
   ·exact .inl (by rw[e,e2])
   ·exact .inr ⟨q,by rw[e,e2],hq⟩
  ·exact .inr ⟨q,e,Nat.le_trans h.next hq⟩
theorem LR.stay {jf jb base:Nat}{o o' :Value}{s s' :aq}(h:LR jf jb o s o' s')(h1:base<=jf)(h2:base<=jb)(h3:aH base o)(hb:base<=s.next):ar base s s' :=
 ⟨h.next,fun i hi=>h.get i (by omega) (by omega) (by omega) (fun e=>by have:=h3 i e;omega)⟩
def ND (jf jb:Nat)(o a:Value):Prop:=∀i,aE a=some i->i≠jf/\i≠jb/\aE o≠some i
theorem ND.own {jf jb:Nat}{o o' a:Value}{s s' :aq}{n:Nat}{L:List Value}(h:ND jf jb o a)(ho:Own s 1 a n L)(k:LR jf jb o s o' s'):Own s' 1 a n L/\ND jf jb o' a:=by
 refine⟨?_,fun i hi=>⟨(h i hi).1,(h i hi).2.1,?_⟩⟩
 ·cases ho with
  |nil=>exact .nil
  |of i n low l hi hb hl hlen=>
   have:=h i rfl
   refine .of i _ low _ (Nat.lt_of_lt_of_le hi k.next) ?_ hl hlen
   simp only[aq.bA,k.get i hi this.1 this.2.1 this.2.2];exact hb
 ·rcases k.id with e|⟨q,e,hq⟩
  ·rw[e];exact(h i hi).2.2
  ·rw[e];intro e2;injection e2 with e2;have:=ho.g8 i hi;omega
theorem VL (D:List UInt8)(a:Nat):∀k,hi D a k<2^k
 |0=>by simp[hi]
 |k+1=>by
  have h1:=VL D a k
  have h2:=uQ D (a+k)
  simp only[hi]
  rw[Nat.pow_succ];omega
theorem R3 (D:List UInt8)(a:Nat):bM D a 1=bit D a:=by simp[bM]
theorem agu {x b:Nat}(hx:x<1000000)(hb:b<2):IntKind.i64.wrap (((BitVec.ofInt IntKind.i64.bits ((x*2^1:Nat):Int)|||BitVec.ofInt IntKind.i64.bits (b:Int)).toNat:Nat):Int)=((2*x+b:Nat):Int):=by
 have e1:IntKind.i64.bits=64:=rfl
 rw[e1]
 have:(BitVec.ofInt 64 ((x*2^1:Nat):Int)|||BitVec.ofInt 64 (b:Int)).toNat=2*x+b:=by
  rw[BitVec.toNat_or,BitVec.ofInt_natCast,BitVec.ofInt_natCast,BitVec.toNat_ofNat,BitVec.toNat_ofNat,Nat.mod_eq_of_lt (by omega),Nat.mod_eq_of_lt (by omega)]
  have:=Nat.shiftLeft_add_eq_or_of_lt (i:=1) (b:=b) (by omega) x
  rw[Nat.shiftLeft_eq] at this
  rw[<-this];omega
 rw[this,aB (by omega)]
theorem agv (P:Program)(t:TypeId)(k' :IntKind){x:Nat}(hx:x<1000000):cI P .shl t (.int .i64 ((x:Nat):Int)) (.int k' 1)=some (.int .i64 ((x*2^1:Nat):Int)):=by
 rw[my P t .i64 _ _ k' (by omega)]
 have e:min (1:Int).toNat IntKind.i64.bits=1:=by decide
 rw[e]
 have e2:((x:Nat):Int)*(2:Int)^1=((x*2^1:Nat):Int):=by omega
 rw[e2,aB (by omega)]
end Go.Cl.Fx
namespace Go.Proofs.YtdfjfncifneocaaGreat
open Go.Cl Go.Cl.Rw Go.Cl.Sto Go.Cl.Fx
end Go.Proofs.YtdfjfncifneocaaGreat
namespace Go.Cl.Nf
open Go.Cl.Sto Go.Cl.Fx
def di (D:List UInt8)(p n:Nat):Except Nat Nat:=if p+n<=8*D.length then .ok (bM D p n) else .error 2
theorem dW {D:List UInt8}{p n:Nat}(h:p+n<=8*D.length):di D p n= .ok (bM D p n):=if_pos h
theorem lF {D:List UInt8}{p n:Nat}(h:¬p+n<=8*D.length):di D p n= .error 2:=if_neg h
def cn (C:List Nat)(n:Nat):Nat:=if n=0 then 0 else C.count n
def fst (C:List Nat):Nat->Nat
 |0=>0
 |n+1=>2*(fst C n+cn C n)
def jk (C:List Nat)(n:Nat):Nat->List Nat
 |0=>[]
 |k+1=>jk C n k++if C.getD k 0=n then [k] else []
def idx (C:List Nat)(n:Nat):List Nat:=jk C n C.length
def dd (C:List Nat):Nat->List Nat
 |0=>[]
 |n+1=>dd C n++idx C (n+1)
theorem om {C:List Nat}{k n:Nat}(h:k<C.length):(C.take (k+1)).count n=(C.take k).count n+if C.getD k 0=n then 1 else 0:=by
 rw[List.take_add_one,List.getElem?_eq_getElem h,List.count_append,List.getD_eq_getElem?_getD,List.getElem?_eq_getElem h]
 simp[List.count_singleton,beq_iff_eq]
theorem oo (C:List Nat)(n:Nat):∀k,k<=C.length->(jk C n k).length=(C.take k).count n
 |0,_=>by simp[jk]
 |k+1,h=>by
  rw[jk,List.length_append,oo C n k (by omega),om (by omega)]
  split<;>simp
theorem vj (C:List Nat)(n:Nat):(idx C n).length=C.count n:=by
 unfold idx;rw[oo C n _ (Nat.le_refl _),List.take_length]
theorem PK (C:List Nat)(n:Nat):∀k,k<=C.length->∀r,r<(jk C n k).length->(jk C n k).getD r 0<k/\C.getD ((jk C n k).getD r 0) 0=n/\(C.take ((jk C n k).getD r 0)).count n=r
 |0,_,r,hr=>by simp[jk] at hr
 |k+1,h,r,hr=>by
  have hl:=oo C n k (by omega)
  by_cases c:r<(jk C n k).length
  ·obtain⟨h1,h2,h3⟩:=PK C n k (by omega) r c
   have e:(jk C n (k+1)).getD r 0=(jk C n k).getD r 0:=by
    rw[jk,List.getD_eq_getElem?_getD,List.getElem?_append_left c,List.getD_eq_getElem?_getD]
   rw[e]
   exact⟨by omega,h2,h3⟩
  ·rw[jk,List.length_append] at hr
   by_cases c2:C.getD k 0=n
   ·rw[if_pos c2] at hr
    have gr:r=(jk C n k).length:=by simp at hr;omega
    have e:(jk C n (k+1)).getD r 0=k:=by
     rw[jk,if_pos c2,gr,List.getD_eq_getElem?_getD,List.getElem?_append_right (Nat.le_refl _),Nat.sub_self];rfl
    rw[e]
    exact⟨by omega,c2,by omega⟩
   ·rw[if_neg c2] at hr
    simp at hr;omega
theorem acs (C:List Nat)(n r:Nat)(hr:r<C.count n):(idx C n).getD r 0<C.length/\C.getD ((idx C n).getD r 0) 0=n/\(C.take ((idx C n).getD r 0)).count n=r:=
 PK C n C.length (Nat.le_refl _) r (by have:=vj C n;unfold idx at this;omega)
theorem Dt (C:List Nat)(n:Nat):∀{i j},i<=j->(C.take i).count n<=(C.take j).count n:=by
 intro i j h
 exact List.Sublist.count_le _ ((List.take_prefix_take_left h).sublist)
theorem VM {C:List Nat}{n i j:Nat}(hi:i<C.length)(hj:j<C.length)(h1:C.getD i 0=n)(h2:C.getD j 0=n)(h:(C.take i).count n=(C.take j).count n):i=j:=by
 have key:∀{i j},i<C.length->C.getD i 0=n->i<j->(C.take i).count n<(C.take j).count n:=by
  intro i j hi h1 th
  have:=Dt C n (show i+1<=j by omega)
  rw[om hi,if_pos h1] at this
  omega
 by_cases c:i<j
 ·have:=key hi h1 c;omega
 ·by_cases c2:j<i
  ·have:=key hj h2 c2;omega
  ·omega
theorem YL {C:List Nat}{n i:Nat}(hi:i<C.length)(h1:C.getD i 0=n):(C.take i).count n<C.count n:=by
 have:=Dt C n (show i+1<=C.length by omega)
 rw[om hi,if_pos h1,List.take_length] at this
 omega
def xe (D:List UInt8)(C:List Nat)(p n:Nat):Prop:=fst C n<=hi D p n/\hi D p n<fst C n+C.count n
instance (D:List UInt8) (C:List Nat) (p n:Nat):Decidable (xe D C p n):=by unfold xe;infer_instance
def nth (D:List UInt8)(C:List Nat)(p n:Nat):Nat:=(idx C n).getD (hi D p n-fst C n) 0
def As (D:List UInt8)(C:List Nat)(p:Nat):Nat->Nat->Except Nat (Nat×Nat)
 |0,_=> .error 4
 |k+1,n=>if p+(n+1)<=8*D.length then(if xe D C p (n+1) then .ok (nth D C p (n+1),p+(n+1)) else As D C p k (n+1)) else .error 2
def sym (D:List UInt8)(C:List Nat)(p:Nat):Except Nat (Nat×Nat):=As D C p 15 0
theorem It {D:List UInt8}{C:List Nat}{p n:Nat}(h:xe D C p n):nth D C p n<C.length/\C.getD (nth D C p n) 0=n/\fst C n+(C.take (nth D C p n)).count n=hi D p n:=by
 obtain⟨h1,h2⟩:=h
 obtain⟨k1,k2,k3⟩:=acs C n (hi D p n-fst C n) (by omega)
 exact⟨k1,k2,by show fst C n+(C.take ((idx C n).getD (hi D p n-fst C n) 0)).count n=_;rw[k3];omega⟩
theorem VN {D:List UInt8}{C:List Nat}{p n i:Nat}(qo:i<C.length)(h1:C.getD i 0=n)(h2:fst C n+(C.take i).count n=hi D p n):xe D C p n/\nth D C p n=i:=by
 have h3:=YL qo h1
 have h:xe D C p n:=⟨by omega,by omega⟩
 obtain⟨k1,k2,k3⟩:=It h
 exact⟨h,VM k1 qo k2 h1 (by omega)⟩
theorem PL {D:List UInt8}{C:List Nat}{p:Nat}:∀{k n:Nat} {x q:Nat},As D C p k n= .ok (x,q)->p+n<q/\q<=8*D.length/\q<=p+n+k/\x<C.length
 |0,n,x,q,h=>by simp[As] at h
 |k+1,n,x,q,h=>by
  unfold As at h
  split at h
  ·split at h
   ·rename_i c1 c2
    injection h with h;injection h with h1 h2
    have:=(It c2).1
    omega
   ·have:=PL h;omega
  ·cases h
theorem Iu {D:List UInt8}{C:List Nat}{p x q:Nat}(h:sym D C p= .ok (x,q)):p<q/\q<=8*D.length/\q<=p+15/\x<C.length:=by
 have:=PL h;omega
theorem KT {D:List UInt8}{C:List Nat}{p:Nat}:∀{k n e:Nat},As D C p k n= .error e->e=2\/e=4
 |0,n,e,h=>by injection h with h;exact .inr h.symm
 |k+1,n,e,h=>by
  unfold As at h
  split at h
  ·split at h
   ·cases h
   ·exact KT h
  ·injection h with h;exact .inl h.symm
def rep (M back:Nat):Nat->List UInt8->Except Nat (List UInt8)
 |0,P=> .ok P
 |n+1,P=>if M<=P.length then .error 7 else rep M back n (P++[P.getD (P.length-back) 0])
def oQ (D:List UInt8)(M:Nat):Nat->Nat->List UInt8->Except Nat (Nat×List UInt8)
 |0,a,P=> .ok (8*a,P)
 |k+1,a,P=>if a<D.length then(if M<=P.length then .error 7 else oQ D M k (a+1) (P++[D.getD a 0])) else .error 2
def gM (D:List UInt8)(M p:Nat)(P:List UInt8):Except Nat (Nat×List UInt8):=
 if 8*((p+7)/8)+32<=8*D.length then
  if bM D (8*((p+7)/8)) 16+bM D (8*((p+7)/8)+16) 16=65535 then oQ D M (bM D (8*((p+7)/8)) 16) ((p+7)/8+4) P else .error 4
 else .error 2
def kn (D:List UInt8)(M:Nat)(B:List Nat)(s p:Nat)(P:List UInt8):Except Nat (Nat×List UInt8):=
 if 285<s then .error 4 else
 match di D p (nC s) with
 | .error e=> .error e
 | .ok x=>match sym D B (p+nC s) with
  | .error e=> .error e
  | .ok (c,q)=>if 30<=c then .error 4 else match di D q (vi c) with
   | .error e=> .error e
   | .ok y=>if P.length<nD c y then .error 4 else match rep M (nD c y) (lenOf s x) P with
    | .error e=> .error e
    | .ok P' => .ok (q+vi c,P')
def fP (D:List UInt8)(M:Nat)(A B:List Nat):Nat->Nat->List UInt8->Except Nat (Nat×List UInt8)
 |0,_,_=> .error 2
 |k+1,p,P=>match sym D A p with
  | .error e=> .error e
  | .ok (s,q)=>if s=256 then .ok (q,P) else if s<256 then(if M<=P.length then .error 7 else fP D M A B k q (P++[UInt8.ofNat s])) else match kn D M B s q P with
   | .error e=> .error e
   | .ok (r,P')=>fP D M A B k r P'
def PM (D:List UInt8)(p:Nat):Except Nat (Nat×Nat×Nat):=
 match di D p 5 with
 | .error e=> .error e
 | .ok n=>if 29<n then .error 4 else match di D (p+5) 5 with
  | .error e=> .error e
  | .ok d=>if 29<d then .error 4 else match di D (p+10) 4 with
   | .error e=> .error e
   | .ok k=> .ok (n+257,d+1,k+4)
def order:List Nat:=[16,17,18,0,8,7,9,6,10,5,11,4,12,3,13,2,14,1,15]
def NF (D:List UInt8):List Nat->Nat->List Nat->Except Nat (List Nat×Nat)
 |[],p,o=> .ok (o,p)
 |i::r,p,o=>match di D p 3 with
  | .error e=> .error e
  | .ok x=>NF D r (p+3) (o.set i x)
def jD:List Nat->Nat
 |[]=>0
 |n::r=>(if 0<n then 2^(15-n) else 0)+jD r
def jm:List Nat->Nat
 |[]=>0
 |n::r=>(if 0<n then 1 else 0)+jm r
def KU (C:List Nat):Prop:=jD C=32768\/(jD C<32768/\jm C<=1)
instance (C:List Nat):Decidable (KU C):=by unfold KU;infer_instance
def yH (D:List UInt8)(s p:Nat)(l:List Nat):Except Nat (Nat×Nat×Nat):=
 if s=16 then(if l.length=0 then .error 4 else match di D p 2 with| .error e=> .error e| .ok n=> .ok (l.getD (l.length-1) 0,3+n,p+2))
 else if s=17 then(match di D p 3 with| .error e=> .error e| .ok n=> .ok (0,3+n,p+3))
 else if s=18 then(match di D p 7 with| .error e=> .error e| .ok n=> .ok (0,11+n,p+7))
 else .ok (s,1,p)
def Du (D:List UInt8)(C:List Nat)(many:Nat):Nat->Nat->List Nat->Except Nat (List Nat×Nat)
 |0,_,_=> .error 2
 |k+1,p,l=>if many<=l.length then .ok (l,p) else match sym D C p with
  | .error e=> .error e
  | .ok (s,q)=>match yH D s q l with
   | .error e=> .error e
   | .ok (x,n,r)=>if many<l.length+n then .error 4 else Du D C many k r (l++List.replicate n x)
def KV (N:Nat)(D:List UInt8)(p:Nat):Except Nat ((List Nat×List Nat)×Nat):=
 match PM D p with
 | .error e=> .error e
 | .ok (n,d,k)=>match NF D (order.take k) (p+14) (List.replicate 19 0) with
  | .error e=> .error e
  | .ok (o,q)=>if KU o then(match Du D o (n+d) N q [] with
   | .error e=> .error e
   | .ok (l,r)=>if KU (l.take n)/\KU (l.drop n)/\l.getD 256 0≠0 then .ok ((l.take n,l.drop n),r) else .error 4) else .error 4
def dM:List Nat:=(List.range 288).map fun s=>(gB s).2
def fD:List Nat:=List.replicate 32 5
def gN (N:Nat)(D:List UInt8)(M kind p:Nat)(P:List UInt8):Except Nat (Nat×List UInt8):=
 if kind=0 then gM D M p P
 else if kind=1 then fP D M dM fD N p P
 else if kind=2 then(match KV N D p with
  | .error e=> .error e
  | .ok ((a,b),q)=>fP D M a b N q P)
 else .error 4
def eH (N:Nat)(D:List UInt8)(M p:Nat)(P:List UInt8):Except Nat (Nat×Nat×List UInt8):=
 match di D p 1 with
 | .error e=> .error e
 | .ok last=>match di D (p+1) 2 with
  | .error e=> .error e
  | .ok kind=>match gN N D M kind (p+3) P with
   | .error e=> .error e
   | .ok (q,P')=> .ok (last,q,P')
def fw (N:Nat)(D:List UInt8)(M:Nat):Nat->Nat->List UInt8->Except Nat (Nat×List UInt8)
 |0,_,_=> .error 2
 |k+1,p,P=>match eH N D M p P with
  | .error e=> .error e
  | .ok (last,q,P')=>if last=1 then .ok (q,P') else fw N D M k q P'
def qW (N:Nat)(D:List UInt8)(M:Nat):Except Nat (Nat×List UInt8):=fw N D M N 0 []
end Go.Cl.Nf
namespace Go.Cl.Nf
open Go.Cl.Sto Go.Cl.Fx
def Ext {α:Type}(x y:Except Nat α):Prop:=x= .error 2\/x=y
theorem Ext.refl {α:Type}(x:Except Nat α):Ext x x:= .inr rfl
theorem Ext.bind {α β:Type}{x y:Except Nat α}(h:Ext x y){f g:Except Nat α->Except Nat β}(he:∀e,f (.error e)= .error e)(hk:∀a,y= .ok a->Ext (f (.ok a)) (g (.ok a)))(hg:∀e,g (.error e)= .error e):Ext (f x) (g y):=by
 rcases h with h|h
 ·subst h;exact .inl (he 2)
 ·subst h
  cases x with
  |error e=>rw[he,hg];exact Ext.refl _
  |ok a=>exact hk a rfl
theorem YM (D T:List UInt8){k:Nat}(h:k<8*D.length):bit (D++T) k=bit D k:=by
 unfold bit
 rw[List.getD_eq_getElem?_getD,List.getElem?_append_left (by omega),List.getD_eq_getElem?_getD]
theorem xf {D:List UInt8}{p n x:Nat}(h:di D p n= .ok x):p+n<=8*D.length/\x=bM D p n:=by
 unfold di at h
 split at h
 ·rename_i c;injection h with h;exact⟨c,h.symm⟩
 ·cases h
theorem PN {M back:Nat}:∀{n:Nat} {P P' :List UInt8},rep M back n P= .ok P' ->P.length<=M->P'.length<=M
 |0,P,P',h,hp=>by injection h with h;subst h;exact hp
 |n+1,P,P',h,hp=>by
  unfold rep at h
  split at h
  ·cases h
  ·rename_i c;exact PN h (by rw[List.length_append];simp;omega)
theorem PO {D:List UInt8}{M:Nat}:∀{k a:Nat} {P:List UInt8} {q:Nat} {P' :List UInt8},oQ D M k a P= .ok (q,P')->a<=D.length->P.length<=M->8*a<=q/\q<=8*D.length/\P'.length<=M
 |0,a,P,q,P',h,ha,hp=>by injection h with h;injection h with h1 h2;subst h2;exact⟨by omega,by omega,hp⟩
 |k+1,a,P,q,P',h,ha,hp=>by
  unfold oQ at h
  split at h
  ·split at h
   ·cases h
   ·have:=PO h (by omega) (by rw[List.length_append];simp;omega);omega
  ·cases h
theorem Dv {D:List UInt8}{M p:Nat}{P:List UInt8}{q:Nat}{P' :List UInt8}(h:gM D M p P= .ok (q,P'))(hp:P.length<=M):p<=q/\q<=8*D.length/\P'.length<=M:=by
 unfold gM at h
 split at h
 ·split at h
  ·have:=PO h (by omega) hp;omega
  ·cases h
 ·cases h
theorem KW {D:List UInt8}{M:Nat}{B:List Nat}{s p:Nat}{P:List UInt8}{q:Nat}{P' :List UInt8}(h:kn D M B s p P= .ok (q,P'))(hp:P.length<=M):p<=q/\q<=8*D.length/\P'.length<=M:=by
 unfold kn at h
 split at h
 ·cases h
 cases h1:di D p (nC s) with
 |error e=>rw[h1] at h;cases h
 |ok x=>
  rw[h1] at h
  dsimp only at h
  cases h2:sym D B (p+nC s) with
  |error e=>rw[h2] at h;cases h
  |ok c=>
   rw[h2] at h
   dsimp only at h
   split at h
   ·cases h
   cases h3:di D c.2 (vi c.1) with
   |error e=>rw[h3] at h;cases h
   |ok y=>
    rw[h3] at h
    dsimp only at h
    split at h
    ·cases h
    cases h4:rep M (nD c.1 y) (lenOf s x) P with
    |error e=>rw[h4] at h;cases h
    |ok P2=>
     rw[h4] at h
     injection h with h;injection h with e1 e2
     subst e2
     have:=Iu h2
     have:=xf h3
     have:=PN h4 hp
     omega
theorem mS {D:List UInt8}{M:Nat}{A B:List Nat}:∀{k p:Nat} {P:List UInt8} {q:Nat} {P' :List UInt8},fP D M A B k p P= .ok (q,P')->P.length<=M->p<=q/\q<=8*D.length/\P'.length<=M
 |0,p,P,q,P',h,hp=>by cases h
 |k+1,p,P,q,P',h,hp=>by
  unfold fP at h
  cases h1:sym D A p with
  |error e=>rw[h1] at h;cases h
  |ok c=>
   rw[h1] at h
   have hs:=Iu h1
   dsimp only at h
   split at h
   ·injection h with h;injection h with e1 e2
    subst e2;exact⟨by omega,by omega,hp⟩
   split at h
   ·split at h
    ·cases h
    ·have:=mS h (by rw[List.length_append];simp;omega);omega
   cases h2:kn D M B c.1 c.2 P with
   |error e=>rw[h2] at h;cases h
   |ok c2=>
    rw[h2] at h
    have:=KW h2 hp
    have:=mS h (by omega)
    omega
theorem VO {N:Nat}{D:List UInt8}{M kind p:Nat}{P:List UInt8}{q:Nat}{P' :List UInt8}(h:gN N D M kind p P= .ok (q,P'))(hp:P.length<=M):q<=8*D.length/\P'.length<=M:=by
 unfold gN at h
 split at h
 ·exact(Dv h hp).2
 split at h
 ·exact(mS h hp).2
 split at h
 ·cases h1:KV N D p with
  |error e=>rw[h1] at h;cases h
  |ok c=>rw[h1] at h;exact(mS h hp).2
 ·cases h
theorem GL {N:Nat}{D:List UInt8}{M p:Nat}{P:List UInt8}{last q:Nat}{P' :List UInt8}(h:eH N D M p P= .ok (last,q,P'))(hp:P.length<=M):q<=8*D.length/\P'.length<=M/\last<2:=by
 unfold eH at h
 cases h1:di D p 1 with
 |error e=>rw[h1] at h;cases h
 |ok c=>
  rw[h1] at h
  dsimp only at h
  cases h2:di D (p+1) 2 with
  |error e=>rw[h2] at h;cases h
  |ok d=>
   rw[h2] at h
   dsimp only at h
   cases h3:gN N D M d (p+3) P with
   |error e=>rw[h3] at h;cases h
   |ok r=>
    rw[h3] at h
    injection h with h;injection h with e0 h;injection h with e1 e2
    have:=VO h3 hp
    have hb:=(xf h1).2
    have hl:=iV D p 1
    subst e0 e1 e2
    exact⟨this.1,this.2,by omega⟩
theorem Dw {N:Nat}{D:List UInt8}{M:Nat}:∀{k p:Nat} {P:List UInt8} {q:Nat} {P' :List UInt8},fw N D M k p P= .ok (q,P')->P.length<=M->q<=8*D.length/\P'.length<=M
 |0,p,P,q,P',h,hp=>by cases h
 |k+1,p,P,q,P',h,hp=>by
  unfold fw at h
  cases h1:eH N D M p P with
  |error e=>rw[h1] at h;cases h
  |ok c=>
   rw[h1] at h
   have hb:=GL h1 hp
   dsimp only at h
   split at h
   ·injection h with h;injection h with e1 e2
    subst e1 e2;exact⟨hb.1,hb.2.1⟩
   ·exact Dw h hb.2.1
theorem Dx {N:Nat}{D:List UInt8}{M q:Nat}{P:List UInt8}(h:qW N D M= .ok (q,P)):q<=8*D.length/\P.length<=M:=Dw h (Nat.zero_le _)
def VP (D:List UInt8)(x:Except Nat Nat)(n:Nat):Nat:=match x with| .ok p=>if p+n<=8*D.length then bM D p n else 0| .error _=>0
def GM (D:List UInt8)(x:Except Nat Nat)(n:Nat):Except Nat Nat:=match x with| .ok p=>if p+n<=8*D.length then .ok (p+n) else .error 2| .error e=> .error e
def acu:Except Nat Nat->Nat
 | .ok _=>0
 | .error e=>e
end Go.Cl.Nf
namespace Go.Cl.Nf
open Go.Cl.Sto Go.Cl.Fx
def acv (C:List Nat):Prop:=∀i,C.getD i 0<=15
theorem VQ (A B:List Nat):jD (A++B)=jD A+jD B:=by
 induction A with
 |nil=>simp[jD]
 |cons a r ih=>simp only[List.cons_append,jD,ih];omega
theorem R4 (A B:List Nat):jm (A++B)=jm A+jm B:=by
 induction A with
 |nil=>simp[jm]
 |cons a r ih=>simp only[List.cons_append,jm,ih];omega
theorem PQ:∀C:List Nat,jD C<=32768*C.length
 |[]=>Nat.le_refl _
 |a::r=>by
  have:=PQ r
  have h:2^(15-a)<=2^15:=Nat.pow_le_pow_right (by omega) (by omega)
  have h2:(2:Nat)^15=32768:=by decide
  simp only[jD,List.length_cons]
  split<;>omega
theorem KX:∀C:List Nat,jm C<=C.length
 |[]=>Nat.le_refl _
 |a::r=>by
  have:=KX r
  simp only[jm,List.length_cons]
  split<;>omega
theorem Dy {C:List Nat}{i:Nat}(h:i<C.length):C.take (i+1)=C.take i++[C.getD i 0]:=by
 rw[List.take_add_one,List.getElem?_eq_getElem h,List.getD_eq_getElem?_getD,List.getElem?_eq_getElem h];rfl
theorem R5 {C:List Nat}{i:Nat}(h:i<C.length):jD (C.take (i+1))=jD (C.take i)+if 0<C.getD i 0 then 2^(15-C.getD i 0) else 0:=by
 rw[Dy h,VQ];simp[jD]
theorem NG {C:List Nat}{i:Nat}(h:i<C.length):jm (C.take (i+1))=jm (C.take i)+if 0<C.getD i 0 then 1 else 0:=by
 rw[Dy h,R4];simp[jm]
theorem R6:acv dM:=by
 intro i
 by_cases h:i<288
 ·have:dM.getD i 0=(gB i).2:=by simp[dM,List.getD_eq_getElem?_getD,List.getElem?_map,List.getElem?_range h]
  rw[this];have:=wA i;omega
 ·rw[List.getD_eq_getElem?_getD,List.getElem?_eq_none (by simp[dM];omega)];exact Nat.zero_le _
theorem R7:acv fD:=by
 intro i
 by_cases h:i<32
 ·have key:∀i,i<32->fD.getD i 0<=15:=by decide
  exact key i h
 ·rw[List.getD_eq_getElem?_getD,List.getElem?_eq_none (by simp[fD];omega)];exact Nat.zero_le _
end Go.Cl.Nf
set_option linter.unusedSimpArgs false
set_option linter.unusedVariables false
set_option maxRecDepth 100000
namespace Go.Proofs.YtdfjfncifneocaaGreat
open Go.Cl Go.Cl.Rw Go.Cl.Sto Go.Cl.Fx Go.Cl.Nf
structure akM (base:Nat) (s:aq) (jf jb e:Nat) (bv pv o m:Value):Prop where
 b:av s jb [bv,pv,.int .i64 (e:Nat)]
 f:av s jf [acr jb,o,m]
 pos:0<e
 ne:jb≠jf
 lb:base<=jb
 lf:base<=jf
def Bd (base:Nat)(s:aq)(jf jb e:Nat):Prop:=∃bv pv o m,akM base s jf jb e bv pv o m
theorem Fl.bad {base:Nat}{s s' :aq}{jf jb:Nat}{D P:List UInt8}{p:Nat}{M:Int}{bv o:Value}(h:Fl base s jf jb D p P M bv o){e:Nat}{pv:Value}(he:0<e)(hb:av s' jb [bv,pv,.int .i64 (e:Nat)])(hn:s'.next=s.next)(hs:∀i,i≠jb->s'.heap.get i=s.heap.get i):Bd base s' jf jb e/\LR jf jb o s o s' :=
 ⟨⟨_,_,_,_,⟨hb,h.f.turns (aY.aI (i:=jb) (o:=0) (c:=none) hn hs) (fun e=>h.ne (by injection e)),he,h.ne,h.lb,h.lf⟩⟩,⟨by omega,fun i _ _ h2 _=>hs i h2,.inl rfl⟩⟩
def rp (jf jb:Nat)(o:Value)(s:aq)(a:Value)(C:List Nat):Prop:=aN s 1 a C.length (fZ C)/\∀i,aE a=some i->i<s.next/\i≠jf/\i≠jb/\aE o≠some i
theorem rp.to {jf jb:Nat}{o o' a:Value}{s s' :aq}{C:List Nat}(h:rp jf jb o s a C)(k:LR jf jb o s o' s'):rp jf jb o' s' a C:=by
 obtain⟨h1,h2⟩:=h
 refine⟨?_,fun i hi=>⟨Nat.lt_of_lt_of_le (h2 i hi).1 k.next,(h2 i hi).2.1,(h2 i hi).2.2.1,?_⟩⟩
 ·generalize fZ C=L at h1
  generalize C.length=n at h1
  cases h1 with
  |nil=>exact .nil
  |bare i off=>exact .bare i off
  |of i off n c b l hi hb hz hl hc hlen eZ ht=>
   have:=h2 i rfl
   refine .of i off _ c b _ (Nat.lt_of_lt_of_le hi k.next) ?_ hz hl hc hlen eZ ht
   simp only[aq.bA,k.get i hi this.2.1 this.2.2.1 this.2.2.2];exact hb
 ·rcases k.id with e|⟨q,e,hq⟩
  ·rw[e];exact(h2 i hi).2.2.2
  ·rw[e];intro e2;injection e2 with e2;have:=(h2 i hi).1;omega
def SN (base jf jb:Nat)(D P:List UInt8)(M:Int)(bv o:Value)(t:aq):Except Nat Nat->Prop
 | .ok p=>Fl base t jf jb D p P M bv o/\p<=8*D.length
 | .error e=>Bd base t jf jb e
theorem SN.keeps {base jf jb:Nat}{D P:List UInt8}{M:Int}{bv o:Value}{t t' :aq}{x:Except Nat Nat}(h:SN base jf jb D P M bv o t x)(k:ar t.next t t')(hb:base<=t.next):SN base jf jb D P M bv o t' x:=by
 cases x with
 |ok p=>exact⟨⟨h.1.b.keeps k,h.1.f.keeps k,h.1.low.stay (k.weaken hb),h.1.own.keeps k,h.1.fresh,h.1.nb,h.1.nf,h.1.ne,h.1.lb,h.1.lf⟩,h.2⟩
 |error e=>
  obtain⟨kO,pv,o',m',h⟩:=h
  exact⟨kO,pv,o',m',⟨h.b.keeps k,h.f.keeps k,h.pos,h.ne,h.lb,h.lf⟩⟩
def JTo (j:Nat)(t t' :aq):Prop:=t'.next=t.next/\∀i,i≠j->t'.heap.get i=t.heap.get i
theorem JTo.refl (j:Nat)(t:aq):JTo j t t:=⟨rfl,fun _ _=>rfl⟩
theorem JTo.trans {j:Nat}{t t' t'' :aq}(h:JTo j t t')(k:JTo j t' t''):JTo j t t'' :=⟨k.1.trans h.1,fun i hi=>(k.2 i hi).trans (h.2 i hi)⟩
theorem SN.l2 {base jf jb:Nat}{D P:List UInt8}{M:Int}{bv o:Value}{t:aq}{x:Except Nat Nat}(h:SN base jf jb D P M bv o t x):aR Tryz.prog t 3 (.pointer (some ⟨jb,2,some 4⟩))=some (.int .i64 (acu x:Nat)):=by
 cases x with
 |ok p=>exact h.1.b.load (P:=Tryz.prog) bC (off:=2) (c:=4) rfl (by simp)
 |error e=>
  obtain⟨kO,pv,o',m',h⟩:=h
  exact h.b.load (P:=Tryz.prog) bC (off:=2) (c:=4) rfl (by simp)
theorem SN.w0 {base jf jb:Nat}{D P:List UInt8}{M:Int}{bv o:Value}{t:aq}{x:Except Nat Nat}(h:SN base jf jb D P M bv o t x):aR Tryz.prog t 190 (.pointer (some ⟨jf,0,some 4⟩))=some (acr jb):=by
 cases x with
 |ok p=>exact h.1.f.load (P:=Tryz.prog) PJ (off:=0) (c:=4) rfl (by simp)
 |error e=>
  obtain⟨kO,pv,o',m',h⟩:=h
  exact h.f.load (P:=Tryz.prog) PJ (off:=0) (c:=4) rfl (by simp)
theorem SN.bad {base jf jb:Nat}{D P:List UInt8}{M:Int}{bv o:Value}{t:aq}{x:Except Nat Nat}(h:SN base jf jb D P M bv o t x):acu x=0↔∃p,x= .ok p:=by
 cases x with
 |ok p=>exact⟨fun _=>⟨p,rfl⟩,fun _=>rfl⟩
 |error e=>
  obtain⟨kO,pv,o',m',h⟩:=h
  have:=h.pos
  exact⟨fun e=>by simp only[acu] at e;omega,fun⟨p,e⟩=>by cases e⟩
end Go.Proofs.YtdfjfncifneocaaGreat
set_option linter.unusedSimpArgs false
set_option linter.unusedVariables false
set_option maxRecDepth 100000
namespace Go.Proofs.YtdfjfncifneocaaGreat
open Go.Cl Go.Cl.Rw Go.Cl.Sto Go.Cl.Fx
end Go.Proofs.YtdfjfncifneocaaGreat
namespace Go.Cl.Fx
open Go.Cl.Rw Go.Cl.Sto
end Go.Cl.Fx
namespace Go.Proofs.YtdfjfncifneocaaGreat
open Go.Cl Go.Cl.Rw Go.Cl.Sto Go.Cl.Fx
end Go.Proofs.YtdfjfncifneocaaGreat
set_option linter.unusedSimpArgs false
set_option linter.unusedVariables false
set_option maxRecDepth 100000
namespace Go.Proofs.YtdfjfncifneocaaGreat
open Go.Cl Go.Cl.Rw Go.Cl.Sto Go.Cl.Fx Go.Cl.Nf
theorem LR.Er {jf jb:Nat}{o:Value}{s s' :aq}(hn:s'.next=s.next)(hs:∀i,i≠jb->s'.heap.get i=s.heap.get i):LR jf jb o s o s' :=⟨by omega,fun i _ _ h2 _=>hs i h2,.inl rfl⟩
end Go.Proofs.YtdfjfncifneocaaGreat
set_option linter.unusedSimpArgs false
set_option linter.unusedVariables false
set_option maxRecDepth 100000
namespace Go.Cl.Nf
open Go.Cl.Fx
theorem VS {x b:Nat}(hx:x<=285)(hb:b<2^nC x):lenOf x b<=1000:=by
 unfold lenOf
 split
 ·omega
 ·split
  ·omega
  ·have e:nC x=(x-261)/4:=by unfold nC;rw[if_neg (by omega)]
   rw[e] at hb
   have h1:2^((x-261)/4)<=2^6:=Nat.pow_le_pow_right (by omega) (by omega)
   have h2:(4+(x-265)%4)*2^((x-261)/4)<=7*2^6:=Nat.mul_le_mul (by omega) h1
   have h3:(2:Nat)^6=64:=by decide
   omega
end Go.Cl.Nf
namespace Go.Proofs.YtdfjfncifneocaaGreat
open Go.Cl Go.Cl.Rw Go.Cl.Sto Go.Cl.Fx Go.Cl.Nf
end Go.Proofs.YtdfjfncifneocaaGreat
