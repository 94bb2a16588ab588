/-
 Rows of bits: the plain law.
-/
import Derived.Test.YtdfjfncifneocaaGreatNum
import Derived.Test.YtdfjfncifneocaaGreatLooseA
open Nat renaming reduceLT->QS,reduceEqDiff->WP
namespace Go.Cl.Rw
def Eo (y:UInt8)(x:Int)(k:Nat):UInt8:=y|||UInt8.ofNat ((x%2).toNat*2^k)
def room (p:List UInt8×Nat):List UInt8:=if p.2%8=0 then p.1++[0] else p.1
def nh (p:List UInt8×Nat)(x:Int):List UInt8×Nat:=((room p).set (p.2/8) (Eo ((room p).getD (p.2/8) 0) x (p.2%8)),p.2+1)
def lz (p:List UInt8×Nat)(x:Int):Nat->List UInt8×Nat
 |0=>p
 |k+1=>nh (lz p x k) (x.fdiv (2^k))
def Ok (p:List UInt8×Nat):Prop:=p.2<=8*p.1.length/\8*p.1.length<p.2+8
theorem wx {p:List UInt8×Nat}(h:Ok p):p.2/8<(room p).length/\8*(room p).length<p.2+9:=by
 obtain⟨h1,h2⟩:=h
 unfold room
 by_cases hz:p.2%8=0
 ·rw[if_pos hz,List.length_append,List.length_singleton];omega
 ·rw[if_neg hz];omega
theorem Ay {p:List UInt8×Nat}{x:Int}(h:Ok p):Ok (nh p x):=by
 obtain⟨h1,h2⟩:=wx h
 unfold Ok nh
 simp only[List.length_set]
 omega
theorem wy {p:List UInt8×Nat}{x:Int}(h:Ok p):∀k,Ok (lz p x k)
 |0=>h
 |k+1=>Ay (wy h k)
theorem ki (p:List UInt8×Nat)(x:Int):∀k,(lz p x k).2=p.2+k
 |0=>rfl
 |k+1=>by
  show(lz p x k).2+1=_
  rw[ki p x k];omega
theorem T3 (x:Int):IntKind.i64.wrap (((BitVec.ofInt IntKind.i64.bits x&&&BitVec.ofInt IntKind.i64.bits 1).toNat:Nat):Int)=x%2:=by
 have e1:IntKind.i64.bits=64:=rfl
 rw[e1]
 have:(BitVec.ofInt 64 x&&&BitVec.ofInt 64 1).toNat=(x%18446744073709551616).toNat%2:=by
  rw[BitVec.toNat_and,BitVec.toNat_ofInt]
  show(x%18446744073709551616).toNat&&&1=_
  exact Nat.and_one_is_mod _
 rw[this,aB (by omega)]
 omega
theorem OZ (x:Int):IntKind.u8.wrap (x%2)=(((x%2).toNat:Nat):Int):=by rw[gA];omega
theorem ai8 {k:Nat}(h:k<8):2^k<=128:=by
 have:2^k<=2^7:=Nat.pow_le_pow_right (by omega) (by omega)
 exact this
theorem XC (P:Program)(t:TypeId)(k' :IntKind)(x:Int){k:Nat}(h:k<8):cI P .shl t (.int .u8 (((x%2).toNat:Nat):Int)) (.int k' (k:Nat))=some (.int .u8 (((x%2).toNat*2^k:Nat):Int)):=by
 rw[my P t .u8 _ _ k' (by omega)]
 have e:min ((k:Nat):Int).toNat IntKind.u8.bits=k:=by
  have:IntKind.u8.bits=8:=rfl
  rw[this,Int.toNat_natCast];omega
 have hp:=ai8 h
 have hx:(x%2).toNat=0\/(x%2).toNat=1:=by omega
 rw[e,gA]
 rcases hx with hx|hx
 ·rw[hx];simp
 ·rw[hx]
  have e2:((1:Nat):Int)*(2:Int)^k=((1*2^k:Nat):Int):=by norm_cast
  rw[e2]
  congr 2
  generalize 2^k=q at hp
  omega
theorem orB (y:UInt8)(x:Int)(k:Nat):IntKind.u8.wrap (((BitVec.ofInt IntKind.u8.bits (y.toNat:Int)|||BitVec.ofInt IntKind.u8.bits (((x%2).toNat*2^k:Nat):Int)).toNat:Nat):Int)=((Eo y x k).toNat:Int):=by
 have e1:IntKind.u8.bits=8:=rfl
 have hy:=y.toNat_lt
 rw[e1,gA]
 unfold Eo
 generalize (x%2).toNat*2^k=w
 have:(BitVec.ofInt 8 (y.toNat:Int)|||BitVec.ofInt 8 (w:Int)).toNat=(y|||UInt8.ofNat w).toNat:=by
  rw[BitVec.toNat_or,BitVec.ofInt_natCast,BitVec.ofInt_natCast,BitVec.toNat_ofNat,BitVec.toNat_ofNat,UInt8.toNat_or,UInt8.toNat_ofNat',Nat.mod_eq_of_lt (by omega)]
 rw[this]
 have:=(y|||UInt8.ofNat w).toNat_lt
 omega
theorem HR (P:Program)(t:TypeId)(k' :IntKind)(x:Int){k:Nat}(h:k<64):cI P .shr t (.int .i64 x) (.int k' (k:Nat))=some (.int .i64 (x.fdiv (2^k))):=by
 rw[kZ P t .i64 _ _ k' (by omega)]
 have e:min ((k:Nat):Int).toNat IntKind.i64.bits=k:=by
  have:IntKind.i64.bits=64:=rfl
  rw[this,Int.toNat_natCast];omega
 rw[e]
theorem HS (n:Nat):((n:Int)).tmod 8=((n%8:Nat):Int):=by rw[Int.tmod_eq_emod_of_nonneg (by omega)];omega
theorem Q6 (n:Nat):((n:Int)).tdiv 8=((n/8:Nat):Int):=by rw[Int.tdiv_eq_ediv_of_nonneg (by omega)];omega
theorem ju {P:Program}{lib:az}{all r:List Oper}{id:Nat}{f:aT}{s:aq}{d:Option Tmp}{Q:aT->aq->Prop}{e:TypeId}(b6:aW P e=some 1){v:Value}{n:Nat}{l:List Value}(h:Own s 1 v n l){k:Nat}(hk:k<n){w:Value}(hw:aJ w=true)
  (K:∀s',Own s' 1 v n (l.set k w)->aY v s s' ->sy P lib all r id f d Q undef s'):pn P lib all r id f d s Q (AY (dE P s e (bJ 1 v k) w)):=by
 obtain⟨s',h1,h2,h3⟩:=h.put b6 hk hw
 rw[h1,g7]
 exact K s' h2 h3
structure cZ (j:Nat) (v:Value) (s:aq) (v' :Value) (s' :aq):Prop where
 next:s.next<=s'.next
 get:∀i,i<s.next->i≠j->aE v≠some i->s'.heap.get i=s.heap.get i
 id:aE v' =aE v\/∃i,aE v' =some i/\s.next<=i
theorem cZ.refl (j:Nat)(v:Value)(s:aq):cZ j v s v s:=⟨Nat.le_refl _,fun _ _ _ _=>rfl,.inl rfl⟩
theorem cZ.trans {j:Nat}{v v' v'' :Value}{s s' ss:aq}(h:cZ j v s v' s')(k:cZ j v' s' v'' ss):cZ j v s v'' ss:=by
 refine⟨Nat.le_trans h.next k.next,fun i hi hj hv=> ?_,?_⟩
 ·rw[k.get i (Nat.lt_of_lt_of_le hi h.next) hj ?_,h.get i hi hj hv]
  rcases h.id with e|⟨q,e,hq⟩
  ·rw[e];exact hv
  ·rw[e];intro q2;injection q2 with q2;omega
 ·rcases k.id with e|⟨q,e,hq⟩
  ·rcases h.id with e2|⟨q,e2,hq⟩
   ·exact .inl (by rw[e,e2])
   ·exact .inr ⟨q,by rw[e,e2],hq⟩
  ·exact .inr ⟨q,e,Nat.le_trans h.next hq⟩
theorem cZ.stay {j base:Nat}{v v' :Value}{s s' :aq}(h:cZ j v s v' s')(hj:base<=j)(hF:aH base v)(hb:base<=s.next):ar base s s' :=
 ⟨h.next,fun i hi=>h.get i (by omega) (by omega) (fun e=>by have:=hF i e;omega)⟩
theorem cZ.turns {j:Nat}{v v' :Value}{s s' :aq}(h:aY v s s')(gn:aE v' =aE v\/∃i,aE v' =some i/\s.next<=i):cZ j v s v' s' :=⟨h.next,fun i hi _ hv=>h.get i hi hv,gn⟩
theorem cZ.put {j:Nat}{v:Value}{s s' :aq}(hn:s'.next=s.next)(h:∀i,i≠j->s'.heap.get i=s.heap.get i):cZ j v s v s' :=⟨by omega,fun i _ hj _=>h i hj,.inl rfl⟩
structure kx (base:Nat) (s:aq) (j:Nat) (v:Value) (p:List UInt8×Nat):Prop where
 cu:av s j [v,.int .i64 p.2]
 own:Own s 1 v p.1.length (ofBytes p.1)
 fresh:aH base v
 ne:aE v≠some j
 lo:base<=j
 ok:Ok p
theorem kx.other {base j j2:Nat}{s s' :aq}{v v' v2:Value}{p:List UInt8×Nat}(h:kx base s j2 v2 p)(k:cZ j v s v' s')(h1:j2≠j)(h2:aE v2≠some j)(h3:aE v≠some j2)(h4:∀i,aE v2=some i->aE v≠some i):kx base s' j2 v2 p:=by
 obtain⟨t,o,f,n,l,ok⟩:=h
 refine⟨⟨Nat.lt_of_lt_of_le t.lt k.next,?_⟩,?_,f,n,l,ok⟩
 ·obtain⟨low,z,e1,e2⟩:=t.dK
  refine⟨low,z,?_,e2⟩
  simp only[aq.bA,k.get j2 t.lt h1 h3];exact e1
 ·generalize p.1.length=m at o
  generalize ofBytes p.1=cs at o
  cases o with
  |nil=>exact .nil
  |of i n low l hi hb hl hlen=>
   refine .of i _ low _ (Nat.lt_of_lt_of_le hi k.next) ?_ hl hlen
   simp only[aq.bA,k.get i hi (fun e=>h2 (by rw[<-e];rfl)) (h4 i rfl)];exact hb
theorem kx.keeps {base j:Nat}{s s' :aq}{v:Value}{p:List UInt8×Nat}(h:kx base s j v p)(k:ar s.next s s'):kx base s' j v p:=
 ⟨h.cu.keeps k,h.own.keeps k,h.fresh,h.ne,h.lo,h.ok⟩
end Go.Cl.Rw
set_option linter.unusedSimpArgs false
set_option linter.unusedVariables false
set_option maxRecDepth 100000
namespace Go.Proofs.YtdfjfncifneocaaGreat
open Go.Cl Go.Cl.Rw
theorem pz (l:List UInt8)(k:Nat)(c:UInt8):(ofBytes l).set k (.int .u8 (c.toNat:Int))=ofBytes (l.set k c):=by
 simp[ofBytes,List.map_set]
abbrev ql (j:Nat):Value:= .pointer (some ⟨j,0,some 3⟩)
theorem F3 (i o c:Nat):ay Tryz.prog 162 (.pointer (some ⟨i,o,some c⟩)) 0=some (.pointer (some ⟨i,o+0,some c⟩)):=by
 unfold ay;rw[Tryz.underlying162];simp[gv]
theorem F4 (i o c:Nat):ay Tryz.prog 162 (.pointer (some ⟨i,o,some c⟩)) 1=some (.pointer (some ⟨i,o+1,some c⟩)):=by
 unfold ay;rw[Tryz.underlying162];simp[bB]
def mZ (base:Nat)(j:Nat)(v:Value)(s:aq)(p:List UInt8×Nat)(s' :aq):Prop:=∃v',kx base s' j v' p/\cZ j v s v' s'
set_option maxRecDepth 100000 in
set_option maxHeartbeats 4000000 in
theorem XD {lib:az}(hl:lib.at 200=none)(base:Nat)(s:aq)(j:Nat)(v:Value)(p:List UInt8×Nat)(x:Int)(h:kx base s j v p)(hb:base<=s.next)(hp:p.2<=1073741824):
  Runs Tryz.prog lib 200 [ql j,.int .i64 x] s fun _ s' =>mZ base j v s (nh p x) s' :=by
 obtain⟨B,n⟩:=p
 obtain⟨ho,hB,hF,ck,hj,dF⟩:=h
 obtain⟨oC,hrb⟩:=wx dF
 have T4:=Ay (x:=x) dF
 simp only at ho hB hp
 obtain⟨kD,mv⟩:=dF
 simp only at kD mv
 refine Runs.enter 48 Tryz.func200 rfl hl rfl rfl ?_
 intro f hn hf
 have h0:f.get 0=ql j:=hf 0
 have h1:f.get 1= .int .i64 x:=hf 1
 clear hf
 have l0:=ho.load (P:=Tryz.prog) gw (off:=0) (c:=3) rfl (by simp)
 have l1:=ho.load (P:=Tryz.prog) bC (off:=1) (c:=3) rfl (by simp)
 have Q7:n%8<8:=Nat.mod_lt _ (by omega)
 by_cases hz:n%8=0
 ·have uy:((n%8:Nat):Int)=0:=by omega
  have cY:room (B,n)=B++[0]:=by unfold room;rw[if_pos hz]
  simp-implicitDefEqProofs(disch:=omega)only[aj,ak,ae,QS,WP,↓reduceIte,hn,h0,F3,F4,l0,l1,eK,HS,eq_true uy,g9 Tryz.underlying22 bL lh]
  refine bI Tryz.underlying22 bL kG lh rfl hB (by simp only[aa,↓reduceIte]) (by decide) (by simp only[ag,hn];decide) (by simp only[ag,hn];decide) (by rfl) (by decide) rfl (by omega) (by omega) (base:=base) hF hb ?_
  intro bs B' s2 hB' HO dC LI uA
  have fx:=ho.turns LI ck
  have Aj:aE B' ≠some j:=by
   rcases uA with e|⟨i,e,hi⟩
   ·rw[e];exact ck
   ·rw[e];intro q;injection q with q;have:=ho.lt;omega
  simp-implicitDefEqProofs(disch:=omega)only[aj,QS,WP,↓reduceIte,hn,F3]
  refine aX gv fx rfl (by simp) hB'.aG.aJ ?_
  intro s3 nJ mm bH
  have e1:ofBytes B++[.int .u8 0]=ofBytes (B++[0]):=by rw[bn];rfl
  have e2:B.length+1=(B++[0]).length:=by simp
  have Ep:=hB'.aI mm bH Aj
  rw[e1,e2] at Ep
  have bc:n/8<(B++[0]).length:=by rw[<-cY];exact oC
  simp-implicitDefEqProofs(disch:=omega)only[aj]
  refine da.uL (by kernel_rfl) ?_
  have l0:=(nJ).load (P:=Tryz.prog) gw (off:=0) (c:=3) rfl (by simp)
  have l1:=(nJ).load (P:=Tryz.prog) bC (off:=1) (c:=3) rfl (by simp)
  have k1:=(Ep).aG.dJ (P:=Tryz.prog) mB bc
  rw[bG bc] at k1
  simp-implicitDefEqProofs(disch:=omega)only[aj,ak,QS,WP,↓reduceIte,hn,h0,h1,F3,F4,l0,l1,(Ep).self,eK,HS,mw,Q6,aB,(Ep).aG.indexAddr Tryz.underlying22 bL,k1,eL,T3,bR Tryz.underlying3 Tryz.underlying5,OZ,XC,jB,orB]
  refine ju bL Ep bc rfl ?_
  intro t1 gu eO
  have tE:=(nJ).turns eO Aj
  have XE:=tE.load (P:=Tryz.prog) bC (off:=1) (c:=3) rfl (by simp)
  simp-implicitDefEqProofs(disch:=omega)only[aj,ak,QS,WP,↓reduceIte,hn,h0,F4,XE,aB]
  refine aX bB tE rfl (by simp) rfl ?_
  intro t2 fx im dg
  have dB:=gu.aI im dg Aj
  simp-implicitDefEqProofs(disch:=omega)only[aj,ah,Tryz.results200]
  rw[pz] at dB
  have hr:(nh (B,n) x).1=(B++[0]).set (n/8) (Eo ((B++[0]).getD (n/8) 0) x (n%8)):=by simp only[nh,cY]
  refine⟨B',⟨fx,?_,HO,Aj,hj,T4⟩,((cZ.turns LI uA).trans (cZ.put mm bH)).trans ((cZ.turns eO (.inl rfl)).trans (cZ.put im dg))⟩
  rw[hr,List.length_set];exact dB
 ·have uy:¬((n%8:Nat):Int)=0:=by omega
  have cY:room (B,n)=B:=by unfold room;rw[if_neg hz]
  have bc:n/8<B.length:=by rw[<-cY];exact oC
  simp-implicitDefEqProofs(disch:=omega)only[aj,ak,QS,↓reduceIte,hn,h0,F4,l1,eK,HS,eq_false uy]
  refine da.uL (by kernel_rfl) ?_
  have l0:=(ho).load (P:=Tryz.prog) gw (off:=0) (c:=3) rfl (by simp)
  have l1:=(ho).load (P:=Tryz.prog) bC (off:=1) (c:=3) rfl (by simp)
  have k1:=(hB).aG.dJ (P:=Tryz.prog) mB bc
  rw[bG bc] at k1
  simp-implicitDefEqProofs(disch:=omega)only[aj,ak,QS,WP,↓reduceIte,hn,h0,h1,F3,F4,l0,l1,(hB).self,eK,HS,mw,Q6,aB,(hB).aG.indexAddr Tryz.underlying22 bL,k1,eL,T3,bR Tryz.underlying3 Tryz.underlying5,OZ,XC,jB,orB]
  refine ju bL hB bc rfl ?_
  intro t1 gu eO
  have tE:=(ho).turns eO ck
  have XE:=tE.load (P:=Tryz.prog) bC (off:=1) (c:=3) rfl (by simp)
  simp-implicitDefEqProofs(disch:=omega)only[aj,ak,QS,WP,↓reduceIte,hn,h0,F4,XE,aB]
  refine aX bB tE rfl (by simp) rfl ?_
  intro t2 fx im dg
  have dB:=gu.aI im dg ck
  simp-implicitDefEqProofs(disch:=omega)only[aj,ah,Tryz.results200]
  rw[pz] at dB
  have hr:(nh (B,n) x).1=B.set (n/8) (Eo (B.getD (n/8) 0) x (n%8)):=by simp only[nh,cY]
  refine⟨v,⟨fx,?_,hF,ck,hj,T4⟩,(cZ.turns eO (.inl rfl)).trans (cZ.put im dg)⟩
  rw[hr,List.length_set];exact dB
theorem mZ.start {base j:Nat}{v:Value}{s:aq}{p:List UInt8×Nat}(h:kx base s j v p):mZ base j v s p s:=⟨v,h,cZ.refl _ _ _⟩
def Er (p:List UInt8×Nat)(x w:Int):List UInt8×Nat:=if w<1\/16<w then p else lz p x w.toNat
set_option maxRecDepth 100000 in
set_option maxHeartbeats 4000000 in
theorem Az {lib:az}(hl:lib.at 170=none)(lj:lib.at 200=none)(base:Nat)(s:aq)(j:Nat)(v:Value)(p:List UInt8×Nat)(x w:Int)(h:kx base s j v p)(hb:base<=s.next)(hp:p.2<=1000000000):
  Runs Tryz.prog lib 170 [ql j,.int .i64 x,.int .i64 w] s fun _ s' =>mZ base j v s (Er p x w) s' :=by
 refine Runs.enter 27 Tryz.func170 rfl hl rfl rfl ?_
 intro f hn hf
 have h0:f.get 0=ql j:=hf 0
 have h1:f.get 1= .int .i64 x:=hf 1
 have h2:f.get 2= .int .i64 w:=hf 2
 clear hf
 by_cases c1:w<1
 ·simp-implicitDefEqProofs(disch:=omega)only[aj,ak,al,QS,WP,↓reduceIte,hn,h0,h2,cP Tryz.underlying206,eq_true c1,Tryz.results170]
  unfold Er;rw[if_pos (.inl c1)];exact mZ.start h
 ·by_cases c2:16<w
  ·simp-implicitDefEqProofs(disch:=omega)only[aj,ak,al,QS,WP,↓reduceIte,hn,h0,h2,cP Tryz.underlying206,eq_false c1,eq_true c2,Tryz.results170]
   unfold Er;rw[if_pos (.inr c2)];exact mZ.start h
  ·obtain⟨m,rfl⟩:∃m:Nat,w=m:=⟨w.toNat,by omega⟩
   have T5:Er p x m=lz p x m:=by unfold Er;rw[if_neg (by omega),Int.toNat_natCast]
   simp-implicitDefEqProofs(disch:=omega)only[aj,ak,QS,WP,↓reduceIte,hn,h0,h2,cP Tryz.underlying206,eq_false c1,eq_false c2]
   refine Comes.eU (fun q f s' =>∃(k:Nat),q=m-k/\k<=m/\mZ base j v s (lz p x k) s' /\f.n=27/\f.get 0=ql j/\f.get 1= .int .i64 x/\f.get 17= .int .i64 m/\f.get 18= .int .i64 k)
    ⟨0,rfl,by omega,mZ.start h,by simp only[ag,hn],by simp only[aa,↓reduceIte,WP,h0],by simp only[aa,↓reduceIte,WP,h1],by simp only[aa,↓reduceIte,WP],by simp only[aa,↓reduceIte];rfl⟩ ?_
   clear hn h0 h1 h2 f
   rintro q f s1 ⟨k,rfl,hk,⟨v1,ou,eX⟩,hn,h0,h1,Ak,ye⟩
   by_cases hkm:k<m
   ·have MA:(k:Int)<m:=by omega
    simp-implicitDefEqProofs(disch:=omega)only[aj,ak,ad,QS,WP,↓reduceIte,hn,h0,h1,Ak,ye,eq_true MA,HR]
    refine(XD lj base s1 j v1 (lz p x k) (x.fdiv (2^k)) ou (Nat.le_trans hb eX.next) (by rw[ki];omega)).mono ?_
    rintro _ s2 ⟨v2,gr,ni⟩
    simp-implicitDefEqProofs(disch:=omega)only[aj,QS,WP,↓reduceIte,hn,ye,aB]
    refine au (m-(k+1)) (by omega) ⟨k+1,rfl,by omega,⟨v2,gr,eX.trans ni⟩,by simp only[ag,hn],by simp only[aa,↓reduceIte,WP,h0],by simp only[aa,↓reduceIte,WP,h1],by simp only[aa,↓reduceIte,WP,Ak],by simp only[aa,↓reduceIte];rfl⟩
   ·obtain rfl:k=m:=by omega
    have MA:¬(k:Int)<k:=by omega
    simp-implicitDefEqProofs(disch:=omega)only[aj,ah,QS,↓reduceIte,hn,Ak,ye,eq_false MA,Tryz.results170]
    rw[T5];exact⟨v1,ou,eX⟩
theorem HT {lib:az}(hl:lib.at 36=none)(s:aq)(x:Value)(a:List UInt8)(hx:aN s 1 x a.length (ofBytes a))(ha:a.length<=4294967296):
  Runs Tryz.prog lib 36 [x] s fun v s' =>cC s v s' a:=by
 refine Runs.enter 8 Tryz.func36 rfl hl rfl rfl ?_
 intro f hn hf
 have h0:f.get 0=x:=hf 0
 clear hf
 cases rh:Ci x with
 |true=>
  obtain⟨e1,_,e2⟩:=hx.isNil rh
  obtain rfl:a=[]:=List.eq_nil_of_length_eq_zero e1
  simp-implicitDefEqProofs(disch:=omega)only[aj,al,oneOf,QS,WP,↓reduceIte,hn,h0,hx.nV Tryz.underlying22,rh,Tryz.results36]
  exact⟨.nil,aH.nil _,ar.refl _ _⟩
 |false=>
  simp-implicitDefEqProofs(disch:=omega)only[aj,ae,QS,WP,↓reduceIte,hn,h0,hx.nV Tryz.underlying22,rh,uH Tryz.underlying22 bL lh rfl rfl]
  refine aQ (n:=0) (by rfl) ?_
  intro b s2 hb MB aU
  simp-implicitDefEqProofs(disch:=omega)only[aj,ad,QS,WP,↓reduceIte,hn,h0]
  refine bV Tryz.underlying22 Tryz.underlying22 (.inl ⟨_,rfl⟩) bL kG lh rfl hb (hx.keeps aU).src (by rw[bF,Nat.mul_one]) (by decide) (dj _) (by omega) (by omega) MB (by have:=aU.next;omega) ?_
  intro o' s3 rZ HO dC LI uA
  simp-implicitDefEqProofs(disch:=omega)only[aj,al,oneOf,QS,↓reduceIte,hn,Tryz.results36]
  rw[Nat.zero_add,List.nil_append] at rZ
  exact⟨rZ,HO,aU.trans dC⟩
theorem Q8 {lib:az}(hl:lib.at 138=none)(js:lib.at 36=none)(base:Nat)(s:aq)(j:Nat)(v:Value)(p:List UInt8×Nat)(h:kx base s j v p)(hp:p.1.length<=1000000000):
  Runs Tryz.prog lib 138 [ql j] s fun w s' =>cC s w s' p.1:=by
 refine Runs.enter 10 Tryz.func138 rfl hl rfl rfl ?_
 intro f hn hf
 have h0:f.get 0=ql j:=hf 0
 clear hf
 have l0:=h.cu.load (P:=Tryz.prog) gw (off:=0) (c:=3) rfl (by simp)
 simp-implicitDefEqProofs(disch:=omega)only[aj,ak,ad,QS,WP,↓reduceIte,hn,h0,cP Tryz.underlying206,F3,l0]
 refine(HT js s v p.1 h.own.aG (by omega)).mono ?_
 intro w s2 hw
 simp-implicitDefEqProofs(disch:=omega)only[aj,al,oneOf,QS,↓reduceIte,hn,Tryz.results138]
 exact hw
end Go.Proofs.YtdfjfncifneocaaGreat
namespace Go.Cl.Sto
def F5 (n:Nat)(last:Nat):List UInt8:=[UInt8.ofNat last,UInt8.ofNat n,UInt8.ofNat (n/256),UInt8.ofNat (255-n%256),UInt8.ofNat (255-n/256%256)]
def yf (l:List UInt8):List UInt8:=
 if _h:l.length<=65535 then F5 l.length 1++l else(F5 65535 0++l.take 65535)++yf (l.drop 65535)
termination_by l.length
decreasing_by rw[List.length_drop];omega
theorem sD {l:List UInt8}(h:l.length<=65535):yf l=F5 l.length 1++l:=by rw[yf,dif_pos h]
theorem wz {l:List UInt8}(h:¬l.length<=65535):yf l=(F5 65535 0++l.take 65535)++yf (l.drop 65535):=by rw[yf,dif_neg h]
theorem ia (n k:Nat):(F5 n k).length=5:=rfl
def blocks (n:Nat):Nat:=max 1 ((n+65534)/65535)
theorem qm:∀(k:Nat) (l:List UInt8),l.length<=k->(yf l).length=l.length+5*blocks l.length:=by
 intro k
 induction k with
 |zero=>intro l hl;rw[sD (by omega),List.length_append,ia];unfold blocks;omega
 |succ k ih=>
  intro l hl
  by_cases h:l.length<=65535
  ·rw[sD h,List.length_append,ia];unfold blocks;omega
  ·have:=ih (l.drop 65535) (by rw[List.length_drop];omega)
   rw[wz h,List.length_append,List.length_append,ia,this,List.length_take,List.length_drop]
   unfold blocks
   omega
theorem aeX {n:Nat}(h:n<4611686018427387904):Ze .xor (.int .i64 (n:Int))=some (.int .i64 (-(n:Int)-1)):=by
 show some (Value.int .i64 (IntKind.i64.wrap (((BitVec.ofInt 64 (-1)^^^BitVec.ofInt 64 (n:Int)).toNat:Nat):Int)))=_
 have e:(BitVec.ofInt 64 (-1)^^^BitVec.ofInt 64 (n:Int)).toNat=18446744073709551615-n:=by
  have h1:BitVec.ofInt 64 (-1)=BitVec.allOnes 64:=by decide
  rw[h1,BitVec.allOnes_xor,BitVec.toNat_not,BitVec.ofInt_natCast,BitVec.toNat_ofNat,Nat.mod_eq_of_lt (by omega)]
 rw[e]
 congr 2
 have e1:IntKind.i64.bits=64:=rfl
 have e2:IntKind.i64.signed=true:=rfl
 simp only[IntKind.wrap,e1,e2,Bool.true_and]
 split<;>simp_all<;>omega
theorem XF (P:Program)(t:TypeId)(k' :IntKind)(a:Int):cI P .shr t (.int .i64 a) (.int k' 8)=some (.int .i64 (a.fdiv 256)):=by
 rw[kZ P t .i64 a 8 k' (by decide)];rfl
theorem O0 (a:Int):a.fdiv 256=a/256:=Int.fdiv_eq_ediv_of_nonneg _ (by omega)
theorem b0 (n:Nat):IntKind.u8.wrap (n:Int)=((UInt8.ofNat n).toNat:Int):=by rw[gA,UInt8.toNat_ofNat'];omega
theorem b1 (n:Nat):IntKind.u8.wrap ((n:Int)/256)=((UInt8.ofNat (n/256)).toNat:Int):=by rw[gA,UInt8.toNat_ofNat'];omega
theorem b2 (n:Nat):IntKind.u8.wrap (-(n:Int)-1)=((UInt8.ofNat (255-n%256)).toNat:Int):=by rw[gA,UInt8.toNat_ofNat'];omega
theorem b3 (n:Nat):IntKind.u8.wrap ((-(n:Int)-1)/256)=((UInt8.ofNat (255-n/256%256)).toNat:Int):=by rw[gA,UInt8.toNat_ofNat'];omega
def bit (D:List UInt8)(k:Nat):Nat:=(D.getD (k/8) 0).toNat/2^(k%8)%2
def bM (D:List UInt8)(at_:Nat):Nat->Nat
 |0=>0
 |n+1=>bM D at_ n+bit D (at_+n)*2^n
theorem uQ (D:List UInt8)(k:Nat):bit D k<2:=Nat.mod_lt _ (by omega)
theorem iV (D:List UInt8)(a:Nat):∀n,bM D a n<2^n
 |0=>by simp[bM]
 |n+1=>by
  have h1:=iV D a n
  have h2:=uQ D (a+n)
  have h3:bit D (a+n)=0\/bit D (a+n)=1:=by omega
  simp only[bM,Nat.pow_succ]
  rcases h3 with h|h<;>rw[h]<;>omega
theorem nj (D:List UInt8)(i k:Nat)(h:k<8):bit D (8*i+k)=(D.getD i 0).toNat/2^k%2:=by
 unfold bit
 rw[show(8*i+k)/8=i by omega,show(8*i+k)%8=k by omega]
theorem ZC (D:List UInt8)(i:Nat):bM D (8*i) 8=(D.getD i 0).toNat:=by
 have hx:=(D.getD i 0).toNat_lt
 simp only[bM]
 rw[nj D i 0 (by omega),nj D i 1 (by omega),nj D i 2 (by omega),nj D i 3 (by omega),nj D i 4 (by omega),nj D i 5 (by omega),nj D i 6 (by omega),nj D i 7 (by omega)]
 generalize (D.getD i 0).toNat=x at hx
 simp only[Nat.reducePow]
 omega
theorem F6 (D:List UInt8)(a n:Nat):∀m,bM D a (n+m)=bM D a n+2^n*bM D (a+n) m
 |0=>by simp[bM]
 |m+1=>by
  have:=F6 D a n m
  show bM D a (n+m)+bit D (a+(n+m))*2^(n+m)=_
  rw[this]
  simp only[bM]
  rw[Nat.pow_add,Nat.mul_add,show a+(n+m)=a+n+m by omega]
  have:bit D (a+n+m)*(2^n*2^m)=2^n*(bit D (a+n+m)*2^m):=by
   rw[<-Nat.mul_assoc,Nat.mul_comm (bit D (a+n+m)),Nat.mul_assoc]
  omega
theorem T6 (D:List UInt8)(i:Nat):bM D (8*i) 16=(D.getD i 0).toNat+256*(D.getD (i+1) 0).toNat:=by
 have:=F6 D (8*i) 8 8
 rw[show 8*i+8=8*(i+1) by omega,ZC,ZC] at this
 exact this
theorem aeY (D:List UInt8)(i:Nat):bM D (8*i) 1=(D.getD i 0).toNat%2:=by
 simp only[bM]
 rw[nj D i 0 (by omega)]
 simp
theorem aeZ (D:List UInt8)(i:Nat):bM D (8*i+1) 2=(D.getD i 0).toNat/2%4:=by
 simp only[bM]
 rw[nj D i 1 (by omega),show 8*i+1+1=8*i+2 by omega,nj D i 2 (by omega)]
 generalize (D.getD i 0).toNat=x
 simp only[Nat.reducePow]
 omega
theorem Q9 (P:Program)(t:TypeId)(k' :IntKind){b:Nat}(hb:b<2){k:Nat}(h:k<32):cI P .shl t (.int .i64 ((b:Nat):Int)) (.int k' (k:Nat))=some (.int .i64 ((b*2^k:Nat):Int)):=by
 rw[my P t .i64 _ _ k' (by omega)]
 have e:min ((k:Nat):Int).toNat IntKind.i64.bits=k:=by
  have:IntKind.i64.bits=64:=rfl
  rw[this,Int.toNat_natCast];omega
 have hp:2^k<=2^32:=Nat.pow_le_pow_right (by omega) (by omega)
 have LN:(2:Nat)^32=4294967296:=by decide
 have e2:((b:Nat):Int)*(2:Int)^k=((b*2^k:Nat):Int):=by norm_cast
 rw[e,e2]
 have hx:b=0\/b=1:=by omega
 rw[aB (by rcases hx with rfl|rfl<;>(generalize 2^k=q at hp;omega))]
theorem orI {v b k:Nat}(hv:v<2^k)(hb:b<2)(hk:k<32):IntKind.i64.wrap (((BitVec.ofInt IntKind.i64.bits (v:Int)|||BitVec.ofInt IntKind.i64.bits ((b*2^k:Nat):Int)).toNat:Nat):Int)=((v+b*2^k:Nat):Int):=by
 have e1:IntKind.i64.bits=64:=rfl
 have hp:2^k<=2^32:=Nat.pow_le_pow_right (by omega) (by omega)
 have LN:(2:Nat)^32=4294967296:=by decide
 have hx:b=0\/b=1:=by omega
 have hbk:b*2^k<=4294967296:=by rcases hx with rfl|rfl<;>(generalize 2^k=q at*;omega)
 rw[e1]
 have:(BitVec.ofInt 64 (v:Int)|||BitVec.ofInt 64 ((b*2^k:Nat):Int)).toNat=v+b*2^k:=by
  rw[BitVec.toNat_or,BitVec.ofInt_natCast,BitVec.ofInt_natCast,BitVec.toNat_ofNat,BitVec.toNat_ofNat,Nat.mod_eq_of_lt (by omega),Nat.mod_eq_of_lt (by omega)]
  have:=Nat.shiftLeft_add_eq_or_of_lt (i:=k) (b:=v) hv b
  rw[Nat.shiftLeft_eq] at this
  rw[Nat.or_comm,<-this,Nat.add_comm]
 rw[this,aB (by omega)]
theorem ae0 {m:Nat}(h:m<65536):IntKind.i64.wrap (((BitVec.ofInt IntKind.i64.bits (m:Int)^^^BitVec.ofInt IntKind.i64.bits 65535).toNat:Nat):Int)=((65535-m:Nat):Int):=by
 have e1:IntKind.i64.bits=64:=rfl
 rw[e1]
 have:(BitVec.ofInt 64 (m:Int)^^^BitVec.ofInt 64 65535).toNat=65535-m:=by
  have e2:(BitVec.ofInt 64 65535)=BitVec.ofNat 64 65535:=rfl
  rw[e2,BitVec.toNat_xor,BitVec.ofInt_natCast,BitVec.toNat_ofNat,BitVec.toNat_ofNat,Nat.mod_eq_of_lt (by omega),Nat.mod_eq_of_lt (by omega)]
  apply Nat.eq_of_testBit_eq
  intro i
  have Ra:(65535:Nat)=2^16-1:=by decide
  have Ak:65535-m=2^16-(m+1):=by
   have:(2:Nat)^16=65536:=by decide
   omega
  rw[Ak,Nat.testBit_two_pow_sub_succ (by show m<2^16;exact h),Nat.testBit_xor,Ra,Nat.testBit_two_pow_sub_one]
  by_cases hi:i<16
  ·simp[hi]
  ·have:m.testBit i=false:=Nat.testBit_lt_two_pow (Nat.lt_of_lt_of_le h (by show 2^16<=2^i;exact Nat.pow_le_pow_right (by omega) (by omega)))
   simp[hi,this]
 rw[this,aB (by omega)]
end Go.Cl.Sto
namespace Go.Cl.Fx
open Go.Cl.Rw Go.Cl.Sto
def gH (p:List UInt8×Nat)(n:Nat):Nat->List UInt8×Nat
 |0=>p
 |w+1=>gH (lz p ((n:Int).fdiv (2^w)) 1) n w
theorem kH (n:Nat):∀(w:Nat) (p:List UInt8×Nat),(gH p n w).2=p.2+w
 |0,p=>rfl
 |w+1,p=>by
  unfold gH
  rw[kH n w,ki];omega
theorem CF (n:Nat):∀(w:Nat) (p:List UInt8×Nat),Ok p->Ok (gH p n w)
 |0,p,h=>h
 |w+1,p,h=>by
  unfold gH
  exact CF n w _ (wy h 1)
def gB (s:Nat):Nat×Nat:=if s<144 then(48+s,8) else if s<256 then(256+s,9) else if s<280 then(s-256,7) else(s-88,8)
def iW (p:List UInt8×Nat)(s:Nat):List UInt8×Nat:=gH p (gB s).1 (gB s).2
theorem wA (s:Nat):7<=(gB s).2/\(gB s).2<=9:=by
 unfold gB
 split
 ·simp
 ·split
  ·simp
  ·split<;>simp
def gb:Nat->Nat->Nat->Nat
 |0,_,_=>0
 |f+1,n,g=>if n<2*g then 0 else gb f (n/2) g+1
def kI (n g:Nat):Nat×Nat×Nat:=((gb 16 n g+1)*g+n/2^gb 16 n g-g,n%2^gb 16 n g,gb 16 n g)
def ch (n:Nat):Nat×Nat×Nat:=if n=258 then(285,0,0) else(257+(kI (n-3) 4).1,(kI (n-3) 4).2)
def dS (n:Nat):Nat×Nat×Nat:=kI (n-1) 2
def XG (n:Nat):Nat->Nat×Nat×Nat
 |0=>(n+254,0,0)
 |k+1=>if(4+k%4)*2^((4+k)/4)+3<=n then(265+k,n-((4+k%4)*2^((4+k)/4)+3),(4+k)/4) else XG n k
def XH (n:Nat):Nat->Nat×Nat×Nat
 |0=>(n-1,0,0)
 |k+1=>if(2+k%2)*2^((4+k)/2-1)+1<=n then(4+k,n-((2+k%2)*2^((4+k)/2-1)+1),(4+k)/2-1) else XH n k
def MD:Nat->Bool
 |0=>true
 |n+1=>decide (XG (n+3) 20=ch (n+3))&&decide ((ch (n+3)).1<=284/\257<=(ch (n+3)).1/\(ch (n+3)).2.2<=5/\(ch (n+3)).2.1<2^(ch (n+3)).2.2)&&MD n
theorem F7:∀{m:Nat},MD m=true->∀n,n<m->XG (n+3) 20=ch (n+3)/\(ch (n+3)).1<=284/\257<=(ch (n+3)).1/\(ch (n+3)).2.2<=5/\(ch (n+3)).2.1<2^(ch (n+3)).2.2
 |m+1,h,n,hn=>by
  simp only[MD,Bool.and_eq_true,decide_eq_true_eq] at h
  by_cases e:n=m
  ·subst e;exact⟨h.1.1,h.1.2⟩
  ·exact F7 h.2 n (by omega)
theorem T7 {n:Nat}(h3:3<=n)(h:n<258):XG n 20=ch n/\(ch n).1<=284/\257<=(ch n).1/\(ch n).2.2<=5/\(ch n).2.1<2^(ch n).2.2:=by
 have:=F7 (m:=255) (by decide+kernel) (n-3) (by omega)
 rw[show n-3+3=n by omega] at this
 exact this
def ME:Nat->Bool
 |0=>true
 |n+1=>decide (XH (n+1) 26=dS (n+1))&&decide ((dS (n+1)).1<=29/\(dS (n+1)).2.2<=4/\(dS (n+1)).2.1<2^(dS (n+1)).2.2)&&ME n
theorem F8:∀{m:Nat},ME m=true->∀n,n<m->XH (n+1) 26=dS (n+1)/\(dS (n+1)).1<=29/\(dS (n+1)).2.2<=4/\(dS (n+1)).2.1<2^(dS (n+1)).2.2
 |m+1,h,n,hn=>by
  simp only[ME,Bool.and_eq_true,decide_eq_true_eq] at h
  by_cases e:n=m
  ·subst e;exact⟨h.1.1,h.1.2⟩
  ·exact F8 h.2 n (by omega)
theorem CG {n:Nat}(h1:1<=n)(h:n<=64):XH n 26=dS n/\(dS n).1<=29/\(dS n).2.2<=4/\(dS n).2.1<2^(dS n).2.2:=by
 have:=F8 (m:=64) (by decide+kernel) (n-1) (by omega)
 rw[show n-1+1=n by omega] at this
 exact this
def comm (l:List UInt8)(a d:Nat):Nat->Nat->Nat
 |n,0=>n
 |n,f+1=>if a+n<l.length/\l.getD (a+n-d) 0=l.getD (a+n) 0 then comm l a d (n+1) f else n
def MF (l:List UInt8)(a d:Nat):Nat:=comm l a d 0 258
theorem O2 (l:List UInt8)(a d:Nat):∀f n,n<=comm l a d n f/\comm l a d n f<=n+f
 |0,n=>by simp[comm]
 |f+1,n=>by
  unfold comm
  split
  ·have:=O2 l a d f (n+1);omega
  ·omega
theorem O3 (l:List UInt8)(a d:Nat):∀f n,a+n<=l.length->a+comm l a d n f<=l.length
 |0,n,h=>by simpa [comm] using h
 |f+1,n,h=>by
  unfold comm
  split
  ·rename_i c;exact O3 l a d f (n+1) (by omega)
  ·exact h
theorem abn (l:List UInt8)(a d:Nat):MF l a d<=258:=by have:=(O2 l a d 258 0).2;unfold MF;omega
theorem abo {l:List UInt8}{a:Nat}(d:Nat)(h:a<=l.length):a+MF l a d<=l.length:=O3 l a d 258 0 h
theorem O4 (l:List UInt8)(a d:Nat):∀f n,(∀i,i<n->l.getD (a+i-d) 0=l.getD (a+i) 0)->∀i,i<comm l a d n f->l.getD (a+i-d) 0=l.getD (a+i) 0
 |0,n,h=>by simpa [comm] using h
 |f+1,n,h=>by
  unfold comm
  split
  ·rename_i c
   refine O4 l a d f (n+1) (fun i hi=> ?_)
   by_cases e:i=n
   ·subst e;exact c.2
   ·exact h i (by omega)
  ·exact h
theorem abp (l:List UInt8)(a d:Nat):∀i,i<MF l a d->l.getD (a+i-d) 0=l.getD (a+i) 0:=O4 l a d 258 0 (fun i h=>absurd h (Nat.not_lt_zero i))
def cS (l:List UInt8)(a:Nat):Nat->Nat×Nat
 |0=>(0,0)
 |k+1=>if(cS l a k).1<MF l a (k+1) then(MF l a (k+1),k+1) else cS l a k
theorem AA (l:List UInt8)(a:Nat):∀k,(cS l a k=(0,0))\/(1<=(cS l a k).2/\(cS l a k).2<=k/\(cS l a k).1=MF l a (cS l a k).2)
 |0=> .inl rfl
 |k+1=>by
  unfold cS
  split
  ·exact .inr ⟨by simp,Nat.le_refl _,rfl⟩
  ·rcases AA l a k with h|⟨h1,h2,h3⟩
   ·exact .inl h
   ·exact .inr ⟨h1,by omega,h3⟩
theorem XI (l:List UInt8)(a k:Nat):(cS l a k).1<=258/\(cS l a k).2<=k:=by
 rcases AA l a k with h|⟨h1,h2,h3⟩
 ·rw[h];simp
 ·exact⟨by rw[h3];exact abn ..,h2⟩
def gE (p:List UInt8×Nat)(x w:Nat):List UInt8×Nat:=lz p (x:Int) w
def lU (p:List UInt8×Nat)(n d:Nat):List UInt8×Nat:=gE (gH (gE (iW p (ch n).1) (ch n).2.1 (ch n).2.2) (dS d).1 5) (dS d).2.1 (dS d).2.2
def nL (a:Nat):Nat:=min a 64
def iX (l:List UInt8)(a:Nat):Nat:=if(cS l a (nL a)).1<3 then a+1 else a+(cS l a (nL a)).1
def iA (l:List UInt8)(a:Nat)(p:List UInt8×Nat):List UInt8×Nat:=if(cS l a (nL a)).1<3 then iW p (l.getD a 0).toNat else lU p (cS l a (nL a)).1 (cS l a (nL a)).2
def gQ (l:List UInt8):Nat->Nat->List UInt8×Nat->List UInt8×Nat
 |0,_,p=>p
 |f+1,a,p=>if a<l.length then gQ l f (iX l a) (iA l a p) else p
def jK:List UInt8×Nat:=lz ([],0) 3 3
def rk (l:List UInt8):List UInt8×Nat:=iW (gQ l (l.length+1) 0 jK) 256
def fixed (l:List UInt8):List UInt8:=(rk l).1
theorem pA (l:List UInt8)(a:Nat):a<iX l a:=by unfold iX;split<;>omega
theorem CH (l:List UInt8){a:Nat}(h:a<l.length):iX l a<=l.length:=by
 unfold iX
 split
 ·omega
 ·rename_i c
  rcases AA l a (nL a) with e|⟨h1,h2,h3⟩
  ·rw[e] at c;simp at c
  ·rw[h3];exact abo _ (by omega)
theorem CI {l:List UInt8}{a:Nat}(c:¬(cS l a (nL a)).1<3):3<=(cS l a (nL a)).1/\(cS l a (nL a)).1<=258/\1<=(cS l a (nL a)).2/\(cS l a (nL a)).2<=64/\(cS l a (nL a)).2<=a/\(cS l a (nL a)).1=MF l a (cS l a (nL a)).2:=by
 rcases AA l a (nL a) with e|⟨h1,h2,h3⟩
 ·rw[e] at c;simp at c
 ·have:=XI l a (nL a)
  unfold nL at*
  exact⟨by omega,by omega,h1,by omega,by omega,h3⟩
theorem yg {n:Nat}(h3:3<=n)(h:n<=258):(ch n).1<=285/\257<=(ch n).1/\(ch n).2.2<=5/\(ch n).2.1<2^(ch n).2.2:=by
 by_cases e:n=258
 ·subst e;decide
 ·have:=T7 h3 (by omega);omega
theorem pB (p:List UInt8×Nat)(s:Nat):(iW p s).2=p.2+(gB s).2:=kH ..
theorem HU {p:List UInt8×Nat}(h:Ok p)(s:Nat):Ok (iW p s):=CF _ _ _ h
theorem sF (p:List UInt8×Nat)(x w:Nat):(gE p x w).2=p.2+w:=ki ..
theorem MG (p:List UInt8×Nat)(n d:Nat):(lU p n d).2=p.2+(gB (ch n).1).2+(ch n).2.2+5+(dS d).2.2:=by
 unfold lU
 rw[sF,kH,sF,pB]
theorem T8 {s:Nat}(h:257<=s):(gB s).2<=8:=by
 unfold gB
 rw[if_neg (by omega),if_neg (by omega)]
 split<;>simp
theorem Rb (p:List UInt8×Nat){n d:Nat}(h3:3<=n)(h:n<=258)(hd:1<=d)(uD:d<=64):(lU p n d).2<=p.2+22:=by
 have h1:=yg h3 h
 have h2:=T8 h1.2.1
 have h4:=CG hd uD
 rw[MG];omega
theorem JO (l:List UInt8)(a:Nat)(p:List UInt8×Nat):(iA l a p).2+9*a<=p.2+9*iX l a:=by
 unfold iA iX
 split
 ·have:=wA (l.getD a 0).toNat
  rw[pB];omega
 ·rename_i c
  have h:=CI c
  have:=Rb p h.1 h.2.1 h.2.2.1 h.2.2.2.1
  omega
theorem nk (l:List UInt8){f a:Nat}(p:List UInt8×Nat)(h:l.length<=a):gQ l f a p=p:=by
 cases f with
 |zero=>rfl
 |succ f=>unfold gQ;rw[if_neg (by omega)]
theorem yh (l:List UInt8){f a:Nat}(p:List UInt8×Nat)(h:a<l.length):gQ l (f+1) a p=gQ l f (iX l a) (iA l a p):=by rw[gQ,if_pos h]
theorem yi (l:List UInt8):∀(f g a:Nat) (p:List UInt8×Nat),l.length<=a+f->l.length<=a+g->gQ l f a p=gQ l g a p
 |0,g,a,p,h,_=>by rw[nk l p (by omega),nk l p (by omega)]
 |f+1,0,a,p,_,h=>by rw[nk l p (by omega),nk l p (by omega)]
 |f+1,g+1,a,p,h1,h2=>by
  by_cases c:a<l.length
  ·rw[yh l p c,yh l p c]
   have:=pA l a
   exact yi l f g _ _ (by omega) (by omega)
  ·rw[nk l p (by omega),nk l p (by omega)]
def tG (l:List UInt8)(a:Nat)(p:List UInt8×Nat):List UInt8×Nat:=gQ l (l.length-a) a p
theorem pC (l:List UInt8){a:Nat}(p:List UInt8×Nat)(h:l.length<=a):tG l a p=p:=nk l p h
theorem tj (l:List UInt8){a:Nat}(p:List UInt8×Nat)(h:a<l.length):tG l a p=tG l (iX l a) (iA l a p):=by
 unfold tG
 obtain⟨f,hf⟩:∃f,l.length-a=f+1:=⟨l.length-a-1,by omega⟩
 have:=pA l a
 rw[hf,yh l p h,yi l f (l.length-iX l a) _ _ (by omega) (by omega)]
theorem AB (l:List UInt8):rk l=iW (tG l 0 jK) 256:=by
 unfold rk tG
 rw[yi l (l.length+1) (l.length-0) 0 _ (by omega) (by omega)]
theorem O5 (l:List UInt8):∀(k a:Nat) (p:List UInt8×Nat),l.length<=a+k->a<=l.length->Ok p->Ok (tG l a p)/\(tG l a p).2+9*a<=p.2+9*l.length
 |0,a,p,h,h2,hp=>by rw[pC l p (by omega)];exact⟨hp,by omega⟩
 |k+1,a,p,h,h2,hp=>by
  by_cases c:a<l.length
  ·rw[tj l p c]
   have h3:=pA l a
   have h4:=CH l c
   have dF:Ok (iA l a p):=by
    unfold iA
    split
    ·exact HU hp _
    ·exact wy (CF _ _ _ (wy (HU hp _) _)) _
   have:=O5 l k _ _ (by omega) h4 dF
   have h5:=JO l a p
   exact⟨this.1,by omega⟩
  ·rw[pC l p (by omega)];exact⟨hp,by omega⟩
theorem wB:Ok jK/\jK.2=3:=⟨wy ⟨Nat.le_refl _,by decide⟩ 3,rfl⟩
theorem HV (l:List UInt8):Ok (rk l)/\(rk l).2<=10+9*l.length:=by
 rw[AB]
 have h:=O5 l l.length 0 jK (by omega) (by omega) wB.1
 have h2:=wB.2
 refine⟨HU h.1 _,?_⟩
 rw[pB]
 have:(gB 256).2=7:=rfl
 omega
theorem wC (l:List UInt8):(fixed l).length<=3+2*l.length:=by
 have:=HV l
 unfold fixed
 have h:=this.1.2
 omega
end Go.Cl.Fx
set_option linter.unusedSimpArgs false
set_option linter.unusedVariables false
set_option maxRecDepth 100000
namespace Go.Cl.Fx
open Go.Cl.Rw Go.Cl.Sto
theorem O6 (n k:Nat):(n:Int).fdiv (2^k)=((n/2^k:Nat):Int):=by
 rw[Int.fdiv_eq_ediv_of_nonneg _ (by exact Int.pow_nonneg (by omega))]
 norm_cast
theorem XJ (P:Program)(t:TypeId)(k' :IntKind)(n:Nat){k:Nat}(h:k<64):cI P .shr t (.int .i64 (n:Int)) (.int k' (k:Nat))=some (.int .i64 ((n/2^k:Nat):Int)):=by
 rw[HR P t k' (n:Int) h,O6]
theorem XK {n k:Nat}(hn:n<4294967296)(hk:k<32):IntKind.i64.wrap (((BitVec.ofInt IntKind.i64.bits (n:Int)&&&BitVec.ofInt IntKind.i64.bits (((1*2^k:Nat):Int)-1)).toNat:Nat):Int)=((n%2^k:Nat):Int):=by
 have e1:IntKind.i64.bits=64:=rfl
 have hp:2^k<=2^32:=Nat.pow_le_pow_right (by omega) (by omega)
 have LN:(2:Nat)^32=4294967296:=by decide
 have rJ:1<=2^k:=Nat.pos_of_ne_zero (by simp)
 have e2:(((1*2^k:Nat):Int)-1)=((2^k-1:Nat):Int):=by omega
 rw[e1,e2]
 have:(BitVec.ofInt 64 (n:Int)&&&BitVec.ofInt 64 ((2^k-1:Nat):Int)).toNat=n%2^k:=by
  rw[BitVec.toNat_and,BitVec.ofInt_natCast,BitVec.ofInt_natCast,BitVec.toNat_ofNat,BitVec.toNat_ofNat,Nat.mod_eq_of_lt (by omega),Nat.mod_eq_of_lt (by omega),Nat.and_two_pow_sub_one_eq_mod]
 rw[this,aB (by have:=Nat.mod_lt n (show 2^k>0 by omega);omega)]
theorem O7 {f n g:Nat}(h:n<2*g):gb f n g=0:=by
 cases f with
 |zero=>rfl
 |succ f=>unfold gb;rw[if_pos h]
theorem XL {f n g:Nat}(h:¬n<2*g):gb (f+1) n g=gb f (n/2) g+1:=by rw[gb,if_neg h]
theorem MH {n g:Nat}(h:n<2*g):kI n g=(n,0,0):=by
 unfold kI
 rw[O7 h]
 simp[Nat.mod_one]
theorem JP {P:Program}{lib:az}{cA cB:Code}{f:aT}{s:aq}{Q:AX->aT->aq->Prop}{b:Bool}(J:aT->aq->Prop)(h1:∀Q' :AX->aT->aq->Prop,(∀f' s',J f' s' ->Q' .normal f' s')->TE P lib cA cB f s Q' b)(h2:∀f' s',J f' s' ->Q .normal f' s'):TE P lib cA cB f s Q b:=h1 Q h2
end Go.Cl.Fx
namespace Go.Proofs.YtdfjfncifneocaaGreat
open Go.Cl Go.Cl.Rw Go.Cl.Sto Go.Cl.Fx
theorem T9 (p:List UInt8×Nat)(x:Int):Er p x 1=lz p x 1:=by unfold Er;rw[if_neg (by omega)];rfl
theorem JQ (p:List UInt8×Nat)(x:Nat){w:Nat}(h:w<=16):Er p (x:Int) (w:Nat)=gE p x w:=by
 unfold Er gE
 by_cases c:w=0
 ·subst c;rw[if_pos (by omega)];rfl
 ·rw[if_neg (by omega),Int.toNat_natCast]
theorem O8 (a b c:Value):ba (.tuple #[a,b,c]) 0=some a:=rfl
theorem O9 (a b c:Value):ba (.tuple #[a,b,c]) 1=some b:=rfl
theorem Pa (a b c:Value):ba (.tuple #[a,b,c]) 2=some c:=rfl
theorem Ua (i o c:Nat):ay Tryz.prog 202 (.pointer (some ⟨i,o,some c⟩)) 0=some (.pointer (some ⟨i,o+0,some c⟩)):=by
 kernel_rfl
set_option maxHeartbeats 4000000 in
theorem sG {lib:az}(hl:lib.at 201=none)(jQ:lib.at 170=none)(lj:lib.at 200=none)(base:Nat)(s:aq)(j:Nat)(v:Value)(p:List UInt8×Nat)(n w:Nat)(h:kx base s j v p)(hb:base<=s.next)(hp:p.2+w<=1000000000)(hw:w<=16):
  Runs Tryz.prog lib 201 [ql j,.int .i64 (n:Int),.int .i64 (w:Int)] s fun _ s' =>mZ base j v s (gH p n w) s' :=by
 refine Runs.enter 20 Tryz.func201 rfl hl rfl rfl ?_
 intro f hn hf
 have h0:f.get 0=ql j:=hf 0
 have h1:f.get 1= .int .i64 (n:Int):=hf 1
 have h2:f.get 2= .int .i64 (w:Int):=hf 2
 clear hf
 simp-implicitDefEqProofs(disch:=omega)only[aj,QS,↓reduceIte,hn,h2,aB]
 refine Comes.eU (fun q f s' =>∃(k:Nat) (p1:List UInt8×Nat),q=k/\k<=w/\mZ base j v s p1 s' /\p1.2+k=p.2+w/\gH p1 n k=gH p n w/\f.n=20/\f.get 0=ql j/\f.get 1= .int .i64 (n:Int)/\f.get 6= .int .i64 ((k:Int)-1))
  ⟨w,p,rfl,by omega,mZ.start h,rfl,rfl,by simp only[ag,hn],by simp only[aa,↓reduceIte,WP,h0],by simp only[aa,↓reduceIte,WP,h1],by simp only[aa,↓reduceIte]⟩ ?_
 clear hn h0 h1 h2 f
 rintro k f s1 ⟨_,p1,rfl,hk,⟨v1,ou,eX⟩,b6,hcd,hn,h0,h1,h6⟩
 by_cases SB:k=0
 ·subst SB
  have d1:¬((0:Nat):Int)-1>=0:=by omega
  simp-implicitDefEqProofs(disch:=omega)only[aj,ah,QS,↓reduceIte,hn,h6,eq_false d1,Tryz.results201]
  rw[<-hcd]
  exact⟨v1,ou,eX⟩
 obtain⟨m,rfl⟩:∃m,k=m+1:=⟨k-1,by omega⟩
 have e1:((m+1:Nat):Int)-1=(m:Int):=by omega
 rw[e1] at h6
 have d1:(m:Int)>=0:=by omega
 simp-implicitDefEqProofs(disch:=omega)only[aj,QS,↓reduceIte,hn,h6,eq_true d1]
 obtain⟨B,hB⟩:∃B:Nat->Bool,B=fun j=>decide (j<s1.next):=⟨_,rfl⟩
 have LO:∀j,B j=true->j<s1.next:=by
  intro j h
  rw[hB] at h
  exact of_decide_eq_true h
 refine LB.da.fL B LO 0 0 (by kernel_rfl) (by kernel_rfl) ?_
 have oB:=ar.spare s1 0
 have SF:(spare s1 0).next=s1.next+0:=bU _ _
 simp-implicitDefEqProofs(disch:=omega)only[aj,ak,bS,bT,Nat.reduceSub,ad,QS,WP,↓reduceIte,hn,h0,h1,h6,Ua,HR]
 refine(Az jQ lj base (spare s1 0) j v1 p1 ((n:Int).fdiv (2^m)) 1 (ou.keeps oB) (by have:=eX.next;omega) (by omega)).mono ?_
 rintro _ s2 ⟨v2,gr,ni⟩
 rw[T9] at gr
 refine⟨fun h=>h.elim,?_⟩
 have aja:cZ j v1 s1 v2 s2:=⟨by have:=ni.next;omega,fun i hi hj hv=>by rw[ni.get i (by omega) hj hv,oB.get i hi],by
  rcases ni.id with e|⟨i,e,hi⟩
  ·exact .inl e
  ·exact .inr ⟨i,e,by omega⟩⟩
 simp-implicitDefEqProofs(disch:=omega)only[aB]
 exact au m (by omega) ⟨m,_,rfl,by omega,⟨v2,gr,eX.trans aja⟩,by rw[ki];omega,hcd,by simp only[ag,hn],by simp only[aa,↓reduceIte,WP,h0],by simp only[aa,↓reduceIte,WP,h1],by simp only[aa,↓reduceIte]⟩
set_option maxHeartbeats 4000000 in
theorem qn {lib:az}(hl:lib.at 172=none)(js:lib.at 201=none)(jQ:lib.at 170=none)(lj:lib.at 200=none)(base:Nat)(s:aq)(j:Nat)(v:Value)(p:List UInt8×Nat)(n:Nat)(h:kx base s j v p)(hb:base<=s.next)(hp:p.2<=900000000)(hn:n<288):
  Runs Tryz.prog lib 172 [ql j,.int .i64 (n:Int)] s fun _ s' =>mZ base j v s (iW p n) s' :=by
 obtain⟨PP,Rc⟩:∃PP,PP=iW p n:=⟨_,rfl⟩
 have aon:=Rc
 rw[<-Rc]
 unfold iW gB at Rc
 refine Runs.enter 31 Tryz.func172 rfl hl rfl rfl ?_
 intro f iK hf
 have h0:f.get 0=ql j:=hf 0
 have h1:f.get 1= .int .i64 (n:Int):=hf 1
 clear hf
 by_cases c1:n<144
 ·have d1:(n:Int)<144:=by omega
  rw[if_pos c1] at Rc
  simp-implicitDefEqProofs(disch:=omega)only[aj,ak,ad,QS,WP,↓reduceIte,iK,h0,h1,eq_true d1,aB]
  rw[show(48:Int)+n=((48+n:Nat):Int) by omega]
  refine(sG js jQ lj base s j v p (48+n) 8 h hb (by omega) (by omega)).mono ?_
  intro _ s2 h2
  simp-implicitDefEqProofs(disch:=omega)only[aj,ah,QS,↓reduceIte,iK,Tryz.results172]
  rw[Rc];exact h2
 have d1:¬(n:Int)<144:=by omega
 rw[if_neg c1] at Rc
 by_cases c2:n<256
 ·have d2:(n:Int)<256:=by omega
  rw[if_pos c2] at Rc
  simp-implicitDefEqProofs(disch:=omega)only[aj,ak,ad,QS,WP,↓reduceIte,iK,h0,h1,eq_false d1,eq_true d2,aB]
  rw[show(400:Int)+n-144=((256+n:Nat):Int) by omega]
  refine(sG js jQ lj base s j v p (256+n) 9 h hb (by omega) (by omega)).mono ?_
  intro _ s2 h2
  simp-implicitDefEqProofs(disch:=omega)only[aj,ah,QS,↓reduceIte,iK,Tryz.results172]
  rw[Rc];exact h2
 have d2:¬(n:Int)<256:=by omega
 rw[if_neg c2] at Rc
 by_cases c3:n<280
 ·have d3:(n:Int)<280:=by omega
  rw[if_pos c3] at Rc
  simp-implicitDefEqProofs(disch:=omega)only[aj,ak,ad,QS,WP,↓reduceIte,iK,h0,h1,eq_false d1,eq_false d2,eq_true d3,aB]
  rw[show(n:Int)-256=((n-256:Nat):Int) by omega]
  refine(sG js jQ lj base s j v p (n-256) 7 h hb (by omega) (by omega)).mono ?_
  intro _ s2 h2
  simp-implicitDefEqProofs(disch:=omega)only[aj,ah,QS,↓reduceIte,iK,Tryz.results172]
  rw[Rc];exact h2
 ·have d3:¬(n:Int)<280:=by omega
  rw[if_neg c3] at Rc
  simp-implicitDefEqProofs(disch:=omega)only[aj,ak,ad,QS,WP,↓reduceIte,iK,h0,h1,eq_false d1,eq_false d2,eq_false d3,aB]
  rw[show(192:Int)+n-280=((n-88:Nat):Int) by omega]
  refine(sG js jQ lj base s j v p (n-88) 8 h hb (by omega) (by omega)).mono ?_
  intro _ s2 h2
  simp-implicitDefEqProofs(disch:=omega)only[aj,ah,QS,↓reduceIte,iK,Tryz.results172]
  rw[Rc];exact h2
def ae1 (s:aq)(x:Nat×Nat×Nat)(v:Value)(s' :aq):Prop:=v= .tuple #[.int .i64 (x.1:Nat),.int .i64 (x.2.1:Nat),.int .i64 (x.2.2:Nat)]/\s' =s
set_option maxHeartbeats 4000000 in
theorem CJ {lib:az}(hl:lib.at 202=none)(s:aq)(n g:Nat)(hg:g=2\/g=4)(hn:n<32768):
  Runs Tryz.prog lib 202 [.int .i64 (n:Int),.int .i64 (g:Int)] s (ae1 s (kI n g)):=by
 refine Runs.enter 37 Tryz.func202 rfl hl rfl rfl ?_
 intro f iK hf
 have h0:f.get 0= .int .i64 (n:Int):=hf 0
 have h1:f.get 1= .int .i64 (g:Int):=hf 1
 clear hf
 have hg8:2<=g/\g<=4:=by omega
 by_cases c1:n<2*g
 ·have d1:(n:Int)<2*g:=by omega
  simp-implicitDefEqProofs(disch:=omega)only[aj,al,oneOf,QS,WP,↓reduceIte,iK,h0,h1,aB,eq_true d1,Tryz.results202]
  rw[MH c1]
  exact⟨rfl,rfl⟩
 have d1:¬(n:Int)<2*g:=by omega
 simp-implicitDefEqProofs(disch:=omega)only[aj,QS,WP,↓reduceIte,iK,h0,h1,aB,eq_false d1]
 refine Comes.bK (fun q f s' =>∃k:Nat,q=16-k/\k<=15/\gb 16 n g=gb (16-k) (n/2^k) g+k/\s' =s/\f.n=37/\f.get 0= .int .i64 (n:Int)/\f.get 1= .int .i64 (g:Int)/\f.get 7= .int .i64 (k:Nat))
  (fun z f s' =>z= .exit 0/\∃k:Nat,k<=15/\gb 16 n g=k/\s' =s/\f.n=37/\f.get 0= .int .i64 (n:Int)/\f.get 1= .int .i64 (g:Int)/\f.get 7= .int .i64 (k:Nat))
  ⟨0,rfl,by omega,by simp,rfl,by simp only[ag,iK],by simp only[aa,↓reduceIte,WP,h0],by simp only[aa,↓reduceIte,WP,h1],by simp only[aa,↓reduceIte];rfl⟩ ?_ ?_
 ·clear iK h0 h1 f
  rintro Q hQ q f s' ⟨k,rfl,hk,hgb,rfl,iK,h0,h1,h7⟩
  have hle:n/2^k<=n:=Nat.div_le_self _ _
  have ug:=XJ Tryz.prog 3 .i64 n (k:=k) (by omega)
  by_cases c2:n/2^k<2*g
  ·have d2:¬((n/2^k:Nat):Int)>=2*g:=by omega
   rw[O7 c2,Nat.zero_add] at hgb
   simp-implicitDefEqProofs(disch:=omega)only[aj,QS,WP,↓reduceIte,iK,h0,h1,h7,ug,aB,eq_false d2]
   exact hQ _ _ _ ⟨rfl,k,hk,hgb,rfl,by simp only[ag,iK],by simp only[aa,↓reduceIte,WP,h0],by simp only[aa,↓reduceIte,WP,h1],by simp only[aa,↓reduceIte,WP,h7]⟩
  ·have d2:((n/2^k:Nat):Int)>=2*g:=by omega
   have ae3:k<15:=by
    refine Nat.lt_of_not_le (fun h=>c2 ?_)
    have:2^15<=2^k:=Nat.pow_le_pow_right (by omega) h
    have h2:n/2^k=0:=Nat.div_eq_of_lt (Nat.lt_of_lt_of_le hn this)
    omega
   have hs:gb (16-k) (n/2^k) g=gb (16-(k+1)) (n/2^(k+1)) g+1:=by
    rw[show 16-k=(16-(k+1))+1 by omega,XL c2,Nat.pow_succ,Nat.div_div_eq_div_mul]
   simp-implicitDefEqProofs(disch:=omega)only[aj,QS,WP,↓reduceIte,iK,h0,h1,h7,ug,aB,eq_true d2]
   exact au (16-(k+1)) (by omega) ⟨k+1,rfl,by omega,by rw[hgb,hs];omega,rfl,by simp only[ag,iK],by simp only[aa,↓reduceIte,WP,h0],by simp only[aa,↓reduceIte,WP,h1],by simp only[aa,↓reduceIte];rfl⟩
 clear iK h0 h1 f
 rintro z f s' ⟨rfl,k,hk,hgb,rfl,iK,h0,h1,h7⟩
 have hle:n/2^k<=n:=Nat.div_le_self _ _
 have ug:=XJ Tryz.prog 3 .i64 n (k:=k) (by omega)
 have tH:=Q9 Tryz.prog 3 .i64 (b:=1) (by omega) (k:=k) (by omega)
 have hand:=XK (n:=n) (k:=k) (by omega) (by omega)
 have hp:2^k<=32768:=by
  have:2^k<=2^15:=Nat.pow_le_pow_right (by omega) hk
  exact this
 have e:kI n g=((k+1)*g+n/2^k-g,n%2^k,k):=by unfold kI;rw[hgb]
 rw[e]
 have tH:cI Tryz.prog .shl 3 (.int .i64 1) (.int .i64 (k:Nat))=some (.int .i64 ((1*2^k:Nat):Int)):=tH
 rcases hg with rfl|rfl
 ·simp-implicitDefEqProofs(disch:=omega)only[aj,al,oneOf,QS,WP,↓reduceIte,iK,h0,h1,h7,ug,tH,eL,hand,aB,Tryz.results202]
  have e1:IntKind.i64.wrap (IntKind.i64.wrap (((k:Int)+1)*((2:Nat):Int)+((n/2^k:Nat):Int))-((2:Nat):Int))=(((k+1)*2+n/2^k-2:Nat):Int):=by
   generalize n/2^k=q at hle
   rw[show((2:Nat):Int)=2 from rfl]
   simp (disch:=omega) only[aB]
   omega
  rw[e1]
  exact⟨rfl,rfl⟩
 ·simp-implicitDefEqProofs(disch:=omega)only[aj,al,oneOf,QS,WP,↓reduceIte,iK,h0,h1,h7,ug,tH,eL,hand,aB,Tryz.results202]
  have e1:IntKind.i64.wrap (IntKind.i64.wrap (((k:Int)+1)*((4:Nat):Int)+((n/2^k:Nat):Int))-((4:Nat):Int))=(((k+1)*4+n/2^k-4:Nat):Int):=by
   generalize n/2^k=q at hle
   rw[show((4:Nat):Int)=4 from rfl]
   simp (disch:=omega) only[aB]
   omega
  rw[e1]
  exact⟨rfl,rfl⟩
set_option maxHeartbeats 4000000 in
theorem Rd {lib:az}(hl:lib.at 173=none)(hlg:lib.at 202=none)(DR:lib.at 172=none)(js:lib.at 201=none)(jQ:lib.at 170=none)(lj:lib.at 200=none)(base:Nat)(s:aq)(j:Nat)(v:Value)(p:List UInt8×Nat)(n d:Nat)(h:kx base s j v p)(hb:base<=s.next)(hp:p.2<=800000000)(mm:3<=n)(hn:n<=258)(tT:1<=d)(hd:d<=64):
  Runs Tryz.prog lib 173 [ql j,.int .i64 (n:Int),.int .i64 (d:Int)] s fun _ s' =>mZ base j v s (lU p n d) s' :=by
 have Ub:=yg mm hn
 have hds:=CG tT hd
 have LH:=wA (ch n).1
 refine Runs.enter 49 Tryz.func173 rfl hl rfl rfl ?_
 intro f iK hf
 have h0:f.get 0=ql j:=hf 0
 have h1:f.get 1= .int .i64 (n:Int):=hf 1
 have h2:f.get 2= .int .i64 (d:Int):=hf 2
 clear hf
 simp-implicitDefEqProofs(disch:=omega)only[aj,QS,↓reduceIte,iK,h1]
 refine JP (fun f' s' =>mZ base j v s (gE (iW p (ch n).1) (ch n).2.1 (ch n).2.2) s' /\f'.n=49/\f'.get 0=ql j/\f'.get 2= .int .i64 (d:Int)) ?_ ?_
 ·intro Q' Uc
  by_cases c1:n=258
  ·have d1:(n:Int)=258:=by omega
   simp-implicitDefEqProofs(disch:=omega)only[aj,ak,ad,QS,WP,↓reduceIte,iK,h0,eq_true d1]
   refine(qn DR js jQ lj base s j v p 285 h hb (by omega) (by omega)).mono ?_
   intro _ s2 Zf
   simp-implicitDefEqProofs(disch:=omega)only[aj,QS,↓reduceIte,iK]
   refine Uc _ _ ⟨?_,by simp only[ag,iK],by simp only[aa,↓reduceIte,WP,h0],by simp only[aa,↓reduceIte,WP,h2]⟩
   have e:ch n=(285,0,0):=by unfold ch;rw[if_pos c1]
   rw[e];exact Zf
  ·have d1:¬(n:Int)=258:=by omega
   simp-implicitDefEqProofs(disch:=omega)only[aj,ak,ad,QS,WP,↓reduceIte,iK,h1,eq_false d1,aB]
   rw[show(n:Int)-3=((n-3:Nat):Int) by omega]
   refine(CJ hlg s (n-3) 4 (.inr rfl) (by omega)).mono ?_
   rintro _ s2 ⟨rfl,rfl⟩
   have e:ch n=(257+(kI (n-3) 4).1,(kI (n-3) 4).2):=by unfold ch;rw[if_neg c1]
   generalize kI (n-3) 4=x at e
   obtain⟨x1,x2,x3⟩:=x
   rw[e] at Ub LH Uc
   simp only at Ub LH Uc
   simp-implicitDefEqProofs(disch:=omega)only[aj,ak,ad,QS,WP,↓reduceIte,iK,h0,O8,O9,Pa,aB]
   rw[show(257:Int)+(x1:Nat)=((257+x1:Nat):Int) by omega]
   refine(qn DR js jQ lj base s2 j v p (257+x1) h hb (by omega) (by omega)).mono ?_
   rintro _ s3 ⟨v3,h3,Es⟩
   simp-implicitDefEqProofs(disch:=omega)only[aj,ak,ad,QS,WP,↓reduceIte,iK,h0,Ua]
   refine(Az jQ lj base s3 j v3 _ (x2:Nat) (x3:Nat) h3 (Nat.le_trans hb Es.next) (by rw[pB];omega)).mono ?_
   rintro _ s4 ⟨v4,h4,to4⟩
   rw[JQ _ _ (by omega)] at h4
   simp-implicitDefEqProofs(disch:=omega)only[aj,QS,↓reduceIte,iK]
   exact Uc _ _ ⟨⟨v4,h4,Es.trans to4⟩,by simp only[ag,iK],by simp only[aa,↓reduceIte,WP,h0],by simp only[aa,↓reduceIte,WP,h2]⟩
 clear iK h0 h1 h2 f
 rintro f s1 ⟨⟨v1,h1,Et⟩,iK,h0,h2⟩
 simp-implicitDefEqProofs(disch:=omega)only[aj,ak,ad,QS,↓reduceIte,iK,h2,aB]
 rw[show(d:Int)-1=((d-1:Nat):Int) by omega]
 refine(CJ hlg s1 (d-1) 2 (.inl rfl) (by omega)).mono ?_
 rintro _ s2 ⟨rfl,rfl⟩
 have e:dS d=kI (d-1) 2:=rfl
 unfold lU
 rw[e] at hds|-
 generalize kI (d-1) 2=x at hds
 obtain⟨x1,x2,x3⟩:=x
 simp only at hds
 simp-implicitDefEqProofs(disch:=omega)only[aj,ak,ad,QS,WP,↓reduceIte,iK,h0,O8,O9,Pa]
 have hz1:(gE (iW p (ch n).1) (ch n).2.1 (ch n).2.2).2<=810000000:=by rw[sF,pB];omega
 refine(sG js jQ lj base s2 j v1 _ x1 5 h1 (Nat.le_trans hb Et.next) (by omega) (by omega)).mono ?_
 rintro _ s3 ⟨v3,h3,Es⟩
 simp-implicitDefEqProofs(disch:=omega)only[aj,ak,ad,QS,WP,↓reduceIte,iK,h0,Ua]
 refine(Az jQ lj base s3 j v3 _ (x2:Nat) (x3:Nat) h3 (Nat.le_trans hb (Nat.le_trans Et.next Es.next)) (by rw[kH];omega)).mono ?_
 rintro _ s4 ⟨v4,h4,to4⟩
 rw[JQ _ _ (by omega)] at h4
 simp-implicitDefEqProofs(disch:=omega)only[aj,ah,QS,↓reduceIte,iK,Tryz.results173]
 exact⟨v4,h4,(Et.trans Es).trans to4⟩
end Go.Proofs.YtdfjfncifneocaaGreat
