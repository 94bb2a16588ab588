/-
 Deflate by the fixed codes: the plain law.
-/
import Derived.Test.YtdfjfncifneocaaGreatStoP
import Derived.Test.YtdfjfncifneocaaGreatPrA
namespace Go.Cl.Fx
open Go.Cl.Rw Go.Cl.Sto
def pn (p:List UInt8×Nat)(n:Nat):Nat->List UInt8×Nat
 |0=>p
 |w+1=>pn (ko p ((n:Int).fdiv (2^w)) 1) n w
theorem po (n:Nat):∀(w:Nat) (p:List UInt8×Nat),(pn p n w).2=p.2+w
 |0,p=>rfl
 |w+1,p=>by
  unfold pn
  rw[po n w,ly];omega
theorem BM (n:Nat):∀(w:Nat) (p:List UInt8×Nat),Ok p->Ok (pn p n w)
 |0,p,h=>h
 |w+1,p,h=>by
  unfold pn
  exact BM n w _ (vM h 1)
def ks (s:Nat):Nat×Nat:=if s<144 then(48+s,8) else if s<256 then(256+s,9) else if s<280 then(s-256,7) else(s-88,8)
def qS (p:List UInt8×Nat)(s:Nat):List UInt8×Nat:=pn p (ks s).1 (ks s).2
theorem vQ (s:Nat):7<=(ks s).2/\(ks s).2<=9:=by
 unfold ks
 split
 ·simp
 ·split
  ·simp
  ·split<;>simp
def gb:Nat->Nat->Nat->Nat
 |0,_,_=>0
 |f+1,n,g=>if n<2*g then 0 else gb f (n/2) g+1
def kS (n g:Nat):Nat×Nat×Nat:=((gb 16 n g+1)*g+n/2^gb 16 n g-g,n%2^gb 16 n g,gb 16 n g)
def fo (n:Nat):Nat×Nat×Nat:=if n=258 then(285,0,0) else(257+(kS (n-3) 4).1,(kS (n-3) 4).2)
def mo (n:Nat):Nat×Nat×Nat:=kS (n-1) 2
def J1 (n:Nat):Nat->Nat×Nat×Nat
 |0=>(n+254,0,0)
 |k+1=>if(4+k%4)*2^((4+k)/4)+3<=n then(265+k,n-((4+k%4)*2^((4+k)/4)+3),(4+k)/4) else J1 n k
def J2 (n:Nat):Nat->Nat×Nat×Nat
 |0=>(n-1,0,0)
 |k+1=>if(2+k%2)*2^((4+k)/2-1)+1<=n then(4+k,n-((2+k%2)*2^((4+k)/2-1)+1),(4+k)/2-1) else J2 n k
def J3:Nat->Bool
 |0=>true
 |n+1=>decide (J1 (n+3) 20=fo (n+3))&&decide ((fo (n+3)).1<=284/\257<=(fo (n+3)).1/\(fo (n+3)).2.2<=5/\(fo (n+3)).2.1<2^(fo (n+3)).2.2)&&J3 n
theorem Eo:∀{m:Nat},J3 m=true->∀n,n<m->J1 (n+3) 20=fo (n+3)/\(fo (n+3)).1<=284/\257<=(fo (n+3)).1/\(fo (n+3)).2.2<=5/\(fo (n+3)).2.1<2^(fo (n+3)).2.2
 |m+1,h,n,hn=>by
  simp only[J3,Bool.and_eq_true,decide_eq_true_eq] at h
  by_cases e:n=m
  ·subst e;exact⟨h.1.1,h.1.2⟩
  ·exact Eo h.2 n (by omega)
theorem HJ {n:Nat}(h3:3<=n)(h:n<258):J1 n 20=fo n/\(fo n).1<=284/\257<=(fo n).1/\(fo n).2.2<=5/\(fo n).2.1<2^(fo n).2.2:=by
 have:=Eo (m:=255) (by decide+kernel) (n-3) (by omega)
 rw[show n-3+3=n by omega] at this
 exact this
def J4:Nat->Bool
 |0=>true
 |n+1=>decide (J2 (n+1) 26=mo (n+1))&&decide ((mo (n+1)).1<=29/\(mo (n+1)).2.2<=4/\(mo (n+1)).2.1<2^(mo (n+1)).2.2)&&J4 n
theorem Ep:∀{m:Nat},J4 m=true->∀n,n<m->J2 (n+1) 26=mo (n+1)/\(mo (n+1)).1<=29/\(mo (n+1)).2.2<=4/\(mo (n+1)).2.1<2^(mo (n+1)).2.2
 |m+1,h,n,hn=>by
  simp only[J4,Bool.and_eq_true,decide_eq_true_eq] at h
  by_cases e:n=m
  ·subst e;exact⟨h.1.1,h.1.2⟩
  ·exact Ep h.2 n (by omega)
theorem vR {n:Nat}(h1:1<=n)(h:n<=64):J2 n 26=mo n/\(mo n).1<=29/\(mo n).2.2<=4/\(mo n).2.1<2^(mo n).2.2:=by
 have:=Ep (m:=64) (by decide+kernel) (n-1) (by omega)
 rw[show n-1+1=n by omega] at this
 exact this
def comm (l:List UInt8)(a d:Nat):Nat->Nat->Nat
 |n,0=>n
 |n,f+1=>if a+n<l.length/\l.getD (a+n-d) 0=l.getD (a+n) 0 then comm l a d (n+1) f else n
def Dn (l:List UInt8)(a d:Nat):Nat:=comm l a d 0 258
theorem LN (l:List UInt8)(a d:Nat):∀f n,n<=comm l a d n f/\comm l a d n f<=n+f
 |0,n=>by simp[comm]
 |f+1,n=>by
  unfold comm
  split
  ·have:=LN l a d f (n+1);omega
  ·omega
theorem LO (l:List UInt8)(a d:Nat):∀f n,a+n<=l.length->a+comm l a d n f<=l.length
 |0,n,h=>by simpa [comm] using h
 |f+1,n,h=>by
  unfold comm
  split
  ·rename_i c;exact LO l a d f (n+1) (by omega)
  ·exact h
theorem Wj (l:List UInt8)(a d:Nat):Dn l a d<=258:=by have:=(LN l a d 258 0).2;unfold Dn;omega
theorem Wk {l:List UInt8}{a:Nat}(d:Nat)(h:a<=l.length):a+Dn l a d<=l.length:=LO l a d 258 0 h
def bZ (l:List UInt8)(a:Nat):Nat->Nat×Nat
 |0=>(0,0)
 |k+1=>if(bZ l a k).1<Dn l a (k+1) then(Dn l a (k+1),k+1) else bZ l a k
theorem zJ (l:List UInt8)(a:Nat):∀k,(bZ l a k=(0,0))\/(1<=(bZ l a k).2/\(bZ l a k).2<=k/\(bZ l a k).1=Dn l a (bZ l a k).2)
 |0=> .inl rfl
 |k+1=>by
  unfold bZ
  split
  ·exact .inr ⟨by simp,Nat.le_refl _,rfl⟩
  ·rcases zJ l a k with h|⟨h1,h2,h3⟩
   ·exact .inl h
   ·exact .inr ⟨h1,by omega,h3⟩
theorem Th (l:List UInt8)(a k:Nat):(bZ l a k).1<=258/\(bZ l a k).2<=k:=by
 rcases zJ l a k with h|⟨h1,h2,h3⟩
 ·rw[h];simp
 ·exact⟨by rw[h3];exact Wj ..,h2⟩
def kv (p:List UInt8×Nat)(x w:Nat):List UInt8×Nat:=ko p (x:Int) w
def qh (p:List UInt8×Nat)(n d:Nat):List UInt8×Nat:=kv (pn (kv (qS p (fo n).1) (fo n).2.1 (fo n).2.2) (mo d).1 5) (mo d).2.1 (mo d).2.2
def gx (a:Nat):Nat:=min a 64
def kF (l:List UInt8)(a:Nat):Nat:=if(bZ l a (gx a)).1<3 then a+1 else a+(bZ l a (gx a)).1
def nf (l:List UInt8)(a:Nat)(p:List UInt8×Nat):List UInt8×Nat:=if(bZ l a (gx a)).1<3 then qS p (l.getD a 0).toNat else qh p (bZ l a (gx a)).1 (bZ l a (gx a)).2
def fg (l:List UInt8):Nat->Nat->List UInt8×Nat->List UInt8×Nat
 |0,_,p=>p
 |f+1,a,p=>if a<l.length then fg l f (kF l a) (nf l a p) else p
def pr:List UInt8×Nat:=ko ([],0) 3 3
def Qa (l:List UInt8):List UInt8×Nat:=qS (fg l (l.length+1) 0 pr) 256
def fixed (l:List UInt8):List UInt8:=(Qa l).1
theorem sd (l:List UInt8)(a:Nat):a<kF l a:=by unfold kF;split<;>omega
theorem BN (l:List UInt8){a:Nat}(h:a<l.length):kF l a<=l.length:=by
 unfold kF
 split
 ·omega
 ·rename_i c
  rcases zJ l a (gx a) with e|⟨h1,h2,h3⟩
  ·rw[e] at c;simp at c
  ·rw[h3];exact Wk _ (by omega)
theorem BO {l:List UInt8}{a:Nat}(c:¬(bZ l a (gx a)).1<3):3<=(bZ l a (gx a)).1/\(bZ l a (gx a)).1<=258/\1<=(bZ l a (gx a)).2/\(bZ l a (gx a)).2<=64/\(bZ l a (gx a)).2<=a/\(bZ l a (gx a)).1=Dn l a (bZ l a (gx a)).2:=by
 rcases zJ l a (gx a) with e|⟨h1,h2,h3⟩
 ·rw[e] at c;simp at c
 ·have:=Th l a (gx a)
  unfold gx at*
  exact⟨by omega,by omega,h1,by omega,by omega,h3⟩
theorem xE {n:Nat}(h3:3<=n)(h:n<=258):(fo n).1<=285/\257<=(fo n).1/\(fo n).2.2<=5/\(fo n).2.1<2^(fo n).2.2:=by
 by_cases e:n=258
 ·subst e;decide
 ·have:=HJ h3 (by omega);omega
theorem lz (p:List UInt8×Nat)(s:Nat):(qS p s).2=p.2+(ks s).2:=po ..
theorem FP {p:List UInt8×Nat}(h:Ok p)(s:Nat):Ok (qS p s):=BM _ _ _ h
theorem se (p:List UInt8×Nat)(x w:Nat):(kv p x w).2=p.2+w:=ly ..
theorem J5 (p:List UInt8×Nat)(n d:Nat):(qh p n d).2=p.2+(ks (fo n).1).2+(fo n).2.2+5+(mo d).2.2:=by
 unfold qh
 rw[se,po,se,lz]
theorem Qb {s:Nat}(h:257<=s):(ks s).2<=8:=by
 unfold ks
 rw[if_neg (by omega),if_neg (by omega)]
 split<;>simp
theorem Ny (p:List UInt8×Nat){n d:Nat}(h3:3<=n)(h:n<=258)(hd:1<=d)(Gy:d<=64):(qh p n d).2<=p.2+22:=by
 have h1:=xE h3 h
 have h2:=Qb h1.2.1
 have h4:=vR hd Gy
 rw[J5];omega
theorem BP (l:List UInt8)(a:Nat)(p:List UInt8×Nat):(nf l a p).2+9*a<=p.2+9*kF l a:=by
 unfold nf kF
 split
 ·have:=vQ (l.getD a 0).toNat
  rw[lz];omega
 ·rename_i c
  have h:=BO c
  have:=Ny p h.1 h.2.1 h.2.2.1 h.2.2.2.1
  omega
theorem ng (l:List UInt8){f a:Nat}(p:List UInt8×Nat)(h:l.length<=a):fg l f a p=p:=by
 cases f with
 |zero=>rfl
 |succ f=>unfold fg;rw[if_neg (by omega)]
theorem xF (l:List UInt8){f a:Nat}(p:List UInt8×Nat)(h:a<l.length):fg l (f+1) a p=fg l f (kF l a) (nf l a p):=by rw[fg,if_pos h]
theorem xG (l:List UInt8):∀(f g a:Nat) (p:List UInt8×Nat),l.length<=a+f->l.length<=a+g->fg l f a p=fg l g a p
 |0,g,a,p,h,_=>by rw[ng l p (by omega),ng l p (by omega)]
 |f+1,0,a,p,_,h=>by rw[ng l p (by omega),ng l p (by omega)]
 |f+1,g+1,a,p,h1,h2=>by
  by_cases c:a<l.length
  ·rw[xF l p c,xF l p c]
   have:=sd l a
   exact xG l f g _ _ (by omega) (by omega)
  ·rw[ng l p (by omega),ng l p (by omega)]
def vS (l:List UInt8)(a:Nat)(p:List UInt8×Nat):List UInt8×Nat:=fg l (l.length-a) a p
theorem vT (l:List UInt8){a:Nat}(p:List UInt8×Nat)(h:l.length<=a):vS l a p=p:=ng l p h
theorem xH (l:List UInt8){a:Nat}(p:List UInt8×Nat)(h:a<l.length):vS l a p=vS l (kF l a) (nf l a p):=by
 unfold vS
 obtain⟨f,hf⟩:∃f,l.length-a=f+1:=⟨l.length-a-1,by omega⟩
 have:=sd l a
 rw[hf,xF l p h,xG l f (l.length-kF l a) _ _ (by omega) (by omega)]
theorem FQ (l:List UInt8):Qa l=qS (vS l 0 pr) 256:=by
 unfold Qa vS
 rw[xG l (l.length+1) (l.length-0) 0 _ (by omega) (by omega)]
theorem LP (l:List UInt8):∀(k a:Nat) (p:List UInt8×Nat),l.length<=a+k->a<=l.length->Ok p->Ok (vS l a p)/\(vS l a p).2+9*a<=p.2+9*l.length
 |0,a,p,h,h2,hp=>by rw[vT l p (by omega)];exact⟨hp,by omega⟩
 |k+1,a,p,h,h2,hp=>by
  by_cases c:a<l.length
  ·rw[xH l p c]
   have h3:=sd l a
   have h4:=BN l c
   have dE:Ok (nf l a p):=by
    unfold nf
    split
    ·exact FP hp _
    ·exact vM (BM _ _ _ (vM (FP hp _) _)) _
   have:=LP l k _ _ (by omega) h4 dE
   have h5:=BP l a p
   exact⟨this.1,by omega⟩
  ·rw[vT l p (by omega)];exact⟨hp,by omega⟩
theorem vU:Ok pr/\pr.2=3:=⟨vM ⟨Nat.le_refl _,by decide⟩ 3,rfl⟩
theorem Ti (l:List UInt8):Ok (Qa l)/\(Qa l).2<=10+9*l.length:=by
 rw[FQ]
 have h:=LP l l.length 0 pr (by omega) (by omega) vU.1
 have h2:=vU.2
 refine⟨FP h.1 _,?_⟩
 rw[lz]
 have:(ks 256).2=7:=rfl
 omega
theorem mu (l:List UInt8):(fixed l).length<=3+2*l.length:=by
 have:=Ti l
 unfold fixed
 have h:=this.1.2
 omega
end Go.Cl.Fx
set_option linter.unusedSimpArgs false
set_option linter.unusedVariables false
set_option maxRecDepth 100000
namespace Go.Cl.Fx
open Go.Cl.Rw Go.Cl.Sto
theorem HK (n k:Nat):(n:Int).fdiv (2^k)=((n/2^k:Nat):Int):=by
 rw[Int.fdiv_eq_ediv_of_nonneg _ (by exact Int.pow_nonneg (by omega))]
 norm_cast
theorem Za (P:Program)(t:TypeId)(k' :IntKind)(n:Nat){k:Nat}(h:k<64):du P .shr t (.int .i64 (n:Int)) (.int k' (k:Nat))=some (.int .i64 ((n/2^k:Nat):Int)):=by
 rw[xC P t k' (n:Int) h,HK]
theorem Tj {n k:Nat}(hn:n<4294967296)(hk:k<32):IntKind.i64.wrap (((BitVec.ofInt IntKind.i64.bits (n:Int)&&&BitVec.ofInt IntKind.i64.bits (((1*2^k:Nat):Int)-1)).toNat:Nat):Int)=((n%2^k:Nat):Int):=by
 have e1:IntKind.i64.bits=64:=rfl
 have hp:2^k<=2^32:=Nat.pow_le_pow_right (by omega) (by omega)
 have Tg:(2:Nat)^32=4294967296:=by decide
 have nD:1<=2^k:=Nat.pos_of_ne_zero (by simp)
 have e2:(((1*2^k:Nat):Int)-1)=((2^k-1:Nat):Int):=by omega
 rw[e1,e2]
 have:(BitVec.ofInt 64 (n:Int)&&&BitVec.ofInt 64 ((2^k-1:Nat):Int)).toNat=n%2^k:=by
  rw[BitVec.toNat_and,BitVec.ofInt_natCast,BitVec.ofInt_natCast,BitVec.toNat_ofNat,BitVec.toNat_ofNat,Nat.mod_eq_of_lt (by omega),Nat.mod_eq_of_lt (by omega),Nat.and_two_pow_sub_one_eq_mod]
 rw[this,aD (by have:=Nat.mod_lt n (show 2^k>0 by omega);omega)]
theorem LQ {f n g:Nat}(h:n<2*g):gb f n g=0:=by
 cases f with
 |zero=>rfl
 |succ f=>unfold gb;rw[if_pos h]
theorem Tk {f n g:Nat}(h:¬n<2*g):gb (f+1) n g=gb f (n/2) g+1:=by rw[gb,if_neg h]
theorem J6 {n g:Nat}(h:n<2*g):kS n g=(n,0,0):=by
 unfold kS
 rw[LQ h]
 simp[Nat.mod_one]
theorem BQ {P:Program}{lib:ay}{cA cB:Code}{f:aR}{s:aq}{Q:AX->aR->aq->Prop}{b:Bool}(J:aR->aq->Prop)(h1:∀Q' :AX->aR->aq->Prop,(∀f' s',J f' s' ->Q' .normal f' s')->S2 P lib cA cB f s Q' b)(h2:∀f' s',J f' s' ->Q .normal f' s'):S2 P lib cA cB f s Q b:=h1 Q h2
end Go.Cl.Fx
namespace Go.Proofs.YtdfjfncifneocaaGreat
open Go.Cl Go.Cl.Rw Go.Cl.Sto Go.Cl.Fx
theorem HL (p:List UInt8×Nat)(x:Int):vO p x 1=ko p x 1:=by unfold vO;rw[if_neg (by omega)];rfl
theorem vV (p:List UInt8×Nat)(x:Nat){w:Nat}(h:w<=16):vO p (x:Int) (w:Nat)=kv p x w:=by
 unfold vO kv
 by_cases c:w=0
 ·subst c;rw[if_pos (by omega)];rfl
 ·rw[if_neg (by omega),Int.toNat_natCast]
theorem LR (a b c:Value):cN (.tuple #[a,b,c]) 0=some a:=rfl
theorem LS (a b c:Value):cN (.tuple #[a,b,c]) 1=some b:=rfl
theorem LU (a b c:Value):cN (.tuple #[a,b,c]) 2=some c:=rfl
theorem Qc (i o c:Nat):az Tryz.prog 202 (.pointer (some ⟨i,o,some c⟩)) 0=some (.pointer (some ⟨i,o+0,some c⟩)):=by
 kernel_rfl
set_option maxHeartbeats 4000000 in
theorem sf {lib:ay}(hl:lib.at 201=none)(kx:lib.at 170=none)(nd:lib.at 200=none)(base:Nat)(s:aq)(j:Nat)(v:Value)(p:List UInt8×Nat)(n w:Nat)(h:fT base s j v p)(hb:base<=s.next)(hp:p.2+w<=1000000000)(hw:w<=16):
  Runs Tryz.prog lib 201 [jH j,.int .i64 (n:Int),.int .i64 (w:Int)] s fun _ s' =>jA base j v s (pn p n w) s' :=by
 refine Runs.enter 20 Tryz.func201 rfl hl rfl rfl ?_
 intro f hn hf
 have h0:f.get 0=jH j:=hf 0
 have h1:f.get 1= .int .i64 (n:Int):=hf 1
 have h2:f.get 2= .int .i64 (w:Int):=hf 2
 clear hf
 simp-implicitDefEqProofs(disch:=omega)only[ai,Nat.reduceLT,↓reduceIte,hn,h2,aD]
 refine Comes.eY (fun q f s' =>∃(k:Nat) (p1:List UInt8×Nat),q=k/\k<=w/\jA base j v s p1 s' /\p1.2+k=p.2+w/\pn p1 n k=pn p n w/\f.n=20/\f.get 0=jH j/\f.get 1= .int .i64 (n:Int)/\f.get 6= .int .i64 ((k:Int)-1))
  ⟨w,p,rfl,by omega,jA.start h,rfl,rfl,by simp only[ae,hn],by simp only[aa,↓reduceIte,Nat.reduceEqDiff,h0],by simp only[aa,↓reduceIte,Nat.reduceEqDiff,h1],by simp only[aa,↓reduceIte]⟩ ?_
 clear hn h0 h1 h2 f
 rintro k f s1 ⟨_,p1,rfl,hk,⟨v1,kH,qE⟩,cJ,Sa,hn,h0,h1,h6⟩
 by_cases zA:k=0
 ·subst zA
  have d1:¬((0:Nat):Int)-1>=0:=by omega
  simp-implicitDefEqProofs(disch:=omega)only[ai,ak,Nat.reduceLT,↓reduceIte,hn,h6,eq_false d1,Tryz.results201]
  rw[<-Sa]
  exact⟨v1,kH,qE⟩
 obtain⟨m,rfl⟩:∃m,k=m+1:=⟨k-1,by omega⟩
 have e1:((m+1:Nat):Int)-1=(m:Int):=by omega
 rw[e1] at h6
 have d1:(m:Int)>=0:=by omega
 simp-implicitDefEqProofs(disch:=omega)only[ai,Nat.reduceLT,↓reduceIte,hn,h6,eq_true d1]
 obtain⟨B,hB⟩:∃B:Nat->Bool,B=fun j=>decide (j<s1.next):=⟨_,rfl⟩
 have OM:∀j,B j=true->j<s1.next:=by
  intro j h
  rw[hB] at h
  exact of_decide_eq_true h
 refine LB.cF.dy B OM 0 0 (by kernel_rfl) (by kernel_rfl) ?_
 have vb:=ar.spare s1 0
 have YF:(spare s1 0).next=s1.next+0:=bT _ _
 simp-implicitDefEqProofs(disch:=omega)only[ai,aj,bn,bp,Nat.reduceSub,ad,Nat.reduceLT,Nat.reduceEqDiff,↓reduceIte,hn,h0,h1,h6,Qc,xC]
 refine(zH kx nd base (spare s1 0) j v1 p1 ((n:Int).fdiv (2^m)) 1 (kH.keeps vb) (by have:=qE.next;omega) (by omega)).mono ?_
 rintro _ s2 ⟨v2,iT,xD⟩
 rw[HL] at iT
 refine⟨fun h=>h.elim,?_⟩
 have acH:dK j v1 s1 v2 s2:=⟨by have:=xD.next;omega,fun i hi hj hv=>by rw[xD.get i (by omega) hj hv,vb.get i hi],by
  rcases xD.id with e|⟨i,e,hi⟩
  ·exact .inl e
  ·exact .inr ⟨i,e,by omega⟩⟩
 simp-implicitDefEqProofs(disch:=omega)only[aD]
 exact au m (by omega) ⟨m,_,rfl,by omega,⟨v2,iT,qE.trans acH⟩,by rw[ly];omega,Sa,by simp only[ae,hn],by simp only[aa,↓reduceIte,Nat.reduceEqDiff,h0],by simp only[aa,↓reduceIte,Nat.reduceEqDiff,h1],by simp only[aa,↓reduceIte]⟩
set_option maxHeartbeats 4000000 in
theorem qi {lib:ay}(hl:lib.at 172=none)(hZ:lib.at 201=none)(kx:lib.at 170=none)(nd:lib.at 200=none)(base:Nat)(s:aq)(j:Nat)(v:Value)(p:List UInt8×Nat)(n:Nat)(h:fT base s j v p)(hb:base<=s.next)(hp:p.2<=900000000)(hn:n<288):
  Runs Tryz.prog lib 172 [jH j,.int .i64 (n:Int)] s fun _ s' =>jA base j v s (qS p n) s' :=by
 obtain⟨PP,Nz⟩:∃PP,PP=qS p n:=⟨_,rfl⟩
 have ahi:=Nz
 rw[<-Nz]
 unfold qS ks at Nz
 refine Runs.enter 31 Tryz.func172 rfl hl rfl rfl ?_
 intro f fp hf
 have h0:f.get 0=jH j:=hf 0
 have h1:f.get 1= .int .i64 (n:Int):=hf 1
 clear hf
 by_cases c1:n<144
 ·have d1:(n:Int)<144:=by omega
  rw[if_pos c1] at Nz
  simp-implicitDefEqProofs(disch:=omega)only[ai,aj,ad,Nat.reduceLT,Nat.reduceEqDiff,↓reduceIte,fp,h0,h1,eq_true d1,aD]
  rw[show(48:Int)+n=((48+n:Nat):Int) by omega]
  refine(sf hZ kx nd base s j v p (48+n) 8 h hb (by omega) (by omega)).mono ?_
  intro _ s2 h2
  simp-implicitDefEqProofs(disch:=omega)only[ai,ak,Nat.reduceLT,↓reduceIte,fp,Tryz.results172]
  rw[Nz];exact h2
 have d1:¬(n:Int)<144:=by omega
 rw[if_neg c1] at Nz
 by_cases c2:n<256
 ·have d2:(n:Int)<256:=by omega
  rw[if_pos c2] at Nz
  simp-implicitDefEqProofs(disch:=omega)only[ai,aj,ad,Nat.reduceLT,Nat.reduceEqDiff,↓reduceIte,fp,h0,h1,eq_false d1,eq_true d2,aD]
  rw[show(400:Int)+n-144=((256+n:Nat):Int) by omega]
  refine(sf hZ kx nd base s j v p (256+n) 9 h hb (by omega) (by omega)).mono ?_
  intro _ s2 h2
  simp-implicitDefEqProofs(disch:=omega)only[ai,ak,Nat.reduceLT,↓reduceIte,fp,Tryz.results172]
  rw[Nz];exact h2
 have d2:¬(n:Int)<256:=by omega
 rw[if_neg c2] at Nz
 by_cases c3:n<280
 ·have d3:(n:Int)<280:=by omega
  rw[if_pos c3] at Nz
  simp-implicitDefEqProofs(disch:=omega)only[ai,aj,ad,Nat.reduceLT,Nat.reduceEqDiff,↓reduceIte,fp,h0,h1,eq_false d1,eq_false d2,eq_true d3,aD]
  rw[show(n:Int)-256=((n-256:Nat):Int) by omega]
  refine(sf hZ kx nd base s j v p (n-256) 7 h hb (by omega) (by omega)).mono ?_
  intro _ s2 h2
  simp-implicitDefEqProofs(disch:=omega)only[ai,ak,Nat.reduceLT,↓reduceIte,fp,Tryz.results172]
  rw[Nz];exact h2
 ·have d3:¬(n:Int)<280:=by omega
  rw[if_neg c3] at Nz
  simp-implicitDefEqProofs(disch:=omega)only[ai,aj,ad,Nat.reduceLT,Nat.reduceEqDiff,↓reduceIte,fp,h0,h1,eq_false d1,eq_false d2,eq_false d3,aD]
  rw[show(192:Int)+n-280=((n-88:Nat):Int) by omega]
  refine(sf hZ kx nd base s j v p (n-88) 8 h hb (by omega) (by omega)).mono ?_
  intro _ s2 h2
  simp-implicitDefEqProofs(disch:=omega)only[ai,ak,Nat.reduceLT,↓reduceIte,fp,Tryz.results172]
  rw[Nz];exact h2
def Qd (s:aq)(x:Nat×Nat×Nat)(v:Value)(s' :aq):Prop:=v= .tuple #[.int .i64 (x.1:Nat),.int .i64 (x.2.1:Nat),.int .i64 (x.2.2:Nat)]/\s' =s
set_option maxHeartbeats 4000000 in
theorem BR {lib:ay}(hl:lib.at 202=none)(s:aq)(n g:Nat)(hg:g=2\/g=4)(hn:n<32768):
  Runs Tryz.prog lib 202 [.int .i64 (n:Int),.int .i64 (g:Int)] s (Qd s (kS n g)):=by
 refine Runs.enter 37 Tryz.func202 rfl hl rfl rfl ?_
 intro f fp hf
 have h0:f.get 0= .int .i64 (n:Int):=hf 0
 have h1:f.get 1= .int .i64 (g:Int):=hf 1
 clear hf
 have hg8:2<=g/\g<=4:=by omega
 by_cases c1:n<2*g
 ·have d1:(n:Int)<2*g:=by omega
  simp-implicitDefEqProofs(disch:=omega)only[ai,al,oneOf,Nat.reduceLT,Nat.reduceEqDiff,↓reduceIte,fp,h0,h1,aD,eq_true d1,Tryz.results202]
  rw[J6 c1]
  exact⟨rfl,rfl⟩
 have d1:¬(n:Int)<2*g:=by omega
 simp-implicitDefEqProofs(disch:=omega)only[ai,Nat.reduceLT,Nat.reduceEqDiff,↓reduceIte,fp,h0,h1,aD,eq_false d1]
 refine Comes.bC (fun q f s' =>∃k:Nat,q=16-k/\k<=15/\gb 16 n g=gb (16-k) (n/2^k) g+k/\s' =s/\f.n=37/\f.get 0= .int .i64 (n:Int)/\f.get 1= .int .i64 (g:Int)/\f.get 7= .int .i64 (k:Nat))
  (fun z f s' =>z= .exit 0/\∃k:Nat,k<=15/\gb 16 n g=k/\s' =s/\f.n=37/\f.get 0= .int .i64 (n:Int)/\f.get 1= .int .i64 (g:Int)/\f.get 7= .int .i64 (k:Nat))
  ⟨0,rfl,by omega,by simp,rfl,by simp only[ae,fp],by simp only[aa,↓reduceIte,Nat.reduceEqDiff,h0],by simp only[aa,↓reduceIte,Nat.reduceEqDiff,h1],by simp only[aa,↓reduceIte];rfl⟩ ?_ ?_
 ·clear fp h0 h1 f
  rintro Q hQ q f s' ⟨k,rfl,hk,Zb,rfl,fp,h0,h1,h7⟩
  have hle:n/2^k<=n:=Nat.div_le_self _ _
  have Dp:=Za Tryz.prog 3 .i64 n (k:=k) (by omega)
  by_cases c2:n/2^k<2*g
  ·have d2:¬((n/2^k:Nat):Int)>=2*g:=by omega
   rw[LQ c2,Nat.zero_add] at Zb
   simp-implicitDefEqProofs(disch:=omega)only[ai,Nat.reduceLT,Nat.reduceEqDiff,↓reduceIte,fp,h0,h1,h7,Dp,aD,eq_false d2]
   exact hQ _ _ _ ⟨rfl,k,hk,Zb,rfl,by simp only[ae,fp],by simp only[aa,↓reduceIte,Nat.reduceEqDiff,h0],by simp only[aa,↓reduceIte,Nat.reduceEqDiff,h1],by simp only[aa,↓reduceIte,Nat.reduceEqDiff,h7]⟩
  ·have d2:((n/2^k:Nat):Int)>=2*g:=by omega
   have ahj:k<15:=by
    refine Nat.lt_of_not_le (fun h=>c2 ?_)
    have:2^15<=2^k:=Nat.pow_le_pow_right (by omega) h
    have h2:n/2^k=0:=Nat.div_eq_of_lt (Nat.lt_of_lt_of_le hn this)
    omega
   have hs:gb (16-k) (n/2^k) g=gb (16-(k+1)) (n/2^(k+1)) g+1:=by
    rw[show 16-k=(16-(k+1))+1 by omega,Tk c2,Nat.pow_succ,Nat.div_div_eq_div_mul]
   simp-implicitDefEqProofs(disch:=omega)only[ai,Nat.reduceLT,Nat.reduceEqDiff,↓reduceIte,fp,h0,h1,h7,Dp,aD,eq_true d2]
   exact au (16-(k+1)) (by omega) ⟨k+1,rfl,by omega,by rw[Zb,hs];omega,rfl,by simp only[ae,fp],by simp only[aa,↓reduceIte,Nat.reduceEqDiff,h0],by simp only[aa,↓reduceIte,Nat.reduceEqDiff,h1],by simp only[aa,↓reduceIte];rfl⟩
 clear fp h0 h1 f
 rintro z f s' ⟨rfl,k,hk,Zb,rfl,fp,h0,h1,h7⟩
 have hle:n/2^k<=n:=Nat.div_le_self _ _
 have Dp:=Za Tryz.prog 3 .i64 n (k:=k) (by omega)
 have uT:=acG Tryz.prog 3 .i64 (b:=1) (by omega) (k:=k) (by omega)
 have hand:=Tj (n:=n) (k:=k) (by omega) (by omega)
 have hp:2^k<=32768:=by
  have:2^k<=2^15:=Nat.pow_le_pow_right (by omega) hk
  exact this
 have e:kS n g=((k+1)*g+n/2^k-g,n%2^k,k):=by unfold kS;rw[Zb]
 rw[e]
 have uT:du Tryz.prog .shl 3 (.int .i64 1) (.int .i64 (k:Nat))=some (.int .i64 ((1*2^k:Nat):Int)):=uT
 rcases hg with rfl|rfl
 ·simp-implicitDefEqProofs(disch:=omega)only[ai,al,oneOf,Nat.reduceLT,Nat.reduceEqDiff,↓reduceIte,fp,h0,h1,h7,Dp,uT,ia,hand,aD,Tryz.results202]
  have e1:IntKind.i64.wrap (IntKind.i64.wrap (((k:Int)+1)*((2:Nat):Int)+((n/2^k:Nat):Int))-((2:Nat):Int))=(((k+1)*2+n/2^k-2:Nat):Int):=by
   generalize n/2^k=q at hle
   rw[show((2:Nat):Int)=2 from rfl]
   simp (disch:=omega) only[aD]
   omega
  rw[e1]
  exact⟨rfl,rfl⟩
 ·simp-implicitDefEqProofs(disch:=omega)only[ai,al,oneOf,Nat.reduceLT,Nat.reduceEqDiff,↓reduceIte,fp,h0,h1,h7,Dp,uT,ia,hand,aD,Tryz.results202]
  have e1:IntKind.i64.wrap (IntKind.i64.wrap (((k:Int)+1)*((4:Nat):Int)+((n/2^k:Nat):Int))-((4:Nat):Int))=(((k+1)*4+n/2^k-4:Nat):Int):=by
   generalize n/2^k=q at hle
   rw[show((4:Nat):Int)=4 from rfl]
   simp (disch:=omega) only[aD]
   omega
  rw[e1]
  exact⟨rfl,rfl⟩
set_option maxHeartbeats 4000000 in
theorem NA {lib:ay}(hl:lib.at 173=none)(ON:lib.at 202=none)(I5:lib.at 172=none)(hZ:lib.at 201=none)(kx:lib.at 170=none)(nd:lib.at 200=none)(base:Nat)(s:aq)(j:Nat)(v:Value)(p:List UInt8×Nat)(n d:Nat)(h:fT base s j v p)(hb:base<=s.next)(hp:p.2<=800000000)(td:3<=n)(hn:n<=258)(Fj:1<=d)(hd:d<=64):
  Runs Tryz.prog lib 173 [jH j,.int .i64 (n:Int),.int .i64 (d:Int)] s fun _ s' =>jA base j v s (qh p n d) s' :=by
 have Wl:=xE td hn
 have hds:=vR Fj hd
 have Lh:=vQ (fo n).1
 refine Runs.enter 49 Tryz.func173 rfl hl rfl rfl ?_
 intro f fp hf
 have h0:f.get 0=jH j:=hf 0
 have h1:f.get 1= .int .i64 (n:Int):=hf 1
 have h2:f.get 2= .int .i64 (d:Int):=hf 2
 clear hf
 simp-implicitDefEqProofs(disch:=omega)only[ai,Nat.reduceLT,↓reduceIte,fp,h1]
 refine BQ (fun f' s' =>jA base j v s (kv (qS p (fo n).1) (fo n).2.1 (fo n).2.2) s' /\f'.n=49/\f'.get 0=jH j/\f'.get 2= .int .i64 (d:Int)) ?_ ?_
 ·intro Q' NB
  by_cases c1:n=258
  ·have d1:(n:Int)=258:=by omega
   simp-implicitDefEqProofs(disch:=omega)only[ai,aj,ad,Nat.reduceLT,Nat.reduceEqDiff,↓reduceIte,fp,h0,eq_true d1]
   refine(qi I5 hZ kx nd base s j v p 285 h hb (by omega) (by omega)).mono ?_
   intro _ s2 Uv
   simp-implicitDefEqProofs(disch:=omega)only[ai,Nat.reduceLT,↓reduceIte,fp]
   refine NB _ _ ⟨?_,by simp only[ae,fp],by simp only[aa,↓reduceIte,Nat.reduceEqDiff,h0],by simp only[aa,↓reduceIte,Nat.reduceEqDiff,h2]⟩
   have e:fo n=(285,0,0):=by unfold fo;rw[if_pos c1]
   rw[e];exact Uv
  ·have d1:¬(n:Int)=258:=by omega
   simp-implicitDefEqProofs(disch:=omega)only[ai,aj,ad,Nat.reduceLT,Nat.reduceEqDiff,↓reduceIte,fp,h1,eq_false d1,aD]
   rw[show(n:Int)-3=((n-3:Nat):Int) by omega]
   refine(BR ON s (n-3) 4 (.inr rfl) (by omega)).mono ?_
   rintro _ s2 ⟨rfl,rfl⟩
   have e:fo n=(257+(kS (n-3) 4).1,(kS (n-3) 4).2):=by unfold fo;rw[if_neg c1]
   generalize kS (n-3) 4=x at e
   obtain⟨x1,x2,x3⟩:=x
   rw[e] at Wl Lh NB
   simp only at Wl Lh NB
   simp-implicitDefEqProofs(disch:=omega)only[ai,aj,ad,Nat.reduceLT,Nat.reduceEqDiff,↓reduceIte,fp,h0,LR,LS,LU,aD]
   rw[show(257:Int)+(x1:Nat)=((257+x1:Nat):Int) by omega]
   refine(qi I5 hZ kx nd base s2 j v p (257+x1) h hb (by omega) (by omega)).mono ?_
   rintro _ s3 ⟨v3,h3,Sb⟩
   simp-implicitDefEqProofs(disch:=omega)only[ai,aj,ad,Nat.reduceLT,Nat.reduceEqDiff,↓reduceIte,fp,h0,Qc]
   refine(zH kx nd base s3 j v3 _ (x2:Nat) (x3:Nat) h3 (Nat.le_trans hb Sb.next) (by rw[lz];omega)).mono ?_
   rintro _ s4 ⟨v4,h4,UZ⟩
   rw[vV _ _ (by omega)] at h4
   simp-implicitDefEqProofs(disch:=omega)only[ai,Nat.reduceLT,↓reduceIte,fp]
   exact NB _ _ ⟨⟨v4,h4,Sb.trans UZ⟩,by simp only[ae,fp],by simp only[aa,↓reduceIte,Nat.reduceEqDiff,h0],by simp only[aa,↓reduceIte,Nat.reduceEqDiff,h2]⟩
 clear fp h0 h1 h2 f
 rintro f s1 ⟨⟨v1,h1,to1⟩,fp,h0,h2⟩
 simp-implicitDefEqProofs(disch:=omega)only[ai,aj,ad,Nat.reduceLT,↓reduceIte,fp,h2,aD]
 rw[show(d:Int)-1=((d-1:Nat):Int) by omega]
 refine(BR ON s1 (d-1) 2 (.inl rfl) (by omega)).mono ?_
 rintro _ s2 ⟨rfl,rfl⟩
 have e:mo d=kS (d-1) 2:=rfl
 unfold qh
 rw[e] at hds|-
 generalize kS (d-1) 2=x at hds
 obtain⟨x1,x2,x3⟩:=x
 simp only at hds
 simp-implicitDefEqProofs(disch:=omega)only[ai,aj,ad,Nat.reduceLT,Nat.reduceEqDiff,↓reduceIte,fp,h0,LR,LS,LU]
 have Dq:(kv (qS p (fo n).1) (fo n).2.1 (fo n).2.2).2<=810000000:=by rw[se,lz];omega
 refine(sf hZ kx nd base s2 j v1 _ x1 5 h1 (Nat.le_trans hb to1.next) (by omega) (by omega)).mono ?_
 rintro _ s3 ⟨v3,h3,Sb⟩
 simp-implicitDefEqProofs(disch:=omega)only[ai,aj,ad,Nat.reduceLT,Nat.reduceEqDiff,↓reduceIte,fp,h0,Qc]
 refine(zH kx nd base s3 j v3 _ (x2:Nat) (x3:Nat) h3 (Nat.le_trans hb (Nat.le_trans to1.next Sb.next)) (by rw[po];omega)).mono ?_
 rintro _ s4 ⟨v4,h4,UZ⟩
 rw[vV _ _ (by omega)] at h4
 simp-implicitDefEqProofs(disch:=omega)only[ai,ak,Nat.reduceLT,↓reduceIte,fp,Tryz.results173]
 exact⟨v4,h4,(to1.trans Sb).trans UZ⟩
end Go.Proofs.YtdfjfncifneocaaGreat
set_option linter.unusedSimpArgs false
set_option linter.unusedVariables false
set_option maxRecDepth 100000
namespace Go.Cl.Fx
open Go.Cl.Rw Go.Cl.Sto
theorem te {l:List UInt8}{a d n f:Nat}(h:¬(a+n<l.length/\l.getD (a+n-d) 0=l.getD (a+n) 0)):comm l a d n f=n:=by
 cases f with
 |zero=>rfl
 |succ f=>unfold comm;rw[if_neg h]
theorem LV {l:List UInt8}{a d n f:Nat}(h:a+n<l.length/\l.getD (a+n-d) 0=l.getD (a+n) 0):comm l a d n (f+1)=comm l a d (n+1) f:=by rw[comm,if_pos h]
end Go.Cl.Fx
namespace Go.Proofs.YtdfjfncifneocaaGreat
open Go.Cl Go.Cl.Rw Go.Cl.Sto Go.Cl.Fx
set_option maxHeartbeats 4000000 in
theorem NC {lib:ay}(hl:lib.at 171=none)(s:aq)(x:Value)(l:List UInt8)(hx:aM s 1 x l.length (ofBytes l))(hlen:l.length<=1000000000)(a d:Nat)(Fj:1<=d)(DS:d<=a)(wY:a<=l.length):
  Runs Tryz.prog lib 171 [x,.int .i64 (a:Int),.int .i64 ((a-d:Nat):Int)] s fun v s' =>v= .int .i64 (Dn l a d:Nat)/\s' =s:=by
 refine Runs.enter 36 Tryz.func171 rfl hl rfl rfl ?_
 intro f hn hf
 have h0:f.get 0=x:=hf 0
 have h1:f.get 1= .int .i64 (a:Int):=hf 1
 have h2:f.get 2= .int .i64 ((a-d:Nat):Int):=hf 2
 clear hf
 simp-implicitDefEqProofs(disch:=omega)only[ai,Nat.reduceLT,↓reduceIte,hn]
 refine Comes.bC (fun q f s' =>∃k:Nat,q=258-k/\k<=258/\a+k<=l.length/\Dn l a d=comm l a d k (258-k)/\s' =s/\f.n=36/\f.get 0=x/\f.get 1= .int .i64 (a:Int)/\f.get 2= .int .i64 ((a-d:Nat):Int)/\f.get 7= .int .i64 (k:Nat))
  (fun z f s' =>z= .exit 0/\s' =s/\f.n=36/\f.get 7= .int .i64 (Dn l a d:Nat))
  ⟨0,rfl,by omega,wY,rfl,rfl,by simp only[ae,hn],by simp only[aa,↓reduceIte,Nat.reduceEqDiff,h0],by simp only[aa,↓reduceIte,Nat.reduceEqDiff,h1],by simp only[aa,↓reduceIte,Nat.reduceEqDiff,h2],by simp only[aa,↓reduceIte];rfl⟩ ?_ ?_
 ·clear hn h0 h1 h2 f
  rintro Q hQ q f s' ⟨k,rfl,hk,hak,hc,rfl,hn,h0,h1,h2,h7⟩
  have e2:(a:Int)+(k:Int)=((a+k:Nat):Int):=by omega
  have e1:((a-d:Nat):Int)+(k:Int)=((a+k-d:Nat):Int):=by omega
  by_cases c1:k<258
  rotate_left
  ·obtain rfl:k=258:=by omega
   have d1:¬((258:Nat):Int)<258:=by omega
   simp-implicitDefEqProofs(disch:=omega)only[ai,aj,Nat.reduceLT,Nat.reduceEqDiff,↓reduceIte,undef,hn,h7,eq_false d1]
   exact hQ _ _ _ ⟨rfl,rfl,by simp only[ae,hn],by simp only[aa,↓reduceIte,Nat.reduceEqDiff,h7];rw[hc];rfl⟩
  have d1:(k:Int)<258:=by omega
  by_cases c2:a+k<l.length
  rotate_left
  ·have d2:¬((a+k:Nat):Int)<(l.length:Int):=by omega
   have tL:=te (l:=l) (a:=a) (d:=d) (n:=k) (f:=258-k) (fun h=>c2 h.1)
   simp-implicitDefEqProofs(disch:=omega)only[ai,aj,ad,Nat.reduceLT,Nat.reduceEqDiff,↓reduceIte,undef,hn,h0,h1,h7,eq_true d1,e2,aD,hx.aV Tryz.underlying22,hx.self,eq_false d2]
   exact hQ _ _ _ ⟨rfl,rfl,by simp only[ae,hn],by simp only[aa,↓reduceIte,Nat.reduceEqDiff,h7];rw[hc,tL]⟩
  have d2:((a+k:Nat):Int)<(l.length:Int):=by omega
  have aP:a+k-d<l.length:=by omega
  have xI:=hx.indexAddr (P:=Tryz.prog) (k:= .i64) (x:=((a+k:Nat):Int)) Tryz.underlying22 bh (by omega) (by omega)
  have EX:=hx.indexAddr (P:=Tryz.prog) (k:= .i64) (x:=((a+k-d:Nat):Int)) Tryz.underlying22 bh (by omega) (by omega)
  rw[Int.toNat_natCast] at xI EX
  have k1:=hx.cU (P:=Tryz.prog) gZ c2
  have k2:=hx.cU (P:=Tryz.prog) gZ aP
  rw[aZ c2] at k1
  rw[aZ aP] at k2
  by_cases c3:l.getD (a+k-d) 0=l.getD (a+k) 0
  ·have tL:=LV (l:=l) (a:=a) (d:=d) (n:=k) (f:=258-(k+1)) ⟨c2,c3⟩
   rw[show 258-(k+1)+1=258-k by omega] at tL
   rw[c3] at k2
   simp-implicitDefEqProofs(disch:=omega)only[ai,aj,ad,Nat.reduceLT,Nat.reduceEqDiff,↓reduceIte,hn,h0,h1,h2,h7,eq_true d1,e2,e1,aD,hx.aV Tryz.underlying22,hx.self,eq_true d2,xI,EX,k1,k2]
   exact au (258-(k+1)) (by omega) ⟨k+1,rfl,by omega,by omega,by rw[hc,tL],rfl,by simp only[ae,hn],by simp only[aa,↓reduceIte,Nat.reduceEqDiff,h0],by simp only[aa,↓reduceIte,Nat.reduceEqDiff,h1],by simp only[aa,↓reduceIte,Nat.reduceEqDiff,h2],by simp only[aa,↓reduceIte];rfl⟩
  ·have d3:¬((l.getD (a+k-d) 0).toNat:Int)=((l.getD (a+k) 0).toNat:Int):=fun e=>c3 (UInt8.toNat_inj.1 (by omega))
   have d4:¬((l.getD (a+k) 0).toNat:Int)=((l.getD (a+k-d) 0).toNat:Int):=fun e=>d3 e.symm
   have tL:=te (l:=l) (a:=a) (d:=d) (n:=k) (f:=258-k) (fun h=>c3 h.2)
   simp-implicitDefEqProofs(disch:=omega)only[ai,aj,ad,Nat.reduceLT,Nat.reduceEqDiff,↓reduceIte,hn,h0,h1,h2,h7,eq_true d1,e2,e1,aD,hx.aV Tryz.underlying22,hx.self,eq_true d2,xI,EX,k1,k2,eq_false d3]
   exact hQ _ _ _ ⟨rfl,rfl,by simp only[ae,hn],by simp only[aa,↓reduceIte,Nat.reduceEqDiff,h7];rw[hc,tL]⟩
 clear hn h0 h1 h2 f
 rintro z f s' ⟨rfl,rfl,hn,h7⟩
 simp-implicitDefEqProofs(disch:=omega)only[ai,al,oneOf,Nat.reduceLT,↓reduceIte,hn,h7,Tryz.results171]
 try exact⟨rfl,rfl⟩
set_option maxHeartbeats 4000000 in
theorem ND {lib:ay}(hl:lib.at 181=none)(s:aq)(x:Value)(l:List UInt8)(hx:aM s 1 x l.length (ofBytes l))(hlen:l.length<=1000000000)(a d:Nat)(Fj:1<=d)(DS:d<=a)(wY:a<=l.length):
  Runs Tryz.prog lib 181 [x,.int .i64 (a:Int),.int .i64 (d:Int)] s fun v s' =>v= .int .i64 (Dn l a d:Nat)/\s' =s:=by
 refine Runs.enter 38 Tryz.func181 rfl hl rfl rfl ?_
 intro f hn hf
 have h0:f.get 0=x:=hf 0
 have h1:f.get 1= .int .i64 (a:Int):=hf 1
 have h2:f.get 2= .int .i64 (d:Int):=hf 2
 clear hf
 simp-implicitDefEqProofs(disch:=omega)only[ai,Nat.reduceLT,↓reduceIte,hn]
 refine Comes.bC (fun q f s' =>∃k:Nat,q=258-k/\k<=258/\a+k<=l.length/\Dn l a d=comm l a d k (258-k)/\s' =s/\f.n=38/\f.get 0=x/\f.get 1= .int .i64 (a:Int)/\f.get 2= .int .i64 (d:Int)/\f.get 7= .int .i64 (k:Nat))
  (fun z f s' =>z= .exit 0/\s' =s/\f.n=38/\f.get 7= .int .i64 (Dn l a d:Nat))
  ⟨0,rfl,by omega,wY,rfl,rfl,by simp only[ae,hn],by simp only[aa,↓reduceIte,Nat.reduceEqDiff,h0],by simp only[aa,↓reduceIte,Nat.reduceEqDiff,h1],by simp only[aa,↓reduceIte,Nat.reduceEqDiff,h2],by simp only[aa,↓reduceIte];rfl⟩ ?_ ?_
 ·clear hn h0 h1 h2 f
  rintro Q hQ q f s' ⟨k,rfl,hk,hak,hc,rfl,hn,h0,h1,h2,h7⟩
  have e2:(a:Int)+(k:Int)=((a+k:Nat):Int):=by omega
  have e1:((a+k:Nat):Int)-(d:Int)=((a+k-d:Nat):Int):=by omega
  by_cases c1:k<258
  rotate_left
  ·obtain rfl:k=258:=by omega
   have d1:¬((258:Nat):Int)<258:=by omega
   simp-implicitDefEqProofs(disch:=omega)only[ai,aj,Nat.reduceLT,Nat.reduceEqDiff,↓reduceIte,undef,hn,h7,eq_false d1]
   exact hQ _ _ _ ⟨rfl,rfl,by simp only[ae,hn],by simp only[aa,↓reduceIte,Nat.reduceEqDiff,h7];rw[hc];rfl⟩
  have d1:(k:Int)<258:=by omega
  by_cases c2:a+k<l.length
  rotate_left
  ·have d2:¬((a+k:Nat):Int)<(l.length:Int):=by omega
   have tL:=te (l:=l) (a:=a) (d:=d) (n:=k) (f:=258-k) (fun h=>c2 h.1)
   simp-implicitDefEqProofs(disch:=omega)only[ai,aj,ad,Nat.reduceLT,Nat.reduceEqDiff,↓reduceIte,undef,hn,h0,h1,h7,eq_true d1,e2,aD,hx.aV Tryz.underlying22,hx.self,eq_false d2]
   exact hQ _ _ _ ⟨rfl,rfl,by simp only[ae,hn],by simp only[aa,↓reduceIte,Nat.reduceEqDiff,h7];rw[hc,tL]⟩
  have d2:((a+k:Nat):Int)<(l.length:Int):=by omega
  have aP:a+k-d<l.length:=by omega
  have xI:=hx.indexAddr (P:=Tryz.prog) (k:= .i64) (x:=((a+k:Nat):Int)) Tryz.underlying22 bh (by omega) (by omega)
  have EX:=hx.indexAddr (P:=Tryz.prog) (k:= .i64) (x:=((a+k-d:Nat):Int)) Tryz.underlying22 bh (by omega) (by omega)
  rw[Int.toNat_natCast] at xI EX
  have k1:=hx.cU (P:=Tryz.prog) gZ c2
  have k2:=hx.cU (P:=Tryz.prog) gZ aP
  rw[aZ c2] at k1
  rw[aZ aP] at k2
  by_cases c3:l.getD (a+k-d) 0=l.getD (a+k) 0
  ·have tL:=LV (l:=l) (a:=a) (d:=d) (n:=k) (f:=258-(k+1)) ⟨c2,c3⟩
   rw[show 258-(k+1)+1=258-k by omega] at tL
   rw[c3] at k2
   simp-implicitDefEqProofs(disch:=omega)only[ai,aj,ad,Nat.reduceLT,Nat.reduceEqDiff,↓reduceIte,hn,h0,h1,h2,h7,eq_true d1,e2,e1,aD,hx.aV Tryz.underlying22,hx.self,eq_true d2,xI,EX,k1,k2]
   exact au (258-(k+1)) (by omega) ⟨k+1,rfl,by omega,by omega,by rw[hc,tL],rfl,by simp only[ae,hn],by simp only[aa,↓reduceIte,Nat.reduceEqDiff,h0],by simp only[aa,↓reduceIte,Nat.reduceEqDiff,h1],by simp only[aa,↓reduceIte,Nat.reduceEqDiff,h2],by simp only[aa,↓reduceIte];rfl⟩
  ·have d3:¬((l.getD (a+k-d) 0).toNat:Int)=((l.getD (a+k) 0).toNat:Int):=fun e=>c3 (UInt8.toNat_inj.1 (by omega))
   have d4:¬((l.getD (a+k) 0).toNat:Int)=((l.getD (a+k-d) 0).toNat:Int):=fun e=>d3 e.symm
   have tL:=te (l:=l) (a:=a) (d:=d) (n:=k) (f:=258-k) (fun h=>c3 h.2)
   simp-implicitDefEqProofs(disch:=omega)only[ai,aj,ad,Nat.reduceLT,Nat.reduceEqDiff,↓reduceIte,hn,h0,h1,h2,h7,eq_true d1,e2,e1,aD,hx.aV Tryz.underlying22,hx.self,eq_true d2,xI,EX,k1,k2,eq_false d4]
   exact hQ _ _ _ ⟨rfl,rfl,by simp only[ae,hn],by simp only[aa,↓reduceIte,Nat.reduceEqDiff,h7];rw[hc,tL]⟩
 clear hn h0 h1 h2 f
 rintro z f s' ⟨rfl,rfl,hn,h7⟩
 simp-implicitDefEqProofs(disch:=omega)only[ai,al,oneOf,Nat.reduceLT,↓reduceIte,hn,h7,Tryz.results181]
 try exact⟨rfl,rfl⟩
def Qe (s:aq)(l:List UInt8)(v:Value)(s' :aq):Prop:=Own s' 1 v (fixed l).length (ofBytes (fixed l))/\aN s.next v/\ar s.next s s'
theorem acJ:dM Tryz.prog 202 []=some (.agg #[.slice none 0 0,.int .i64 0]):=by kernel_rfl
set_option maxHeartbeats 4000000 in
theorem NF {lib:ay}(hl:lib.at 133=none)(tz:lib.at 171=none)(HM:lib.at 173=none)(ON:lib.at 202=none)(I5:lib.at 172=none)(hZ:lib.at 201=none)(kx:lib.at 170=none)(nd:lib.at 200=none)(SV:lib.at 138=none)(Dr:lib.at 36=none)
  (s:aq) (x:Value) (l:List UInt8) (hx:aM s 1 x l.length (ofBytes l)) (hlen:l.length<=10000000):
  Runs Tryz.prog lib 133 [x] s (Qe s l):=by
 refine Runs.enter 60 Tryz.func133 rfl hl rfl rfl ?_
 intro f hn hf
 have h0:f.get 0=x:=hf 0
 clear hf
 simp-implicitDefEqProofs(disch:=omega)only[ai,ag,Nat.reduceLT,↓reduceIte,hn,acJ]
 refine aw ?_
 intro s1 fa bB jb
 have fa:av s1 s.next [.slice none 0 0,.int .i64 0]:=fa
 have kH:fT s.next s1 s.next (.slice none 0 0) ([],0):=⟨fa,.nil,aN.nil _,(fun e=>by cases e),Nat.le_refl _,⟨Nat.le_refl _,by decide⟩⟩
 simp-implicitDefEqProofs(disch:=omega)only[ai,aj,ad,Nat.reduceLT,Nat.reduceAdd,↓reduceIte,hn,Qc,List.length_cons,List.length_nil]
 refine(zH kx nd s.next s1 s.next (.slice none 0 0) ([],0) 3 3 kH bB.next (by decide)).mono ?_
 rintro _ s2 ⟨v2,iT,to2⟩
 have iT:fT s.next s2 s.next v2 pr:=iT
 have df:ar s.next s s2:=bB.trans (to2.stay (Nat.le_refl _) (aN.nil _) bB.next)
 obtain⟨j,hj⟩:∃j,j=s.next:=⟨_,rfl⟩
 have hF:=vU.2
 simp-implicitDefEqProofs(disch:=omega)only[ai,Nat.reduceLT,↓reduceIte,hn]
 refine Comes.bC (fun z f t=>∃(a:Nat) (p:List UInt8×Nat) (v:Value),z=l.length-a/\a<=l.length/\fT s.next t s.next v p/\p.2<=3+9*a/\vS l a p=vS l 0 pr/\ar s.next s t/\f.n=60/\f.get 0=x/\f.get 3=jH s.next/\f.get 4= .int .i64 (a:Nat))
  (fun z f t=>z= .exit 0/\∃(p:List UInt8×Nat) (v:Value),fT s.next t s.next v p/\p.2<=3+9*l.length/\p=vS l 0 pr/\ar s.next s t/\f.n=60/\f.get 3=jH s.next)
  ⟨0,pr,v2,rfl,by omega,iT,by omega,rfl,df,by simp only[ae,hn],by simp only[aa,↓reduceIte,Nat.reduceEqDiff,h0],by simp only[aa,↓reduceIte,Nat.reduceEqDiff],by simp only[aa,↓reduceIte];rfl⟩ ?_ ?_
 ·clear hn h0 f
  rintro Q hQ z f t ⟨a,p,v,rfl,ha,hr,hp,xJ,aA,hn,h0,h3,h4⟩
  have lH:=hx.keeps aA
  by_cases aP:a<l.length
  rotate_left
  ·obtain rfl:a=l.length:=by omega
   have d1:¬((l.length:Nat):Int)<((l.length:Nat):Int):=by omega
   rw[vT l p (Nat.le_refl _)] at xJ
   simp-implicitDefEqProofs(disch:=omega)only[ai,ad,Nat.reduceLT,Nat.reduceEqDiff,↓reduceIte,hn,h0,h4,lH.aV Tryz.underlying22,eq_false d1]
   exact hQ _ _ _ ⟨rfl,p,v,hr,hp,xJ,aA,by simp only[ae,hn],by simp only[aa,↓reduceIte,Nat.reduceEqDiff,h3]⟩
  have d1:(a:Int)<(l.length:Int):=by omega
  rw[xH l p aP] at xJ
  simp-implicitDefEqProofs(disch:=omega)only[ai,ad,Nat.reduceLT,Nat.reduceEqDiff,↓reduceIte,hn,h0,h4,lH.aV Tryz.underlying22,eq_true d1]
  refine Comes.bC (fun z f t' =>∃k:Nat,z=gx a-k/\k<=gx a/\t' =t/\f.n=60/\f.get 0=x/\f.get 3=jH s.next/\f.get 4= .int .i64 (a:Nat)/\f.get 5= .int .i64 ((bZ l a k).1:Nat)/\f.get 6= .int .i64 ((bZ l a k).2:Nat)/\f.get 7= .int .i64 ((k:Int)+1))
   (fun z f t' =>z= .exit 2/\t' =t/\f.n=60/\f.get 0=x/\f.get 3=jH s.next/\f.get 4= .int .i64 (a:Nat)/\f.get 5= .int .i64 ((bZ l a (gx a)).1:Nat)/\f.get 6= .int .i64 ((bZ l a (gx a)).2:Nat))
   ⟨0,rfl,by omega,rfl,by simp only[ae,hn],by simp only[aa,↓reduceIte,Nat.reduceEqDiff,h0],by simp only[aa,↓reduceIte,Nat.reduceEqDiff,h3],by simp only[aa,↓reduceIte,Nat.reduceEqDiff,h4],by simp only[aa,↓reduceIte,Nat.reduceEqDiff];rfl,by simp only[aa,↓reduceIte,Nat.reduceEqDiff];rfl,by simp only[aa,↓reduceIte];rfl⟩ ?_ ?_
  ·clear hn h0 h3 h4 f
   rintro Q2 Qf z f t' ⟨k,rfl,hk,rfl,hn,h0,h3,h4,h5,h6,h7⟩
   have Zc:(if(64:Int)<(a:Int) then(64:Int) else(a:Int))=((gx a:Nat):Int):=by unfold gx;split<;>omega
   by_cases XZ:k<gx a
   rotate_left
   ·obtain rfl:k=gx a:=by omega
    have d2:¬((gx a:Nat):Int)+1<=((gx a:Nat):Int):=by omega
    simp-implicitDefEqProofs(disch:=omega)only[ai,ad,Nat.reduceLT,Nat.reduceEqDiff,↓reduceIte,hn,h4,h7,Zc,eq_false d2]
    exact Qf _ _ _ ⟨rfl,rfl,by simp only[ae,hn],by simp only[aa,↓reduceIte,Nat.reduceEqDiff,h0],by simp only[aa,↓reduceIte,Nat.reduceEqDiff,h3],by simp only[aa,↓reduceIte,Nat.reduceEqDiff,h4],by simp only[aa,↓reduceIte,Nat.reduceEqDiff,h5],by simp only[aa,↓reduceIte,Nat.reduceEqDiff,h6]⟩
   have hka:k+1<=a:=by unfold gx at XZ;omega
   have d2:(k:Int)+1<=((gx a:Nat):Int):=by omega
   simp-implicitDefEqProofs(disch:=omega)only[ai,aj,ad,Nat.reduceLT,Nat.reduceEqDiff,↓reduceIte,hn,h0,h4,h7,Zc,eq_true d2,aD]
   rw[show(a:Int)-((k:Int)+1)=((a-(k+1):Nat):Int) by omega]
   refine(NC tz t' x l lH (by omega) a (k+1) (by omega) hka ha).mono ?_
   rintro _ t2 ⟨rfl,rfl⟩
   by_cases c:(bZ l a k).1<Dn l a (k+1)
   ·have d3:((Dn l a (k+1):Nat):Int)>((bZ l a k).1:Nat):=by omega
    have hb:bZ l a (k+1)=(Dn l a (k+1),k+1):=by rw[bZ,if_pos c]
    simp-implicitDefEqProofs(disch:=omega)only[ai,Nat.reduceLT,Nat.reduceEqDiff,↓reduceIte,hn,h5,h7,eq_true d3,aD]
    exact au (gx a-(k+1)) (by omega) ⟨k+1,rfl,by omega,rfl,by simp only[ae,hn],by simp only[aa,↓reduceIte,Nat.reduceEqDiff,h0],by simp only[aa,↓reduceIte,Nat.reduceEqDiff,h3],by simp only[aa,↓reduceIte,Nat.reduceEqDiff,h4],by simp only[aa,↓reduceIte,Nat.reduceEqDiff];rw[hb],by simp only[aa,↓reduceIte,Nat.reduceEqDiff];rw[hb];rfl,by simp only[aa,↓reduceIte];rfl⟩
   ·have d3:¬((Dn l a (k+1):Nat):Int)>((bZ l a k).1:Nat):=by omega
    have hb:bZ l a (k+1)=bZ l a k:=by rw[bZ,if_neg c]
    simp-implicitDefEqProofs(disch:=omega)only[ai,Nat.reduceLT,Nat.reduceEqDiff,↓reduceIte,hn,h5,h7,eq_false d3,aD]
    exact au (gx a-(k+1)) (by omega) ⟨k+1,rfl,by omega,rfl,by simp only[ae,hn],by simp only[aa,↓reduceIte,Nat.reduceEqDiff,h0],by simp only[aa,↓reduceIte,Nat.reduceEqDiff,h3],by simp only[aa,↓reduceIte,Nat.reduceEqDiff,h4],by simp only[aa,↓reduceIte,Nat.reduceEqDiff,h5];rw[hb],by simp only[aa,↓reduceIte,Nat.reduceEqDiff,h6];rw[hb],by simp only[aa,↓reduceIte];rfl⟩
  clear hn h0 h3 h4 f
  rintro z f t' ⟨rfl,rfl,hn,h0,h3,h4,h5,h6⟩
  have uT:=BN l aP
  have hsg:=sd l a
  have pH:=BP l a p
  by_cases c3:(bZ l a (gx a)).1<3
  ·have d3:(((bZ l a (gx a)).1:Nat):Int)<3:=by omega
   have eA:kF l a=a+1:=by unfold kF;rw[if_pos c3]
   have eP:nf l a p=qS p (l.getD a 0).toNat:=by unfold nf;rw[if_pos c3]
   rw[eA,eP] at xJ pH
   have xI:=lH.indexAddr (P:=Tryz.prog) (k:= .i64) (x:=(a:Int)) Tryz.underlying22 bh (by omega) (by omega)
   rw[Int.toNat_natCast] at xI
   have k1:=lH.cU (P:=Tryz.prog) gZ aP
   rw[aZ aP] at k1
   have hc:=(l.getD a 0).toNat_lt
   simp-implicitDefEqProofs(disch:=omega)only[ai,aj,ad,Nat.reduceLT,Nat.reduceEqDiff,↓reduceIte,hn,h0,h3,h4,h5,eq_true d3,xI,k1,bd Tryz.underlying5 Tryz.underlying3,aD]
   refine(qi I5 hZ kx nd s.next t' s.next v p (l.getD a 0).toNat hr aA.next (by omega) (by omega)).mono ?_
   rintro _ t2 ⟨v',zg,Tl⟩
   simp-implicitDefEqProofs(disch:=omega)only[ai,Nat.reduceLT,Nat.reduceEqDiff,↓reduceIte,hn,h4,aD]
   exact au (l.length-(a+1)) (by omega) ⟨a+1,_,v',rfl,by omega,zg,by omega,xJ,aA.trans (Tl.stay (Nat.le_refl _) hr.fresh aA.next),by simp only[ae,hn],by simp only[aa,↓reduceIte,Nat.reduceEqDiff,h0],by simp only[aa,↓reduceIte,Nat.reduceEqDiff,h3],by simp only[aa,↓reduceIte];rfl⟩
  ·have uU:=BO c3
   have d3:¬(((bZ l a (gx a)).1:Nat):Int)<3:=by omega
   have eA:kF l a=a+(bZ l a (gx a)).1:=by unfold kF;rw[if_neg c3]
   have eP:nf l a p=qh p (bZ l a (gx a)).1 (bZ l a (gx a)).2:=by unfold nf;rw[if_neg c3]
   rw[eA] at uT hsg
   rw[eA,eP] at xJ pH
   simp-implicitDefEqProofs(disch:=omega)only[ai,aj,ad,Nat.reduceLT,Nat.reduceEqDiff,↓reduceIte,hn,h3,h5,h6,eq_false d3]
   refine(NA HM ON I5 hZ kx nd s.next t' s.next v p _ _ hr aA.next (by omega) uU.1 uU.2.1 uU.2.2.1 uU.2.2.2.1).mono ?_
   rintro _ t2 ⟨v',zg,Tl⟩
   simp-implicitDefEqProofs(disch:=omega)only[ai,Nat.reduceLT,Nat.reduceEqDiff,↓reduceIte,hn,h4,h5,aD]
   exact au (l.length-(a+(bZ l a (gx a)).1)) (by omega) ⟨a+(bZ l a (gx a)).1,_,v',rfl,by omega,zg,by omega,xJ,aA.trans (Tl.stay (Nat.le_refl _) hr.fresh aA.next),by simp only[ae,hn],by simp only[aa,↓reduceIte,Nat.reduceEqDiff,h0],by simp only[aa,↓reduceIte,Nat.reduceEqDiff,h3],by simp only[aa,↓reduceIte];rfl⟩
 clear hn h0 f
 rintro z f t ⟨rfl,p,v,hr,hp,YV,aA,hn,h3⟩
 simp-implicitDefEqProofs(disch:=omega)only[ai,aj,ad,Nat.reduceLT,↓reduceIte,hn,h3]
 refine(qi I5 hZ kx nd s.next t s.next v p 256 hr aA.next (by omega) (by omega)).mono ?_
 rintro _ t2 ⟨v',zg,Tl⟩
 have bD:=aA.trans (Tl.stay (Nat.le_refl _) hr.fresh aA.next)
 simp-implicitDefEqProofs(disch:=omega)only[ai,aj,ad,Nat.reduceLT,Nat.reduceEqDiff,↓reduceIte,hn,h3,Qc]
 have HN:=mu l
 have e:fixed l=(qS p 256).1:=by unfold fixed;rw[FQ,YV]
 rw[e] at HN
 refine(Nx SV Dr s.next t2 s.next v' _ zg (by omega)).mono ?_
 rintro w t3 ⟨ho,hF,cf⟩
 simp-implicitDefEqProofs(disch:=omega)only[ai,al,oneOf,Nat.reduceLT,↓reduceIte,hn,Tryz.results133]
 refine⟨by rw[e];exact ho,fun i hi=>Nat.le_trans bD.next (hF i hi),bD.trans (cf.weaken bD.next)⟩
end Go.Proofs.YtdfjfncifneocaaGreat
set_option linter.unusedSimpArgs false
set_option linter.unusedVariables false
set_option maxRecDepth 100000
namespace Go.Cl.Fx
open Go.Cl.Rw Go.Cl.Sto
def fh (L:List Nat):List Value:=L.map fun n:Nat=> .int .i64 (n:Int)
theorem nh {L:List Nat}{i:Nat}(h:i<L.length):(fh L).getD i undef= .int .i64 ((L.getD i 0:Nat):Int):=by
 simp[fh,List.getD_eq_getElem?_getD,List.getElem?_map,List.getElem?_eq_getElem h]
theorem xK (L:List Nat)(i n:Nat):(fh L).set i (.int .i64 (n:Int))=fh (L.set i n):=by simp[fh,List.map_set]
theorem xL (n:Nat):List.replicate n (Value.int .i64 0)=fh (List.replicate n 0):=by simp[fh]
def dp:List Nat:=(List.range 288).map fun s=>(ks s).2
def J7:List Nat:=(List.range 288).map fun s=>(ks s).1
def Wm:List Nat:=List.replicate 32 5
theorem sg:dp.length=288:=by simp[dp]
theorem yT:J7.length=288:=by simp[J7]
theorem LW {s:Nat}(h:s<288):dp.getD s 0=(ks s).2:=by simp[dp,List.getD_eq_getElem?_getD,List.getElem?_map,List.getElem?_range h]
theorem LX {s:Nat}(h:s<288):J7.getD s 0=(ks s).1:=by simp[J7,List.getD_eq_getElem?_getD,List.getElem?_map,List.getElem?_range h]
def vW (c:List Nat)(l:Nat):Nat->Nat->List Nat->Nat->List Nat×Nat
 |0,_,o,n=>(o,n)
 |f+1,i,o,n=>if c.getD i 0=l then vW c l f (i+1) (o.set i n) (n+1) else vW c l f (i+1) o n
def Tm (c:List Nat):Nat->Nat->List Nat->Nat->List Nat
 |0,_,o,_=>o
 |f+1,l,o,n=>Tm c f (l+1) (vW c l c.length 0 o (2*n)).1 (vW c l c.length 0 o (2*n)).2
def uB (c:List Nat):List Nat:=Tm c 15 1 (List.replicate c.length 0) 0
theorem BS (c:List Nat)(l:Nat):∀(f i:Nat) (o:List Nat) (n:Nat),(vW c l f i o n).2<=n+f
 |0,i,o,n=>Nat.le_refl _
 |f+1,i,o,n=>by
  unfold vW
  split
  ·have:=BS c l f (i+1) (o.set i n) (n+1);omega
  ·have:=BS c l f (i+1) o n;omega
theorem BT (c:List Nat)(l:Nat):∀(f i:Nat) (o:List Nat) (n:Nat),(vW c l f i o n).1.length=o.length
 |0,i,o,n=>rfl
 |f+1,i,o,n=>by
  unfold vW
  split
  ·rw[BT c l f];simp
  ·rw[BT c l f]
end Go.Cl.Fx
namespace Go.Cl.Fx
set_option maxRecDepth 100000 in
theorem J8:uB dp=J7:=by decide+kernel
end Go.Cl.Fx
namespace Go.Proofs.YtdfjfncifneocaaGreat
open Go.Cl Go.Cl.Rw Go.Cl.Sto Go.Cl.Fx
theorem BU:cw Tryz.prog 3=some false:=by kernel_rfl
theorem J9:eW Tryz.prog 3=some 8:=by kernel_rfl
theorem Qg:cE Tryz.prog 3=some (.int .i64 0):=by kernel_rfl
theorem FT:Tryz.prog.underlying 134=some (.slice 3):=Tryz.underlying134
theorem ni:Tryz.prog.underlying 195=some (.slice 3):=Tryz.underlying195
set_option maxHeartbeats 4000000 in
theorem NG {lib:ay}(hl:lib.at 180=none)(s:aq)(x:Value)(c:List Nat)(hx:aM s 1 x c.length (fh c))(hlen:c.length<=300):
  Runs Tryz.prog lib 180 [x] s fun v s' =>Own s' 1 v c.length (fh (uB c))/\(uB c).length=c.length/\aN s.next v/\ar s.next s s' :=by
 refine Runs.enter 35 Tryz.func180 rfl hl rfl rfl ?_
 intro f hn hf
 have h0:f.get 0=x:=hf 0
 clear hf
 simp-implicitDefEqProofs(disch:=omega)only[ai,ad,Nat.reduceLT,Nat.reduceEqDiff,↓reduceIte,hn,h0,hx.aV ni,vF FT cG Qg J9]
 refine aQ (by rw[List.length_replicate,Nat.mul_one]) ?_
 intro y s1 hy iQ bB
 rw[xL] at hy
 have kX:=bB.next
 simp-implicitDefEqProofs(disch:=omega)only[ai,Nat.reduceLT,↓reduceIte,hn]
 refine Comes.bC (fun z f t=>∃(k:Nat) (o:List Nat) (n:Nat),z=15-k/\k<=15/\o.length=c.length/\uB c=Tm c (15-k) (k+1) o n/\n+300<=300*2^k/\Own t 1 y c.length (fh o)/\ar s.next s t/\f.n=35/\f.get 0=x/\f.get 3=y/\f.get 4= .int .i64 (n:Nat)/\f.get 5= .int .i64 ((k:Int)+1))
  (fun z f t=>z= .exit 0/\Own t 1 y c.length (fh (uB c))/\(uB c).length=c.length/\ar s.next s t/\f.n=35/\f.get 3=y)
  ⟨0,_,0,rfl,by omega,by simp,rfl,by simp,hy,bB,by simp only[ae,hn],by simp only[aa,↓reduceIte,Nat.reduceEqDiff,h0],by simp only[aa,↓reduceIte,Nat.reduceEqDiff],by simp only[aa,↓reduceIte,Nat.reduceEqDiff];rfl,by simp only[aa,↓reduceIte];rfl⟩ ?_ ?_
 ·clear hn h0 f hy bB kX
  rintro Q hQ z f t ⟨k,o,n,rfl,hk,ho,hc,hb,hy,aA,hn,h0,h3,h4,h5⟩
  by_cases aP:k<15
  rotate_left
  ·obtain rfl:k=15:=by omega
   have d1:¬((15:Nat):Int)+1<=15:=by omega
   have e:uB c=o:=hc
   simp-implicitDefEqProofs(disch:=omega)only[ai,Nat.reduceLT,↓reduceIte,hn,h5,eq_false d1]
   exact hQ _ _ _ ⟨rfl,by rw[e];exact hy,by rw[e];exact ho,aA,by simp only[ae,hn],by simp only[aa,↓reduceIte,Nat.reduceEqDiff,h3]⟩
  have d1:(k:Int)+1<=15:=by omega
  have hp:2^k<=2^15:=Nat.pow_le_pow_right (by omega) (by omega)
  have Tg:(2:Nat)^15=32768:=by decide
  have hps:2^(k+1)=2*2^k:=by rw[Nat.pow_succ,Nat.mul_comm]
  have Dp:du Tryz.prog .shl 3 (.int .i64 (n:Nat)) (.int .u64 1)=some (.int .i64 ((2*n:Nat):Int)):=by
   rw[sM _ _ .i64 _ _ .u64 (by omega)]
   have e:min (1:Int).toNat IntKind.i64.bits=1:=by decide
   rw[e,aD (by omega)]
   congr 2;omega
  rw[show 15-k=(15-(k+1))+1 by omega,Tm] at hc
  have hrs:=BS c (k+1) c.length 0 o (2*n)
  have nG:=BT c (k+1) c.length 0 o (2*n)
  simp-implicitDefEqProofs(disch:=omega)only[ai,Nat.reduceLT,Nat.reduceEqDiff,↓reduceIte,hn,h4,h5,eq_true d1,Dp]
  refine Comes.bC (fun z f t' =>∃(i:Nat) (o1:List Nat) (n1:Nat),z=c.length-i/\i<=c.length/\o1.length=c.length/\vW c (k+1) c.length 0 o (2*n)=vW c (k+1) (c.length-i) i o1 n1/\n1<=2*n+i/\Own t' 1 y c.length (fh o1)/\ar s.next s t' /\f.n=35/\f.get 0=x/\f.get 3=y/\f.get 4= .int .i64 (n1:Nat)/\f.get 5= .int .i64 ((k:Int)+1)/\f.get 6= .int .i64 (i:Nat))
   (fun z f t' =>z= .exit 2/\Own t' 1 y c.length (fh (vW c (k+1) c.length 0 o (2*n)).1)/\ar s.next s t' /\f.n=35/\f.get 0=x/\f.get 3=y/\f.get 4= .int .i64 ((vW c (k+1) c.length 0 o (2*n)).2:Nat)/\f.get 5= .int .i64 ((k:Int)+1))
   ⟨0,o,2*n,rfl,by omega,ho,rfl,by omega,hy,aA,by simp only[ae,hn],by simp only[aa,↓reduceIte,Nat.reduceEqDiff,h0],by simp only[aa,↓reduceIte,Nat.reduceEqDiff,h3],by simp only[aa,↓reduceIte,Nat.reduceEqDiff],by simp only[aa,↓reduceIte,Nat.reduceEqDiff,h5],by simp only[aa,↓reduceIte];rfl⟩ ?_ ?_
  ·clear hn h0 h3 h4 h5 f
   rintro Q2 Qf z f t' ⟨i,o1,n1,rfl,hi,mO,hr,jv,zC,bB,hn,h0,h3,h4,h5,h6⟩
   have iU:=hx.keeps bB
   by_cases UQ:i<c.length
   rotate_left
   ·obtain rfl:i=c.length:=by omega
    have d2:¬((c.length:Nat):Int)<((c.length:Nat):Int):=by omega
    rw[Nat.sub_self,vW] at hr
    simp-implicitDefEqProofs(disch:=omega)only[ai,ad,Nat.reduceLT,Nat.reduceEqDiff,↓reduceIte,hn,h0,h6,iU.aV ni,eq_false d2]
    exact Qf _ _ _ ⟨rfl,by rw[hr];exact zC,bB,by simp only[ae,hn],by simp only[aa,↓reduceIte,Nat.reduceEqDiff,h0],by simp only[aa,↓reduceIte,Nat.reduceEqDiff,h3],by simp only[aa,↓reduceIte,Nat.reduceEqDiff,h4];rw[hr],by simp only[aa,↓reduceIte,Nat.reduceEqDiff,h5]⟩
   have d2:(i:Int)<(c.length:Int):=by omega
   have xI:=iU.indexAddr (P:=Tryz.prog) (k:= .i64) (x:=(i:Int)) ni cG (by omega) (by omega)
   rw[Int.toNat_natCast] at xI
   have k1:=iU.cU (P:=Tryz.prog) BU UQ
   rw[nh UQ] at k1
   rw[show c.length-i=(c.length-(i+1))+1 by omega,vW] at hr
   by_cases he:c.getD i 0=k+1
   ·have d3:((c.getD i 0:Nat):Int)=(k:Int)+1:=by omega
    rw[if_pos he] at hr
    have Tn:=zC.aH.indexAddr (P:=Tryz.prog) (k:= .i64) (x:=(i:Int)) FT cG (by omega) (by omega)
    rw[Int.toNat_natCast] at Tn
    simp-implicitDefEqProofs(disch:=omega)only[ai,ad,Nat.reduceLT,Nat.reduceEqDiff,↓reduceIte,hn,h0,h3,h4,h5,h6,iU.aV ni,eq_true d2,xI,k1,eq_true d3,Tn]
    refine dq cG zC UQ rfl ?_
    intro t2 pQ fm
    rw[xK] at pQ
    simp-implicitDefEqProofs(disch:=omega)only[ai,Nat.reduceLT,Nat.reduceEqDiff,↓reduceIte,hn,h4,h6,aD]
    exact au (c.length-(i+1)) (by omega) ⟨i+1,_,n1+1,rfl,by omega,by simpa using mO,hr,by omega,pQ,bB.trans (fm.keeps iQ (Nat.le_trans (Nat.le_refl _) bB.next)),by simp only[ae,hn],by simp only[aa,↓reduceIte,Nat.reduceEqDiff,h0],by simp only[aa,↓reduceIte,Nat.reduceEqDiff,h3],by simp only[aa,↓reduceIte,Nat.reduceEqDiff];rfl,by simp only[aa,↓reduceIte,Nat.reduceEqDiff,h5],by simp only[aa,↓reduceIte];rfl⟩
   ·have d3:¬((c.getD i 0:Nat):Int)=(k:Int)+1:=by omega
    rw[if_neg he] at hr
    simp-implicitDefEqProofs(disch:=omega)only[ai,ad,Nat.reduceLT,Nat.reduceEqDiff,↓reduceIte,hn,h0,h5,h6,iU.aV ni,eq_true d2,xI,k1,eq_false d3,aD]
    exact au (c.length-(i+1)) (by omega) ⟨i+1,o1,n1,rfl,by omega,mO,hr,by omega,zC,bB,by simp only[ae,hn],by simp only[aa,↓reduceIte,Nat.reduceEqDiff,h0],by simp only[aa,↓reduceIte,Nat.reduceEqDiff,h3],by simp only[aa,↓reduceIte,Nat.reduceEqDiff,h4],by simp only[aa,↓reduceIte,Nat.reduceEqDiff,h5],by simp only[aa,↓reduceIte];rfl⟩
  clear hn h0 h3 h4 h5 f
  rintro z f t' ⟨rfl,zC,bB,hn,h0,h3,h4,h5⟩
  simp-implicitDefEqProofs(disch:=omega)only[ai,Nat.reduceLT,↓reduceIte,hn,h5,aD]
  exact au (15-(k+1)) (by omega) ⟨k+1,_,_,rfl,by omega,by rw[nG];exact ho,hc,by rw[hps];omega,zC,bB,by simp only[ae,hn],by simp only[aa,↓reduceIte,Nat.reduceEqDiff,h0],by simp only[aa,↓reduceIte,Nat.reduceEqDiff,h3],by simp only[aa,↓reduceIte,Nat.reduceEqDiff,h4],by simp only[aa,↓reduceIte];rfl⟩
 clear hn h0 f
 rintro z f t ⟨rfl,zC,mP,bD,hn,h3⟩
 simp-implicitDefEqProofs(disch:=omega)only[ai,al,oneOf,Nat.reduceLT,↓reduceIte,hn,h3,Tryz.results180]
 exact⟨zC,mP,iQ,bD⟩
end Go.Proofs.YtdfjfncifneocaaGreat
