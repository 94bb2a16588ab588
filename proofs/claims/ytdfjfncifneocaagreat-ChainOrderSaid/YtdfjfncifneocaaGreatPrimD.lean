import Derived.Test.YtdfjfncifneocaaGreatFixP
import Derived.Laws.Externs
import GoSem.Extern.BytealgCompare
open Nat renaming reduceLT->QS,reduceEqDiff->Qx
set_option maxHeartbeats 4000000
set_option linter.unusedSimpArgs false
set_option linter.unusedVariables false
set_option maxRecDepth 100000
namespace Go.Cl.Fx
open Go.Cl.Rw Go.Cl.Sto
theorem QK (n k:Nat):(n:Int).fdiv (2^k)=((n/2^k:Nat):Int):=by
 rw[Int.fdiv_eq_ediv_of_nonneg _ (by exact Int.pow_nonneg (by omega))]
 norm_cast
theorem Z2 (P:Program)(t:TypeId)(k' :IntKind)(n:Nat){k:Nat}(h:k<64):cQ P .shr t (.int .i64 (n:Int)) (.int k' (k:Nat))=some (.int .i64 ((n/2^k:Nat):Int)):=by
 rw[I6 P t k' (n:Int) h,QK]
theorem Z3 {n k:Nat}(hn:n<4294967296)(hk:k<32):IntKind.i64.wrap (((BitVec.ofInt IntKind.i64.bits (n:Int)&&&BitVec.ofInt IntKind.i64.bits (((1*2^k:Nat):Int)-1)).toNat:Nat):Int)=((n%2^k:Nat):Int):=by
 have e1:IntKind.i64.bits=64:=rfl
 have hp:2^k<=2^32:=Nat.pow_le_pow_right (by omega) (by omega)
 have Ns:(2:Nat)^32=4294967296:=by decide
 have qJ:1<=2^k:=Nat.pos_of_ne_zero (by simp)
 have e2:(((1*2^k:Nat):Int)-1)=((2^k-1:Nat):Int):=by omega
 rw[e1,e2]
 have:(BitVec.ofInt 64 (n:Int)&&&BitVec.ofInt 64 ((2^k-1:Nat):Int)).toNat=n%2^k:=by
  rw[BitVec.toNat_and,BitVec.ofInt_natCast,BitVec.ofInt_natCast,BitVec.toNat_ofNat,BitVec.toNat_ofNat,Nat.mod_eq_of_lt (by omega),Nat.mod_eq_of_lt (by omega),Nat.and_two_pow_sub_one_eq_mod]
 rw[this,aD (by have:=Nat.mod_lt n (show 2^k>0 by omega);omega)]
theorem QL {f n g:Nat}(h:n<2*g):gb f n g=0:=by
 cases f with
 |zero=>rfl
 |succ f=>unfold gb;rw[if_pos h]
theorem Z4 {f n g:Nat}(h:¬n<2*g):gb (f+1) n g=gb f (n/2) g+1:=by rw[gb,if_neg h]
theorem Ow {n g:Nat}(h:n<2*g):lG n g=(n,0,0):=by
 unfold lG
 rw[QL h]
 simp[Nat.mod_one]
theorem Ll {P:Program}{lib:aA}{cA cB:Code}{f:aW}{s:aq}{Q:AX->aW->aq->Prop}{b:Bool}(J:aW->aq->Prop)(h1:∀Q' :AX->aW->aq->Prop,(∀f' s',J f' s' ->Q' .normal f' s')->Vy P lib cA cB f s Q' b)(h2:∀f' s',J f' s' ->Q .normal f' s'):Vy P lib cA cB f s Q b:=h1 Q h2
end Go.Cl.Fx
namespace Go.Proofs.YtdfjfncifneocaaGreat
open Go.Cl Go.Cl.Rw Go.Cl.Sto Go.Cl.Fx
theorem V4 (p:List UInt8×Nat)(x:Int):I8 p x 1=l5 p x 1:=by unfold I8;rw[if_neg (by omega)];rfl
theorem Lm (p:List UInt8×Nat)(x:Nat){w:Nat}(h:w<=16):I8 p (x:Int) (w:Nat)=gE p x w:=by
 unfold I8 gE
 by_cases c:w=0
 ·subst c;rw[if_pos (by omega)];rfl
 ·rw[if_neg (by omega),Int.toNat_natCast]
theorem QM (a b c:Value):ba (.tuple #[a,b,c]) 0=some a:=rfl
theorem QN (a b c:Value):ba (.tuple #[a,b,c]) 1=some b:=rfl
theorem QO (a b c:Value):ba (.tuple #[a,b,c]) 2=some c:=rfl
theorem V5 (i o c:Nat):au Tryz.prog 202 (.pointer (some ⟨i,o,some c⟩)) 0=some (.pointer (some ⟨i,o+0,some c⟩)):=by
 kernel_rfl
theorem tB {lib:aA}(hl:lib.at 201=none)(kr:lib.at 170=none)(lV:lib.at 200=none)(base:Nat)(s:aq)(j:Nat)(v:Value)(p:List UInt8×Nat)(n w:Nat)(h:nP base s j v p)(hb:base<=s.next)(hp:p.2+w<=1000000000)(hw:w<=16):
  Runs Tryz.prog lib 201 [qW j,.int .i64 (n:Int),.int .i64 (w:Int)] s fun _ s' =>oz base j v s (ia p n w) s' :=by
 refine Runs.enter 20 Tryz.func201 rfl hl rfl rfl ?_
 intro f hn hf
 have h0:f.get 0=qW j:=hf 0
 have h1:f.get 1= .int .i64 (n:Int):=hf 1
 have h2:f.get 2= .int .i64 (w:Int):=hf 2
 clear hf
 simp(disch:=omega)only[aj,QS,↓reduceIte,hn,h2,aD]
 refine Comes.eZ (fun q f s' =>∃(k:Nat) (p1:List UInt8×Nat),q=k/\k<=w/\oz base j v s p1 s' /\p1.2+k=p.2+w/\ia p1 n k=ia p n w/\f.n=20/\f.get 0=qW j/\f.get 1= .int .i64 (n:Int)/\f.get 6= .int .i64 ((k:Int)-1))
  ⟨w,p,rfl,by omega,oz.start h,rfl,rfl,by simp only[ag,hn],by simp only[ad,↓reduceIte,Qx,h0],by simp only[ad,↓reduceIte,Qx,h1],by simp only[ad,↓reduceIte]⟩ ?_
 clear hn h0 h1 h2 f
 rintro k f s1 ⟨_,p1,rfl,hk,⟨v1,pd,fk⟩,cf,hcd,hn,h0,h1,h6⟩
 by_cases RT:k=0
 ·subst RT
  have d1:¬((0:Nat):Int)-1>=0:=by omega
  simp(disch:=omega)only[aj,ah,QS,↓reduceIte,hn,h6,eq_false d1,Tryz.results201]
  rw[<-hcd]
  exact⟨v1,pd,fk⟩
 obtain⟨m,rfl⟩:∃m,k=m+1:=⟨k-1,by omega⟩
 have e1:((m+1:Nat):Int)-1=(m:Int):=by omega
 rw[e1] at h6
 have d1:(m:Int)>=0:=by omega
 simp(disch:=omega)only[aj,QS,↓reduceIte,hn,h6,eq_true d1]
 obtain⟨B,hB⟩:∃B:Nat->Bool,B=fun j=>decide (j<s1.next):=⟨_,rfl⟩
 have Ln:∀j,B j=true->j<s1.next:=by
  intro j h
  rw[hB] at h
  exact of_decide_eq_true h
 refine LB.cX.fi B Ln 0 0 (by kernel_rfl) (by kernel_rfl) ?_
 have pk:=ar.spare s1 0
 have Uy:(spare s1 0).next=s1.next+0:=bU _ _
 simp(disch:=omega)only[aj,ak,bH,bI,Nat.reduceSub,aa,QS,Qx,↓reduceIte,hn,h0,h1,h6,V5,I6]
 refine(Bv kr lV base (spare s1 0) j v1 p1 ((n:Int).fdiv (2^m)) 1 (pd.keeps pk) (by have:=fk.next;omega) (by omega)).mono ?_
 rintro _ s2 ⟨v2,gx,nQ⟩
 rw[V4] at gx
 refine⟨fun h=>h.elim,?_⟩
 have alM:du j v1 s1 v2 s2:=⟨by have:=nQ.next;omega,fun i hi hj hv=>by rw[nQ.get i (by omega) hj hv,pk.get i hi],by
  rcases nQ.id with e|⟨i,e,hi⟩
  ·exact .inl e
  ·exact .inr ⟨i,e,by omega⟩⟩
 simp(disch:=omega)only[aD]
 exact ay m (by omega) ⟨m,_,rfl,by omega,⟨v2,gx,fk.trans alM⟩,by rw[kL];omega,hcd,by simp only[ad,ag,↓reduceIte,Qx,hn,h0,h1,and_self]⟩
theorem qY {lib:aA}(hl:lib.at 172=none)(jL:lib.at 201=none)(kr:lib.at 170=none)(lV:lib.at 200=none)(base:Nat)(s:aq)(j:Nat)(v:Value)(p:List UInt8×Nat)(n:Nat)(h:nP base s j v p)(hb:base<=s.next)(hp:p.2<=900000000)(hn:n<288):
  Runs Tryz.prog lib 172 [qW j,.int .i64 (n:Int)] s fun _ s' =>oz base j v s (jA p n) s' :=by
 obtain⟨PP,SS⟩:∃PP,PP=jA p n:=⟨_,rfl⟩
 have arv:=SS
 rw[<-SS]
 unfold jA gS at SS
 refine Runs.enter 31 Tryz.func172 rfl hl rfl rfl ?_
 intro f jq hf
 have h0:f.get 0=qW j:=hf 0
 have h1:f.get 1= .int .i64 (n:Int):=hf 1
 clear hf
 by_cases c1:n<144
 ·have d1:(n:Int)<144:=by omega
  rw[if_pos c1] at SS
  simp(disch:=omega)only[aj,ak,aa,QS,Qx,↓reduceIte,jq,h0,h1,eq_true d1,aD]
  rw[show(48:Int)+n=((48+n:Nat):Int) by omega]
  refine(tB jL kr lV base s j v p (48+n) 8 h hb (by omega) (by omega)).mono ?_
  intro _ s2 h2
  simp only[aj,ah,QS,↓reduceIte,jq,Tryz.results172]
  rw[SS];exact h2
 have d1:¬(n:Int)<144:=by omega
 rw[if_neg c1] at SS
 by_cases c2:n<256
 ·have d2:(n:Int)<256:=by omega
  rw[if_pos c2] at SS
  simp(disch:=omega)only[aj,ak,aa,QS,Qx,↓reduceIte,jq,h0,h1,eq_false d1,eq_true d2,aD]
  rw[show(400:Int)+n-144=((256+n:Nat):Int) by omega]
  refine(tB jL kr lV base s j v p (256+n) 9 h hb (by omega) (by omega)).mono ?_
  intro _ s2 h2
  simp only[aj,ah,QS,↓reduceIte,jq,Tryz.results172]
  rw[SS];exact h2
 have d2:¬(n:Int)<256:=by omega
 rw[if_neg c2] at SS
 by_cases c3:n<280
 ·have d3:(n:Int)<280:=by omega
  rw[if_pos c3] at SS
  simp(disch:=omega)only[aj,ak,aa,QS,Qx,↓reduceIte,jq,h0,h1,eq_false d1,eq_false d2,eq_true d3,aD]
  rw[show(n:Int)-256=((n-256:Nat):Int) by omega]
  refine(tB jL kr lV base s j v p (n-256) 7 h hb (by omega) (by omega)).mono ?_
  intro _ s2 h2
  simp only[aj,ah,QS,↓reduceIte,jq,Tryz.results172]
  rw[SS];exact h2
 ·have d3:¬(n:Int)<280:=by omega
  rw[if_neg c3] at SS
  simp(disch:=omega)only[aj,ak,aa,QS,Qx,↓reduceIte,jq,h0,h1,eq_false d1,eq_false d2,eq_false d3,aD]
  rw[show(192:Int)+n-280=((n-88:Nat):Int) by omega]
  refine(tB jL kr lV base s j v p (n-88) 8 h hb (by omega) (by omega)).mono ?_
  intro _ s2 h2
  simp only[aj,ah,QS,↓reduceIte,jq,Tryz.results172]
  rw[SS];exact h2
def ahn (s:aq)(x:Nat×Nat×Nat)(v:Value)(s' :aq):Prop:=v= .tuple #[.int .i64 (x.1:Nat),.int .i64 (x.2.1:Nat),.int .i64 (x.2.2:Nat)]/\s' =s
theorem DB {lib:aA}(hl:lib.at 202=none)(s:aq)(n g:Nat)(hg:g=2\/g=4)(hn:n<32768):
  Runs Tryz.prog lib 202 [.int .i64 (n:Int),.int .i64 (g:Int)] s (ahn s (lG n g)):=by
 refine Runs.enter 37 Tryz.func202 rfl hl rfl rfl ?_
 intro f jq hf
 have h0:f.get 0= .int .i64 (n:Int):=hf 0
 have h1:f.get 1= .int .i64 (g:Int):=hf 1
 clear hf
 have hg8:2<=g/\g<=4:=by omega
 by_cases c1:n<2*g
 ·have d1:(n:Int)<2*g:=by omega
  simp(disch:=omega)only[aj,al,oneOf,QS,Qx,↓reduceIte,jq,h0,h1,aD,eq_true d1,Tryz.results202]
  rw[Ow c1]
  exact⟨rfl,rfl⟩
 have d1:¬(n:Int)<2*g:=by omega
 simp(disch:=omega)only[aj,QS,Qx,↓reduceIte,jq,h0,h1,aD,eq_false d1]
 refine Comes.bQ (fun q f s' =>∃k:Nat,q=16-k/\k<=15/\gb 16 n g=gb (16-k) (n/2^k) g+k/\s' =s/\f.n=37/\f.get 0= .int .i64 (n:Int)/\f.get 1= .int .i64 (g:Int)/\f.get 7= .int .i64 (k:Nat))
  (fun z f s' =>z= .exit 0/\∃k:Nat,k<=15/\gb 16 n g=k/\s' =s/\f.n=37/\f.get 0= .int .i64 (n:Int)/\f.get 1= .int .i64 (g:Int)/\f.get 7= .int .i64 (k:Nat))
  ⟨0,rfl,by omega,by simp,rfl,by simp only[ag,jq],by simp only[ad,↓reduceIte,Qx,h0],by simp only[ad,↓reduceIte,Qx,h1],by simp only[ad,↓reduceIte];rfl⟩ ?_ ?_
 ·clear jq h0 h1 f
  rintro Q hQ q f s' ⟨k,rfl,hk,hgb,rfl,jq,h0,h1,h7⟩
  have hle:n/2^k<=n:=Nat.div_le_self _ _
  have tC:=Z2 Tryz.prog 3 .i64 n (k:=k) (by omega)
  by_cases c2:n/2^k<2*g
  ·have d2:¬((n/2^k:Nat):Int)>=2*g:=by omega
   rw[QL c2,Nat.zero_add] at hgb
   simp(disch:=omega)only[aj,QS,Qx,↓reduceIte,jq,h0,h1,h7,tC,aD,eq_false d2]
   exact hQ _ _ _ ⟨rfl,k,hk,hgb,rfl,by simp only[ag,jq],by simp only[ad,↓reduceIte,Qx,h0],by simp only[ad,↓reduceIte,Qx,h1],by simp only[ad,↓reduceIte,Qx,h7]⟩
  ·have d2:((n/2^k:Nat):Int)>=2*g:=by omega
   have ahp:k<15:=by
    refine Nat.lt_of_not_le (fun h=>c2 ?_)
    have:2^15<=2^k:=Nat.pow_le_pow_right (by omega) h
    have h2:n/2^k=0:=Nat.div_eq_of_lt (Nat.lt_of_lt_of_le hn this)
    omega
   have hs:gb (16-k) (n/2^k) g=gb (16-(k+1)) (n/2^(k+1)) g+1:=by
    rw[show 16-k=(16-(k+1))+1 by omega,Z4 c2,Nat.pow_succ,Nat.div_div_eq_div_mul]
   simp(disch:=omega)only[aj,QS,Qx,↓reduceIte,jq,h0,h1,h7,tC,aD,eq_true d2]
   exact ay (16-(k+1)) (by omega) ⟨k+1,rfl,by omega,by rw[hgb,hs];omega,rfl,by simp only[ad,ag,↓reduceIte,Qx,jq,h0,h1,true_and];rfl⟩
 clear jq h0 h1 f
 rintro z f s' ⟨rfl,k,hk,hgb,rfl,jq,h0,h1,h7⟩
 have hle:n/2^k<=n:=Nat.div_le_self _ _
 have tC:=Z2 Tryz.prog 3 .i64 n (k:=k) (by omega)
 have pE:=SO Tryz.prog 3 .i64 (b:=1) (by omega) (k:=k) (by omega)
 have hand:=Z3 (n:=n) (k:=k) (by omega) (by omega)
 have hp:2^k<=32768:=by
  have:2^k<=2^15:=Nat.pow_le_pow_right (by omega) hk
  exact this
 have e:lG n g=((k+1)*g+n/2^k-g,n%2^k,k):=by unfold lG;rw[hgb]
 rw[e]
 have pE:cQ Tryz.prog .shl 3 (.int .i64 1) (.int .i64 (k:Nat))=some (.int .i64 ((1*2^k:Nat):Int)):=pE
 rcases hg with rfl|rfl
 ·simp(disch:=omega)only[aj,al,oneOf,QS,Qx,↓reduceIte,jq,h0,h1,h7,tC,pE,fh,hand,aD,Tryz.results202]
  have e1:IntKind.i64.wrap (IntKind.i64.wrap (((k:Int)+1)*((2:Nat):Int)+((n/2^k:Nat):Int))-((2:Nat):Int))=(((k+1)*2+n/2^k-2:Nat):Int):=by
   generalize n/2^k=q at hle
   rw[show((2:Nat):Int)=2 from rfl]
   simp(disch:=omega)only[aD]
   omega
  rw[e1]
  exact⟨rfl,rfl⟩
 ·simp(disch:=omega)only[aj,al,oneOf,QS,Qx,↓reduceIte,jq,h0,h1,h7,tC,pE,fh,hand,aD,Tryz.results202]
  have e1:IntKind.i64.wrap (IntKind.i64.wrap (((k:Int)+1)*((4:Nat):Int)+((n/2^k:Nat):Int))-((4:Nat):Int))=(((k+1)*4+n/2^k-4:Nat):Int):=by
   generalize n/2^k=q at hle
   rw[show((4:Nat):Int)=4 from rfl]
   simp(disch:=omega)only[aD]
   omega
  rw[e1]
  exact⟨rfl,rfl⟩
theorem SU {lib:aA}(hl:lib.at 173=none)(hlg:lib.at 202=none)(E4:lib.at 172=none)(jL:lib.at 201=none)(kr:lib.at 170=none)(lV:lib.at 200=none)(base:Nat)(s:aq)(j:Nat)(v:Value)(p:List UInt8×Nat)(n d:Nat)(h:nP base s j v p)(hb:base<=s.next)(hp:p.2<=800000000)(mQ:3<=n)(hn:n<=258)(uR:1<=d)(hd:d<=64):
  Runs Tryz.prog lib 173 [qW j,.int .i64 (n:Int),.int .i64 (d:Int)] s fun _ s' =>oz base j v s (mF p n d) s' :=by
 have V6:=zi mQ hn
 have hds:=Dy uR hd
 have Nk:=xJ (cq n).1
 refine Runs.enter 49 Tryz.func173 rfl hl rfl rfl ?_
 intro f jq hf
 have h0:f.get 0=qW j:=hf 0
 have h1:f.get 1= .int .i64 (n:Int):=hf 1
 have h2:f.get 2= .int .i64 (d:Int):=hf 2
 clear hf
 simp only[aj,QS,↓reduceIte,jq,h1]
 refine Ll (fun f' s' =>oz base j v s (gE (jA p (cq n).1) (cq n).2.1 (cq n).2.2) s' /\f'.n=49/\f'.get 0=qW j/\f'.get 2= .int .i64 (d:Int)) ?_ ?_
 ·intro Q' V7
  by_cases c1:n=258
  ·have d1:(n:Int)=258:=by omega
   simp only[aj,ak,aa,QS,Qx,↓reduceIte,jq,h0,eq_true d1]
   refine(qY E4 jL kr lV base s j v p 285 h hb (by omega) (by omega)).mono ?_
   intro _ s2 h2'
   simp only[aj,QS,↓reduceIte,jq]
   refine V7 _ _ ⟨?_,by simp only[ad,ag,↓reduceIte,Qx,jq,h0,h2,and_self]⟩
   have e:cq n=(285,0,0):=by unfold cq;rw[if_pos c1]
   rw[e];exact h2'
  ·have d1:¬(n:Int)=258:=by omega
   simp(disch:=omega)only[aj,ak,aa,QS,Qx,↓reduceIte,jq,h1,eq_false d1,aD]
   rw[show(n:Int)-3=((n-3:Nat):Int) by omega]
   refine(DB hlg s (n-3) 4 (.inr rfl) (by omega)).mono ?_
   rintro _ s2 ⟨rfl,rfl⟩
   have e:cq n=(257+(lG (n-3) 4).1,(lG (n-3) 4).2):=by unfold cq;rw[if_neg c1]
   generalize lG (n-3) 4=x at e
   obtain⟨x1,x2,x3⟩:=x
   rw[e] at V6 Nk V7
   simp only at V6 Nk V7
   simp(disch:=omega)only[aj,ak,aa,QS,Qx,↓reduceIte,jq,h0,QM,QN,QO,aD]
   rw[show(257:Int)+(x1:Nat)=((257+x1:Nat):Int) by omega]
   refine(qY E4 jL kr lV base s2 j v p (257+x1) h hb (by omega) (by omega)).mono ?_
   rintro _ s3 ⟨v3,h3,FQ⟩
   simp only[aj,ak,aa,QS,Qx,↓reduceIte,jq,h0,V5]
   refine(Bv kr lV base s3 j v3 _ (x2:Nat) (x3:Nat) h3 (Nat.le_trans hb FQ.next) (by rw[qk];omega)).mono ?_
   rintro _ s4 ⟨v4,h4,to4⟩
   rw[Lm _ _ (by omega)] at h4
   simp only[aj,QS,↓reduceIte,jq]
   exact V7 _ _ ⟨⟨v4,h4,FQ.trans to4⟩,by simp only[ad,ag,↓reduceIte,Qx,jq,h0,h2,and_self]⟩
 clear jq h0 h1 h2 f
 rintro f s1 ⟨⟨v1,h1,FT⟩,jq,h0,h2⟩
 simp(disch:=omega)only[aj,ak,aa,QS,↓reduceIte,jq,h2,aD]
 rw[show(d:Int)-1=((d-1:Nat):Int) by omega]
 refine(DB hlg s1 (d-1) 2 (.inl rfl) (by omega)).mono ?_
 rintro _ s2 ⟨rfl,rfl⟩
 have e:eL d=lG (d-1) 2:=rfl
 unfold mF
 rw[e] at hds|-
 generalize lG (d-1) 2=x at hds
 obtain⟨x1,x2,x3⟩:=x
 simp only at hds
 simp only[aj,ak,aa,QS,Qx,↓reduceIte,jq,h0,QM,QN,QO]
 have hz1:(gE (jA p (cq n).1) (cq n).2.1 (cq n).2.2).2<=810000000:=by rw[tA,qk];omega
 refine(tB jL kr lV base s2 j v1 _ x1 5 h1 (Nat.le_trans hb FT.next) (by omega) (by omega)).mono ?_
 rintro _ s3 ⟨v3,h3,FQ⟩
 simp only[aj,ak,aa,QS,Qx,↓reduceIte,jq,h0,V5]
 refine(Bv kr lV base s3 j v3 _ (x2:Nat) (x3:Nat) h3 (Nat.le_trans hb (Nat.le_trans FT.next FQ.next)) (by rw[lF];omega)).mono ?_
 rintro _ s4 ⟨v4,h4,to4⟩
 rw[Lm _ _ (by omega)] at h4
 simp only[aj,ah,QS,↓reduceIte,jq,Tryz.results173]
 exact⟨v4,h4,(FT.trans FQ).trans to4⟩
end Go.Proofs.YtdfjfncifneocaaGreat
namespace Go.Cl.Fx
open Go.Cl.Rw Go.Cl.Sto
theorem Hk {l:List UInt8}{a d n f:Nat}(h:¬(a+n<l.length/\l.getD (a+n-d) 0=l.getD (a+n) 0)):comm l a d n f=n:=by
 cases f with
 |zero=>rfl
 |succ f=>unfold comm;rw[if_neg h]
theorem Z5 {l:List UInt8}{a d n f:Nat}(h:a+n<l.length/\l.getD (a+n-d) 0=l.getD (a+n) 0):comm l a d n (f+1)=comm l a d (n+1) f:=by rw[comm,if_pos h]
end Go.Cl.Fx
namespace Go.Proofs.YtdfjfncifneocaaGreat
open Go.Cl Go.Cl.Rw Go.Cl.Sto Go.Cl.Fx
theorem SV {lib:aA}(hl:lib.at 171=none)(s:aq)(x:Value)(l:List UInt8)(hx:aN s 1 x l.length (ofBytes l))(hlen:l.length<=1000000000)(a d:Nat)(uR:1<=d)(Fv:d<=a)(Vh:a<=l.length):
  Runs Tryz.prog lib 171 [x,.int .i64 (a:Int),.int .i64 ((a-d:Nat):Int)] s fun v s' =>v= .int .i64 (Ou l a d:Nat)/\s' =s:=by
 refine Runs.enter 36 Tryz.func171 rfl hl rfl rfl ?_
 intro f hn hf
 have h0:f.get 0=x:=hf 0
 have h1:f.get 1= .int .i64 (a:Int):=hf 1
 have h2:f.get 2= .int .i64 ((a-d:Nat):Int):=hf 2
 clear hf
 simp only[aj,QS,↓reduceIte,hn]
 refine Comes.bQ (fun q f s' =>∃k:Nat,q=258-k/\k<=258/\a+k<=l.length/\Ou l a d=comm l a d k (258-k)/\s' =s/\f.n=36/\f.get 0=x/\f.get 1= .int .i64 (a:Int)/\f.get 2= .int .i64 ((a-d:Nat):Int)/\f.get 7= .int .i64 (k:Nat))
  (fun z f s' =>z= .exit 0/\s' =s/\f.n=36/\f.get 7= .int .i64 (Ou l a d:Nat))
  ⟨0,rfl,by omega,Vh,rfl,rfl,by simp only[ad,ag,↓reduceIte,Qx,hn,h0,h1,h2,true_and];rfl⟩ ?_ ?_
 ·clear hn h0 h1 h2 f
  rintro Q hQ q f s' ⟨k,rfl,hk,hak,hc,rfl,hn,h0,h1,h2,h7⟩
  have e2:(a:Int)+(k:Int)=((a+k:Nat):Int):=by omega
  have e1:((a-d:Nat):Int)+(k:Int)=((a+k-d:Nat):Int):=by omega
  by_cases c1:k<258
  rotate_left
  ·obtain rfl:k=258:=by omega
   have d1:¬((258:Nat):Int)<258:=by omega
   simp only[aj,ak,QS,Qx,↓reduceIte,undef,hn,h7,eq_false d1]
   exact hQ _ _ _ ⟨rfl,rfl,by simp only[ag,hn],by simp only[ad,↓reduceIte,Qx,h7];rw[hc];rfl⟩
  have d1:(k:Int)<258:=by omega
  by_cases c2:a+k<l.length
  rotate_left
  ·have d2:¬((a+k:Nat):Int)<(l.length:Int):=by omega
   have wR:=Hk (l:=l) (a:=a) (d:=d) (n:=k) (f:=258-k) (fun h=>c2 h.1)
   simp(disch:=omega)only[aj,ak,aa,QS,Qx,↓reduceIte,undef,hn,h0,h1,h7,eq_true d1,e2,aD,hx.bm Tryz.underlying22,hx.self,eq_false d2]
   exact hQ _ _ _ ⟨rfl,rfl,by simp only[ag,hn],by simp only[ad,↓reduceIte,Qx,h7];rw[hc,wR]⟩
  have d2:((a+k:Nat):Int)<(l.length:Int):=by omega
  have bd:a+k-d<l.length:=by omega
  have sn:=hx.indexAddr (P:=Tryz.prog) (k:= .i64) (x:=((a+k:Nat):Int)) Tryz.underlying22 bK (by omega) (by omega)
  have Ki:=hx.indexAddr (P:=Tryz.prog) (k:= .i64) (x:=((a+k-d:Nat):Int)) Tryz.underlying22 bK (by omega) (by omega)
  rw[Int.toNat_natCast] at sn Ki
  have k1:=hx.di (P:=Tryz.prog) kI c2
  have k2:=hx.di (P:=Tryz.prog) kI bd
  rw[bw c2] at k1
  rw[bw bd] at k2
  by_cases c3:l.getD (a+k-d) 0=l.getD (a+k) 0
  ·have wR:=Z5 (l:=l) (a:=a) (d:=d) (n:=k) (f:=258-(k+1)) ⟨c2,c3⟩
   rw[show 258-(k+1)+1=258-k by omega] at wR
   rw[c3] at k2
   simp(disch:=omega)only[aj,ak,aa,QS,Qx,↓reduceIte,hn,h0,h1,h2,h7,eq_true d1,e2,e1,aD,hx.bm Tryz.underlying22,hx.self,eq_true d2,sn,Ki,k1,k2]
   exact ay (258-(k+1)) (by omega) ⟨k+1,rfl,by omega,by omega,by rw[hc,wR],rfl,by simp only[ad,ag,↓reduceIte,Qx,hn,h0,h1,h2,true_and];rfl⟩
  ·have d3:¬((l.getD (a+k-d) 0).toNat:Int)=((l.getD (a+k) 0).toNat:Int):=fun e=>c3 (UInt8.toNat_inj.1 (by omega))
   have d4:¬((l.getD (a+k) 0).toNat:Int)=((l.getD (a+k-d) 0).toNat:Int):=fun e=>d3 e.symm
   have wR:=Hk (l:=l) (a:=a) (d:=d) (n:=k) (f:=258-k) (fun h=>c3 h.2)
   simp(disch:=omega)only[aj,ak,aa,QS,Qx,↓reduceIte,hn,h0,h1,h2,h7,eq_true d1,e2,e1,aD,hx.bm Tryz.underlying22,hx.self,eq_true d2,sn,Ki,k1,k2,eq_false d3]
   exact hQ _ _ _ ⟨rfl,rfl,by simp only[ag,hn],by simp only[ad,↓reduceIte,Qx,h7];rw[hc,wR]⟩
 clear hn h0 h1 h2 f
 rintro z f s' ⟨rfl,rfl,hn,h7⟩
 simp only[aj,al,oneOf,QS,↓reduceIte,hn,h7,Tryz.results171]
 try exact⟨rfl,rfl⟩
def adN (s:aq)(l:List UInt8)(v:Value)(s' :aq):Prop:=Own s' 1 v (fixed l).length (ofBytes (fixed l))/\aF s.next v/\ar s.next s s'
theorem alO:cC Tryz.prog 202 []=some (.agg #[.slice none 0 0,.int .i64 0]):=by kernel_rfl
theorem SW {lib:aA}(hl:lib.at 133=none)(nM:lib.at 171=none)(hla:lib.at 173=none)(hlg:lib.at 202=none)(E4:lib.at 172=none)(jL:lib.at 201=none)(kr:lib.at 170=none)(lV:lib.at 200=none)(hly:lib.at 138=none)(Bf:lib.at 36=none)
  (s:aq) (x:Value) (l:List UInt8) (hx:aN s 1 x l.length (ofBytes l)) (hlen:l.length<=10000000):
  Runs Tryz.prog lib 133 [x] s (adN s l):=by
 refine Runs.enter 60 Tryz.func133 rfl hl rfl rfl ?_
 intro f hn hf
 have h0:f.get 0=x:=hf 0
 clear hf
 simp only[aj,ae,QS,↓reduceIte,hn,alO]
 refine aw ?_
 intro s1 eK bn iV
 have eK:ax s1 s.next [.slice none 0 0,.int .i64 0]:=eK
 have pd:nP s.next s1 s.next (.slice none 0 0) ([],0):=⟨eK,.nil,aF.nil _,(fun e=>by cases e),Nat.le_refl _,⟨Nat.le_refl _,by decide⟩⟩
 simp only[aj,ak,aa,QS,Nat.reduceAdd,↓reduceIte,hn,V5,List.length_cons,List.length_nil]
 refine(Bv kr lV s.next s1 s.next (.slice none 0 0) ([],0) 3 3 pd bn.next (by decide)).mono ?_
 rintro _ s2 ⟨v2,gx,Bz⟩
 have gx:nP s.next s2 s.next v2 j9:=gx
 have cR:ar s.next s s2:=bn.trans (Bz.stay (Nat.le_refl _) (aF.nil _) bn.next)
 obtain⟨j,hj⟩:∃j,j=s.next:=⟨_,rfl⟩
 have hF:=xK.2
 simp only[aj,QS,↓reduceIte,hn]
 refine Comes.bQ (fun z f t=>∃(a:Nat) (p:List UInt8×Nat) (v:Value),z=l.length-a/\a<=l.length/\nP s.next t s.next v p/\p.2<=3+9*a/\uC l a p=uC l 0 j9/\ar s.next s t/\f.n=60/\f.get 0=x/\f.get 3=qW s.next/\f.get 4= .int .i64 (a:Nat))
  (fun z f t=>z= .exit 0/\∃(p:List UInt8×Nat) (v:Value),nP s.next t s.next v p/\p.2<=3+9*l.length/\p=uC l 0 j9/\ar s.next s t/\f.n=60/\f.get 3=qW s.next)
  ⟨0,j9,v2,rfl,by omega,gx,by omega,rfl,cR,by simp only[ad,ag,↓reduceIte,Qx,hn,h0,true_and];rfl⟩ ?_ ?_
 ·clear hn h0 f
  rintro Q hQ z f t ⟨a,p,v,rfl,ha,hr,hp,Hl,aE,hn,h0,h3,h4⟩
  have AA:=hx.keeps aE
  by_cases bd:a<l.length
  rotate_left
  ·obtain rfl:a=l.length:=by omega
   have d1:¬((l.length:Nat):Int)<((l.length:Nat):Int):=by omega
   rw[ql l p (Nat.le_refl _)] at Hl
   simp only[aj,aa,QS,Qx,↓reduceIte,hn,h0,h4,AA.bm Tryz.underlying22,eq_false d1]
   exact hQ _ _ _ ⟨rfl,p,v,hr,hp,Hl,aE,by simp only[ad,ag,↓reduceIte,Qx,hn,h3,and_self]⟩
  have d1:(a:Int)<(l.length:Int):=by omega
  rw[uc l p bd] at Hl
  simp only[aj,aa,QS,Qx,↓reduceIte,hn,h0,h4,AA.bm Tryz.underlying22,eq_true d1]
  refine Comes.bQ (fun z f t' =>∃k:Nat,z=nq a-k/\k<=nq a/\t' =t/\f.n=60/\f.get 0=x/\f.get 3=qW s.next/\f.get 4= .int .i64 (a:Nat)/\f.get 5= .int .i64 ((db l a k).1:Nat)/\f.get 6= .int .i64 ((db l a k).2:Nat)/\f.get 7= .int .i64 ((k:Int)+1))
   (fun z f t' =>z= .exit 2/\t' =t/\f.n=60/\f.get 0=x/\f.get 3=qW s.next/\f.get 4= .int .i64 (a:Nat)/\f.get 5= .int .i64 ((db l a (nq a)).1:Nat)/\f.get 6= .int .i64 ((db l a (nq a)).2:Nat))
   ⟨0,rfl,by omega,rfl,by simp only[ag,hn],by simp only[ad,↓reduceIte,Qx,h0],by simp only[ad,↓reduceIte,Qx,h3],by simp only[ad,↓reduceIte,Qx,h4],by simp only[ad,↓reduceIte,Qx];rfl,by simp only[ad,↓reduceIte,Qx];rfl,by simp only[ad,↓reduceIte];rfl⟩ ?_ ?_
  ·clear hn h0 h3 h4 f
   rintro Q2 hQ2 z f t' ⟨k,rfl,hk,rfl,hn,h0,h3,h4,h5,h6,h7⟩
   have ahq:(if(64:Int)<(a:Int) then(64:Int) else(a:Int))=((nq a:Nat):Int):=by unfold nq;split<;>omega
   by_cases hkf:k<nq a
   rotate_left
   ·obtain rfl:k=nq a:=by omega
    have d2:¬((nq a:Nat):Int)+1<=((nq a:Nat):Int):=by omega
    simp only[aj,aa,QS,Qx,↓reduceIte,hn,h4,h7,ahq,eq_false d2]
    exact hQ2 _ _ _ ⟨rfl,rfl,by simp only[ad,ag,↓reduceIte,Qx,hn,h0,h3,h4,h5,h6,and_self]⟩
   have hka:k+1<=a:=by unfold nq at hkf;omega
   have d2:(k:Int)+1<=((nq a:Nat):Int):=by omega
   simp(disch:=omega)only[aj,ak,aa,QS,Qx,↓reduceIte,hn,h0,h4,h7,ahq,eq_true d2,aD]
   rw[show(a:Int)-((k:Int)+1)=((a-(k+1):Nat):Int) by omega]
   refine(SV nM t' x l AA (by omega) a (k+1) (by omega) hka ha).mono ?_
   rintro _ t2 ⟨rfl,rfl⟩
   by_cases c:(db l a k).1<Ou l a (k+1)
   ·have d3:((Ou l a (k+1):Nat):Int)>((db l a k).1:Nat):=by omega
    have hb:db l a (k+1)=(Ou l a (k+1),k+1):=by rw[db,if_pos c]
    simp(disch:=omega)only[aj,QS,Qx,↓reduceIte,hn,h5,h7,eq_true d3,aD]
    exact ay (nq a-(k+1)) (by omega) ⟨k+1,rfl,by omega,rfl,by simp only[ag,hn],by simp only[ad,↓reduceIte,Qx,h0],by simp only[ad,↓reduceIte,Qx,h3],by simp only[ad,↓reduceIte,Qx,h4],by simp only[ad,↓reduceIte,Qx];rw[hb],by simp only[ad,↓reduceIte,Qx];rw[hb];rfl,by simp only[ad,↓reduceIte];rfl⟩
   ·have d3:¬((Ou l a (k+1):Nat):Int)>((db l a k).1:Nat):=by omega
    have hb:db l a (k+1)=db l a k:=by rw[db,if_neg c]
    simp(disch:=omega)only[aj,QS,Qx,↓reduceIte,hn,h5,h7,eq_false d3,aD]
    exact ay (nq a-(k+1)) (by omega) ⟨k+1,rfl,by omega,rfl,by simp only[ag,hn],by simp only[ad,↓reduceIte,Qx,h0],by simp only[ad,↓reduceIte,Qx,h3],by simp only[ad,↓reduceIte,Qx,h4],by simp only[ad,↓reduceIte,Qx,h5];rw[hb],by simp only[ad,↓reduceIte,Qx,h6];rw[hb],by simp only[ad,↓reduceIte];rfl⟩
  clear hn h0 h3 h4 f
  rintro z f t' ⟨rfl,rfl,hn,h0,h3,h4,h5,h6⟩
  have pE:=Dz l bd
  have QP:=qj l a
  have ph:=Lj l a p
  by_cases c3:(db l a (nq a)).1<3
  ·have d3:(((db l a (nq a)).1:Nat):Int)<3:=by omega
   have eA:jB l a=a+1:=by unfold jB;rw[if_pos c3]
   have eP:jd l a p=jA p (l.getD a 0).toNat:=by unfold jd;rw[if_pos c3]
   rw[eA,eP] at Hl ph
   have sn:=AA.indexAddr (P:=Tryz.prog) (k:= .i64) (x:=(a:Int)) Tryz.underlying22 bK (by omega) (by omega)
   rw[Int.toNat_natCast] at sn
   have k1:=AA.di (P:=Tryz.prog) kI bd
   rw[bw bd] at k1
   have hc:=(l.getD a 0).toNat_lt
   simp(disch:=omega)only[aj,ak,aa,QS,Qx,↓reduceIte,hn,h0,h3,h4,h5,eq_true d3,sn,k1,bL Tryz.underlying5 Tryz.underlying3,aD]
   refine(qY E4 jL kr lV s.next t' s.next v p (l.getD a 0).toNat hr aE.next (by omega) (by omega)).mono ?_
   rintro _ t2 ⟨v',NQ,to'⟩
   simp(disch:=omega)only[aj,QS,Qx,↓reduceIte,hn,h4,aD]
   exact ay (l.length-(a+1)) (by omega) ⟨a+1,_,v',rfl,by omega,NQ,by omega,Hl,aE.trans (to'.stay (Nat.le_refl _) hr.fresh aE.next),by simp only[ag,hn],by simp only[ad,↓reduceIte,Qx,h0],by simp only[ad,↓reduceIte,Qx,h3],by simp only[ad,↓reduceIte];rfl⟩
  ·have SX:=DA c3
   have d3:¬(((db l a (nq a)).1:Nat):Int)<3:=by omega
   have eA:jB l a=a+(db l a (nq a)).1:=by unfold jB;rw[if_neg c3]
   have eP:jd l a p=mF p (db l a (nq a)).1 (db l a (nq a)).2:=by unfold jd;rw[if_neg c3]
   rw[eA] at pE QP
   rw[eA,eP] at Hl ph
   simp only[aj,ak,aa,QS,Qx,↓reduceIte,hn,h3,h5,h6,eq_false d3]
   refine(SU hla hlg E4 jL kr lV s.next t' s.next v p _ _ hr aE.next (by omega) SX.1 SX.2.1 SX.2.2.1 SX.2.2.2.1).mono ?_
   rintro _ t2 ⟨v',NQ,to'⟩
   simp(disch:=omega)only[aj,QS,Qx,↓reduceIte,hn,h4,h5,aD]
   exact ay (l.length-(a+(db l a (nq a)).1)) (by omega) ⟨a+(db l a (nq a)).1,_,v',rfl,by omega,NQ,by omega,Hl,aE.trans (to'.stay (Nat.le_refl _) hr.fresh aE.next),by simp only[ag,hn],by simp only[ad,↓reduceIte,Qx,h0],by simp only[ad,↓reduceIte,Qx,h3],by simp only[ad,↓reduceIte];rfl⟩
 clear hn h0 f
 rintro z f t ⟨rfl,p,v,hr,hp,hpe,aE,hn,h3⟩
 simp only[aj,ak,aa,QS,↓reduceIte,hn,h3]
 refine(qY E4 jL kr lV s.next t s.next v p 256 hr aE.next (by omega) (by omega)).mono ?_
 rintro _ t2 ⟨v',NQ,to'⟩
 have aR:=aE.trans (to'.stay (Nat.le_refl _) hr.fresh aE.next)
 simp only[aj,ak,aa,QS,Qx,↓reduceIte,hn,h3,V5]
 have J8:=xL l
 have e:fixed l=(jA p 256).1:=by unfold fixed;rw[Bx,hpe]
 rw[e] at J8
 refine(SN hly Bf s.next t2 s.next v' _ NQ (by omega)).mono ?_
 rintro w t3 ⟨ho,hF,bC⟩
 simp only[aj,al,oneOf,QS,↓reduceIte,hn,Tryz.results133]
 refine⟨by rw[e];exact ho,fun i hi=>Nat.le_trans aR.next (hF i hi),aR.trans (bC.weaken aR.next)⟩
end Go.Proofs.YtdfjfncifneocaaGreat
namespace Go.Cl.Fx
open Go.Cl.Rw Go.Cl.Sto
def gN (L:List Nat):List Value:=L.map fun n:Nat=> .int .i64 (n:Int)
theorem vP {L:List Nat}{i:Nat}(h:i<L.length):(gN L).getD i undef= .int .i64 ((L.getD i 0:Nat):Int):=by
 simp[gN,List.getD_eq_getElem?_getD,List.getElem?_map,List.getElem?_eq_getElem h]
def fx:List Nat:=(List.range 288).map fun s=>(gS s).2
theorem AB:fx.length=288:=by simp[fx]
end Go.Cl.Fx
namespace Go.Proofs.YtdfjfncifneocaaGreat
open Go.Cl Go.Cl.Rw Go.Cl.Sto Go.Cl.Fx
theorem V8:eY Tryz.prog 3=some 8:=by kernel_rfl
theorem QR:bV Tryz.prog 3=some (.int .i64 0):=by kernel_rfl
theorem qZ:Tryz.prog.underlying 134=some (.slice 3):=Tryz.underlying134
end Go.Proofs.YtdfjfncifneocaaGreat
namespace Go.Cl.Fx
open Go.Cl.Rw Go.Cl.Sto
theorem alP (P:Program)(t:TypeId)(k' :IntKind){x k:Nat}(hk:k<=16)(hx:x*2^k<=1000000):cQ P .shl t (.int .i64 ((x:Nat):Int)) (.int k' (k:Nat))=some (.int .i64 ((x*2^k:Nat):Int)):=by
 rw[mW P t .i64 _ _ k' (by omega)]
 have e:min ((k:Nat):Int).toNat IntKind.i64.bits=k:=by
  have:IntKind.i64.bits=64:=rfl
  rw[this,Int.toNat_natCast];omega
 have e2:((x:Nat):Int)*(2:Int)^k=((x*2^k:Nat):Int):=by norm_cast
 rw[e,e2,aD (by omega)]
end Go.Cl.Fx
namespace Go.Cl
theorem LA.V9 {A:Nat->Bool}{s:aq}{z:Nat}{v:Value}{n:Nat}{l:List Value}(h:aN s z v n l)(hA:∀i,i<s.next->A i=true):LA.ej A (some v)=true:=by
 cases h with
 |nil=>simp[LA.ej]
 |bare i off=>simp[LA.ej]
 |of i off n c bl l hi hbb hz hl hc hlen fy ht=>simp only[LA.ej,Bool.or_eq_true];left;exact hA i (by assumption)
theorem LA.m9 {A:Nat->Bool}{s:aq}{z:Nat}{v:Value}{n:Nat}{l:List Value}(h:aN s z v n l)(hA:∀i,i<s.next->A i=true){k:Nat}(hk:k<n):LA.ej A (some (bc z v k))=true:=by
 cases h with
 |nil=>omega
 |bare=>omega
 |of i off n c bl l hi hbb hz hl hc hlen fy ht=>simp only[bc,LA.ej];exact hA i hi
theorem LA.SY {A:Nat->Bool}{s:aq}{z:Nat}{v:Value}{n:Nat}{l:List Value}(h:aN s z v n l)(hA:∀i,i<s.next->A i=true){k:Nat}(hk:k<n)(j:Nat):LA.ej A (some (b6 (bc z v k) j))=true:=by
 cases h with
 |nil=>omega
 |bare=>omega
 |of i off n c bl l hi hbb hz hl hc hlen fy ht=>simp only[bc,b6,LA.ej];exact hA i hi
def Jc (w n j:Nat):List UInt8:=(List.range j).map fun q=>UInt8.ofNat (n/256^(w-1-q))
def be (w n:Nat):List UInt8:=Jc w n w
theorem SZ (w n j:Nat):Jc w n (j+1)=Jc w n j++[UInt8.ofNat (n/256^(w-1-j))]:=by
 unfold Jc;rw[List.range_succ,List.map_append];rfl
theorem Lo (w n j:Nat):(Jc w n j).length=j:=by simp[Jc]
theorem qm (w n:Nat):(be w n).length=w:=Lo _ _ _
theorem Z6 (n:Nat):be 4 n=[UInt8.ofNat (n/16777216),UInt8.ofNat (n/65536),UInt8.ofNat (n/256),UInt8.ofNat n]:=by
 simp[be,Jc,List.range_succ]
theorem Ox (w n:Nat):∀j,j<=w->j8 (Jc w n j)=n/256^(w-j)%256^j:=by
 intro j
 induction j with
 |zero=>intro _;simp[Jc,j8,Nat.mod_one]
 |succ j ih=>
  intro hj
  rw[SZ,vN,ih (by omega)]
  have e:w-j=w-1-j+1:=by omega
  rw[UInt8.toNat_ofNat',e,show w-(j+1)=w-1-j by omega,Nat.pow_succ,<-Nat.div_div_eq_div_mul,Nat.pow_succ 256 j,Nat.mul_comm (256^j) 256,Nat.mod_mul]
  omega
theorem Wa {w n:Nat}(h:n<256^w):j8 (be w n)=n:=by
 unfold be
 rw[Ox w n w (Nat.le_refl _),Nat.sub_self,Nat.pow_zero,Nat.div_one,Nat.mod_eq_of_lt h]
def Z7 (q:Nat×Nat)(c:UInt8):Nat×Nat:=((q.1+c.toNat)%65521,(q.2+(q.1+c.toNat)%65521)%65521)
def vQ (l:List UInt8):Nat×Nat:=l.foldl Z7 (1,0)
def Bg (l:List UInt8):Nat:=(vQ l).2*65536+(vQ l).1
theorem Jd (l:List UInt8):(vQ l).1<65521/\(vQ l).2<65521:=by
 have key:∀(l:List UInt8) (q:Nat×Nat),q.1<65521/\q.2<65521->(l.foldl Z7 q).1<65521/\(l.foldl Z7 q).2<65521:=by
  intro l
  induction l with
  |nil=>intro q h;exact h
  |cons c l ih=>intro q h;exact ih _ ⟨Nat.mod_lt _ (by omega),Nat.mod_lt _ (by omega)⟩
 exact key l _ (by decide)
theorem Wb (l:List UInt8):Bg l<4294967296:=by
 have:=Jd l
 unfold Bg;omega
theorem S2 {l:List UInt8}{i:Nat}(h:i<l.length):vQ (l.take (i+1))=Z7 (vQ (l.take i)) (l.getD i 0):=by
 unfold vQ
 rw[List.take_add_one,List.getElem?_eq_getElem h,List.foldl_append,List.getD_eq_getElem?_getD,List.getElem?_eq_getElem h];rfl
theorem xM {x:Int}(h0:0<=x)(h:x<4294967296):IntKind.u32.wrap x=x:=by
 have e1:IntKind.u32.bits=32:=rfl
 have e2:IntKind.u32.signed=false:=rfl
 simp only[IntKind.wrap,e1,e2,Bool.false_and]
 simp
 omega
theorem orU {y x:Nat}(hy:y<65536)(hx:x<65536):IntKind.u32.wrap (((BitVec.ofInt IntKind.u32.bits ((y*65536:Nat):Int)|||BitVec.ofInt IntKind.u32.bits (x:Int)).toNat:Nat):Int)=((y*65536+x:Nat):Int):=by
 have e1:IntKind.u32.bits=32:=rfl
 rw[e1]
 have:(BitVec.ofInt 32 ((y*65536:Nat):Int)|||BitVec.ofInt 32 (x:Int)).toNat=y*65536+x:=by
  rw[BitVec.toNat_or,BitVec.ofInt_natCast,BitVec.ofInt_natCast,BitVec.toNat_ofNat,BitVec.toNat_ofNat,Nat.mod_eq_of_lt (by omega),Nat.mod_eq_of_lt (by omega)]
  have:=Nat.shiftLeft_add_eq_or_of_lt (i:=16) (b:=x) (by omega) y
  rw[Nat.shiftLeft_eq] at this
  exact this.symm
 rw[this,xM (by omega) (by omega)]
theorem alR (P:Program)(t:TypeId)(k' :IntKind){y:Nat}(hy:y<65536):cQ P .shl t (.int .u32 (y:Int)) (.int k' 16)=some (.int .u32 ((y*65536:Nat):Int)):=by
 rw[mW P t .u32 _ _ k' (by omega)]
 have e:min (16:Int).toNat IntKind.u32.bits=16:=by decide
 rw[e]
 have e2:(y:Int)*(2:Int)^16=((y*65536:Nat):Int):=by omega
 rw[e2,xM (by omega) (by omega)]
end Go.Cl
namespace Go.Proofs.YtdfjfncifneocaaGreat
open Go.Cl
theorem adP (n:Nat):((n:Int)).tmod 65521=((n%65521:Nat):Int):=by rw[Int.tmod_eq_emod_of_nonneg (by omega)];omega
theorem ahs:IntKind.u32.wrap (((BitVec.ofInt IntKind.u32.bits 1&&&BitVec.ofInt IntKind.u32.bits 65535).toNat:Nat):Int)=1:=by decide
theorem Wc {lib:aA}(hl:lib.at 151=none)(s:aq)(x:Value)(l:List UInt8)(hx:aN s 1 x l.length (ofBytes l))(hlen:l.length<=1000000000):
  Runs Tryz.prog lib 151 [.int .u32 1,x] s fun v s' =>v= .int .u32 (Bg l:Nat)/\s' =s:=by
 refine Runs.enter 35 Tryz.func151 rfl hl rfl rfl ?_
 intro f hn hf
 have h0:f.get 0= .int .u32 1:=hf 0
 have h1:f.get 1=x:=hf 1
 clear hf
 have m1:(1:Int).tmod 65521=1:=by decide
 have m0:(0:Int).tmod 65521=0:=by decide
 have s0:cQ Tryz.prog .shr 117 (.int .u32 1) (.int .u64 16)=some (.int .u32 0):=by
  rw[lS _ _ .u32 _ _ .u64 (by omega)];rfl
 simp(disch:=omega)only[aj,aa,QS,Qx,↓reduceIte,hn,h0,h1,fh,ahs,fg,m1,m0,s0,hx.bm Tryz.underlying22]
 refine Comes.bQ (fun z f t=>∃i:Nat,z=l.length-i/\i<=l.length/\t=s/\f.n=35/\f.get 5= .int .u32 ((vQ (l.take i)).1:Nat)/\f.get 6= .int .u32 ((vQ (l.take i)).2:Nat)/\f.get 15=x/\f.get 16= .int .i64 (l.length:Nat)/\f.get 17= .int .i64 (i:Nat))
  (fun z f t=>z= .exit 0/\t=s/\f.n=35/\f.get 5= .int .u32 ((vQ l).1:Nat)/\f.get 6= .int .u32 ((vQ l).2:Nat))
  ⟨0,rfl,by omega,rfl,by simp only[ag,hn],by simp only[ad,↓reduceIte,Qx];rfl,by simp only[ad,↓reduceIte,Qx];rfl,by simp only[ad,↓reduceIte,Qx],by simp only[ad,↓reduceIte,Qx],by simp only[ad,↓reduceIte];rfl⟩ ?_ ?_
 ·clear hn h0 h1 f
  rintro Q hQ z f t ⟨i,rfl,hi,rfl,hn,h5,h6,my,SP,Be⟩
  by_cases bd:i<l.length
  rotate_left
  ·obtain rfl:i=l.length:=by omega
   have d1:¬((l.length:Nat):Int)<((l.length:Nat):Int):=by omega
   rw[List.take_length] at h5 h6
   simp only[aj,QS,↓reduceIte,hn,SP,Be,eq_false d1]
   exact hQ _ _ _ ⟨rfl,rfl,by simp only[ad,ag,↓reduceIte,Qx,hn,h5,h6,and_self]⟩
  have d1:(i:Int)<(l.length:Int):=by omega
  have sn:=hx.indexAddr (P:=Tryz.prog) (k:= .i64) (x:=(i:Int)) Tryz.underlying22 bK (by omega) (by omega)
  rw[Int.toNat_natCast] at sn
  have k1:=hx.di (P:=Tryz.prog) kI bd
  rw[bw bd] at k1
  have hc:=(l.getD i 0).toNat_lt
  have hq:=Jd (l.take i)
  have ht:=S2 bd
  generalize vQ (l.take i)=q at h5 h6 hq ht
  obtain⟨q1,q2⟩:=q
  simp only at h5 h6 hq
  have e1:(q1:Int)+((l.getD i 0).toNat:Int)=((q1+(l.getD i 0).toNat:Nat):Int):=by omega
  have e2:(q2:Int)+((((q1+(l.getD i 0).toNat)%65521:Nat)):Int)=((q2+(q1+(l.getD i 0).toNat)%65521:Nat):Int):=by omega
  simp(disch:=omega)only[aj,QS,Qx,↓reduceIte,hn,h5,h6,my,SP,Be,eq_true d1,sn,k1,bL Tryz.underlying5 Tryz.underlying117,xM,e1,fg,adP,e2,aD]
  exact ay (l.length-(i+1)) (by omega) ⟨i+1,rfl,by omega,rfl,by simp only[ag,hn],by simp only[ad,↓reduceIte,Qx];rw[ht];rfl,by simp only[ad,↓reduceIte,Qx];rw[ht];rfl,by simp only[ad,↓reduceIte,Qx,my,SP,true_and];rfl⟩
 clear hn h0 h1 f
 rintro z f t ⟨rfl,rfl,hn,h5,h6⟩
 have hq:=Jd l
 have ra:=orU (y:=(vQ l).2) (x:=(vQ l).1) (by omega) (by omega)
 have pE:=alR Tryz.prog 117 .u64 (y:=(vQ l).2) (by omega)
 simp only[aj,al,oneOf,QS,Qx,↓reduceIte,hn,h5,h6,pE,jV,ra,Tryz.results151]
 rfl
theorem Hm {lib:aA}(kW:lib.at 104=none)(hl:lib.at 151=none)(s:aq)(y x:Value)(l:List UInt8)(hy:aN s 1 y 1 [x])(hx:aN s 1 x l.length (ofBytes l))(hlen:l.length<=1000000000):
  Runs Tryz.prog lib 104 [y] s fun v s' =>v= .int .u32 (Bg l:Nat)/\s' =s:=by
 refine Runs.enter 17 Tryz.func104 rfl kW rfl rfl ?_
 intro f hn hf
 have h0:f.get 0=y:=hf 0
 clear hf
 simp only[aj,aa,QS,Qx,↓reduceIte,hn,h0,hy.bm Tryz.underlying137]
 refine Comes.bQ (fun z f t=>∃i:Nat,z=1-i/\i<=1/\t=s/\f.n=17/\f.get 3= .int .u32 ((if i=0 then 1 else Bg l:Nat):Int)/\f.get 6=y/\f.get 7= .int .i64 ((1:Nat):Int)/\f.get 8= .int .i64 (i:Nat))
  (fun z f t=>z= .exit 0/\t=s/\f.n=17/\f.get 3= .int .u32 (Bg l:Nat))
  ⟨0,rfl,by omega,rfl,by simp only[ag,hn],by simp only[ad,↓reduceIte,Qx];try rfl,by simp only[ad,↓reduceIte,Qx],by simp only[ad,↓reduceIte,Qx],by simp only[ad,↓reduceIte];try rfl⟩ ?_ ?_
 ·clear hn h0 f
  rintro Q hQ z f t ⟨i,rfl,hi,rfl,hn,h3,h6,h7,h8⟩
  by_cases bd:i<1
  rotate_left
  ·obtain rfl:i=1:=by omega
   have d1:¬((1:Nat):Int)<((1:Nat):Int):=by omega
   simp only[aj,QS,↓reduceIte,hn,h7,h8,eq_false d1]
   exact hQ _ _ _ ⟨rfl,rfl,by simp only[ag,hn],by simp only[ad,↓reduceIte,Qx,h3];try rfl⟩
  obtain rfl:i=0:=by omega
  have h3:f.get 3= .int .u32 1:=h3
  have d1:((0:Nat):Int)<((1:Nat):Int):=by omega
  have sn:=hy.indexAddr (P:=Tryz.prog) (k:= .i64) (x:=((0:Nat):Int)) Tryz.underlying137 fT (by omega) (by omega)
  rw[Int.toNat_natCast] at sn
  have k1:=hy.di (P:=Tryz.prog) fU (k:=0) (by omega)
  have k1:aJ Tryz.prog t 22 (bc 1 y 0)=some x:=k1
  simp only[aj,ak,aa,QS,Qx,↓reduceIte,hn,h3,h6,h7,h8,eq_true d1,sn,k1]
  refine(Wc hl t x l hx hlen).mono ?_
  rintro _ t2 ⟨rfl,rfl⟩
  simp only[aj,QS,Qx,↓reduceIte,hn,h8]
  exact ay 0 (by omega) ⟨1,rfl,by omega,rfl,by simp only[ag,hn],by simp only[ad,↓reduceIte,Qx];try rfl,by simp only[ad,↓reduceIte,Qx,h6],by simp only[ad,↓reduceIte,Qx,h7],by simp only[ad,↓reduceIte];try rfl⟩
 clear hn h0 f
 rintro z f t ⟨rfl,rfl,hn,h3⟩
 simp only[aj,al,oneOf,QS,↓reduceIte,hn,h3,Tryz.results104]
 try exact⟨rfl,rfl⟩
end Go.Proofs.YtdfjfncifneocaaGreat
namespace Go.Proofs.YtdfjfncifneocaaGreat
open Go.Cl Go.Cl.Sto
theorem Lp {lib:aA}(hl:lib.at 174=none)(s:aq)(b:Bool):
  Runs Tryz.prog lib 174 [.bool b] s fun v s' =>v= .int .i64 (if b then 1 else 0)/\s' =s:=by
 refine Runs.enter 4 Tryz.func174 rfl hl rfl rfl ?_
 intro f hn hf
 have h0:f.get 0= .bool b:=hf 0
 clear hf
 cases b with
 |true=>simp only[aj,al,oneOf,QS,Qx,↓reduceIte,hn,h0,Tryz.results174]
 |false=>simp only[aj,al,oneOf,QS,Qx,↓reduceIte,hn,h0,Tryz.results174]
theorem Oy {lib:aA}(hl:lib.at 134=none)(J5:lib.at 174=none)(s:aq)(x:Value)(l:List UInt8)(hx:aN s 1 x l.length (ofBytes l))(hlen:l.length<=1000000000):
  Runs Tryz.prog lib 134 [x] s fun v s' =>cM s v s' (uB l):=by
 refine Runs.enter 41 Tryz.func134 rfl hl rfl rfl ?_
 intro f hn hf
 have h0:f.get 0=x:=hf 0
 clear hf
 have oH:blocks l.length<=200000:=by unfold blocks;omega
 simp only[aj,QS,↓reduceIte,hn]
 refine Comes.eZ (fun q f s' =>∃(r P:List UInt8) (o w:Value),q=r.length/\P++uB r=uB l/\r.length<=l.length/\Own s' 1 o P.length (ofBytes P)/\aF s.next o/\aN s' 1 w r.length (ofBytes r)/\(∀s2,ar s.next s s2->aN s2 1 w r.length (ofBytes r))/\ar s.next s s' /\f.n=41/\f.get 0=w/\f.get 3=o)
  ⟨l,[],_,x,rfl,rfl,by omega,.nil,aF.nil _,hx,fun s2 h2=>hx.keeps h2,ar.refl _ _,by simp only[ad,ag,↓reduceIte,Qx,hn,h0,and_self]⟩ ?_
 clear hn h0 f
 rintro q f s1 ⟨r,P,o,w,rfl,hP,mO,ho,hoF,hw,hwA,aE,hn,h0,h3⟩
 have pE:=qX _ l (Nat.le_refl _)
 have hsr:=qX _ r (Nat.le_refl _)
 have hPl:P.length+(uB r).length=l.length+5*blocks l.length:=by rw[<-pE,<-hP,List.length_append]
 by_cases Fj:r.length<=65535
 ·have e1:¬(65535:Int)<r.length:=by omega
  have alS:r.length<4611686018427387904:=by omega
  simp only[aj,ak,aa,QS,Qx,↓reduceIte,hn,h0,h3,hw.bm Tryz.underlying22,e1]
  refine(Lp J5 s1 true).mono ?_
  rintro _ s2 ⟨rfl,cR⟩
  subst cR
  have eb:IntKind.u8.wrap 1=((UInt8.ofNat 1).toNat:Int):=rfl
  simp(disch:=omega)only[aj,ae,QS,Qx,↓reduceIte,hn,bL Tryz.underlying3 Tryz.underlying5,eb,b0,ZY,QF,b1,ahk,b2,b3,VI Tryz.underlying22 bK ks]
  refine bG Tryz.underlying22 bK jW ks rfl ho (by simp only[ad,↓reduceIte,Qx]) (by decide) (by simp only[ag,hn];decide) (by simp only[ag,hn];decide) (by rfl) (by decide) rfl (by omega) (by omega) hoF aE.next ?_
  intro bs o2 s3 fN adQ bC _ _
  have gj:=aE.trans bC
  have Nt:=hwA s3 gj
  have dx:=Nt.p9 (lo:=0) (hi:=r.length) (by omega) (by omega)
  rw[List.drop_zero,Nat.sub_zero] at dx
  have Lq:(r.take (r.length)).length=r.length:=by rw[List.length_take];omega
  rw[Lq] at dx
  simp(disch:=omega)only[aj,aa,ai,QS,Qx,↓reduceIte,hn,h0,Nt.iS Tryz.underlying22 bK]
  refine bY Tryz.underlying22 Tryz.underlying22 (.inl ⟨_,rfl⟩) bK jW ks rfl fN dx.src (by rw[bM,Lq,Nat.mul_one]) (by decide) (dh _) (by omega) (by omega) adQ gj.next ?_
  intro o4 s4 wz adR dX _ _
  have hh:[Value.int .u8 (((UInt8.ofNat 1).toNat:Nat):Int),Value.int .u8 (((UInt8.ofNat (r.length)).toNat:Nat):Int),Value.int .u8 (((UInt8.ofNat (r.length/256)).toNat:Nat):Int),Value.int .u8 (((UInt8.ofNat (255-r.length%256)).toNat:Nat):Int),Value.int .u8 (((UInt8.ofNat (255-r.length/256%256)).toNat:Nat):Int)]=ofBytes (FP (r.length) 1):=rfl
  rw[hh] at wz
  have jC:=gj.trans dX
  have Lr:=hwA s4 jC
  have xN:=Lr.p9 (lo:=r.length) (hi:=r.length) (by omega) (by omega)
  rw[List.drop_length,List.take_nil] at xN
  have e2:((([]:List UInt8).length:Nat):Int)=0:=rfl
  simp(disch:=omega)only[aj,al,oneOf,aa,ai,QS,Qx,↓reduceIte,hn,h0,Lr.ff Tryz.underlying22 bK,xN.bm Tryz.underlying22,e2,Tryz.results134]
  refine⟨?_,adR,jC⟩
  rw[<-hP,tx Fj,List.length_append,List.length_append,iH,br,br,<-List.append_assoc,<-Nat.add_assoc]
  rw[List.take_length] at wz
  exact wz
 ·have e1:(65535:Int)<r.length:=by omega
  have e0:¬((65535:Int)=r.length):=by omega
  obtain⟨m,hm⟩:∃m:Nat,m=65535:=⟨_,rfl⟩
  have alS:m<4611686018427387904:=by omega
  simp only[aj,ak,aa,QS,Qx,↓reduceIte,hn,h0,h3,hw.bm Tryz.underlying22,e1,eq_false e0]
  refine(Lp J5 s1 false).mono ?_
  rintro _ s2 ⟨rfl,cR⟩
  subst cR
  have eb:IntKind.u8.wrap 0=((UInt8.ofNat 0).toNat:Int):=rfl
  have en:(65535:Int)=(m:Int):=by omega
  simp only[aj,QS,↓reduceIte,hn,en]
  simp(disch:=omega)only[aj,ae,QS,Qx,↓reduceIte,hn,bL Tryz.underlying3 Tryz.underlying5,eb,b0,ZY,QF,b1,ahk,b2,b3,VI Tryz.underlying22 bK ks]
  refine bG Tryz.underlying22 bK jW ks rfl ho (by simp only[ad,↓reduceIte,Qx]) (by decide) (by simp only[ag,hn];decide) (by simp only[ag,hn];decide) (by rfl) (by decide) rfl (by omega) (by omega) hoF aE.next ?_
  intro bs o2 s3 fN adQ bC _ _
  have gj:=aE.trans bC
  have Nt:=hwA s3 gj
  have dx:=Nt.p9 (lo:=0) (hi:=m) (by omega) (by omega)
  rw[List.drop_zero,Nat.sub_zero] at dx
  have Lq:(r.take (m)).length=m:=by rw[List.length_take];omega
  rw[Lq] at dx
  simp(disch:=omega)only[aj,aa,ai,QS,Qx,↓reduceIte,hn,h0,Nt.iS Tryz.underlying22 bK]
  refine bY Tryz.underlying22 Tryz.underlying22 (.inl ⟨_,rfl⟩) bK jW ks rfl fN dx.src (by rw[bM,Lq,Nat.mul_one]) (by decide) (dh _) (by omega) (by omega) adQ gj.next ?_
  intro o4 s4 wz adR dX _ _
  have hh:[Value.int .u8 (((UInt8.ofNat 0).toNat:Nat):Int),Value.int .u8 (((UInt8.ofNat (m)).toNat:Nat):Int),Value.int .u8 (((UInt8.ofNat (m/256)).toNat:Nat):Int),Value.int .u8 (((UInt8.ofNat (255-m%256)).toNat:Nat):Int),Value.int .u8 (((UInt8.ofNat (255-m/256%256)).toNat:Nat):Int)]=ofBytes (FP (m) 0):=rfl
  rw[hh] at wz
  have jC:=gj.trans dX
  have Lr:=hwA s4 jC
  have xN:=Lr.p9 (lo:=m) (hi:=r.length) (by omega) (by omega)
  have et:(r.drop m).take (r.length-m)=r.drop m:=List.take_of_length_le (by rw[List.length_drop];omega)
  rw[et] at xN
  have cH:¬(((r.drop m).length:Nat):Int)=0:=by rw[List.length_drop];omega
  simp(disch:=omega)only[aj,aa,ai,QS,Qx,↓reduceIte,hn,h0,Lr.ff Tryz.underlying22 bK,xN.bm Tryz.underlying22,eq_false cH]
  refine ay (r.drop m).length (by rw[List.length_drop];omega) ⟨r.drop m,P++(FP m 0++r.take m),o4,dJ 1 w m r.length,rfl,?_,by rw[List.length_drop];omega,?_,adR,xN,fun s2 h2=> ?_,jC,by simp only[ad,ag,↓reduceIte,Qx,hn,and_self]⟩
  ·rw[<-hP,tz Fj,<-hm,List.append_assoc]
  ·rw[br,br,List.length_append,List.length_append,iH,Lq,<-List.append_assoc,<-Nat.add_assoc]
   exact wz
  ·have:=(hwA s2 h2).p9 (lo:=m) (hi:=r.length) (by omega) (by omega)
   rw[et] at this
   exact this
end Go.Proofs.YtdfjfncifneocaaGreat
namespace Go.Cl
def Room (s:aq)(v:Value)(n:Nat)(l:List Value):Prop:=Own s 1 v n l\/(n=0/\l=[]/\∃i off,v= .slice (some ⟨i,off,none⟩) 0 0)
theorem Room.aG {s:aq}{v:Value}{n:Nat}{l:List Value}(h:Room s v n l):aN s 1 v n l:=by
 rcases h with h|⟨rfl,rfl,i,off,rfl⟩
 ·exact h.aG
 ·exact .bare i off
theorem Room.own {s:aq}{v:Value}{n:Nat}{l:List Value}(h:Room s v n l)(hn:0<n):Own s 1 v n l:=by
 rcases h with h|⟨h,_⟩
 ·exact h
 ·omega
theorem Ls (l:List Value)(off:Nat):over l off []=l:=by unfold over;simp
theorem Lt {a b c:List Value}{off:Nat}(h:off=a.length):over (a++c) off b=a++b++c.drop b.length:=by
 subst h
 unfold over
 rw[List.take_left,<-List.drop_drop,List.drop_left]
theorem Room.ahw {P:Program}{t e:TypeId}(hu:P.underlying t=some (.slice e))(cf:aX P e=some 1){s:aq}{v:Value}{n:Nat}{l:List Value}(h:Room s v n l){lo:Nat}(oI:lo<=n){y y2:Value}{k:Nat}{new:List Value}
  (hc:qF (n-lo) y=some (k,y2)) (hs:k≠0->dV s 1 y2=some (k,new)) (hk:new.length=k) (Lu:k<=n-lo) (dH:new.all aL=true):
  ∃s',mN P s t (dJ 1 v lo n) y=some (.int .i64 k,s')/\Room s' v n (over l lo new)/\bt v s s' /\s'.next=s.next:=by
 have hzero:k=0->∀a c,mN P s t (.slice a (n-lo) c) y=some (.int .i64 k,s):=by
  intro h0 a c
  subst h0
  unfold mN
  simp only[hu,cf,hc];rfl
 rcases h with h|⟨rfl,rfl,i,off,rfl⟩
 ·cases h with
  |nil=>
   obtain rfl:k=0:=by omega
   obtain rfl:new=[]:=List.eq_nil_of_length_eq_zero hk
   obtain rfl:lo=0:=by omega
   refine⟨s,hzero rfl none 0,?_,⟨Nat.le_refl _,fun _ _ _=>rfl⟩,rfl⟩
   rw[Ls];exact .inl .nil
  |of i n low l hi hb hl hlen=>
   have eU:l.length=n:=by omega
   cases k with
   |zero=>
    obtain rfl:new=[]:=List.eq_nil_of_length_eq_zero hk
    refine⟨s,hzero rfl _ _,?_,⟨Nat.le_refl _,fun _ _ _=>rfl⟩,rfl⟩
    rw[Ls];exact .inl (.of i n low l hi hb hl hlen)
   |succ k=>
    have Bp:(over l lo new).length=l.length:=tw (by omega)
    have zf:setAt l (0+lo*1) new=some (over l lo new):=by
     rw[show 0+lo*1=lo by omega];exact jy _ _ _ (by omega)
    have aE:s.storeAt i (0+lo*1) (l.length+1) new=some (s.put i (.dZ ⟨over l lo new,l.length+1,true,1⟩)):=by
     unfold aq.storeAt
     have iy:(true&&Nat.ble low (l.length+1)&&Nat.beq (l.length+1) (l.length+1)&&new.all aL)=true:=by
      simp only[dH,Bool.and_true,Bool.true_and,Bool.and_eq_true,Nat.ble_eq,Nat.beq_eq];exact⟨hl,trivial⟩
     rw[hb]
     simp only[iy,if_true]
     cases new with
     |nil=>simp at hk
     |cons a w=>simp only[zf]
    refine⟨s.put i (.dZ ⟨over l lo new,l.length+1,true,1⟩),?_,.inl ?_,⟨by simp[aq.put],fun j _ hj=> ?_⟩,rfl⟩
    ·unfold mN
     simp only[hu,cf,dJ,hc,hs (by omega),aE,Nat.beq_refl]
    ·have:=Own.of (s:=s.put i (.dZ ⟨over l lo new,l.length+1,true,1⟩)) (z:=1) i n (l.length+1) (over l lo new) (by simpa [aq.put] using hi) (aq.ck _ _ _ (by omega)) (by omega) (by omega)
     rw[Bp] at this
     exact this
    ·rw[aq.bP]
     intro e;subst e;exact hj rfl
 ·obtain rfl:k=0:=by omega
  obtain rfl:new=[]:=List.eq_nil_of_length_eq_zero hk
  obtain rfl:lo=0:=by omega
  refine⟨s,?_,.inr ⟨rfl,rfl,i,off,rfl⟩,⟨Nat.le_refl _,fun _ _ _=>rfl⟩,rfl⟩
  exact hzero rfl (some ⟨i,off+0*1,none⟩) 0
theorem Wd {s:aq}{v:Value}{n:Nat}{l:List Value}(h:Room s v n l):dJ 1 v 0 n=v:=by
 rcases h with h|⟨rfl,rfl,i,off,rfl⟩
 ·cases h<;>simp[dJ]
 ·simp[dJ]
theorem aN.qF {s:aq}{y:Value}{m:Nat}{new:List Value}(h:aN s 1 y m new)(r:Nat):∃y2,Cl.qF r y=some (min m r,y2)/\dV s 1 y2=some (min m r,new.take (min m r)):=by
 have hl:=h.length
 have dx:=(h.cut (lo:=0) (hi:=min m r) (by omega) (by omega)).src
 rw[Nat.zero_mul,List.drop_zero,Nat.sub_zero,Nat.mul_one] at dx
 cases h with
 |nil=>exact⟨.slice none (min 0 r) 0,rfl,by simpa [dJ] using dx⟩
 |bare i off=>exact⟨.slice (some ⟨i,off,none⟩) (min 0 r) 0,rfl,by simpa [dJ] using dx⟩
 |of i off n c b l hi hb hz hl hc hlen fy ht=>exact⟨.slice (some ⟨i,off,none⟩) (min m r) c,rfl,by simpa [dJ] using dx⟩
theorem Room.slice {P:Program}{t e:TypeId}(hu:P.underlying t=some (.slice e))(cf:aX P e=some 1){s:aq}{v:Value}{n:Nat}{l:List Value}(h:Room s v n l){k:IntKind}{x:Int}(h0:0<=x)(h2:x<=n):dj P s t v (some (.int k x)) none none=some (dJ 1 v x.toNat n):=h.aG.ff hu cf h0 h2
theorem Own.tight {P:Program}{t e:TypeId}(hu:P.underlying t=some (.slice e))(cf:aX P e=some 1){s:aq}{v:Value}{n:Nat}{l:List Value}(h:Own s 1 v n l){k k2:IntKind}:∃v',dj P s t v none (some (.int k (n:Nat))) (some (.int k2 (n:Nat)))=some v' /\Room s v' n l/\(0<n->v' =v)/\(∀i,aI v' =some i->aI v=some i):=by
 have g8:∀k d,gV (some (.int k ((n:Nat):Int))) d=some n:=fun _ _=>rfl
 cases h with
 |nil=>
  refine⟨.slice none 0 0,?_,.inl .nil,fun h=>(by omega),fun i h=>h⟩
  unfold dj;rw[hu];simp[gV,cf]
 |of i n low l hi hb hl hlen=>
  have eU:l.length=n:=by omega
  have he:kv s i (l.length+1) 1=true:=by
   unfold kv
   split
   ·rfl
   ·rw[hb];rfl
  have hle:(Nat.ble 0 n&&Nat.ble n n)=true:=by simp
  by_cases h0:n=0
  ·subst h0
   refine⟨.slice (some ⟨i,0,none⟩) 0 0,?_,.inr ⟨rfl,List.eq_nil_of_length_eq_zero eU,i,0,rfl⟩,fun h=>(by omega),fun j h=>h⟩
   unfold dj;rw[hu];simp only[fR,g8,cf,hle,if_true,he];rfl
  ·refine⟨.slice (some ⟨i,0,none⟩) n (l.length+1),?_,.inl (.of i n low l hi hb hl hlen),fun _=>rfl,fun j h=>h⟩
   unfold dj;rw[hu]
   have sG:Nat.beq 0 n=false:=by
    rw[<-Bool.not_eq_true,Nat.beq_eq];omega
   simp only[fR,g8,cf,hle,if_true,he,sG]
   simp
section
variable {P:Program} {lib:aA} {all r:List Oper} {f:aW} {s:aq} {d:Option Tmp} {Q:aW->aq->Prop}
theorem DD {t e:TypeId}(hu:P.underlying t=some (.slice e))(cf:aX P e=some 1){v:Value}{n:Nat}{l:List Value}(h:Room s v n l){lo:Nat}(oI:lo<=n){y:Value}{m:Nat}{new:List Value}(hy:aN s 1 y m new)(dH:new.all aL=true)
  (K:∀s',Room s' v n (over l lo (new.take (min m (n-lo))))->bt v s s' ->s'.next=s.next->dW P lib all r f s d Q (some (.val (.int .i64 ((min m (n-lo):Nat):Int)) s'))):dW P lib all r f s d Q (oF (mN P s t (dJ 1 v lo n) y)):=by
 obtain⟨y2,h1,h2⟩:=hy.qF (n-lo)
 have hl:=hy.length
 obtain⟨s',g1,g2,g3,g4⟩:=h.ahw hu cf oI h1 (fun _=>h2) (by rw[List.length_take];omega) (by omega) (by
  rw[List.all_eq_true] at dH|-
  exact fun x hx=>dH x (List.mem_of_mem_take hx))
 rw[g1,ft]
 exact K s' g2 g3 g4
theorem FU {t e:TypeId}(hu:P.underlying t=some (.slice e))(cf:aX P e=some 1){v:Value}{n:Nat}{l:List Value}(h:Room s v n l){y:Value}{m:Nat}{new:List Value}(hy:aN s 1 y m new)(dH:new.all aL=true)
  (K:∀s',Room s' v n (over l 0 (new.take (min m n)))->bt v s s' ->s'.next=s.next->dW P lib all r f s d Q (some (.val (.int .i64 ((min m n:Nat):Int)) s'))):dW P lib all r f s d Q (oF (mN P s t v y)):=by
 have:=DD (lib:=lib) (all:=all) (r:=r) (f:=f) (d:=d) (Q:=Q) hu cf h (Nat.zero_le n) hy dH K
 rwa [Wd h] at this
end
theorem Runs.Z8 {P:Program}{lib:aA}{g:FuncId}{p:Prim}(h:lib.at g=some p)(hf:yQ p){args:List Value}{s s' :aq}{v:Value}{Q:Value->aq->Prop}(hp:p args s=some (v,s'))(hq:Q v s'):Runs P lib g args s Q:=by
 intro hw
 obtain⟨_,_,_,hk⟩:=hf s s (fun _=>none) args v s' (cI.refl s) hw hp
 refine⟨v,s',⟨0,fun m _=> ?_⟩,hk,hq⟩
 simp only[gX,eF,h,hp]
theorem S3 {P:Program}{t e:TypeId}{z:Nat}(hu:P.underlying t=some (.slice e))(cf:aX P e=some z)(s:aq)(a:Option Addr)(n c:Nat):mN P s t (.slice a n c) (.slice none 0 0)=some (.int .i64 0,s):=by
 unfold mN
 simp only[hu,cf,Cl.qF,Nat.zero_min]
def oU:Prim:=fun args s=>
 match args with
 |[.int .i64 (.ofNat n)]=>if Nat.ble n 4294967296 then aZ s (List.replicate n (.chan none)) n 1 else none
 |_=>none
def iX:Prim:=fun args s=>
 match args with
 |[.string a,.string b]=>some (.int .i64 (Extern.BytealgCompare.cmp a b),s)
 |_=>none
end Go.Cl
