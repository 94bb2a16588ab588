import Derived.Test.YtdfjfncifneocaaGreatFixP
import Derived.Laws.Externs
import GoSem.Extern.BytealgCompare
open _root_ renaming reduceIte->ab,Nat->an,Int->av,eq_false->a2,List->a6,eq_true->bb,UInt8->bg,and_self->cg,if_neg->cv,if_pos->c0,true_and->dc
open Go.Proofs.Tryz renaming underlying22->af,prog->ao,underlying5->b7,results172->cb,underlying3->cx,results202->c5,underlying137->c8,results174->dD
open Go renaming Value->a0,Program->cc,TypeId->c6,IntKind->dE
open UInt8 renaming ofNat->a1
open Nat renaming le_refl->a3,mod_eq_of_lt->bq,pow_le_pow_right->ca,le_trans->cd,div_div_eq_div_mul->c4,pow_succ->c9,sub_zero->dd,mul_one->dt,div_le_self->dv,mod_lt->dI,add_assoc->dO,ble->dT,mod_one->dU,beq_eq->ec
open List renaming eq_nil_of_length_eq_zero->a4,length_append->bk,getElem?_eq_getElem->b4,length_drop->b8,getD_eq_getElem?_getD->cm,append_assoc->cp,length_take->cz,drop_zero->c7,take_length->ds,range_succ->dC,range->dY
open BitVec renaming ofInt->a5,ofInt_natCast->bo,toNat_ofNat->b5
open Go.IntKind renaming u32->a7,i64->a8,u8->ea
open Int renaming toNat_natCast->a9
open Go.Value renaming int->bz
open Nat renaming reduceLT->QS,reduceEqDiff->Qx
set_option maxHeartbeats 4000000
set_option linter.unusedSimpArgs false
set_option linter.unusedVariables false
set_option maxRecDepth 100000
namespace Go.Cl.Fx
open Go.Cl.Rw Go.Cl.Sto
theorem QK (n k:an):(n:av).fdiv (2^k)=((n/2^k:an):av):=by
 rw[Int.fdiv_eq_ediv_of_nonneg _ (by exact Int.pow_nonneg (by omega))]
 norm_cast
theorem Z2 (P:cc)(t:c6)(k' :dE)(n:an){k:an}(h:k<64):cQ P .shr t (.int .i64 (n:av)) (.int k' (k:an))=some (.int .i64 ((n/2^k:an):av)):=by
 rw[I6 P t k' (n:av) h,QK]
theorem Z3 {n k:an}(hn:n<4294967296)(hk:k<32):a8.wrap (((a5 a8.bits (n:av)&&&a5 a8.bits (((1*2^k:an):av)-1)).toNat:an):av)=((n%2^k:an):av):=by
 have e1:a8.bits=64:=rfl
 have hp:2^k<=2^32:=ca (by omega) (by omega)
 have Ns:(2:an)^32=4294967296:=by decide
 have qJ:1<=2^k:=Nat.pos_of_ne_zero (by simp)
 have e2:(((1*2^k:an):av)-1)=((2^k-1:an):av):=by omega
 rw[e1,e2]
 have:(a5 64 (n:av)&&&a5 64 ((2^k-1:an):av)).toNat=n%2^k:=by
  rw[BitVec.toNat_and,bo,bo,b5,b5,bq (by omega),bq (by omega),Nat.and_two_pow_sub_one_eq_mod]
 rw[this,aD (by have:=dI n (show 2^k>0 by omega);omega)]
theorem QL {f n g:an}(h:n<2*g):gb f n g=0:=by
 cases f with
 |zero=>rfl
 |succ f=>unfold gb;rw[c0 h]
theorem Z4 {f n g:an}(h:¬n<2*g):gb (f+1) n g=gb f (n/2) g+1:=by rw[gb,cv h]
theorem Ow {n g:an}(h:n<2*g):lG n g=(n,0,0):=by
 unfold lG
 rw[QL h]
 simp[dU]
theorem Ll {P:cc}{lib:aA}{cA cB:Code}{f:aW}{s:aq}{Q:AX->aW->aq->Prop}{b:Bool}(J:aW->aq->Prop)(h1:∀Q' :AX->aW->aq->Prop,(∀f' s',J f' s' ->Q' .normal f' s')->Vy P lib cA cB f s Q' b)(h2:∀f' s',J f' s' ->Q .normal f' s'):Vy P lib cA cB f s Q b:=h1 Q h2
end Go.Cl.Fx
namespace Go.Proofs.YtdfjfncifneocaaGreat
open Go.Cl Go.Cl.Rw Go.Cl.Sto Go.Cl.Fx
theorem V4 (p:a6 bg×an)(x:av):I8 p x 1=l5 p x 1:=by unfold I8;rw[cv (by omega)];rfl
theorem Lm (p:a6 bg×an)(x:an){w:an}(h:w<=16):I8 p (x:av) (w:an)=gE p x w:=by
 unfold I8 gE
 by_cases c:w=0
 ·subst c;rw[c0 (by omega)];rfl
 ·rw[cv (by omega),a9]
theorem QM (a b c:a0):ba (.tuple #[a,b,c]) 0=some a:=rfl
theorem QN (a b c:a0):ba (.tuple #[a,b,c]) 1=some b:=rfl
theorem QO (a b c:a0):ba (.tuple #[a,b,c]) 2=some c:=rfl
theorem V5 (i o c:an):au ao 202 (.pointer (some ⟨i,o,some c⟩)) 0=some (.pointer (some ⟨i,o+0,some c⟩)):=by
 kernel_rfl
theorem tB {lib:aA}(hl:lib.at 201=none)(kr:lib.at 170=none)(lV:lib.at 200=none)(base:an)(s:aq)(j:an)(v:a0)(p:a6 bg×an)(n w:an)(h:nP base s j v p)(hb:base<=s.next)(hp:p.2+w<=1000000000)(hw:w<=16):
  Runs ao lib 201 [qW j,.int .i64 (n:av),.int .i64 (w:av)] s fun _ s' =>oz base j v s (ia p n w) s' :=by
 refine Runs.enter 20 Tryz.func201 rfl hl rfl rfl ?_
 intro f hn hf
 have h0:f.get 0=qW j:=hf 0
 have h1:f.get 1= .int .i64 (n:av):=hf 1
 have h2:f.get 2= .int .i64 (w:av):=hf 2
 clear hf
 simp(disch:=omega)only[aj,QS,↓ab,hn,h2,aD]
 refine Comes.eZ (fun q f s' =>∃(k:an) (p1:a6 bg×an),q=k/\k<=w/\oz base j v s p1 s' /\p1.2+k=p.2+w/\ia p1 n k=ia p n w/\f.n=20/\f.get 0=qW j/\f.get 1= .int .i64 (n:av)/\f.get 6= .int .i64 ((k:av)-1))
  ⟨w,p,rfl,by omega,oz.start h,rfl,rfl,by simp only[ag,hn],by simp only[ad,↓ab,Qx,h0],by simp only[ad,↓ab,Qx,h1],by simp only[ad,↓ab]⟩ ?_
 clear hn h0 h1 h2 f
 rintro k f s1 ⟨_,p1,rfl,hk,⟨v1,pd,fk⟩,cf,hcd,hn,h0,h1,h6⟩
 by_cases RT:k=0
 ·subst RT
  have d1:¬((0:an):av)-1>=0:=by omega
  simp(disch:=omega)only[aj,ah,QS,↓ab,hn,h6,a2 d1,Tryz.results201]
  rw[<-hcd]
  exact⟨v1,pd,fk⟩
 obtain⟨m,rfl⟩:∃m,k=m+1:=⟨k-1,by omega⟩
 have e1:((m+1:an):av)-1=(m:av):=by omega
 rw[e1] at h6
 have d1:(m:av)>=0:=by omega
 simp(disch:=omega)only[aj,QS,↓ab,hn,h6,bb d1]
 obtain⟨B,hB⟩:∃B:an->Bool,B=fun j=>decide (j<s1.next):=⟨_,rfl⟩
 have Ln:∀j,B j=true->j<s1.next:=by
  intro j h
  rw[hB] at h
  exact of_decide_eq_true h
 refine LB.cX.fi B Ln 0 0 (by kernel_rfl) (by kernel_rfl) ?_
 have pk:=ar.spare s1 0
 have Uy:(spare s1 0).next=s1.next+0:=bU _ _
 simp(disch:=omega)only[aj,ak,bH,bI,Nat.reduceSub,aa,QS,Qx,↓ab,hn,h0,h1,h6,V5,I6]
 refine(Bv kr lV base (spare s1 0) j v1 p1 ((n:av).fdiv (2^m)) 1 (pd.keeps pk) (by have:=fk.next;omega) (by omega)).mono ?_
 rintro _ s2 ⟨v2,gx,nQ⟩
 rw[V4] at gx
 refine⟨fun h=>h.elim,?_⟩
 have alM:du j v1 s1 v2 s2:=⟨by have:=nQ.next;omega,fun i hi hj hv=>by rw[nQ.get i (by omega) hj hv,pk.get i hi],by
  rcases nQ.id with e|⟨i,e,hi⟩
  ·exact .inl e
  ·exact .inr ⟨i,e,by omega⟩⟩
 simp(disch:=omega)only[aD]
 exact ay m (by omega) ⟨m,_,rfl,by omega,⟨v2,gx,fk.trans alM⟩,by rw[kL];omega,hcd,by simp only[ad,ag,↓ab,Qx,hn,h0,h1,cg]⟩
theorem qY {lib:aA}(hl:lib.at 172=none)(jL:lib.at 201=none)(kr:lib.at 170=none)(lV:lib.at 200=none)(base:an)(s:aq)(j:an)(v:a0)(p:a6 bg×an)(n:an)(h:nP base s j v p)(hb:base<=s.next)(hp:p.2<=900000000)(hn:n<288):
  Runs ao lib 172 [qW j,.int .i64 (n:av)] s fun _ s' =>oz base j v s (jA p n) s' :=by
 obtain⟨PP,SS⟩:∃PP,PP=jA p n:=⟨_,rfl⟩
 have arv:=SS
 rw[<-SS]
 unfold jA gS at SS
 refine Runs.enter 31 Tryz.func172 rfl hl rfl rfl ?_
 intro f jq hf
 have h0:f.get 0=qW j:=hf 0
 have h1:f.get 1= .int .i64 (n:av):=hf 1
 clear hf
 by_cases c1:n<144
 ·have d1:(n:av)<144:=by omega
  rw[c0 c1] at SS
  simp(disch:=omega)only[aj,ak,aa,QS,Qx,↓ab,jq,h0,h1,bb d1,aD]
  rw[show(48:av)+n=((48+n:an):av) by omega]
  refine(tB jL kr lV base s j v p (48+n) 8 h hb (by omega) (by omega)).mono ?_
  intro _ s2 h2
  simp only[aj,ah,QS,↓ab,jq,cb]
  rw[SS];exact h2
 have d1:¬(n:av)<144:=by omega
 rw[cv c1] at SS
 by_cases c2:n<256
 ·have d2:(n:av)<256:=by omega
  rw[c0 c2] at SS
  simp(disch:=omega)only[aj,ak,aa,QS,Qx,↓ab,jq,h0,h1,a2 d1,bb d2,aD]
  rw[show(400:av)+n-144=((256+n:an):av) by omega]
  refine(tB jL kr lV base s j v p (256+n) 9 h hb (by omega) (by omega)).mono ?_
  intro _ s2 h2
  simp only[aj,ah,QS,↓ab,jq,cb]
  rw[SS];exact h2
 have d2:¬(n:av)<256:=by omega
 rw[cv c2] at SS
 by_cases c3:n<280
 ·have d3:(n:av)<280:=by omega
  rw[c0 c3] at SS
  simp(disch:=omega)only[aj,ak,aa,QS,Qx,↓ab,jq,h0,h1,a2 d1,a2 d2,bb d3,aD]
  rw[show(n:av)-256=((n-256:an):av) by omega]
  refine(tB jL kr lV base s j v p (n-256) 7 h hb (by omega) (by omega)).mono ?_
  intro _ s2 h2
  simp only[aj,ah,QS,↓ab,jq,cb]
  rw[SS];exact h2
 ·have d3:¬(n:av)<280:=by omega
  rw[cv c3] at SS
  simp(disch:=omega)only[aj,ak,aa,QS,Qx,↓ab,jq,h0,h1,a2 d1,a2 d2,a2 d3,aD]
  rw[show(192:av)+n-280=((n-88:an):av) by omega]
  refine(tB jL kr lV base s j v p (n-88) 8 h hb (by omega) (by omega)).mono ?_
  intro _ s2 h2
  simp only[aj,ah,QS,↓ab,jq,cb]
  rw[SS];exact h2
def ahn (s:aq)(x:an×an×an)(v:a0)(s' :aq):Prop:=v= .tuple #[.int .i64 (x.1:an),.int .i64 (x.2.1:an),.int .i64 (x.2.2:an)]/\s' =s
theorem DB {lib:aA}(hl:lib.at 202=none)(s:aq)(n g:an)(hg:g=2\/g=4)(hn:n<32768):
  Runs ao lib 202 [.int .i64 (n:av),.int .i64 (g:av)] s (ahn s (lG n g)):=by
 refine Runs.enter 37 Tryz.func202 rfl hl rfl rfl ?_
 intro f jq hf
 have h0:f.get 0= .int .i64 (n:av):=hf 0
 have h1:f.get 1= .int .i64 (g:av):=hf 1
 clear hf
 have hg8:2<=g/\g<=4:=by omega
 by_cases c1:n<2*g
 ·have d1:(n:av)<2*g:=by omega
  simp(disch:=omega)only[aj,al,oneOf,QS,Qx,↓ab,jq,h0,h1,aD,bb d1,c5]
  rw[Ow c1]
  exact⟨rfl,rfl⟩
 have d1:¬(n:av)<2*g:=by omega
 simp(disch:=omega)only[aj,QS,Qx,↓ab,jq,h0,h1,aD,a2 d1]
 refine Comes.bQ (fun q f s' =>∃k:an,q=16-k/\k<=15/\gb 16 n g=gb (16-k) (n/2^k) g+k/\s' =s/\f.n=37/\f.get 0= .int .i64 (n:av)/\f.get 1= .int .i64 (g:av)/\f.get 7= .int .i64 (k:an))
  (fun z f s' =>z= .exit 0/\∃k:an,k<=15/\gb 16 n g=k/\s' =s/\f.n=37/\f.get 0= .int .i64 (n:av)/\f.get 1= .int .i64 (g:av)/\f.get 7= .int .i64 (k:an))
  ⟨0,rfl,by omega,by simp,rfl,by simp only[ag,jq],by simp only[ad,↓ab,Qx,h0],by simp only[ad,↓ab,Qx,h1],by simp only[ad,↓ab];rfl⟩ ?_ ?_
 ·clear jq h0 h1 f
  rintro Q hQ q f s' ⟨k,rfl,hk,hgb,rfl,jq,h0,h1,h7⟩
  have hle:n/2^k<=n:=dv _ _
  have tC:=Z2 ao 3 .i64 n (k:=k) (by omega)
  by_cases c2:n/2^k<2*g
  ·have d2:¬((n/2^k:an):av)>=2*g:=by omega
   rw[QL c2,Nat.zero_add] at hgb
   simp(disch:=omega)only[aj,QS,Qx,↓ab,jq,h0,h1,h7,tC,aD,a2 d2]
   exact hQ _ _ _ ⟨rfl,k,hk,hgb,rfl,by simp only[ag,jq],by simp only[ad,↓ab,Qx,h0],by simp only[ad,↓ab,Qx,h1],by simp only[ad,↓ab,Qx,h7]⟩
  ·have d2:((n/2^k:an):av)>=2*g:=by omega
   have ahp:k<15:=by
    refine Nat.lt_of_not_le (fun h=>c2 ?_)
    have:2^15<=2^k:=ca (by omega) h
    have h2:n/2^k=0:=Nat.div_eq_of_lt (Nat.lt_of_lt_of_le hn this)
    omega
   have hs:gb (16-k) (n/2^k) g=gb (16-(k+1)) (n/2^(k+1)) g+1:=by
    rw[show 16-k=(16-(k+1))+1 by omega,Z4 c2,c9,c4]
   simp(disch:=omega)only[aj,QS,Qx,↓ab,jq,h0,h1,h7,tC,aD,bb d2]
   exact ay (16-(k+1)) (by omega) ⟨k+1,rfl,by omega,by rw[hgb,hs];omega,rfl,by simp only[ad,ag,↓ab,Qx,jq,h0,h1,dc];rfl⟩
 clear jq h0 h1 f
 rintro z f s' ⟨rfl,k,hk,hgb,rfl,jq,h0,h1,h7⟩
 have hle:n/2^k<=n:=dv _ _
 have tC:=Z2 ao 3 .i64 n (k:=k) (by omega)
 have pE:=SO ao 3 .i64 (b:=1) (by omega) (k:=k) (by omega)
 have hand:=Z3 (n:=n) (k:=k) (by omega) (by omega)
 have hp:2^k<=32768:=by
  have:2^k<=2^15:=ca (by omega) hk
  exact this
 have e:lG n g=((k+1)*g+n/2^k-g,n%2^k,k):=by unfold lG;rw[hgb]
 rw[e]
 have pE:cQ ao .shl 3 (.int .i64 1) (.int .i64 (k:an))=some (.int .i64 ((1*2^k:an):av)):=pE
 rcases hg with rfl|rfl
 ·simp(disch:=omega)only[aj,al,oneOf,QS,Qx,↓ab,jq,h0,h1,h7,tC,pE,fh,hand,aD,c5]
  have e1:a8.wrap (a8.wrap (((k:av)+1)*((2:an):av)+((n/2^k:an):av))-((2:an):av))=(((k+1)*2+n/2^k-2:an):av):=by
   generalize n/2^k=q at hle
   rw[show((2:an):av)=2 from rfl]
   simp(disch:=omega)only[aD]
   omega
  rw[e1]
  exact⟨rfl,rfl⟩
 ·simp(disch:=omega)only[aj,al,oneOf,QS,Qx,↓ab,jq,h0,h1,h7,tC,pE,fh,hand,aD,c5]
  have e1:a8.wrap (a8.wrap (((k:av)+1)*((4:an):av)+((n/2^k:an):av))-((4:an):av))=(((k+1)*4+n/2^k-4:an):av):=by
   generalize n/2^k=q at hle
   rw[show((4:an):av)=4 from rfl]
   simp(disch:=omega)only[aD]
   omega
  rw[e1]
  exact⟨rfl,rfl⟩
theorem SU {lib:aA}(hl:lib.at 173=none)(hlg:lib.at 202=none)(E4:lib.at 172=none)(jL:lib.at 201=none)(kr:lib.at 170=none)(lV:lib.at 200=none)(base:an)(s:aq)(j:an)(v:a0)(p:a6 bg×an)(n d:an)(h:nP base s j v p)(hb:base<=s.next)(hp:p.2<=800000000)(mQ:3<=n)(hn:n<=258)(uR:1<=d)(hd:d<=64):
  Runs ao lib 173 [qW j,.int .i64 (n:av),.int .i64 (d:av)] s fun _ s' =>oz base j v s (mF p n d) s' :=by
 have V6:=zi mQ hn
 have hds:=Dy uR hd
 have Nk:=xJ (cq n).1
 refine Runs.enter 49 Tryz.func173 rfl hl rfl rfl ?_
 intro f jq hf
 have h0:f.get 0=qW j:=hf 0
 have h1:f.get 1= .int .i64 (n:av):=hf 1
 have h2:f.get 2= .int .i64 (d:av):=hf 2
 clear hf
 simp only[aj,QS,↓ab,jq,h1]
 refine Ll (fun f' s' =>oz base j v s (gE (jA p (cq n).1) (cq n).2.1 (cq n).2.2) s' /\f'.n=49/\f'.get 0=qW j/\f'.get 2= .int .i64 (d:av)) ?_ ?_
 ·intro Q' V7
  by_cases c1:n=258
  ·have d1:(n:av)=258:=by omega
   simp only[aj,ak,aa,QS,Qx,↓ab,jq,h0,bb d1]
   refine(qY E4 jL kr lV base s j v p 285 h hb (by omega) (by omega)).mono ?_
   intro _ s2 h2'
   simp only[aj,QS,↓ab,jq]
   refine V7 _ _ ⟨?_,by simp only[ad,ag,↓ab,Qx,jq,h0,h2,cg]⟩
   have e:cq n=(285,0,0):=by unfold cq;rw[c0 c1]
   rw[e];exact h2'
  ·have d1:¬(n:av)=258:=by omega
   simp(disch:=omega)only[aj,ak,aa,QS,Qx,↓ab,jq,h1,a2 d1,aD]
   rw[show(n:av)-3=((n-3:an):av) by omega]
   refine(DB hlg s (n-3) 4 (.inr rfl) (by omega)).mono ?_
   rintro _ s2 ⟨rfl,rfl⟩
   have e:cq n=(257+(lG (n-3) 4).1,(lG (n-3) 4).2):=by unfold cq;rw[cv c1]
   generalize lG (n-3) 4=x at e
   obtain⟨x1,x2,x3⟩:=x
   rw[e] at V6 Nk V7
   simp only at V6 Nk V7
   simp(disch:=omega)only[aj,ak,aa,QS,Qx,↓ab,jq,h0,QM,QN,QO,aD]
   rw[show(257:av)+(x1:an)=((257+x1:an):av) by omega]
   refine(qY E4 jL kr lV base s2 j v p (257+x1) h hb (by omega) (by omega)).mono ?_
   rintro _ s3 ⟨v3,h3,FQ⟩
   simp only[aj,ak,aa,QS,Qx,↓ab,jq,h0,V5]
   refine(Bv kr lV base s3 j v3 _ (x2:an) (x3:an) h3 (cd hb FQ.next) (by rw[qk];omega)).mono ?_
   rintro _ s4 ⟨v4,h4,to4⟩
   rw[Lm _ _ (by omega)] at h4
   simp only[aj,QS,↓ab,jq]
   exact V7 _ _ ⟨⟨v4,h4,FQ.trans to4⟩,by simp only[ad,ag,↓ab,Qx,jq,h0,h2,cg]⟩
 clear jq h0 h1 h2 f
 rintro f s1 ⟨⟨v1,h1,FT⟩,jq,h0,h2⟩
 simp(disch:=omega)only[aj,ak,aa,QS,↓ab,jq,h2,aD]
 rw[show(d:av)-1=((d-1:an):av) by omega]
 refine(DB hlg s1 (d-1) 2 (.inl rfl) (by omega)).mono ?_
 rintro _ s2 ⟨rfl,rfl⟩
 have e:eL d=lG (d-1) 2:=rfl
 unfold mF
 rw[e] at hds|-
 generalize lG (d-1) 2=x at hds
 obtain⟨x1,x2,x3⟩:=x
 simp only at hds
 simp only[aj,ak,aa,QS,Qx,↓ab,jq,h0,QM,QN,QO]
 have hz1:(gE (jA p (cq n).1) (cq n).2.1 (cq n).2.2).2<=810000000:=by rw[tA,qk];omega
 refine(tB jL kr lV base s2 j v1 _ x1 5 h1 (cd hb FT.next) (by omega) (by omega)).mono ?_
 rintro _ s3 ⟨v3,h3,FQ⟩
 simp only[aj,ak,aa,QS,Qx,↓ab,jq,h0,V5]
 refine(Bv kr lV base s3 j v3 _ (x2:an) (x3:an) h3 (cd hb (cd FT.next FQ.next)) (by rw[lF];omega)).mono ?_
 rintro _ s4 ⟨v4,h4,to4⟩
 rw[Lm _ _ (by omega)] at h4
 simp only[aj,ah,QS,↓ab,jq,Tryz.results173]
 exact⟨v4,h4,(FT.trans FQ).trans to4⟩
end Go.Proofs.YtdfjfncifneocaaGreat
namespace Go.Cl.Fx
open Go.Cl.Rw Go.Cl.Sto
theorem Hk {l:a6 bg}{a d n f:an}(h:¬(a+n<l.length/\l.getD (a+n-d) 0=l.getD (a+n) 0)):comm l a d n f=n:=by
 cases f with
 |zero=>rfl
 |succ f=>unfold comm;rw[cv h]
theorem Z5 {l:a6 bg}{a d n f:an}(h:a+n<l.length/\l.getD (a+n-d) 0=l.getD (a+n) 0):comm l a d n (f+1)=comm l a d (n+1) f:=by rw[comm,c0 h]
end Go.Cl.Fx
namespace Go.Proofs.YtdfjfncifneocaaGreat
open Go.Cl Go.Cl.Rw Go.Cl.Sto Go.Cl.Fx
theorem SV {lib:aA}(hl:lib.at 171=none)(s:aq)(x:a0)(l:a6 bg)(hx:aN s 1 x l.length (ofBytes l))(hlen:l.length<=1000000000)(a d:an)(uR:1<=d)(Fv:d<=a)(Vh:a<=l.length):
  Runs ao lib 171 [x,.int .i64 (a:av),.int .i64 ((a-d:an):av)] s fun v s' =>v= .int .i64 (Ou l a d:an)/\s' =s:=by
 refine Runs.enter 36 Tryz.func171 rfl hl rfl rfl ?_
 intro f hn hf
 have h0:f.get 0=x:=hf 0
 have h1:f.get 1= .int .i64 (a:av):=hf 1
 have h2:f.get 2= .int .i64 ((a-d:an):av):=hf 2
 clear hf
 simp only[aj,QS,↓ab,hn]
 refine Comes.bQ (fun q f s' =>∃k:an,q=258-k/\k<=258/\a+k<=l.length/\Ou l a d=comm l a d k (258-k)/\s' =s/\f.n=36/\f.get 0=x/\f.get 1= .int .i64 (a:av)/\f.get 2= .int .i64 ((a-d:an):av)/\f.get 7= .int .i64 (k:an))
  (fun z f s' =>z= .exit 0/\s' =s/\f.n=36/\f.get 7= .int .i64 (Ou l a d:an))
  ⟨0,rfl,by omega,Vh,rfl,rfl,by simp only[ad,ag,↓ab,Qx,hn,h0,h1,h2,dc];rfl⟩ ?_ ?_
 ·clear hn h0 h1 h2 f
  rintro Q hQ q f s' ⟨k,rfl,hk,hak,hc,rfl,hn,h0,h1,h2,h7⟩
  have e2:(a:av)+(k:av)=((a+k:an):av):=by omega
  have e1:((a-d:an):av)+(k:av)=((a+k-d:an):av):=by omega
  by_cases c1:k<258
  rotate_left
  ·obtain rfl:k=258:=by omega
   have d1:¬((258:an):av)<258:=by omega
   simp only[aj,ak,QS,Qx,↓ab,undef,hn,h7,a2 d1]
   exact hQ _ _ _ ⟨rfl,rfl,by simp only[ag,hn],by simp only[ad,↓ab,Qx,h7];rw[hc];rfl⟩
  have d1:(k:av)<258:=by omega
  by_cases c2:a+k<l.length
  rotate_left
  ·have d2:¬((a+k:an):av)<(l.length:av):=by omega
   have wR:=Hk (l:=l) (a:=a) (d:=d) (n:=k) (f:=258-k) (fun h=>c2 h.1)
   simp(disch:=omega)only[aj,ak,aa,QS,Qx,↓ab,undef,hn,h0,h1,h7,bb d1,e2,aD,hx.bm af,hx.self,a2 d2]
   exact hQ _ _ _ ⟨rfl,rfl,by simp only[ag,hn],by simp only[ad,↓ab,Qx,h7];rw[hc,wR]⟩
  have d2:((a+k:an):av)<(l.length:av):=by omega
  have bd:a+k-d<l.length:=by omega
  have sn:=hx.indexAddr (P:=ao) (k:= .i64) (x:=((a+k:an):av)) af bK (by omega) (by omega)
  have Ki:=hx.indexAddr (P:=ao) (k:= .i64) (x:=((a+k-d:an):av)) af bK (by omega) (by omega)
  rw[a9] at sn Ki
  have k1:=hx.di (P:=ao) kI c2
  have k2:=hx.di (P:=ao) kI bd
  rw[bw c2] at k1
  rw[bw bd] at k2
  by_cases c3:l.getD (a+k-d) 0=l.getD (a+k) 0
  ·have wR:=Z5 (l:=l) (a:=a) (d:=d) (n:=k) (f:=258-(k+1)) ⟨c2,c3⟩
   rw[show 258-(k+1)+1=258-k by omega] at wR
   rw[c3] at k2
   simp(disch:=omega)only[aj,ak,aa,QS,Qx,↓ab,hn,h0,h1,h2,h7,bb d1,e2,e1,aD,hx.bm af,hx.self,bb d2,sn,Ki,k1,k2]
   exact ay (258-(k+1)) (by omega) ⟨k+1,rfl,by omega,by omega,by rw[hc,wR],rfl,by simp only[ad,ag,↓ab,Qx,hn,h0,h1,h2,dc];rfl⟩
  ·have d3:¬((l.getD (a+k-d) 0).toNat:av)=((l.getD (a+k) 0).toNat:av):=fun e=>c3 (UInt8.toNat_inj.1 (by omega))
   have d4:¬((l.getD (a+k) 0).toNat:av)=((l.getD (a+k-d) 0).toNat:av):=fun e=>d3 e.symm
   have wR:=Hk (l:=l) (a:=a) (d:=d) (n:=k) (f:=258-k) (fun h=>c3 h.2)
   simp(disch:=omega)only[aj,ak,aa,QS,Qx,↓ab,hn,h0,h1,h2,h7,bb d1,e2,e1,aD,hx.bm af,hx.self,bb d2,sn,Ki,k1,k2,a2 d3]
   exact hQ _ _ _ ⟨rfl,rfl,by simp only[ag,hn],by simp only[ad,↓ab,Qx,h7];rw[hc,wR]⟩
 clear hn h0 h1 h2 f
 rintro z f s' ⟨rfl,rfl,hn,h7⟩
 simp only[aj,al,oneOf,QS,↓ab,hn,h7,Tryz.results171]
 try exact⟨rfl,rfl⟩
def adN (s:aq)(l:a6 bg)(v:a0)(s' :aq):Prop:=Own s' 1 v (fixed l).length (ofBytes (fixed l))/\aF s.next v/\ar s.next s s'
theorem alO:cC ao 202 []=some (.agg #[.slice none 0 0,.int .i64 0]):=by kernel_rfl
theorem SW {lib:aA}(hl:lib.at 133=none)(nM:lib.at 171=none)(hla:lib.at 173=none)(hlg:lib.at 202=none)(E4:lib.at 172=none)(jL:lib.at 201=none)(kr:lib.at 170=none)(lV:lib.at 200=none)(hly:lib.at 138=none)(Bf:lib.at 36=none)
  (s:aq) (x:a0) (l:a6 bg) (hx:aN s 1 x l.length (ofBytes l)) (hlen:l.length<=10000000):
  Runs ao lib 133 [x] s (adN s l):=by
 refine Runs.enter 60 Tryz.func133 rfl hl rfl rfl ?_
 intro f hn hf
 have h0:f.get 0=x:=hf 0
 clear hf
 simp only[aj,ae,QS,↓ab,hn,alO]
 refine aw ?_
 intro s1 eK bn iV
 have eK:ax s1 s.next [.slice none 0 0,.int .i64 0]:=eK
 have pd:nP s.next s1 s.next (.slice none 0 0) ([],0):=⟨eK,.nil,aF.nil _,(fun e=>by cases e),a3 _,⟨a3 _,by decide⟩⟩
 simp only[aj,ak,aa,QS,Nat.reduceAdd,↓ab,hn,V5,List.length_cons,List.length_nil]
 refine(Bv kr lV s.next s1 s.next (.slice none 0 0) ([],0) 3 3 pd bn.next (by decide)).mono ?_
 rintro _ s2 ⟨v2,gx,Bz⟩
 have gx:nP s.next s2 s.next v2 j9:=gx
 have cR:ar s.next s s2:=bn.trans (Bz.stay (a3 _) (aF.nil _) bn.next)
 obtain⟨j,hj⟩:∃j,j=s.next:=⟨_,rfl⟩
 have hF:=xK.2
 simp only[aj,QS,↓ab,hn]
 refine Comes.bQ (fun z f t=>∃(a:an) (p:a6 bg×an) (v:a0),z=l.length-a/\a<=l.length/\nP s.next t s.next v p/\p.2<=3+9*a/\uC l a p=uC l 0 j9/\ar s.next s t/\f.n=60/\f.get 0=x/\f.get 3=qW s.next/\f.get 4= .int .i64 (a:an))
  (fun z f t=>z= .exit 0/\∃(p:a6 bg×an) (v:a0),nP s.next t s.next v p/\p.2<=3+9*l.length/\p=uC l 0 j9/\ar s.next s t/\f.n=60/\f.get 3=qW s.next)
  ⟨0,j9,v2,rfl,by omega,gx,by omega,rfl,cR,by simp only[ad,ag,↓ab,Qx,hn,h0,dc];rfl⟩ ?_ ?_
 ·clear hn h0 f
  rintro Q hQ z f t ⟨a,p,v,rfl,ha,hr,hp,Hl,aE,hn,h0,h3,h4⟩
  have AA:=hx.keeps aE
  by_cases bd:a<l.length
  rotate_left
  ·obtain rfl:a=l.length:=by omega
   have d1:¬((l.length:an):av)<((l.length:an):av):=by omega
   rw[ql l p (a3 _)] at Hl
   simp only[aj,aa,QS,Qx,↓ab,hn,h0,h4,AA.bm af,a2 d1]
   exact hQ _ _ _ ⟨rfl,p,v,hr,hp,Hl,aE,by simp only[ad,ag,↓ab,Qx,hn,h3,cg]⟩
  have d1:(a:av)<(l.length:av):=by omega
  rw[uc l p bd] at Hl
  simp only[aj,aa,QS,Qx,↓ab,hn,h0,h4,AA.bm af,bb d1]
  refine Comes.bQ (fun z f t' =>∃k:an,z=nq a-k/\k<=nq a/\t' =t/\f.n=60/\f.get 0=x/\f.get 3=qW s.next/\f.get 4= .int .i64 (a:an)/\f.get 5= .int .i64 ((db l a k).1:an)/\f.get 6= .int .i64 ((db l a k).2:an)/\f.get 7= .int .i64 ((k:av)+1))
   (fun z f t' =>z= .exit 2/\t' =t/\f.n=60/\f.get 0=x/\f.get 3=qW s.next/\f.get 4= .int .i64 (a:an)/\f.get 5= .int .i64 ((db l a (nq a)).1:an)/\f.get 6= .int .i64 ((db l a (nq a)).2:an))
   ⟨0,rfl,by omega,rfl,by simp only[ag,hn],by simp only[ad,↓ab,Qx,h0],by simp only[ad,↓ab,Qx,h3],by simp only[ad,↓ab,Qx,h4],by simp only[ad,↓ab,Qx];rfl,by simp only[ad,↓ab,Qx];rfl,by simp only[ad,↓ab];rfl⟩ ?_ ?_
  ·clear hn h0 h3 h4 f
   rintro Q2 hQ2 z f t' ⟨k,rfl,hk,rfl,hn,h0,h3,h4,h5,h6,h7⟩
   have ahq:(if(64:av)<(a:av) then(64:av) else(a:av))=((nq a:an):av):=by unfold nq;split<;>omega
   by_cases hkf:k<nq a
   rotate_left
   ·obtain rfl:k=nq a:=by omega
    have d2:¬((nq a:an):av)+1<=((nq a:an):av):=by omega
    simp only[aj,aa,QS,Qx,↓ab,hn,h4,h7,ahq,a2 d2]
    exact hQ2 _ _ _ ⟨rfl,rfl,by simp only[ad,ag,↓ab,Qx,hn,h0,h3,h4,h5,h6,cg]⟩
   have hka:k+1<=a:=by unfold nq at hkf;omega
   have d2:(k:av)+1<=((nq a:an):av):=by omega
   simp(disch:=omega)only[aj,ak,aa,QS,Qx,↓ab,hn,h0,h4,h7,ahq,bb d2,aD]
   rw[show(a:av)-((k:av)+1)=((a-(k+1):an):av) by omega]
   refine(SV nM t' x l AA (by omega) a (k+1) (by omega) hka ha).mono ?_
   rintro _ t2 ⟨rfl,rfl⟩
   by_cases c:(db l a k).1<Ou l a (k+1)
   ·have d3:((Ou l a (k+1):an):av)>((db l a k).1:an):=by omega
    have hb:db l a (k+1)=(Ou l a (k+1),k+1):=by rw[db,c0 c]
    simp(disch:=omega)only[aj,QS,Qx,↓ab,hn,h5,h7,bb d3,aD]
    exact ay (nq a-(k+1)) (by omega) ⟨k+1,rfl,by omega,rfl,by simp only[ag,hn],by simp only[ad,↓ab,Qx,h0],by simp only[ad,↓ab,Qx,h3],by simp only[ad,↓ab,Qx,h4],by simp only[ad,↓ab,Qx];rw[hb],by simp only[ad,↓ab,Qx];rw[hb];rfl,by simp only[ad,↓ab];rfl⟩
   ·have d3:¬((Ou l a (k+1):an):av)>((db l a k).1:an):=by omega
    have hb:db l a (k+1)=db l a k:=by rw[db,cv c]
    simp(disch:=omega)only[aj,QS,Qx,↓ab,hn,h5,h7,a2 d3,aD]
    exact ay (nq a-(k+1)) (by omega) ⟨k+1,rfl,by omega,rfl,by simp only[ag,hn],by simp only[ad,↓ab,Qx,h0],by simp only[ad,↓ab,Qx,h3],by simp only[ad,↓ab,Qx,h4],by simp only[ad,↓ab,Qx,h5];rw[hb],by simp only[ad,↓ab,Qx,h6];rw[hb],by simp only[ad,↓ab];rfl⟩
  clear hn h0 h3 h4 f
  rintro z f t' ⟨rfl,rfl,hn,h0,h3,h4,h5,h6⟩
  have pE:=Dz l bd
  have QP:=qj l a
  have ph:=Lj l a p
  by_cases c3:(db l a (nq a)).1<3
  ·have d3:(((db l a (nq a)).1:an):av)<3:=by omega
   have eA:jB l a=a+1:=by unfold jB;rw[c0 c3]
   have eP:jd l a p=jA p (l.getD a 0).toNat:=by unfold jd;rw[c0 c3]
   rw[eA,eP] at Hl ph
   have sn:=AA.indexAddr (P:=ao) (k:= .i64) (x:=(a:av)) af bK (by omega) (by omega)
   rw[a9] at sn
   have k1:=AA.di (P:=ao) kI bd
   rw[bw bd] at k1
   have hc:=(l.getD a 0).toNat_lt
   simp(disch:=omega)only[aj,ak,aa,QS,Qx,↓ab,hn,h0,h3,h4,h5,bb d3,sn,k1,bL b7 cx,aD]
   refine(qY E4 jL kr lV s.next t' s.next v p (l.getD a 0).toNat hr aE.next (by omega) (by omega)).mono ?_
   rintro _ t2 ⟨v',NQ,to'⟩
   simp(disch:=omega)only[aj,QS,Qx,↓ab,hn,h4,aD]
   exact ay (l.length-(a+1)) (by omega) ⟨a+1,_,v',rfl,by omega,NQ,by omega,Hl,aE.trans (to'.stay (a3 _) hr.fresh aE.next),by simp only[ag,hn],by simp only[ad,↓ab,Qx,h0],by simp only[ad,↓ab,Qx,h3],by simp only[ad,↓ab];rfl⟩
  ·have SX:=DA c3
   have d3:¬(((db l a (nq a)).1:an):av)<3:=by omega
   have eA:jB l a=a+(db l a (nq a)).1:=by unfold jB;rw[cv c3]
   have eP:jd l a p=mF p (db l a (nq a)).1 (db l a (nq a)).2:=by unfold jd;rw[cv c3]
   rw[eA] at pE QP
   rw[eA,eP] at Hl ph
   simp only[aj,ak,aa,QS,Qx,↓ab,hn,h3,h5,h6,a2 d3]
   refine(SU hla hlg E4 jL kr lV s.next t' s.next v p _ _ hr aE.next (by omega) SX.1 SX.2.1 SX.2.2.1 SX.2.2.2.1).mono ?_
   rintro _ t2 ⟨v',NQ,to'⟩
   simp(disch:=omega)only[aj,QS,Qx,↓ab,hn,h4,h5,aD]
   exact ay (l.length-(a+(db l a (nq a)).1)) (by omega) ⟨a+(db l a (nq a)).1,_,v',rfl,by omega,NQ,by omega,Hl,aE.trans (to'.stay (a3 _) hr.fresh aE.next),by simp only[ag,hn],by simp only[ad,↓ab,Qx,h0],by simp only[ad,↓ab,Qx,h3],by simp only[ad,↓ab];rfl⟩
 clear hn h0 f
 rintro z f t ⟨rfl,p,v,hr,hp,hpe,aE,hn,h3⟩
 simp only[aj,ak,aa,QS,↓ab,hn,h3]
 refine(qY E4 jL kr lV s.next t s.next v p 256 hr aE.next (by omega) (by omega)).mono ?_
 rintro _ t2 ⟨v',NQ,to'⟩
 have aR:=aE.trans (to'.stay (a3 _) hr.fresh aE.next)
 simp only[aj,ak,aa,QS,Qx,↓ab,hn,h3,V5]
 have J8:=xL l
 have e:fixed l=(jA p 256).1:=by unfold fixed;rw[Bx,hpe]
 rw[e] at J8
 refine(SN hly Bf s.next t2 s.next v' _ NQ (by omega)).mono ?_
 rintro w t3 ⟨ho,hF,bC⟩
 simp only[aj,al,oneOf,QS,↓ab,hn,Tryz.results133]
 refine⟨by rw[e];exact ho,fun i hi=>cd aR.next (hF i hi),aR.trans (bC.weaken aR.next)⟩
end Go.Proofs.YtdfjfncifneocaaGreat
namespace Go.Cl.Fx
open Go.Cl.Rw Go.Cl.Sto
def gN (L:a6 an):a6 a0:=L.map fun n:an=> .int .i64 (n:av)
theorem vP {L:a6 an}{i:an}(h:i<L.length):(gN L).getD i undef= .int .i64 ((L.getD i 0:an):av):=by
 simp[gN,cm,List.getElem?_map,b4 h]
def fx:a6 an:=(dY 288).map fun s=>(gS s).2
theorem AB:fx.length=288:=by simp[fx]
end Go.Cl.Fx
namespace Go.Proofs.YtdfjfncifneocaaGreat
open Go.Cl Go.Cl.Rw Go.Cl.Sto Go.Cl.Fx
theorem V8:eY ao 3=some 8:=by kernel_rfl
theorem QR:bV ao 3=some (.int .i64 0):=by kernel_rfl
theorem qZ:ao.underlying 134=some (.slice 3):=Tryz.underlying134
end Go.Proofs.YtdfjfncifneocaaGreat
namespace Go.Cl.Fx
open Go.Cl.Rw Go.Cl.Sto
theorem alP (P:cc)(t:c6)(k' :dE){x k:an}(hk:k<=16)(hx:x*2^k<=1000000):cQ P .shl t (.int .i64 ((x:an):av)) (.int k' (k:an))=some (.int .i64 ((x*2^k:an):av)):=by
 rw[mW P t .i64 _ _ k' (by omega)]
 have e:min ((k:an):av).toNat a8.bits=k:=by
  have:a8.bits=64:=rfl
  rw[this,a9];omega
 have e2:((x:an):av)*(2:av)^k=((x*2^k:an):av):=by norm_cast
 rw[e,e2,aD (by omega)]
end Go.Cl.Fx
namespace Go.Cl
theorem LA.V9 {A:an->Bool}{s:aq}{z:an}{v:a0}{n:an}{l:a6 a0}(h:aN s z v n l)(hA:∀i,i<s.next->A i=true):LA.ej A (some v)=true:=by
 cases h with
 |nil=>simp[LA.ej]
 |bare i off=>simp[LA.ej]
 |of i off n c bl l hi hbb hz hl hc hlen fy ht=>simp only[LA.ej,Bool.or_eq_true];left;exact hA i (by assumption)
theorem LA.m9 {A:an->Bool}{s:aq}{z:an}{v:a0}{n:an}{l:a6 a0}(h:aN s z v n l)(hA:∀i,i<s.next->A i=true){k:an}(hk:k<n):LA.ej A (some (bc z v k))=true:=by
 cases h with
 |nil=>omega
 |bare=>omega
 |of i off n c bl l hi hbb hz hl hc hlen fy ht=>simp only[bc,LA.ej];exact hA i hi
theorem LA.SY {A:an->Bool}{s:aq}{z:an}{v:a0}{n:an}{l:a6 a0}(h:aN s z v n l)(hA:∀i,i<s.next->A i=true){k:an}(hk:k<n)(j:an):LA.ej A (some (b6 (bc z v k) j))=true:=by
 cases h with
 |nil=>omega
 |bare=>omega
 |of i off n c bl l hi hbb hz hl hc hlen fy ht=>simp only[bc,b6,LA.ej];exact hA i hi
def Jc (w n j:an):a6 bg:=(dY j).map fun q=>a1 (n/256^(w-1-q))
def be (w n:an):a6 bg:=Jc w n w
theorem SZ (w n j:an):Jc w n (j+1)=Jc w n j++[a1 (n/256^(w-1-j))]:=by
 unfold Jc;rw[dC,List.map_append];rfl
theorem Lo (w n j:an):(Jc w n j).length=j:=by simp[Jc]
theorem qm (w n:an):(be w n).length=w:=Lo _ _ _
theorem Z6 (n:an):be 4 n=[a1 (n/16777216),a1 (n/65536),a1 (n/256),a1 n]:=by
 simp[be,Jc,dC]
theorem Ox (w n:an):∀j,j<=w->j8 (Jc w n j)=n/256^(w-j)%256^j:=by
 intro j
 induction j with
 |zero=>intro _;simp[Jc,j8,dU]
 |succ j ih=>
  intro hj
  rw[SZ,vN,ih (by omega)]
  have e:w-j=w-1-j+1:=by omega
  rw[UInt8.toNat_ofNat',e,show w-(j+1)=w-1-j by omega,c9,<-c4,c9 256 j,Nat.mul_comm (256^j) 256,Nat.mod_mul]
  omega
theorem Wa {w n:an}(h:n<256^w):j8 (be w n)=n:=by
 unfold be
 rw[Ox w n w (a3 _),Nat.sub_self,Nat.pow_zero,Nat.div_one,bq h]
def Z7 (q:an×an)(c:bg):an×an:=((q.1+c.toNat)%65521,(q.2+(q.1+c.toNat)%65521)%65521)
def vQ (l:a6 bg):an×an:=l.foldl Z7 (1,0)
def Bg (l:a6 bg):an:=(vQ l).2*65536+(vQ l).1
theorem Jd (l:a6 bg):(vQ l).1<65521/\(vQ l).2<65521:=by
 have key:∀(l:a6 bg) (q:an×an),q.1<65521/\q.2<65521->(l.foldl Z7 q).1<65521/\(l.foldl Z7 q).2<65521:=by
  intro l
  induction l with
  |nil=>intro q h;exact h
  |cons c l ih=>intro q h;exact ih _ ⟨dI _ (by omega),dI _ (by omega)⟩
 exact key l _ (by decide)
theorem Wb (l:a6 bg):Bg l<4294967296:=by
 have:=Jd l
 unfold Bg;omega
theorem S2 {l:a6 bg}{i:an}(h:i<l.length):vQ (l.take (i+1))=Z7 (vQ (l.take i)) (l.getD i 0):=by
 unfold vQ
 rw[List.take_add_one,b4 h,List.foldl_append,cm,b4 h];rfl
theorem xM {x:av}(h0:0<=x)(h:x<4294967296):a7.wrap x=x:=by
 have e1:a7.bits=32:=rfl
 have e2:a7.signed=false:=rfl
 simp only[IntKind.wrap,e1,e2,Bool.false_and]
 simp
 omega
theorem orU {y x:an}(hy:y<65536)(hx:x<65536):a7.wrap (((a5 a7.bits ((y*65536:an):av)|||a5 a7.bits (x:av)).toNat:an):av)=((y*65536+x:an):av):=by
 have e1:a7.bits=32:=rfl
 rw[e1]
 have:(a5 32 ((y*65536:an):av)|||a5 32 (x:av)).toNat=y*65536+x:=by
  rw[BitVec.toNat_or,bo,bo,b5,b5,bq (by omega),bq (by omega)]
  have:=Nat.shiftLeft_add_eq_or_of_lt (i:=16) (b:=x) (by omega) y
  rw[Nat.shiftLeft_eq] at this
  exact this.symm
 rw[this,xM (by omega) (by omega)]
theorem alR (P:cc)(t:c6)(k' :dE){y:an}(hy:y<65536):cQ P .shl t (.int .u32 (y:av)) (.int k' 16)=some (.int .u32 ((y*65536:an):av)):=by
 rw[mW P t .u32 _ _ k' (by omega)]
 have e:min (16:av).toNat a7.bits=16:=by decide
 rw[e]
 have e2:(y:av)*(2:av)^16=((y*65536:an):av):=by omega
 rw[e2,xM (by omega) (by omega)]
end Go.Cl
namespace Go.Proofs.YtdfjfncifneocaaGreat
open Go.Cl
theorem adP (n:an):((n:av)).tmod 65521=((n%65521:an):av):=by rw[Int.tmod_eq_emod_of_nonneg (by omega)];omega
theorem ahs:a7.wrap (((a5 a7.bits 1&&&a5 a7.bits 65535).toNat:an):av)=1:=by decide
theorem Wc {lib:aA}(hl:lib.at 151=none)(s:aq)(x:a0)(l:a6 bg)(hx:aN s 1 x l.length (ofBytes l))(hlen:l.length<=1000000000):
  Runs ao lib 151 [.int .u32 1,x] s fun v s' =>v= .int .u32 (Bg l:an)/\s' =s:=by
 refine Runs.enter 35 Tryz.func151 rfl hl rfl rfl ?_
 intro f hn hf
 have h0:f.get 0= .int .u32 1:=hf 0
 have h1:f.get 1=x:=hf 1
 clear hf
 have m1:(1:av).tmod 65521=1:=by decide
 have m0:(0:av).tmod 65521=0:=by decide
 have s0:cQ ao .shr 117 (.int .u32 1) (.int .u64 16)=some (.int .u32 0):=by
  rw[lS _ _ .u32 _ _ .u64 (by omega)];rfl
 simp(disch:=omega)only[aj,aa,QS,Qx,↓ab,hn,h0,h1,fh,ahs,fg,m1,m0,s0,hx.bm af]
 refine Comes.bQ (fun z f t=>∃i:an,z=l.length-i/\i<=l.length/\t=s/\f.n=35/\f.get 5= .int .u32 ((vQ (l.take i)).1:an)/\f.get 6= .int .u32 ((vQ (l.take i)).2:an)/\f.get 15=x/\f.get 16= .int .i64 (l.length:an)/\f.get 17= .int .i64 (i:an))
  (fun z f t=>z= .exit 0/\t=s/\f.n=35/\f.get 5= .int .u32 ((vQ l).1:an)/\f.get 6= .int .u32 ((vQ l).2:an))
  ⟨0,rfl,by omega,rfl,by simp only[ag,hn],by simp only[ad,↓ab,Qx];rfl,by simp only[ad,↓ab,Qx];rfl,by simp only[ad,↓ab,Qx],by simp only[ad,↓ab,Qx],by simp only[ad,↓ab];rfl⟩ ?_ ?_
 ·clear hn h0 h1 f
  rintro Q hQ z f t ⟨i,rfl,hi,rfl,hn,h5,h6,my,SP,Be⟩
  by_cases bd:i<l.length
  rotate_left
  ·obtain rfl:i=l.length:=by omega
   have d1:¬((l.length:an):av)<((l.length:an):av):=by omega
   rw[ds] at h5 h6
   simp only[aj,QS,↓ab,hn,SP,Be,a2 d1]
   exact hQ _ _ _ ⟨rfl,rfl,by simp only[ad,ag,↓ab,Qx,hn,h5,h6,cg]⟩
  have d1:(i:av)<(l.length:av):=by omega
  have sn:=hx.indexAddr (P:=ao) (k:= .i64) (x:=(i:av)) af bK (by omega) (by omega)
  rw[a9] at sn
  have k1:=hx.di (P:=ao) kI bd
  rw[bw bd] at k1
  have hc:=(l.getD i 0).toNat_lt
  have hq:=Jd (l.take i)
  have ht:=S2 bd
  generalize vQ (l.take i)=q at h5 h6 hq ht
  obtain⟨q1,q2⟩:=q
  simp only at h5 h6 hq
  have e1:(q1:av)+((l.getD i 0).toNat:av)=((q1+(l.getD i 0).toNat:an):av):=by omega
  have e2:(q2:av)+((((q1+(l.getD i 0).toNat)%65521:an)):av)=((q2+(q1+(l.getD i 0).toNat)%65521:an):av):=by omega
  simp(disch:=omega)only[aj,QS,Qx,↓ab,hn,h5,h6,my,SP,Be,bb d1,sn,k1,bL b7 Tryz.underlying117,xM,e1,fg,adP,e2,aD]
  exact ay (l.length-(i+1)) (by omega) ⟨i+1,rfl,by omega,rfl,by simp only[ag,hn],by simp only[ad,↓ab,Qx];rw[ht];rfl,by simp only[ad,↓ab,Qx];rw[ht];rfl,by simp only[ad,↓ab,Qx,my,SP,dc];rfl⟩
 clear hn h0 h1 f
 rintro z f t ⟨rfl,rfl,hn,h5,h6⟩
 have hq:=Jd l
 have ra:=orU (y:=(vQ l).2) (x:=(vQ l).1) (by omega) (by omega)
 have pE:=alR ao 117 .u64 (y:=(vQ l).2) (by omega)
 simp only[aj,al,oneOf,QS,Qx,↓ab,hn,h5,h6,pE,jV,ra,Tryz.results151]
 rfl
theorem Hm {lib:aA}(kW:lib.at 104=none)(hl:lib.at 151=none)(s:aq)(y x:a0)(l:a6 bg)(hy:aN s 1 y 1 [x])(hx:aN s 1 x l.length (ofBytes l))(hlen:l.length<=1000000000):
  Runs ao lib 104 [y] s fun v s' =>v= .int .u32 (Bg l:an)/\s' =s:=by
 refine Runs.enter 17 Tryz.func104 rfl kW rfl rfl ?_
 intro f hn hf
 have h0:f.get 0=y:=hf 0
 clear hf
 simp only[aj,aa,QS,Qx,↓ab,hn,h0,hy.bm c8]
 refine Comes.bQ (fun z f t=>∃i:an,z=1-i/\i<=1/\t=s/\f.n=17/\f.get 3= .int .u32 ((if i=0 then 1 else Bg l:an):av)/\f.get 6=y/\f.get 7= .int .i64 ((1:an):av)/\f.get 8= .int .i64 (i:an))
  (fun z f t=>z= .exit 0/\t=s/\f.n=17/\f.get 3= .int .u32 (Bg l:an))
  ⟨0,rfl,by omega,rfl,by simp only[ag,hn],by simp only[ad,↓ab,Qx];try rfl,by simp only[ad,↓ab,Qx],by simp only[ad,↓ab,Qx],by simp only[ad,↓ab];try rfl⟩ ?_ ?_
 ·clear hn h0 f
  rintro Q hQ z f t ⟨i,rfl,hi,rfl,hn,h3,h6,h7,h8⟩
  by_cases bd:i<1
  rotate_left
  ·obtain rfl:i=1:=by omega
   have d1:¬((1:an):av)<((1:an):av):=by omega
   simp only[aj,QS,↓ab,hn,h7,h8,a2 d1]
   exact hQ _ _ _ ⟨rfl,rfl,by simp only[ag,hn],by simp only[ad,↓ab,Qx,h3];try rfl⟩
  obtain rfl:i=0:=by omega
  have h3:f.get 3= .int .u32 1:=h3
  have d1:((0:an):av)<((1:an):av):=by omega
  have sn:=hy.indexAddr (P:=ao) (k:= .i64) (x:=((0:an):av)) c8 fT (by omega) (by omega)
  rw[a9] at sn
  have k1:=hy.di (P:=ao) fU (k:=0) (by omega)
  have k1:aJ ao t 22 (bc 1 y 0)=some x:=k1
  simp only[aj,ak,aa,QS,Qx,↓ab,hn,h3,h6,h7,h8,bb d1,sn,k1]
  refine(Wc hl t x l hx hlen).mono ?_
  rintro _ t2 ⟨rfl,rfl⟩
  simp only[aj,QS,Qx,↓ab,hn,h8]
  exact ay 0 (by omega) ⟨1,rfl,by omega,rfl,by simp only[ag,hn],by simp only[ad,↓ab,Qx];try rfl,by simp only[ad,↓ab,Qx,h6],by simp only[ad,↓ab,Qx,h7],by simp only[ad,↓ab];try rfl⟩
 clear hn h0 f
 rintro z f t ⟨rfl,rfl,hn,h3⟩
 simp only[aj,al,oneOf,QS,↓ab,hn,h3,Tryz.results104]
 try exact⟨rfl,rfl⟩
end Go.Proofs.YtdfjfncifneocaaGreat
namespace Go.Proofs.YtdfjfncifneocaaGreat
open Go.Cl Go.Cl.Sto
theorem Lp {lib:aA}(hl:lib.at 174=none)(s:aq)(b:Bool):
  Runs ao lib 174 [.bool b] s fun v s' =>v= .int .i64 (if b then 1 else 0)/\s' =s:=by
 refine Runs.enter 4 Tryz.func174 rfl hl rfl rfl ?_
 intro f hn hf
 have h0:f.get 0= .bool b:=hf 0
 clear hf
 cases b with
 |true=>simp only[aj,al,oneOf,QS,Qx,↓ab,hn,h0,dD]
 |false=>simp only[aj,al,oneOf,QS,Qx,↓ab,hn,h0,dD]
theorem Oy {lib:aA}(hl:lib.at 134=none)(J5:lib.at 174=none)(s:aq)(x:a0)(l:a6 bg)(hx:aN s 1 x l.length (ofBytes l))(hlen:l.length<=1000000000):
  Runs ao lib 134 [x] s fun v s' =>cM s v s' (uB l):=by
 refine Runs.enter 41 Tryz.func134 rfl hl rfl rfl ?_
 intro f hn hf
 have h0:f.get 0=x:=hf 0
 clear hf
 have oH:blocks l.length<=200000:=by unfold blocks;omega
 simp only[aj,QS,↓ab,hn]
 refine Comes.eZ (fun q f s' =>∃(r P:a6 bg) (o w:a0),q=r.length/\P++uB r=uB l/\r.length<=l.length/\Own s' 1 o P.length (ofBytes P)/\aF s.next o/\aN s' 1 w r.length (ofBytes r)/\(∀s2,ar s.next s s2->aN s2 1 w r.length (ofBytes r))/\ar s.next s s' /\f.n=41/\f.get 0=w/\f.get 3=o)
  ⟨l,[],_,x,rfl,rfl,by omega,.nil,aF.nil _,hx,fun s2 h2=>hx.keeps h2,ar.refl _ _,by simp only[ad,ag,↓ab,Qx,hn,h0,cg]⟩ ?_
 clear hn h0 f
 rintro q f s1 ⟨r,P,o,w,rfl,hP,mO,ho,hoF,hw,hwA,aE,hn,h0,h3⟩
 have pE:=qX _ l (a3 _)
 have hsr:=qX _ r (a3 _)
 have hPl:P.length+(uB r).length=l.length+5*blocks l.length:=by rw[<-pE,<-hP,bk]
 by_cases Fj:r.length<=65535
 ·have e1:¬(65535:av)<r.length:=by omega
  have alS:r.length<4611686018427387904:=by omega
  simp only[aj,ak,aa,QS,Qx,↓ab,hn,h0,h3,hw.bm af,e1]
  refine(Lp J5 s1 true).mono ?_
  rintro _ s2 ⟨rfl,cR⟩
  subst cR
  have eb:ea.wrap 1=((a1 1).toNat:av):=rfl
  simp(disch:=omega)only[aj,ae,QS,Qx,↓ab,hn,bL cx b7,eb,b0,ZY,QF,b1,ahk,b2,b3,VI af bK ks]
  refine bG af bK jW ks rfl ho (by simp only[ad,↓ab,Qx]) (by decide) (by simp only[ag,hn];decide) (by simp only[ag,hn];decide) (by rfl) (by decide) rfl (by omega) (by omega) hoF aE.next ?_
  intro bs o2 s3 fN adQ bC _ _
  have gj:=aE.trans bC
  have Nt:=hwA s3 gj
  have dx:=Nt.p9 (lo:=0) (hi:=r.length) (by omega) (by omega)
  rw[c7,dd] at dx
  have Lq:(r.take (r.length)).length=r.length:=by rw[cz];omega
  rw[Lq] at dx
  simp(disch:=omega)only[aj,aa,ai,QS,Qx,↓ab,hn,h0,Nt.iS af bK]
  refine bY af af (.inl ⟨_,rfl⟩) bK jW ks rfl fN dx.src (by rw[bM,Lq,dt]) (by decide) (dh _) (by omega) (by omega) adQ gj.next ?_
  intro o4 s4 wz adR dX _ _
  have hh:[bz .u8 (((a1 1).toNat:an):av),bz .u8 (((a1 (r.length)).toNat:an):av),bz .u8 (((a1 (r.length/256)).toNat:an):av),bz .u8 (((a1 (255-r.length%256)).toNat:an):av),bz .u8 (((a1 (255-r.length/256%256)).toNat:an):av)]=ofBytes (FP (r.length) 1):=rfl
  rw[hh] at wz
  have jC:=gj.trans dX
  have Lr:=hwA s4 jC
  have xN:=Lr.p9 (lo:=r.length) (hi:=r.length) (by omega) (by omega)
  rw[List.drop_length,List.take_nil] at xN
  have e2:((([]:a6 bg).length:an):av)=0:=rfl
  simp(disch:=omega)only[aj,al,oneOf,aa,ai,QS,Qx,↓ab,hn,h0,Lr.ff af bK,xN.bm af,e2,Tryz.results134]
  refine⟨?_,adR,jC⟩
  rw[<-hP,tx Fj,bk,bk,iH,br,br,<-cp,<-dO]
  rw[ds] at wz
  exact wz
 ·have e1:(65535:av)<r.length:=by omega
  have e0:¬((65535:av)=r.length):=by omega
  obtain⟨m,hm⟩:∃m:an,m=65535:=⟨_,rfl⟩
  have alS:m<4611686018427387904:=by omega
  simp only[aj,ak,aa,QS,Qx,↓ab,hn,h0,h3,hw.bm af,e1,a2 e0]
  refine(Lp J5 s1 false).mono ?_
  rintro _ s2 ⟨rfl,cR⟩
  subst cR
  have eb:ea.wrap 0=((a1 0).toNat:av):=rfl
  have en:(65535:av)=(m:av):=by omega
  simp only[aj,QS,↓ab,hn,en]
  simp(disch:=omega)only[aj,ae,QS,Qx,↓ab,hn,bL cx b7,eb,b0,ZY,QF,b1,ahk,b2,b3,VI af bK ks]
  refine bG af bK jW ks rfl ho (by simp only[ad,↓ab,Qx]) (by decide) (by simp only[ag,hn];decide) (by simp only[ag,hn];decide) (by rfl) (by decide) rfl (by omega) (by omega) hoF aE.next ?_
  intro bs o2 s3 fN adQ bC _ _
  have gj:=aE.trans bC
  have Nt:=hwA s3 gj
  have dx:=Nt.p9 (lo:=0) (hi:=m) (by omega) (by omega)
  rw[c7,dd] at dx
  have Lq:(r.take (m)).length=m:=by rw[cz];omega
  rw[Lq] at dx
  simp(disch:=omega)only[aj,aa,ai,QS,Qx,↓ab,hn,h0,Nt.iS af bK]
  refine bY af af (.inl ⟨_,rfl⟩) bK jW ks rfl fN dx.src (by rw[bM,Lq,dt]) (by decide) (dh _) (by omega) (by omega) adQ gj.next ?_
  intro o4 s4 wz adR dX _ _
  have hh:[bz .u8 (((a1 0).toNat:an):av),bz .u8 (((a1 (m)).toNat:an):av),bz .u8 (((a1 (m/256)).toNat:an):av),bz .u8 (((a1 (255-m%256)).toNat:an):av),bz .u8 (((a1 (255-m/256%256)).toNat:an):av)]=ofBytes (FP (m) 0):=rfl
  rw[hh] at wz
  have jC:=gj.trans dX
  have Lr:=hwA s4 jC
  have xN:=Lr.p9 (lo:=m) (hi:=r.length) (by omega) (by omega)
  have et:(r.drop m).take (r.length-m)=r.drop m:=List.take_of_length_le (by rw[b8];omega)
  rw[et] at xN
  have cH:¬(((r.drop m).length:an):av)=0:=by rw[b8];omega
  simp(disch:=omega)only[aj,aa,ai,QS,Qx,↓ab,hn,h0,Lr.ff af bK,xN.bm af,a2 cH]
  refine ay (r.drop m).length (by rw[b8];omega) ⟨r.drop m,P++(FP m 0++r.take m),o4,dJ 1 w m r.length,rfl,?_,by rw[b8];omega,?_,adR,xN,fun s2 h2=> ?_,jC,by simp only[ad,ag,↓ab,Qx,hn,cg]⟩
  ·rw[<-hP,tz Fj,<-hm,cp]
  ·rw[br,br,bk,bk,iH,Lq,<-cp,<-dO]
   exact wz
  ·have:=(hwA s2 h2).p9 (lo:=m) (hi:=r.length) (by omega) (by omega)
   rw[et] at this
   exact this
end Go.Proofs.YtdfjfncifneocaaGreat
namespace Go.Cl
def Room (s:aq)(v:a0)(n:an)(l:a6 a0):Prop:=Own s 1 v n l\/(n=0/\l=[]/\∃i off,v= .slice (some ⟨i,off,none⟩) 0 0)
theorem Room.aG {s:aq}{v:a0}{n:an}{l:a6 a0}(h:Room s v n l):aN s 1 v n l:=by
 rcases h with h|⟨rfl,rfl,i,off,rfl⟩
 ·exact h.aG
 ·exact .bare i off
theorem Room.own {s:aq}{v:a0}{n:an}{l:a6 a0}(h:Room s v n l)(hn:0<n):Own s 1 v n l:=by
 rcases h with h|⟨h,_⟩
 ·exact h
 ·omega
theorem Ls (l:a6 a0)(off:an):over l off []=l:=by unfold over;simp
theorem Lt {a b c:a6 a0}{off:an}(h:off=a.length):over (a++c) off b=a++b++c.drop b.length:=by
 subst h
 unfold over
 rw[List.take_left,<-List.drop_drop,List.drop_left]
theorem Room.ahw {P:cc}{t e:c6}(hu:P.underlying t=some (.slice e))(cf:aX P e=some 1){s:aq}{v:a0}{n:an}{l:a6 a0}(h:Room s v n l){lo:an}(oI:lo<=n){y y2:a0}{k:an}{new:a6 a0}
  (hc:qF (n-lo) y=some (k,y2)) (hs:k≠0->dV s 1 y2=some (k,new)) (hk:new.length=k) (Lu:k<=n-lo) (dH:new.all aL=true):
  ∃s',mN P s t (dJ 1 v lo n) y=some (.int .i64 k,s')/\Room s' v n (over l lo new)/\bt v s s' /\s'.next=s.next:=by
 have hzero:k=0->∀a c,mN P s t (.slice a (n-lo) c) y=some (.int .i64 k,s):=by
  intro h0 a c
  subst h0
  unfold mN
  simp only[hu,cf,hc];rfl
 rcases h with h|⟨rfl,rfl,i,off,rfl⟩
 ·cases h with
  |nil=>
   obtain rfl:k=0:=by omega
   obtain rfl:new=[]:=a4 hk
   obtain rfl:lo=0:=by omega
   refine⟨s,hzero rfl none 0,?_,⟨a3 _,fun _ _ _=>rfl⟩,rfl⟩
   rw[Ls];exact .inl .nil
  |of i n low l hi hb hl hlen=>
   have eU:l.length=n:=by omega
   cases k with
   |zero=>
    obtain rfl:new=[]:=a4 hk
    refine⟨s,hzero rfl _ _,?_,⟨a3 _,fun _ _ _=>rfl⟩,rfl⟩
    rw[Ls];exact .inl (.of i n low l hi hb hl hlen)
   |succ k=>
    have Bp:(over l lo new).length=l.length:=tw (by omega)
    have zf:setAt l (0+lo*1) new=some (over l lo new):=by
     rw[show 0+lo*1=lo by omega];exact jy _ _ _ (by omega)
    have aE:s.storeAt i (0+lo*1) (l.length+1) new=some (s.put i (.dZ ⟨over l lo new,l.length+1,true,1⟩)):=by
     unfold aq.storeAt
     have iy:(true&&dT low (l.length+1)&&Nat.beq (l.length+1) (l.length+1)&&new.all aL)=true:=by
      simp only[dH,Bool.and_true,Bool.true_and,Bool.and_eq_true,Nat.ble_eq,ec];exact⟨hl,trivial⟩
     rw[hb]
     simp only[iy,if_true]
     cases new with
     |nil=>simp at hk
     |cons a w=>simp only[zf]
    refine⟨s.put i (.dZ ⟨over l lo new,l.length+1,true,1⟩),?_,.inl ?_,⟨by simp[aq.put],fun j _ hj=> ?_⟩,rfl⟩
    ·unfold mN
     simp only[hu,cf,dJ,hc,hs (by omega),aE,Nat.beq_refl]
    ·have:=Own.of (s:=s.put i (.dZ ⟨over l lo new,l.length+1,true,1⟩)) (z:=1) i n (l.length+1) (over l lo new) (by simpa [aq.put] using hi) (aq.ck _ _ _ (by omega)) (by omega) (by omega)
     rw[Bp] at this
     exact this
    ·rw[aq.bP]
     intro e;subst e;exact hj rfl
 ·obtain rfl:k=0:=by omega
  obtain rfl:new=[]:=a4 hk
  obtain rfl:lo=0:=by omega
  refine⟨s,?_,.inr ⟨rfl,rfl,i,off,rfl⟩,⟨a3 _,fun _ _ _=>rfl⟩,rfl⟩
  exact hzero rfl (some ⟨i,off+0*1,none⟩) 0
theorem Wd {s:aq}{v:a0}{n:an}{l:a6 a0}(h:Room s v n l):dJ 1 v 0 n=v:=by
 rcases h with h|⟨rfl,rfl,i,off,rfl⟩
 ·cases h<;>simp[dJ]
 ·simp[dJ]
theorem aN.qF {s:aq}{y:a0}{m:an}{new:a6 a0}(h:aN s 1 y m new)(r:an):∃y2,Cl.qF r y=some (min m r,y2)/\dV s 1 y2=some (min m r,new.take (min m r)):=by
 have hl:=h.length
 have dx:=(h.cut (lo:=0) (hi:=min m r) (by omega) (by omega)).src
 rw[Nat.zero_mul,c7,dd,dt] at dx
 cases h with
 |nil=>exact⟨.slice none (min 0 r) 0,rfl,by simpa [dJ] using dx⟩
 |bare i off=>exact⟨.slice (some ⟨i,off,none⟩) (min 0 r) 0,rfl,by simpa [dJ] using dx⟩
 |of i off n c b l hi hb hz hl hc hlen fy ht=>exact⟨.slice (some ⟨i,off,none⟩) (min m r) c,rfl,by simpa [dJ] using dx⟩
theorem Room.slice {P:cc}{t e:c6}(hu:P.underlying t=some (.slice e))(cf:aX P e=some 1){s:aq}{v:a0}{n:an}{l:a6 a0}(h:Room s v n l){k:dE}{x:av}(h0:0<=x)(h2:x<=n):dj P s t v (some (.int k x)) none none=some (dJ 1 v x.toNat n):=h.aG.ff hu cf h0 h2
theorem Own.tight {P:cc}{t e:c6}(hu:P.underlying t=some (.slice e))(cf:aX P e=some 1){s:aq}{v:a0}{n:an}{l:a6 a0}(h:Own s 1 v n l){k k2:dE}:∃v',dj P s t v none (some (.int k (n:an))) (some (.int k2 (n:an)))=some v' /\Room s v' n l/\(0<n->v' =v)/\(∀i,aI v' =some i->aI v=some i):=by
 have g8:∀k d,gV (some (.int k ((n:an):av))) d=some n:=fun _ _=>rfl
 cases h with
 |nil=>
  refine⟨.slice none 0 0,?_,.inl .nil,fun h=>(by omega),fun i h=>h⟩
  unfold dj;rw[hu];simp[gV,cf]
 |of i n low l hi hb hl hlen=>
  have eU:l.length=n:=by omega
  have he:kv s i (l.length+1) 1=true:=by
   unfold kv
   split
   ·rfl
   ·rw[hb];rfl
  have hle:(dT 0 n&&dT n n)=true:=by simp
  by_cases h0:n=0
  ·subst h0
   refine⟨.slice (some ⟨i,0,none⟩) 0 0,?_,.inr ⟨rfl,a4 eU,i,0,rfl⟩,fun h=>(by omega),fun j h=>h⟩
   unfold dj;rw[hu];simp only[fR,g8,cf,hle,if_true,he];rfl
  ·refine⟨.slice (some ⟨i,0,none⟩) n (l.length+1),?_,.inl (.of i n low l hi hb hl hlen),fun _=>rfl,fun j h=>h⟩
   unfold dj;rw[hu]
   have sG:Nat.beq 0 n=false:=by
    rw[<-Bool.not_eq_true,ec];omega
   simp only[fR,g8,cf,hle,if_true,he,sG]
   simp
section
variable {P:cc} {lib:aA} {all r:a6 Oper} {f:aW} {s:aq} {d:Option Tmp} {Q:aW->aq->Prop}
theorem DD {t e:c6}(hu:P.underlying t=some (.slice e))(cf:aX P e=some 1){v:a0}{n:an}{l:a6 a0}(h:Room s v n l){lo:an}(oI:lo<=n){y:a0}{m:an}{new:a6 a0}(hy:aN s 1 y m new)(dH:new.all aL=true)
  (K:∀s',Room s' v n (over l lo (new.take (min m (n-lo))))->bt v s s' ->s'.next=s.next->dW P lib all r f s d Q (some (.val (.int .i64 ((min m (n-lo):an):av)) s'))):dW P lib all r f s d Q (oF (mN P s t (dJ 1 v lo n) y)):=by
 obtain⟨y2,h1,h2⟩:=hy.qF (n-lo)
 have hl:=hy.length
 obtain⟨s',g1,g2,g3,g4⟩:=h.ahw hu cf oI h1 (fun _=>h2) (by rw[cz];omega) (by omega) (by
  rw[List.all_eq_true] at dH|-
  exact fun x hx=>dH x (List.mem_of_mem_take hx))
 rw[g1,ft]
 exact K s' g2 g3 g4
theorem FU {t e:c6}(hu:P.underlying t=some (.slice e))(cf:aX P e=some 1){v:a0}{n:an}{l:a6 a0}(h:Room s v n l){y:a0}{m:an}{new:a6 a0}(hy:aN s 1 y m new)(dH:new.all aL=true)
  (K:∀s',Room s' v n (over l 0 (new.take (min m n)))->bt v s s' ->s'.next=s.next->dW P lib all r f s d Q (some (.val (.int .i64 ((min m n:an):av)) s'))):dW P lib all r f s d Q (oF (mN P s t v y)):=by
 have:=DD (lib:=lib) (all:=all) (r:=r) (f:=f) (d:=d) (Q:=Q) hu cf h (Nat.zero_le n) hy dH K
 rwa [Wd h] at this
end
theorem Runs.Z8 {P:cc}{lib:aA}{g:FuncId}{p:Prim}(h:lib.at g=some p)(hf:yQ p){args:a6 a0}{s s' :aq}{v:a0}{Q:a0->aq->Prop}(hp:p args s=some (v,s'))(hq:Q v s'):Runs P lib g args s Q:=by
 intro hw
 obtain⟨_,_,_,hk⟩:=hf s s (fun _=>none) args v s' (cI.refl s) hw hp
 refine⟨v,s',⟨0,fun m _=> ?_⟩,hk,hq⟩
 simp only[gX,eF,h,hp]
theorem S3 {P:cc}{t e:c6}{z:an}(hu:P.underlying t=some (.slice e))(cf:aX P e=some z)(s:aq)(a:Option Addr)(n c:an):mN P s t (.slice a n c) (.slice none 0 0)=some (.int .i64 0,s):=by
 unfold mN
 simp only[hu,cf,Cl.qF,Nat.zero_min]
def oU:Prim:=fun args s=>
 match args with
 |[.int .i64 (.ofNat n)]=>if dT n 4294967296 then aZ s (List.replicate n (.chan none)) n 1 else none
 |_=>none
def iX:Prim:=fun args s=>
 match args with
 |[.string a,.string b]=>some (.int .i64 (Extern.BytealgCompare.cmp a b),s)
 |_=>none
end Go.Cl
