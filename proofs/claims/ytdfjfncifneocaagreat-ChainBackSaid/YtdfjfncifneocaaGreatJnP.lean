import Derived.Test.YtdfjfncifneocaaGreatNfI
open _root_ renaming reduceIte->ab,Nat->an,UInt8->ao,List->av,eq_false->a2,Int->a4,if_neg->a6,if_pos->bg,decide_eq_false->bo,decide_eq_true->bs,eq_true->b4,of_decide_eq_true->ca,Except->c3,and_self->ea
open Go.Proofs.Tryz renaming prog->af,underlying22->a0,results216->a9,underlying112->bl,results188->bq,results221->b8,underlying3->cb,underlying5->cf,results222->cz,results103->cR,results148->dd,results101->ds,results36->dv
open BitVec renaming ofInt->a1,toNat_ofNat->a5,ofInt_natCast->a8,toNat_xor->cp,ofNat->dH
open Go.IntKind renaming i64->a3
open Nat renaming mod_eq_of_lt->a7,pow_le_pow_right->b5,le_refl->b7,testBit_two_pow->c4,reduceAdd->c5,reduceSub->c6,xor_lt_two_pow->c7,lt_of_lt_of_le->c8,mul_le_mul->dt,xor_assoc->dC,sub_self->dE,xor_self->dT,xor_zero->dX
open Go renaming Value->bb
open List renaming length_append->bk,length_singleton->bz,take_of_length_le->cv,length_take->c9,length_drop->dc
open Nat renaming reduceLT->QS,reduceEqDiff->Qx
set_option maxHeartbeats 8000000
set_option linter.unusedSimpArgs false
set_option linter.unusedVariables false
set_option maxRecDepth 100000
namespace Go.Cl.Nf
open Go.Cl.Fx Go.Cl.Sto
def wq (D:av ao)(s g from_ p:an):c3 an (an×an):=
 if s<2*g then .ok (from_+s,p) else match dQ D p (s/g-1) with
  | .error e=> .error e
  | .ok x=> .ok (from_+(g+s%g)*2^(s/g-1)+x,p+(s/g-1))
def yn (D:av ao)(s p:an):c3 an (an×an):=match dQ D p (pJ s) with| .error e=> .error e| .ok x=> .ok (lenOf s x,p+pJ s)
def HX (D:av ao)(s p:an):c3 an (an×an):=match dQ D p (yg s) with| .error e=> .error e| .ok x=> .ok (qy s x,p+yg s)
theorem Pz (D:av ao){s p:an}(h1:257<=s)(h2:s<285)(hp:p<=8*D.length):wq D (s-257) 4 3 p=yn D s p:=by
 unfold wq yn
 by_cases c:s<=264
 ·have ew:pJ s=0:=by unfold pJ;rw[bg (.inl c)]
  rw[bg (by omega),ew,eN (by omega)]
  dsimp only
  have eo:lenOf s (cj D p 0)=s-254:=by unfold lenOf;rw[bg c]
  rw[eo,show 3+(s-257)=s-254 by omega,Nat.add_zero]
 ·have ew:pJ s=(s-261)/4:=by unfold pJ;rw[a6 (by omega)]
  have e1:(s-257)/4-1=(s-261)/4:=by omega
  have e2:(s-257)%4=(s-265)%4:=by omega
  rw[a6 (by omega),ew,e1,e2]
  cases dQ D p ((s-261)/4) with
  |error e=>rfl
  |ok x=>
   dsimp only
   have eo:lenOf s x=(4+(s-265)%4)*2^((s-261)/4)+3+x:=by unfold lenOf;rw[a6 c,a6 (by omega)]
   rw[eo]
   generalize (4+(s-265)%4)*2^((s-261)/4)=X
   rw[show 3+X+x=X+3+x by omega]
theorem PA (D:av ao){s p:an}(hp:p<=8*D.length):wq D s 2 1 p=HX D s p:=by
 unfold wq HX
 by_cases c:s<=3
 ·have ew:yg s=0:=by unfold yg;rw[bg c]
  rw[bg (by omega),ew,eN (by omega)]
  dsimp only
  have eo:qy s (cj D p 0)=s+1:=by unfold qy;rw[bg c]
  rw[eo,Nat.add_comm 1 s];rfl
 ·have ew:yg s=s/2-1:=by unfold yg;rw[a6 c]
  rw[a6 (by omega),ew]
  cases dQ D p (s/2-1) with
  |error e=>rfl
  |ok x=>
   dsimp only
   have eo:qy s x=(2+s%2)*2^(s/2-1)+1+x:=by unfold qy;rw[a6 c]
   rw[eo]
   generalize (2+s%2)*2^(s/2-1)=X
   rw[show 1+X+x=X+1+x by omega]
theorem XY (D:av ao)(M:an)(B:av an)(s p:an)(P:av ao):rZ D M B s p P=if 285<s then .error 4 else AV (yn D s p) fun a=>AV (sym D B a.2) fun c=>if 30<=c.1 then .error 4 else AV (HX D c.1 c.2) fun b=>if P.length<b.1 then .error 4 else AV (rep M b.1 a.1 P) fun P' => .ok (b.2,P'):=by
 unfold rZ yn
 split
 ·rfl
 cases dQ D p (pJ s) with
 |error e=>rfl
 |ok x=>
  dsimp only
  rw[kT]
  dsimp only
  cases sym D B (p+pJ s) with
  |error e=>rfl
  |ok c=>
   rw[kT]
   dsimp only
   split
   ·rfl
   unfold HX
   cases dQ D c.2 (yg c.1) with
   |error e=>rfl
   |ok y=>
    dsimp only
    rw[kT]
    dsimp only
    split
    ·rfl
    cases rep M (qy c.1 y) (lenOf s x) P with
    |error e=>rfl
    |ok P' =>rfl
end Go.Cl.Nf
namespace Go.Proofs.YtdfjfncifneocaaGreat
open Go.Cl Go.Cl.Rw Go.Cl.Sto Go.Cl.Fx Go.Cl.Nf Go.Cl.Bt
def ai9 (base jr jx ic:an)(D P:av ao)(M:a4)(o:bb)(s:aq)(v:bb)(s' :aq):c3 an (an×an)->Prop
 | .ok (x,q)=>v= .tuple #[.int .i64 (x:an),.int .i64 0]/\Rs base s' jr jx ic D q P M o/\lW jx ic s s'
 | .error e=>0<e/\(∃n:a4,v= .tuple #[.int .i64 n,.int .i64 (e:an)])/\lW jx ic s s'
theorem A0 {lib:aA}(hL:Po lib)(base:an)(s:aq)(jr jx ic:an)(D P:av ao)(p:an)(M:a4)(o:bb)(h:Rs base s jr jx ic D p P M o)(hb:base<=s.next)(hlen:D.length<=4000000)(q g fr:an)(hg:(g=4/\q<=27)\/(g=2/\q<=29))(pg:fr<=10):
  Runs af lib 222 [su jr,.int .i64 (q:an),.int .i64 (g:an),.int .i64 (fr:an)] s fun v s' =>ai9 base jr jx ic D P M o s v s' (wq D q g fr p):=by
 refine Runs.enter 45 Tryz.func222 rfl (hL _ rfl) rfl rfl ?_
 intro f hn hf
 have h0:f.get 0=su jr:=hf 0
 have h1:f.get 1= .int .i64 (q:an):=hf 1
 have h2:f.get 2= .int .i64 (g:an):=hf 2
 have h3:f.get 3= .int .i64 (fr:an):=hf 3
 clear hf
 have r0:=h.t.load (P:=af) jP (off:=0) (c:=4) rfl (by simp)
 unfold wq
 by_cases c1:q<2*g
 ·have d1:(q:a4)<2*(g:a4):=by omega
  have e1:(fr:a4)+(q:a4)=((fr+q:an):a4):=by omega
  rw[bg c1]
  simp(disch:=omega)only[aj,al,oneOf,QS,Qx,↓ab,hn,h1,h2,h3,aD,b4 d1,e1,cz]
  exact⟨rfl,h,lW.refl _ _ _⟩
 have d1:¬(q:a4)<2*(g:a4):=by omega
 rw[a6 c1]
 have hgz:¬(g:a4)=0:=by omega
 have q4:(q:a4).tdiv (g:a4)=((q/g:an):a4):=by rw[Int.tdiv_eq_ediv_of_nonneg (by omega)];rfl
 have r4:(q:a4).tmod (g:a4)=((q%g:an):a4):=by rw[Int.tmod_eq_emod_of_nonneg (by omega)];rfl
 have hqg:2<=q/g/\q/g<=14/\q%g<=3/\(g=4->q/g<=6):=by rcases hg with ⟨rfl,h⟩|⟨rfl,h⟩<;>omega
 have e2:((q/g:an):a4)-1=((q/g-1:an):a4):=by omega
 have e3:(g:a4)+((q%g:an):a4)=((g+q%g:an):a4):=by omega
 have anU:(g+q%g)*2^(q/g-1)<=100000:=by
  rcases hg with ⟨rfl,h⟩|⟨rfl,h⟩
  ·have h1:2^(q/4-1)<=2^5:=b5 (by omega) (by omega)
   have h2:(4+q%4)*2^(q/4-1)<=7*2^5:=dt (by omega) h1
   have h3:(2:an)^5=32:=by decide
   omega
  ·have h1:2^(q/2-1)<=2^13:=b5 (by omega) (by omega)
   have h2:(2+q%2)*2^(q/2-1)<=3*2^13:=dt (by omega) h1
   have h3:(2:an)^13=8192:=by decide
   omega
 have tC:=alP af 3 .i64 (x:=g+q%g) (k:=q/g-1) (by omega) (by omega)
 have oH:=jz D p (q/g-1)
 have hpw:2^(q/g-1)<=2^13:=b5 (by omega) (by omega)
 have atr:(2:an)^13=8192:=by decide
 generalize hX:(g+q%g)*2^(q/g-1)=X at anU tC
 simp(disch:=omega)only[aj,ak,aa,QS,Qx,↓ab,hn,h0,h1,h2,aD,a2 d1,iQ,q4,e2,qA,r0]
 refine(oh hL base s jx ic D p (q/g-1) h.bit hb (by omega) hlen).mono ?_
 intro v s1 hN
 cases hx:dQ D p (q/g-1) with
 |error e=>
  rw[hx] at hN
  obtain⟨rfl,rfl,fk⟩:=hN
  have e4:(fr:a4)+((X:an):a4)+0=((fr+X:an):a4):=by omega
  simp(disch:=omega)only[aj,al,oneOf,QS,Qx,↓ab,hn,h1,h2,h3,dF,dG,fg,r4,e3,aD,tC,e4,cz]
  exact⟨by decide,⟨_,rfl⟩,fk⟩
 |ok y=>
  rw[hx] at hN
  obtain⟨rfl,hB,fk⟩:=hN
  have hy:=(yi hx).2
  have e4:(fr:a4)+((X:an):a4)+((y:an):a4)=((fr+X+y:an):a4):=by omega
  simp(disch:=omega)only[aj,al,oneOf,QS,Qx,↓ab,hn,h1,h2,h3,dF,dG,fg,r4,e3,aD,tC,e4,cz]
  exact⟨rfl,h.bits hB fk,fk⟩
theorem MI {lib:aA}(hL:Po lib)(base:an)(s:aq)(jr jx ic:an)(D P:av ao)(p:an)(M:a4)(o:bb)(h:Rs base s jr jx ic D p P M o)(hb:base<=s.next)(hlen:D.length<=4000000)(q:an)(hq:257<=q)(Bq:q<=400):
  Runs af lib 221 [su jr,.int .i64 (q:an)] s fun v s' =>ai9 base jr jx ic D P M o s v s' (if 285<q then .error 4 else yn D q p):=by
 refine Runs.enter 16 Tryz.func221 rfl (hL _ rfl) rfl rfl ?_
 intro f hn hf
 have h0:f.get 0=su jr:=hf 0
 have h1:f.get 1= .int .i64 (q:an):=hf 1
 clear hf
 have hpD:=h.bit.le
 by_cases c1:q=285
 ·have d1:(q:a4)=285:=by omega
  rw[a6 (by omega)]
  have e:yn D q p= .ok (258,p):=by
   subst c1
   unfold yn
   have ew:pJ 285=0:=rfl
   rw[ew,eN (by omega)];rfl
  rw[e]
  simp only[aj,al,oneOf,QS,Qx,↓ab,hn,h1,b4 d1,b8]
  exact⟨rfl,h,lW.refl _ _ _⟩
 have d1:¬(q:a4)=285:=by omega
 by_cases c2:285<q
 ·have d2:(q:a4)>285:=by omega
  rw[bg c2]
  simp only[aj,al,oneOf,QS,Qx,↓ab,hn,h1,a2 d1,b4 d2,b8]
  exact⟨by decide,⟨_,rfl⟩,lW.refl _ _ _⟩
 have d2:¬(q:a4)>285:=by omega
 rw[a6 c2,<-Pz D hq (by omega) hpD]
 have e1:(q:a4)-257=((q-257:an):a4):=by omega
 simp(disch:=omega)only[aj,ak,aa,QS,Qx,↓ab,hn,h0,h1,a2 d1,a2 d2,aD,e1]
 refine(A0 hL base s jr jx ic D P p M o h hb hlen (q-257) 4 3 (.inl ⟨rfl,by omega⟩) (by omega)).mono ?_
 intro v s1 hG
 cases hx:wq D (q-257) 4 3 p with
 |error e=>
  rw[hx] at hG
  obtain⟨he,⟨n,rfl⟩,fk⟩:=hG
  simp only[aj,al,oneOf,QS,Qx,↓ab,hn,dF,dG,b8]
  exact⟨he,⟨n,rfl⟩,fk⟩
 |ok y=>
  obtain⟨y,r⟩:=y
  rw[hx] at hG
  obtain⟨rfl,hR,fk⟩:=hG
  simp only[aj,al,oneOf,QS,Qx,↓ab,hn,dF,dG,b8]
  exact⟨rfl,hR,fk⟩
def abd (jr jx ic:an)(o:bb)(s:aq)(v:bb)(C:av an):Prop:=∃sv,v= .agg (cw C sv).toArray/\Gd jx ic s sv C/\(∀i,aI sv=some i->i≠jr/\aI o≠some i)
theorem mq (k:IntKind)(a b:a4):bZ (.tuple #[.int k a,.int k b]) (.tuple #[.int k a,.int k b])=true:=by simp[bZ,qI,yH,cN]
theorem T0 {lib:aA}(hL:Po lib)(base:an)(s:aq)(jr jx ic:an)(D P:av ao)(p m:an)(M:a4)(hM:m=M.toNat)(o:bb)(h:Rs base s jr jx ic D p P M o)(hb:base<=s.next)(hlen:D.length<=4000000)(PB:P.length<=m)(hm:m<=100000000)(q:an)(hq:257<=q)(Bq:q<=400)(v:bb)(B:av an)(hB:abd jr jx ic o s v B)(Ln:B.length<=1000):
  Runs af lib 216 [su jr,.int .i64 (q:an),v] s fun v s' =>JO base jr jx ic D M o s v s' (rZ D m B q p P):=by
 obtain⟨sv,rfl,hS,hSo⟩:=hB
 rw[XY]
 have bd:=h.bit.lt
 refine Runs.enter 72 Tryz.func216 rfl (hL _ rfl) rfl rfl ?_
 intro f hn hf
 have h0:f.get 0=su jr:=hf 0
 have h1:f.get 1= .int .i64 (q:an):=hf 1
 have h2:f.get 2= .agg (cw B sv).toArray:=hf 2
 clear hf
 simp only[aj,QS,↓ab,hn,h2]
 refine aw ?_
 intro s1 hbx bn iV
 obtain⟨jb,Rg⟩:∃j,j=s.next:=⟨_,rfl⟩
 rw[<-Rg] at hbx
 have pH:=h.keeps hb bn
 have gL:base<=s1.next:=by omega
 have k1:uF jr jx ic o s o s1:=(uF.refl jr jx ic o s).kept bn
 have Bp:∀i,aI o=some i->i<s.next:=fun i hi=>h.own.iD i hi
 have dU:∀o' t,uF jr jx ic o s o' t->ar base s t:=fun o' t k=>k.stay h.lr bd.2.2.1 bd.2.2.2.1 h.fresh hb
 simp only[aj,ak,aa,QS,Qx,c5,↓ab,hn,h0,h1,<-Rg,az]
 refine(MI hL base s1 jr jx ic D P p M o pH gL hlen q hq Bq).mono ?_
 intro v s2 hG
 by_cases cg:285<q
 ·rw[bg cg] at hG|-
  obtain⟨-,⟨n,rfl⟩,fk⟩:=hG
  simp only[aj,ak,al,oneOf,QS,Qx,↓ab,hn,dF,dG,a2 (show¬((4:an):a4)=0 by decide),a9]
  exact⟨by decide,rfl,dU _ _ (k1.trans (rF fk))⟩
 rw[a6 cg] at hG|-
 cases hx:yn D q p with
 |error e=>
  rw[hx] at hG
  obtain⟨he,⟨n,rfl⟩,fk⟩:=hG
  have c0:¬(e:a4)=0:=by omega
  simp only[aj,ak,al,oneOf,QS,Qx,↓ab,hn,dF,dG,a2 c0,a9]
  rw[nD]
  exact⟨he,rfl,dU _ _ (k1.trans (rF fk))⟩
 |ok a=>
 obtain⟨n,q2⟩:=a
 rw[hx] at hG
 obtain⟨rfl,iu,Bz⟩:=hG
 rw[kT]
 dsimp only
 have anV:n<=1000:=by
  unfold yn at hx
  cases hy:dQ D p (pJ q) with
  |error e=>rw[hy] at hx;cases hx
  |ok y=>
   rw[hy] at hx
   injection hx with hx
   injection hx with hx _
   have:=(yi hy).2
   have oH:=jz D p (pJ q)
   rw[<-hx]
   exact XN (by omega) (by omega)
 have k2:=k1.trans (rF Bz)
 have dI:base<=s2.next:=by have:=Bz.next;omega
 have aaD:=JN hbx Bz.next (Bz.get jb hbx.lt (by omega) (by omega))
 have hS2:=(hS.rto hSo k1).to Bz
 have r0:=iu.t.load (P:=af) jP (off:=0) (c:=4) rfl (by simp)
 simp only[aj,ak,QS,Qx,↓ab,hn,dF,dG]
 obtain⟨A,hA⟩:∃A:an->Bool,A=fun j=>decide (j<s2.next):=⟨_,rfl⟩
 have iU:∀j,A j=true->j<s2.next:=by
  intro j h
  rw[hA] at h
  exact ca h
 have vM:∀j,j<s2.next->A j=true:=fun j h=>by rw[hA];exact bs h
 have pk:=ar.spare s2 0
 have Uy:(spare s2 0).next=s2.next+0:=bU _ _
 have JP:=iu.keeps dI pk
 have hbq:=aaD.keeps pk
 have lr:∀k,LA.ej A (some (.pointer (some ⟨jr,k,some 4⟩)))=true:=fun k=>LA.cr (A:=A) (i:=jr) (vM _ iu.t.lt)
 have lb:∀k,LA.ej A (some (.pointer (some ⟨jb,k,some 18⟩)))=true:=fun k=>LA.cr (A:=A) (i:=jb) (vM _ aaD.lt)
 have r0q:=JP.t.load (P:=af) jP (off:=0) (c:=4) rfl (by simp)
 have Pv:=hbq.bF (P:=af) jm (by rw[az];exact dM) (c:=18) (by rw[az])
 have kq:lW jx ic s2 (spare s2 0):=⟨by omega,fun i hi _ _=>pk.get i hi⟩
 refine LB.cX.fi A iU 0 0 (by kernel_rfl) (by kernel_rfl) ?_
 simp only[aj,ak,bH,bI,c6,aa,QS,Qx,↓ab,hn,h0,qA,r0q,Pv,lr,lb,wo B hS2.1]
 refine(Mz hL base (spare s2 0) jx ic D q2 JP.bit (by omega) hlen B sv (hS2.to kq) Ln).mono ?_
 intro v s3 hY
 refine⟨fun h=>h.elim,?_⟩
 cases hy:sym D B q2 with
 |error e=>
  rw[hy] at hY
  obtain⟨he,rfl,fk⟩:=hY
  have c0:¬(e:a4)=0:=by omega
  simp only[aj,ak,bH,bI,oneOf,QS,Qx,↓ab,aj,ak,al,oneOf,QS,Qx,↓ab,hn,dF,dG,mq,a2 c0,a9]
  rw[nD]
  exact⟨he,rfl,dU _ _ (k2.trans (rF (kq.trans fk)))⟩
 |ok c=>
 obtain⟨c,q3⟩:=c
 rw[hy] at hY
 obtain⟨rfl,Az,FQ⟩:=hY
 rw[kT]
 dsimp only
 have AQ:=JP.bits Az FQ
 have k3:=k2.trans (rF (kq.trans FQ))
 have sx:base<=s3.next:=by have:=FQ.next;omega
 by_cases cc:30<=c
 ·have d1:((c:an):a4)>=30:=by omega
  rw[bg cc]
  simp only[aj,ak,bH,bI,oneOf,QS,Qx,↓ab,aj,ak,al,oneOf,QS,Qx,↓ab,hn,dF,dG,mq,b4 d1,a9]
  exact⟨by decide,rfl,dU _ _ k3⟩
 have d1:¬((c:an):a4)>=30:=by omega
 rw[a6 cc]
 simp only[aj,ak,bH,bI,aa,QS,Qx,↓ab,aj,ak,aa,QS,Qx,↓ab,hn,h0,dF,dG,mq,a2 d1]
 refine(A0 hL base s3 jr jx ic D P q3 M o AQ sx hlen c 2 1 (.inr ⟨rfl,by omega⟩) (by omega)).mono ?_
 rw[PA D Az.le]
 intro v s4 hG4
 cases hz:HX D c q3 with
 |error e=>
  rw[hz] at hG4
  obtain⟨he,⟨n',rfl⟩,fk⟩:=hG4
  have c0:¬(e:a4)=0:=by omega
  simp only[aj,ak,al,oneOf,QS,Qx,↓ab,hn,dF,dG,a2 c0,a9]
  rw[nD]
  exact⟨he,rfl,dU _ _ (k3.trans (rF fk))⟩
 |ok b=>
 obtain⟨d,q4⟩:=b
 rw[hz] at hG4
 obtain⟨rfl,yE,to4⟩:=hG4
 rw[kT]
 dsimp only
 have k4:=k3.trans (rF to4)
 have R7:base<=s4.next:=by have:=to4.next;omega
 have uR:1<=d:=by
  unfold HX at hz
  cases hy:dQ D q3 (yg c) with
  |error e=>rw[hy] at hz;cases hz
  |ok y=>
   rw[hy] at hz
   injection hz with hz
   injection hz with hz _
   rw[<-hz]
   unfold qy
   split<;>omega
 have r2:=yE.t.load (P:=af) fU (off:=2) (c:=4) rfl (by simp)
 have XZ:=yE.own.aG.bm (P:=af) a0 (s2:=s4)
 by_cases cd:P.length<d
 ·have d2:((d:an):a4)>((P.length:an):a4):=by omega
  rw[bg cd]
  simp only[aj,ak,al,oneOf,aa,QS,Qx,↓ab,hn,h0,dF,dG,AW,r2,XZ,b4 d2,a9]
  exact⟨by decide,rfl,dU _ _ k4⟩
 have d2:¬((d:an):a4)>((P.length:an):a4):=by omega
 rw[a6 cd]
 simp only[aj,ak,aa,QS,Qx,↓ab,hn,h0,dF,dG,AW,r2,XZ,a2 d2]
 refine Comes.bQ (fun z f t=>∃(i:an) (P1:av ao) (o1:bb),z=n-i/\i<=n/\rep m d (n-i) P1=rep m d n P/\d<=P1.length/\P1.length<=m/\Rs base t jr jx ic D q4 P1 M o1/\uF jr jx ic o s o1 t/\base<=t.next/\f.n=72/\f.get 0=su jr/\f.get 9= .int .i64 (d:an)/\f.get 50= .int .i64 (n:an)/\f.get 51= .int .i64 (i:an))
  (fun z f t=>f.n=72/\((z= .exit 0/\∃(P1:av ao) (o1:bb),rep m d n P= .ok P1/\Rs base t jr jx ic D q4 P1 M o1/\uF jr jx ic o s o1 t)\/(z= .ret/\∃e:an,rep m d n P= .error e/\0<e/\f.get 6= .int .i64 (e:an)/\ar base s t)))
  ⟨0,P,o,rfl,by omega,rfl,by omega,PB,yE,k4,R7,by simp only[ad,ag,↓ab,Qx,hn,h0,true_and];rfl⟩ ?_ ?_
 rotate_left
 ·clear hn h0 h1 h2 f
  rintro z f t ⟨hn,(⟨rfl,P1,o1,PC,hR,fk⟩|⟨rfl,e,PC,he,h6,aE⟩)⟩
  ·simp only[aj,al,oneOf,QS,↓ab,hn,a9]
   rw[PC]
   exact⟨rfl,o1,hR,fk⟩
  ·simp only[aj,al,oneOf,QS,↓ab,hn,h6,a9]
   rw[PC]
   exact⟨he,rfl,aE⟩
 clear hn h0 h1 h2 f r2 XZ
 rintro Q hQ z f t ⟨i,P1,o1,rfl,hi,PC,J6,hP1,hR,fk,JI,hn,h0,h9,h50,h51⟩
 by_cases Kl:i<n
 rotate_left
 ·obtain rfl:i=n:=by omega
  have e1:¬((i:an):a4)<((i:an):a4):=by omega
  rw[dE,rep] at PC
  simp only[aj,QS,↓ab,hn,h50,h51,a2 e1]
  exact hQ _ _ _ ⟨by simp only[ag,hn],.inl ⟨rfl,P1,o1,PC.symm,hR,fk⟩⟩
 have e1:((i:an):a4)<((n:an):a4):=by omega
 rw[show n-i=(n-(i+1))+1 by omega,rep] at PC
 simp only[aj,QS,↓ab,hn,h50,h51,b4 e1]
 obtain⟨A2,QA⟩:∃A:an->Bool,A=fun j=>decide (j<t.next):=⟨_,rfl⟩
 have aeY:∀j,A2 j=true->j<t.next:=by
  intro j h
  rw[QA] at h
  exact ca h
 have X0:∀j,j<t.next->A2 j=true:=fun j h=>by rw[QA];exact bs h
 refine LB.cX.fi A2 aeY 0 0 (by kernel_rfl) (by kernel_rfl) ?_
 have pk:=ar.spare t 0
 have Uy:(spare t 0).next=t.next+0:=bU _ _
 have kq:uF jr jx ic o1 t o1 (spare t 0):=⟨by omega,fun i hi _ _ _ _=>pk.get i hi,.inl rfl⟩
 have lr:∀k,LA.ej A2 (some (.pointer (some ⟨jr,k,some 4⟩)))=true:=fun k=>LA.cr (A:=A2) (i:=jr) (X0 _ hR.t.lt)
 have lE:=fun k=>LA.m9 hR.own.aG X0 (k:=k)
 have lL:=LA.Ha hR.own.aG
 have JP:=hR.keeps JI pk
 have r2:=JP.t.load (P:=af) fU (off:=2) (c:=4) rfl (by simp)
 have WW:=JP.own.aG.bm (P:=af) a0 (s2:=spare t 0)
 have gB:P1.length-d<P1.length:=by omega
 have sn:=JP.own.aG.indexAddr (P:=af) (k:= .i64) (x:=((P1.length-d:an):a4)) a0 bK (by omega) (by omega)
 rw[Int.toNat_natCast] at sn
 have k1:=JP.own.aG.di (P:=af) kI gB
 rw[bw gB] at k1
 have e2:((P1.length:an):a4)-(d:a4)=((P1.length-d:an):a4):=by omega
 simp(disch:=omega)only[aj,ak,bH,bI,c6,aa,QS,Qx,↓ab,hn,h0,h9,AW,r2,lr,lE,lL,WW,hR.own.self,aD,e2,sn,k1]
 refine(EA hL base (spare t 0) jr jx ic D P1 q4 m M hM (P1.getD (P1.length-d) 0) o1 JP (by omega) (by omega)).mono ?_
 intro v t6 hO
 refine⟨fun h=>h.elim,?_⟩
 by_cases cm:m<=P1.length
 ·rw[bg cm] at hO PC
  obtain⟨-,rfl,dY⟩:=hO
  simp only[aj,ak,QS,Qx,↓ab,aj,ak,QS,Qx,↓ab,hn,a2 (show¬((7:an):a4)=0 by decide)]
  exact hQ _ _ _ ⟨by simp only[ag,hn],.inr ⟨rfl,7,PC.symm,by decide,by simp only[ad,↓ab],(dU _ _ (fk.trans kq)).trans dY⟩⟩
 rw[a6 cm] at hO PC
 obtain⟨rfl,o6,hR6,RC⟩:=hO
 simp(disch:=omega)only[aj,ak,QS,Qx,↓ab,aj,ak,QS,Qx,↓ab,hn,h51,aD]
 have n6:=RC.next
 exact ay (n-(i+1)) (by omega) ⟨i+1,_,o6,rfl,by omega,PC,by rw[bk];omega,by rw[bk,bz];omega,hR6,fk.trans (kq.trans RC),by omega,by simp only[ag,hn],by simp only[ad,↓ab,Qx,h0],by simp only[ad,↓ab,Qx,h9],by simp only[ad,↓ab,Qx,h50],by simp only[ad,↓ab];rfl⟩
def PD (jr jx ic:an)(o:bb)(s:aq)(j:an)(C:av an):Prop:=∃sv,ax s j (cw C sv)/\Gd jx ic s sv C/\(∀i,aI sv=some i->i≠jr/\aI o≠some i)/\j≠jr/\j≠jx/\j≠ic/\aI o≠some j
theorem PD.to {jr jx ic j:an}{o o' :bb}{s s' :aq}{C:av an}(h:PD jr jx ic o s j C)(k:uF jr jx ic o s o' s'):PD jr jx ic o' s' j C:=by
 obtain⟨sv,h1,h2,h3,h4,h5,h6,h7⟩:=h
 have key:∀i,i<s.next->aI o≠some i->aI o' ≠some i:=fun i hi cH=>by
  rcases k.id with e|⟨q,e,hq⟩
  ·rw[e];exact cH
  ·rw[e];intro e2;injection e2 with e2;omega
 exact⟨sv,JN h1 k.next (k.get j h1.lt h4 h5 h6 h7),h2.rto h3 k,fun i hi=>⟨(h3 i hi).1,key i (h2.2 i hi).1 (h3 i hi).2⟩,h4,h5,h6,key j h1.lt h7⟩
theorem PE {lib:aA}(hL:Po lib)(base:an)(s:aq)(jr jx ic:an)(D P0:av ao)(p0 m N:an)(M:a4)(hM:m=M.toNat)(o:bb)(h:Rs base s jr jx ic D p0 P0 M o)(hb:base<=s.next)(hlen:D.length<=4000000)(PB:P0.length<=m)(hm:m<=100000000)(hN:8*D.length<N)(va vb:bb)(A B:av an)(hA:abd jr jx ic o s va A)(hB:abd jr jx ic o s vb B)(iU:A.length<=300)(Ln:B.length<=1000):
  Runs af lib 190 [su jr,va,vb] s fun v s' =>JO base jr jx ic D M o s v s' (kR D m A B N p0 P0):=by
 obtain⟨sa,rfl,hSa,ajb⟩:=hA
 obtain⟨sb,rfl,hSb,ajc⟩:=hB
 have bd:=h.bit.lt
 have anX:=h.t.lt
 have Bp:∀i,aI o=some i->i<s.next:=fun i hi=>h.own.iD i hi
 refine Runs.enter 39 Tryz.func190 rfl (hL _ rfl) rfl rfl ?_
 intro f hn hf
 have h0:f.get 0=su jr:=hf 0
 have h1:f.get 1= .agg (cw A sa).toArray:=hf 1
 have h2:f.get 2= .agg (cw B sb).toArray:=hf 2
 clear hf
 simp only[aj,QS,↓ab,hn,h1]
 refine aw ?_
 intro s1 iK bn iV
 obtain⟨ja,hja⟩:∃j,j=s.next:=⟨_,rfl⟩
 rw[<-hja] at iK
 simp only[aj,QS,Qx,c5,↓ab,hn,h2,<-hja,az]
 refine aw ?_
 intro s2 vC aR m8
 obtain⟨jb,Rg⟩:∃j,j=s1.next:=⟨_,rfl⟩
 rw[<-Rg] at vC
 have EC:ar s.next s s2:=bn.trans (aR.weaken (by omega))
 have k2:uF jr jx ic o s o s2:=(uF.refl jr jx ic o s).kept EC
 have iu:=h.keeps hb EC
 have cA:PD jr jx ic o s2 ja A:=⟨sa,iK.keeps aR,hSa.rto ajb k2,ajb,by omega,by omega,by omega,fun e=>by have:=Bp _ e;omega⟩
 have cB:PD jr jx ic o s2 jb B:=⟨sb,vC,hSb.rto ajc k2,ajc,by omega,by omega,by omega,fun e=>by have:=Bp _ e;omega⟩
 obtain⟨R,hR⟩:∃R,R=kR D m A B N p0 P0:=⟨_,rfl⟩
 rw[<-hR]
 have dU:∀o' t,uF jr jx ic o s o' t->ar base s t:=fun o' t k=>k.stay h.lr bd.2.2.1 bd.2.2.2.1 h.fresh hb
 simp only[aj,QS,c5,↓ab,hn,<-Rg,az]
 refine Comes.bQ (fun z f t=>∃(p:an) (P:av ao) (o1:bb),kR D m A B z p P=R/\8*D.length<p+z/\P.length<=m/\Rs base t jr jx ic D p P M o1/\uF jr jx ic o s o1 t/\PD jr jx ic o1 t ja A/\PD jr jx ic o1 t jb B/\base<=t.next/\f.n=39/\f.get 0=su jr/\f.get 4= .pointer (some ⟨ja,0,some 18⟩)/\f.get 5= .pointer (some ⟨jb,0,some 18⟩))
  (fun z f t=>z= .ret/\f.n=39/\∃v,f.get 6=v/\JO base jr jx ic D M o s v t R)
  ⟨p0,P0,o,hR.symm,by omega,PB,iu,k2,cA,cB,by omega,by simp only[ad,ag,↓ab,Qx,hn,h0,ea]⟩ ?_ ?_
 rotate_left
 ·clear hn h0 h1 h2 f
  rintro z f t ⟨rfl,hn,v,h6,hO⟩
  simp only[aj,al,oneOf,QS,↓ab,hn,h6,Tryz.results190]
  exact hO
 clear hn h0 h1 h2 f cA cB iu iK vC k2
 rintro Q hQ z f t ⟨p,P,o1,hz,hpz,PB,T3,fk,cA,cB,JI,hn,h0,h4,h5⟩
 have hpD:=T3.bit.le
 obtain⟨k,rfl⟩:∃k,z=k+1:=⟨z-1,by omega⟩
 rw[kR] at hz
 have cA0:=cA
 obtain⟨xa,hca,hxa,aty,-,-,-,-⟩:=cA0
 simp only[aj]
 obtain⟨A2,QA⟩:∃A:an->Bool,A=fun j=>decide (j<t.next):=⟨_,rfl⟩
 have aeY:∀j,A2 j=true->j<t.next:=by
  intro j h
  rw[QA] at h
  exact ca h
 have X0:∀j,j<t.next->A2 j=true:=fun j h=>by rw[QA];exact bs h
 have pk:=ar.spare t 0
 have Uy:(spare t 0).next=t.next+0:=bU _ _
 have JP:=T3.keeps JI pk
 have hcq:=hca.keeps pk
 have kq:lW jx ic t (spare t 0):=⟨by omega,fun i hi _ _=>pk.get i hi⟩
 have lr:∀k,LA.ej A2 (some (.pointer (some ⟨jr,k,some 4⟩)))=true:=fun k=>LA.cr (A:=A2) (i:=jr) (X0 _ T3.t.lt)
 have lb:∀k,LA.ej A2 (some (.pointer (some ⟨ja,k,some 18⟩)))=true:=fun k=>LA.cr (A:=A2) (i:=ja) (X0 _ hca.lt)
 have r0q:=JP.t.load (P:=af) jP (off:=0) (c:=4) rfl (by simp)
 have Pv:=hcq.bF (P:=af) jm (by rw[az];exact dM) (c:=18) (by rw[az])
 refine LB.cX.fi A2 aeY 0 0 (by kernel_rfl) (by kernel_rfl) ?_
 simp only[aj,ak,bH,bI,c6,aa,QS,Qx,↓ab,hn,h0,h4,qA,r0q,Pv,lr,lb,wo A hxa.1]
 refine(Mz hL base (spare t 0) jx ic D p JP.bit (by omega) hlen A xa (hxa.to kq) (by omega)).mono ?_
 intro v t3 hY
 refine⟨fun h=>h.elim,?_⟩
 cases hy:sym D A p with
 |error e=>
  rw[hy] at hY hz
  obtain⟨he,rfl,x8⟩:=hY
  have c0:¬(e:a4)=0:=by omega
  simp only[aj,ak,bH,bI,QS,Qx,↓ab,aj,ak,QS,Qx,↓ab,hn,dF,dG,mq,a2 c0]
  exact hQ _ _ _ ⟨rfl,by simp only[ag,hn],_,by simp only[ad,↓ab];rfl,by rw[<-hz];exact⟨he,rfl,dU _ _ (fk.trans (rF (kq.trans x8)))⟩⟩
 |ok y=>
 obtain⟨x,q⟩:=y
 rw[hy] at hY hz
 obtain⟨rfl,Az,FQ⟩:=hY
 have pE:=JM hy
 have AQ:=JP.bits Az FQ
 have kk3:uF jr jx ic o1 t o1 t3:=rF (kq.trans FQ)
 have k3:=fk.trans kk3
 have sx:base<=t3.next:=by have:=FQ.next;omega
 dsimp only at hz
 by_cases cx:x=256
 ·have d1:((x:an):a4)=256:=by omega
  rw[bg cx] at hz
  simp only[aj,ak,bH,bI,QS,Qx,↓ab,aj,ak,QS,Qx,↓ab,hn,dF,dG,mq,b4 d1]
  exact hQ _ _ _ ⟨rfl,by simp only[ag,hn],_,by simp only[ad,↓ab];rfl,by rw[<-hz];exact⟨rfl,o1,AQ,k3⟩⟩
 have d1:¬((x:an):a4)=256:=by omega
 rw[a6 cx] at hz
 by_cases cl:x<256
 ·have d2:((x:an):a4)<256:=by omega
  rw[bg cl] at hz
  simp only[aj,ak,bH,bI,aa,QS,Qx,↓ab,aj,ak,aa,QS,Qx,↓ab,hn,h0,dF,dG,mq,a2 d1,b4 d2,bL cb cf,b0]
  refine(EA hL base t3 jr jx ic D P q m M hM (UInt8.ofNat x) o1 AQ sx (by omega)).mono ?_
  intro v t4 hO
  by_cases cm:m<=P.length
  ·rw[bg cm] at hO hz
   obtain⟨-,rfl,dY⟩:=hO
   simp only[aj,ak,QS,Qx,↓ab,hn,a2 (show¬((7:an):a4)=0 by decide)]
   exact hQ _ _ _ ⟨rfl,by simp only[ag,hn],_,by simp only[ad,↓ab];rfl,by rw[<-hz];exact⟨by decide,rfl,(dU _ _ k3).trans dY⟩⟩
  rw[a6 cm] at hO hz
  obtain⟨rfl,o6,hR6,RC⟩:=hO
  have kk:=kk3.trans RC
  simp only[aj,ak,QS,↓ab,hn]
  have n6:=RC.next
  exact ay k (by omega) ⟨q,_,o6,hz,by omega,by rw[bk,bz];omega,hR6,fk.trans kk,cA.to kk,cB.to kk,by omega,by simp only[ad,ag,↓ab,Qx,hn,h0,h4,h5,ea]⟩
 have d2:¬((x:an):a4)<256:=by omega
 rw[a6 cl] at hz
 have cB3:=cB.to kk3
 obtain⟨xb,J0,hxb,anY,-,-,-,-⟩:=id cB3
 have ajd:=J0.bF (P:=af) jm (by rw[az];exact dM) (c:=18) (by rw[az])
 simp only[aj,ak,bH,bI,aa,QS,Qx,↓ab,aj,ak,aa,QS,Qx,↓ab,hn,h0,h5,dF,dG,mq,a2 d1,a2 d2,ajd]
 refine(T0 hL base t3 jr jx ic D P q m M hM o1 AQ sx hlen PB hm x (by omega) (by omega) _ B ⟨xb,rfl,hxb,anY⟩ Ln).mono ?_
 intro v t4 hO
 cases hcx:rZ D m B x q P with
 |error e=>
  rw[hcx] at hO hz
  obtain⟨he,rfl,dY⟩:=hO
  have c0:¬(e:a4)=0:=by omega
  simp only[aj,ak,QS,Qx,↓ab,hn,a2 c0]
  exact hQ _ _ _ ⟨rfl,by simp only[ag,hn],_,by simp only[ad,↓ab];rfl,by rw[<-hz];exact⟨he,rfl,(dU _ _ k3).trans dY⟩⟩
 |ok y=>
  obtain⟨r,P'⟩:=y
  rw[hcx] at hO hz
  obtain⟨rfl,o6,hR6,RC⟩:=hO
  have kk:=kk3.trans RC
  have jS:=Mv hcx PB
  simp only[aj,ak,QS,↓ab,hn]
  have n6:=RC.next
  exact ay k (by omega) ⟨r,P',o6,hz,by omega,jS.2.2,hR6,fk.trans kk,cA.to kk,cB.to kk,by omega,by simp only[ad,ag,↓ab,Qx,hn,h0,h4,h5,ea]⟩
theorem ae0 {n k:an}(hn:n<65536)(hk:k<65536):(a3.wrap (((a1 a3.bits (n:a4)^^^a1 a3.bits (k:a4)).toNat:an):a4)=65535)=(n+k=65535):=by
 have e1:a3.bits=64:=rfl
 rw[e1]
 have hx:(a1 64 (n:a4)^^^a1 64 (k:a4)).toNat=n^^^k:=by
  rw[cp,a8,a8,a5,a5,a7 (by omega),a7 (by omega)]
 have bd:n^^^k<65536:=c7 (n:=16) hn hk
 rw[hx,aD (by omega)]
 have key:(65535^^^k)=65535-k:=by
  have:=ahm (m:=k) hk
  rw[e1,aD (by
   rw[cp,a8]
   have e2:(a1 64 65535)=dH 64 65535:=rfl
   rw[e2,a5,a5,a7 (by omega),a7 (by omega)]
   have:k^^^65535<2^16:=c7 (n:=16) hk (by omega)
   have:(2:an)^16=65536:=by decide
   omega)] at this
  rw[cp,a8] at this
  have e2:(a1 64 65535)=dH 64 65535:=rfl
  rw[e2,a5,a5,a7 (by omega),a7 (by omega)] at this
  rw[Nat.xor_comm]
  omega
 refine propext ⟨fun h=> ?_,fun h=> ?_⟩
 ·have h:n^^^k=65535:=by omega
  have:n=65535^^^k:=by rw[<-h,dC,dT,dX]
  omega
 ·have:n=65535^^^k:=by omega
  rw[this,dC,dT,dX];rfl
theorem ae1 {base:an}{s:aq}{jx ic:an}{D:av ao}{a:an}(h:ig base s jx ic D (8*a)):∃now,TN base s jx ic D (8*a) a now 0:=by
 obtain⟨q,now,left,h,h7⟩:=h
 have he:=h.e
 obtain rfl:left=0:=by omega
 obtain rfl:q=a:=by omega
 exact⟨now,h⟩
theorem MJ {lib:aA}(hL:Po lib)(base:an)(s:aq)(jr jx ic:an)(D P:av ao)(p m:an)(M:a4)(hM:m=M.toNat)(o:bb)(h:Rs base s jr jx ic D p P M o)(hb:base<=s.next)(hlen:D.length<=4000000)(PB:P.length<=m)(hm:m<=100000000):
  Runs af lib 188 [su jr] s fun v s' =>JO base jr jx ic D M o s v s' (o7 D m p P):=by
 obtain⟨a,ha⟩:∃a,a=(p+7)/8:=⟨_,rfl⟩
 have hpD:=h.bit.le
 have bd:=h.bit.lt
 have dU:∀o' t,uF jr jx ic o s o' t->ar base s t:=fun o' t k=>k.stay h.lr bd.2.2.1 bd.2.2.2.1 h.fresh hb
 refine Runs.enter 60 Tryz.func188 rfl (hL _ rfl) rfl rfl ?_
 intro f hn hf
 have h0:f.get 0=su jr:=hf 0
 clear hf
 have r0:=h.t.load (P:=af) jP (off:=0) (c:=4) rfl (by simp)
 simp only[aj,ak,aa,QS,Qx,↓ab,hn,h0,qA,r0]
 refine(TO (hL _ rfl) base s jx ic D p h.bit hb).mono ?_
 rintro _ s1 ⟨EZ,FT⟩
 rw[<-ha] at EZ
 have pH:=h.bits EZ FT
 have gL:base<=s1.next:=by have:=FT.next;omega
 have r0:=pH.t.load (P:=af) jP (off:=0) (c:=4) rfl (by simp)
 unfold o7
 rw[<-ha]
 simp only[aj,ak,aa,QS,Qx,↓ab,hn,h0,qA,r0]
 refine(oh hL base s1 jx ic D (8*a) 16 EZ gL (by omega) hlen).mono ?_
 intro v s2 hN
 by_cases c1:8*a+16<=8*D.length
 rotate_left
 ·rw[mn c1] at hN
  obtain⟨-,rfl,fk⟩:=hN
  rw[a6 (show¬8*a+32<=8*D.length by omega)]
  simp only[aj,ak,al,oneOf,QS,Qx,↓ab,hn,dF,dG,a2 (show¬(2:a4)=0 by decide),bq]
  exact⟨by decide,rfl,dU _ _ (rF (FT.trans fk))⟩
 rw[eN c1] at hN
 obtain⟨rfl,Y1,Bz⟩:=hN
 have iu:=pH.bits Y1 Bz
 have Bz:=FT.trans Bz
 have dI:base<=s2.next:=by have:=Bz.next;omega
 have r0:=iu.t.load (P:=af) jP (off:=0) (c:=4) rfl (by simp)
 have J1:=jz D (8*a) 16
 obtain⟨n,uy⟩:∃n,n=cj D (8*a) 16:=⟨_,rfl⟩
 rw[<-uy] at J1|-
 have atB:(2:an)^16=65536:=by decide
 simp only[aj,ak,aa,QS,Qx,↓ab,hn,h0,dF,dG,qA,r0]
 refine(oh hL base s2 jx ic D (8*a+16) 16 Y1 dI (by omega) hlen).mono ?_
 intro v s3 hN
 by_cases c2:8*a+16+16<=8*D.length
 rotate_left
 ·rw[mn c2] at hN
  obtain⟨-,rfl,fk⟩:=hN
  rw[a6 (show¬8*a+32<=8*D.length by omega)]
  simp only[aj,ak,al,oneOf,QS,Qx,↓ab,hn,dF,dG,a2 (show¬(2:a4)=0 by decide),bq]
  exact⟨by decide,rfl,dU _ _ (rF (Bz.trans fk))⟩
 rw[eN c2] at hN
 obtain⟨rfl,Az,FQ⟩:=hN
 have AQ:=iu.bits Az FQ
 have FQ:=Bz.trans FQ
 have sx:base<=s3.next:=by have:=FQ.next;omega
 have hkl:=jz D (8*a+16) 16
 obtain⟨k,sj⟩:∃k,k=cj D (8*a+16) 16:=⟨_,rfl⟩
 rw[<-sj] at hkl|-
 rw[bg (show 8*a+32<=8*D.length by omega)]
 have hx:=ae0 (n:=n) (k:=k) (by omega) (by omega)
 by_cases cx:n+k=65535
 rotate_left
 ·rw[a6 cx]
  have hx:(a3.wrap (((a1 a3.bits (n:a4)^^^a1 a3.bits (k:a4)).toNat:an):a4)=65535)=False:=by rw[hx];exact a2 cx
  simp only[aj,ak,al,oneOf,QS,Qx,↓ab,hn,dF,dG,Qr,hx,bq]
  exact⟨by decide,rfl,dU _ _ (rF FQ)⟩
 rw[bg cx]
 have hx:(a3.wrap (((a1 a3.bits (n:a4)^^^a1 a3.bits (k:a4)).toNat:an):a4)=65535)=True:=by rw[hx];exact b4 cx
 rw[show 8*a+16+16=8*(a+4) by omega] at AQ
 simp only[aj,ak,QS,Qx,↓ab,hn,dF,dG,Qr,hx]
 refine Comes.bQ (fun z f t=>∃(i:an) (P1:av ao) (o1:bb),z=n-i/\i<=n/\wm D m (n-i) (a+4+i) P1=wm D m n (a+4) P/\P1.length<=m/\Rs base t jr jx ic D (8*(a+4+i)) P1 M o1/\uF jr jx ic o s o1 t/\base<=t.next/\f.n=60/\f.get 0=su jr/\f.get 39= .int .i64 (n:an)/\f.get 40= .int .i64 (i:an))
  (fun z f t=>f.n=60/\((z= .exit 0/\∃(q:an) (P1:av ao) (o1:bb),wm D m n (a+4) P= .ok (q,P1)/\Rs base t jr jx ic D q P1 M o1/\uF jr jx ic o s o1 t)\/(z= .ret/\∃e:an,wm D m n (a+4) P= .error e/\0<e/\f.get 2= .int .i64 (e:an)/\ar base s t)))
  ⟨0,P,o,rfl,by omega,rfl,PB,AQ,rF FQ,sx,by simp only[ad,ag,↓ab,Qx,hn,h0,true_and];rfl⟩ ?_ ?_
 rotate_left
 ·clear hn h0 f
  rintro z f t ⟨hn,(⟨rfl,q,P1,o1,PC,hR,fk⟩|⟨rfl,e,PC,he,h2,aE⟩)⟩
  ·simp only[aj,al,oneOf,QS,↓ab,hn,bq]
   rw[PC]
   exact⟨rfl,o1,hR,fk⟩
  ·simp only[aj,al,oneOf,QS,↓ab,hn,h2,bq]
   rw[PC]
   exact⟨he,rfl,aE⟩
 clear hn h0 f r0 pH iu AQ EZ Y1 Az FT Bz FQ
 rintro Q hQ z f t ⟨i,P1,o1,rfl,hi,aE,hP1,hR,fk,JI,hn,h0,Pu,Ry⟩
 by_cases Kl:i<n
 rotate_left
 ·obtain rfl:i=n:=by omega
  have e1:¬((i:an):a4)<((i:an):a4):=by omega
  rw[dE,wm] at aE
  simp only[aj,QS,↓ab,hn,Pu,Ry,a2 e1]
  exact hQ _ _ _ ⟨by simp only[ag,hn],.inl ⟨rfl,_,P1,o1,aE.symm,hR,fk⟩⟩
 have e1:((i:an):a4)<((n:an):a4):=by omega
 rw[show n-i=(n-(i+1))+1 by omega,wm] at aE
 obtain⟨now,T4⟩:=ae1 hR.bit
 have hcp:a+4+i<=D.length:=T4.c.choose_spec.2.2.2
 have r0:=hR.t.load (P:=af) jP (off:=0) (c:=4) rfl (by simp)
 have g0:=T4.t.load (P:=af) En (off:=0) (c:=4) rfl (by simp)
 simp only[aj,ak,aa,QS,Qx,↓ab,hn,h0,Pu,Ry,b4 e1,qA,r0,tT,g0]
 refine(yd (hL _ rfl) (hL _ rfl) (hL _ rfl) (hL _ rfl) (hL _ rfl) base t ic D (a+4+i) T4.c JI (by omega)).mono ?_
 rintro _ t3 ⟨rfl,yP,jM⟩
 have kb:lW jx ic t t3:=lW.turns jM
 by_cases r3:a+4+i<D.length
 rotate_left
 ·rw[a6 r3] at aE
  have sQ:fc D ((a+4+i:an):a4)= -1:=by unfold fc;rw[a6 (by omega)]
  simp only[aj,QS,↓ab,hn,sQ,b4 (show(-1:a4)<0 by decide)]
  exact hQ _ _ _ ⟨by simp only[ag,hn],.inr ⟨rfl,2,aE.symm,by decide,by simp only[ad,↓ab];rfl,dU _ _ (fk.trans (rF kb))⟩⟩
 rw[bg r3] at aE
 have hc8:=(D.getD (a+4+i) 0).toNat_lt
 have sQ:fc D ((a+4+i:an):a4)=((D.getD (a+4+i) 0).toNat:a4):=by unfold fc;rw[bg (by omega),Int.toNat_natCast]
 have zS:IntKind.u8.wrap (((D.getD (a+4+i) 0).toNat:an):a4)=(((D.getD (a+4+i) 0).toNat:an):a4):=by rw[fu];omega
 have d1:¬(((D.getD (a+4+i) 0).toNat:an):a4)<0:=by omega
 rw[Nat.min_eq_left (by omega)] at yP
 have ZT:ig base t3 jx ic D (8*(a+4+(i+1))):=⟨a+4+i+1,now,0,⟨yP,T4.t.turns jM (eD (fun e=>T4.ne e.symm)),by omega,by omega,fun h=>by omega,T4.now,T4.lx,T4.lc,T4.ne⟩,by omega⟩
 have yE:=hR.bits ZT kb
 have R7:base<=t3.next:=by have:=kb.next;omega
 simp only[aj,ak,aa,QS,Qx,↓ab,hn,h0,sQ,a2 d1,bL cb cf,zS]
 refine(EA hL base t3 jr jx ic D P1 _ m M hM (D.getD (a+4+i) 0) o1 yE R7 (by omega)).mono ?_
 intro v t6 hO
 by_cases cm:m<=P1.length
 ·rw[bg cm] at hO aE
  obtain⟨-,rfl,dY⟩:=hO
  simp only[aj,ak,QS,Qx,↓ab,hn,a2 (show¬((7:an):a4)=0 by decide)]
  exact hQ _ _ _ ⟨by simp only[ag,hn],.inr ⟨rfl,7,aE.symm,by decide,by simp only[ad,↓ab],(dU _ _ (fk.trans (rF kb))).trans dY⟩⟩
 rw[a6 cm] at hO aE
 obtain⟨rfl,o6,hR6,RC⟩:=hO
 simp(disch:=omega)only[aj,ak,QS,Qx,↓ab,hn,Ry,aD]
 have n6:=RC.next
 exact ay (n-(i+1)) (by omega) ⟨i+1,_,o6,rfl,by omega,aE,by rw[bk,bz];omega,hR6,fk.trans ((rF kb).trans RC),by omega,by simp only[ag,hn],by simp only[ad,↓ab,Qx,h0],by simp only[ad,↓ab,Qx,Pu],by simp only[ad,↓ab];rfl⟩
theorem JO.from {base jr jx ic:an}{D:av ao}{M:a4}{o:bb}{s t t' :aq}{v:bb}{B:c3 an (an×av ao)}(h:JO base jr jx ic D M o t v t' B)(k:uF jr jx ic o s o t)(hs:ar base s t):JO base jr jx ic D M o s v t' B:=by
 cases B with
 |error e=>exact⟨h.1,h.2.1,hs.trans h.2.2⟩
 |ok y=>
  obtain⟨h1,o',h2,h3⟩:=h
  exact⟨h1,o',h2,k.trans h3⟩
def an0 (base jr jx ic:an)(D:av ao)(M:a4)(o:bb)(s:aq)(v:bb)(s' :aq):c3 an (an×an×av ao)->Prop
 | .ok (last,q,P')=>v= .tuple #[.bool (decide (((last:an):a4)=1)),.int .i64 0]/\∃o',Rs base s' jr jx ic D q P' M o' /\uF jr jx ic o s o' s'
 | .error e=>0<e/\(∃b,v= .tuple #[.bool b,.int .i64 (e:an)])/\ar base s s'
theorem abf (jx:an)(M:a4):cC af 180 [(0,qx jx),(1,.int .i64 M)]=some (.agg #[qx jx,.int .i64 M,.slice none 0 0]):=by
 unfold cC;rw[Tryz.underlying180]
 have hz:bV af 180=some (.agg #[.pointer none,.int .i64 0,.slice none 0 0]):=by kernel_rfl
 rw[hz]
 have c1:(qx jx).cells.toList=[qx jx]:=rfl
 have c2:(Value.int .i64 M).cells.toList=[.int .i64 M]:=rfl
 simp only[fG,placeOf,c1,c2]
 simp[BH,bA,fT,bN,gQ,bS,setAt]
end Go.Proofs.YtdfjfncifneocaaGreat
namespace Go.Cl.Nf
open Go.Cl.Fx Go.Cl.Sto
theorem kj {D:av ao}{p n e:an}(h:dQ D p n= .error e):0<e:=by
 unfold dQ at h
 split at h<;>cases h
 decide
theorem nj {D:av ao}{C:av an}{p e:an}(h:sym D C p= .error e):0<e:=by
 rcases Mt h with h|h<;>omega
theorem RE {M b:an}:∀{n:an} {P:av ao} {e:an},rep M b n P= .error e->0<e
 |0,P,e,h=>by cases h
 |n+1,P,e,h=>by
  unfold rep at h
  split at h
  ·cases h;decide
  ·exact RE h
theorem MK {D:av ao}{M:an}:∀{k a:an} {P:av ao} {e:an},wm D M k a P= .error e->0<e
 |0,a,P,e,h=>by cases h
 |k+1,a,P,e,h=>by
  unfold wm at h
  repeat' split at h
  all_goals first|(cases h<;>decide)|exact MK h
theorem ML {D:av ao}{M p:an}{P:av ao}{e:an}(h:o7 D M p P= .error e):0<e:=by
 unfold o7 at h
 repeat' split at h
 all_goals first|(cases h<;>first|decide|exact kj ‹_›|exact nj ‹_›)|exact MK h
theorem T5 {D:av ao}{M:an}{B:av an}{s p:an}{P:av ao}{e:an}(h:rZ D M B s p P= .error e):0<e:=by
 unfold rZ at h
 repeat' split at h
 all_goals first|(cases h<;>first|decide|exact kj ‹_›|exact nj ‹_›|exact RE ‹_›)
theorem EE {D:av ao}{M:an}{A B:av an}:∀{k p:an} {P:av ao} {e:an},kR D M A B k p P= .error e->0<e
 |0,p,P,e,h=>by cases h;decide
 |k+1,p,P,e,h=>by
  unfold kR at h
  repeat' split at h
  all_goals first|(cases h<;>first|decide|exact nj ‹_›|exact T5 ‹_›)|exact EE h
theorem T6 {D:av ao}{p e:an}(h:Rn D p= .error e):0<e:=by
 unfold Rn at h
 repeat' split at h
 all_goals first|(cases h<;>first|decide|exact kj ‹_›|exact nj ‹_›)
theorem MM {D:av ao}:∀{r:av an} {p:an} {o:av an} {e:an},Pl D r p o= .error e->0<e
 |[],p,o,e,h=>by cases h
 |i::r,p,o,e,h=>by
  unfold Pl at h
  split at h
  ·cases h;exact kj ‹_›
  ·exact MM h
theorem PF {D:av ao}{s p:an}{l:av an}{e:an}(h:zI D s p l= .error e):0<e:=by
 unfold zI at h
 repeat' split at h
 all_goals first|(cases h<;>first|decide|exact kj ‹_›|exact nj ‹_›)
theorem HY {D:av ao}{C:av an}{many:an}:∀{k p:an} {l:av an} {e:an},Ew D C many k p l= .error e->0<e
 |0,p,l,e,h=>by cases h;decide
 |k+1,p,l,e,h=>by
  unfold Ew at h
  repeat' split at h
  all_goals first|(cases h<;>first|decide|exact nj ‹_›|exact PF ‹_›)|exact HY h
theorem X1 {N:an}{D:av ao}{p e:an}(h:Pm N D p= .error e):0<e:=by
 unfold Pm at h
 repeat' split at h
 all_goals first|(cases h<;>first|decide|exact kj ‹_›|exact nj ‹_›|exact T6 ‹_›|exact MM ‹_›|exact HY ‹_›)
theorem T7 {N:an}{D:av ao}{M kind p:an}{P:av ao}{e:an}(h:mo N D M kind p P= .error e):0<e:=by
 unfold mo at h
 repeat' split at h
 all_goals first|(cases h<;>first|decide|exact kj ‹_›|exact nj ‹_›|exact X1 ‹_›)|exact ML h|exact EE h
theorem PG {N:an}{D:av ao}{M p:an}{P:av ao}{e:an}(h:gJ N D M p P= .error e):0<e:=by
 unfold gJ at h
 repeat' split at h
 all_goals first|(cases h<;>first|decide|exact kj ‹_›|exact nj ‹_›|exact T7 ‹_›)
theorem A1 {N:an}{D:av ao}{M:an}:∀{k p:an} {P:av ao} {e:an},kS N D M k p P= .error e->0<e
 |0,p,P,e,h=>by cases h;decide
 |k+1,p,P,e,h=>by
  unfold kS at h
  repeat' split at h
  all_goals first|(cases h<;>first|decide|exact PG ‹_›)|exact A1 h
theorem T8 {N:an}{D:av ao}{M e:an}(h:vl N D M= .error e):0<e:=A1 h
def MN (a b:an):Prop:=a%16≠8\/7<a/16\/(a*256+b)%31≠0\/b/32%2≠0
instance (a b:an):Decidable (MN a b):=by unfold MN;infer_instance
def vn (N:an)(D:av ao)(M:an):c3 an (an×av ao):=
 if D.length<2 then .error 2
 else if MN (D.getD 0 0).toNat (D.getD 1 0).toNat then .error 4
 else match vl N (D.drop 2) M with
  | .error e=> .error e
  | .ok (q,P)=>if D.length<2+(q+7)/8+4 then .error 2 else if j8 ((D.drop (2+(q+7)/8)).take 4)=Bg P then .ok (2+(q+7)/8+4,P) else .error 10
theorem X2 {N:an}{D:av ao}{M n:an}{P:av ao}(h:vn N D M= .ok (n,P)):P.length<=M:=by
 unfold vn at h
 repeat' split at h
 all_goals first|(cases h;done)|(cases h;exact(Mw ‹_›).2)
def an1 (s:aq)(v:bb)(s' :aq):c3 an (an×av ao)->Prop
 | .ok (n,P)=>∃o,v= .tuple #[o,.int .i64 (n:an),.int .i64 0]/\Own s' 1 o P.length (ofBytes P)/\aF s.next o/\ar s.next s s'
 | .error e=>v= .tuple #[.slice none 0 0,.int .i64 0,.int .i64 (e:an)]/\ar s.next s s'
theorem aje {k:IntKind}{n m:an}(hn:n<2^k.bits)(hm:m<2^k.bits):(a1 k.bits (n:a4)&&&a1 k.bits (m:a4)).toNat=n&&&m:=by
 rw[BitVec.toNat_and,a8,a8,a5,a5,a7 hn,a7 hm]
theorem Wm (n:an):n&&&15=n%16:=Nat.and_two_pow_sub_one_eq_mod n 4
theorem ajf (n:an):n&&&32=n/32%2*32:=by
 have hb:n.testBit 5=decide (n/2^5%2=1):=Nat.testBit_eq_decide_div_mod_eq
 rw[show(2:an)^5=32 from rfl] at hb
 apply Nat.eq_of_testBit_eq
 intro i
 rw[Nat.testBit_and,show(32:an)=2^5 from rfl,c4,show(2:an)^5=32 from rfl]
 rcases Nat.mod_two_eq_zero_or_one (n/32) with h|h<;>rw[h] at hb|-
 ·rw[Nat.zero_mul,Nat.zero_testBit]
  by_cases c:5=i
  ·subst c;rw[hb];rfl
  ·rw[bo c,Bool.and_false]
 ·rw[Nat.one_mul,show(32:an)=2^5 from rfl,c4]
  by_cases c:5=i
  ·subst c;rw[hb];rfl
  ·rw[bo c,Bool.and_false]
theorem ae2 {n:an}(h:n<65536):a3.wrap (((a1 a3.bits (n:a4)&&&a1 a3.bits 15).toNat:an):a4)=((n%16:an):a4):=by
 rw[show(15:a4)=((15:an):a4) from rfl,aje (c8 h (by decide)) (by decide),Wm,aD (by omega)]
theorem ae3 {n:an}(h:n<65536):a3.wrap (((a1 a3.bits (n:a4)&&&a1 a3.bits 32).toNat:an):a4)=((n/32%2*32:an):a4):=by
 rw[show(32:a4)=((32:an):a4) from rfl,aje (c8 h (by decide)) (by decide),ajf,aD (by omega)]
end Go.Cl.Nf
namespace Go.Proofs.YtdfjfncifneocaaGreat
open Go.Cl
theorem ae4 {lib:aA}(hl:lib.at 103=none)(base:an)(s:aq)(i:an)(b:bb)(l:av ao)(p:an)(k:a4)(hc:Mi base s i b l p)(hb:base<=s.next):
  Runs af lib 103 [gm i,.int .i64 k] s fun v s' =>v= .bool (decide (0<=k/\k<=l.length))/\Mi base s' i b l (if 0<=k/\k<=l.length then k.toNat else p)/\bt (gm i) s s' :=by
 refine Runs.enter 24 Tryz.func103 rfl hl rfl rfl ?_
 intro f hn hf
 have h0:f.get 0=gm i:=hf 0
 have h1:f.get 1= .int .i64 k:=hf 1
 clear hf
 obtain⟨ht,oH,hi,hp⟩:=id hc
 have l0:=ht.load (P:=af) fU (off:=0) (c:=3) rfl (by simp)
 by_cases c1:k<0
 ·simp only[aj,ak,al,oneOf,QS,Qx,↓ab,hn,h0,h1,cY bl,c1,cR]
  rw[a6 (by omega)]
  exact⟨by rw[bo (by omega)],hc,b7 _,fun _ _ _=>rfl⟩
 ·by_cases c2:(l.length:a4)<k
  ·simp only[aj,ak,al,oneOf,aa,QS,Qx,↓ab,hn,h0,h1,cY bl,c1,c2,Mj,l0,oH.aG.bm a0,cR]
   rw[a6 (by omega)]
   exact⟨by rw[bo (by omega)],hc,b7 _,fun _ _ _=>rfl⟩
  ·simp only[aj,ak,aa,QS,Qx,↓ab,hn,h0,h1,cY bl,c1,c2,Mj,HI,l0,oH.aG.bm a0]
   refine aY bA ht rfl (by simp) rfl ?_
   intro s1 eK g8 bn
   simp only[aj,al,oneOf,QS,↓ab,hn,cR]
   rw[bg (by omega)]
   refine⟨by rw[bs (by omega)],⟨?_,oH.stay (ar.aK g8 bn hi),hi,by omega⟩,bt.aK g8 bn⟩
   have:((k.toNat:an):a4)=k:=by omega
   rw[this];exact eK
theorem X3 {lib:aA}(hl:lib.at 103=none)(base:an)(s:aq)(i:an)(l:av ao)(p:an)(k:a4)(hc:jG base s i l p)(hb:base<=s.next):
  Runs af lib 103 [gm i,.int .i64 k] s fun v s' =>v= .bool (decide (0<=k/\k<=l.length))/\jG base s' i l (if 0<=k/\k<=l.length then k.toNat else p)/\bt (gm i) s s' :=by
 obtain⟨b,hc⟩:=hc
 refine(ae4 hl base s i b l p k hc hb).mono ?_
 rintro v s' ⟨h1,h2,h3⟩
 exact⟨h1,⟨b,h2⟩,h3⟩
theorem wu {lib:aA}(hl:lib.at 36=none)(s:aq)(x:bb)(l:av ao)(hx:aN s 1 x l.length (ofBytes l))(hlen:l.length<=4294967296):
  Runs af lib 36 [x] s fun v s' =>cM s v s' l:=by
 refine Runs.enter 8 Tryz.func36 rfl hl rfl rfl ?_
 intro f hn hf
 have h0:f.get 0=x:=hf 0
 clear hf
 simp only[aj,QS,Qx,↓ab,hn,h0,hx.oP a0]
 refine iN (fun h=> ?_) (fun h=> ?_)
 ·obtain⟨h1,_,_⟩:=hx.isNil h
  have:l=[]:=List.eq_nil_of_length_eq_zero h1
  subst this
  simp only[aj,al,oneOf,QS,↓ab,hn,dv]
  exact⟨.nil,aF.nil _,ar.refl _ _⟩
 ·simp only[aj,ae,y9 a0 bK ks rfl rfl]
  refine aQ (by rfl) ?_
  intro b s1 hb hF aE
  simp only[aj,aa,QS,Qx,↓ab,hn,h0]
  refine bY a0 a0 (.inl ⟨_,rfl⟩) bK jW ks rfl hb (hx.keeps aE).src (by simp[bM]) (by decide) (dh _) (by omega) (by omega) hF aE.next ?_
  intro b' s2 pL ze dO _ _
  simp only[aj,al,oneOf,QS,↓ab,hn,dv]
  exact⟨by simpa using pL,ze,aE.trans dO⟩
def lP (l:av ao)(p:an)(k:a4):av ao:=if 0<=k/\k<=(l.length-p:an) then(l.drop p).take k.toNat else []
def JQ (base:an)(s:aq)(i:an)(b:bb)(l:av ao)(p:an)(k:a4)(v:bb)(s' :aq):Prop:=
 ∃B,v= .tuple #[B,.bool (decide (0<=k/\k<=(l.length-p:an)))]/\Own s' 1 B (lP l p k).length (ofBytes (lP l p k))/\aF s.next B/\Mi base s' i b l (if 0<=k/\k<=(l.length-p:an) then p+k.toNat else p)/\bt (gm i) s s'
theorem abg {lib:aA}(hl:lib.at 148=none)(kW:lib.at 186=none)(jn:lib.at 209=none)(g7:lib.at 105=none)(Kb:lib.at 36=none)(base:an)(s:aq)(i:an)(b:bb)(l:av ao)(p:an)(k:a4)(hc:Mi base s i b l p)(hb:base<=s.next)(hlen:l.length<=4294967296):
  Runs af lib 148 [gm i,.int .i64 k] s (JQ base s i b l p k):=by
 refine Runs.enter 44 Tryz.func148 rfl hl rfl rfl ?_
 intro f hn hf
 have h0:f.get 0=gm i:=hf 0
 have h1:f.get 1= .int .i64 k:=hf 1
 clear hf
 have fail:∀(f:aW),f.n=44->f.get 4= .slice none 0 0->f.get 5= .bool false->¬(0<=k/\k<=(l.length-p:an))->YR af (Tryz.f148).results.toList (JQ base s i b l p k) .ret f s:=by
  intro f hn h4 h5 hk
  simp only[aj,al,oneOf,QS,↓ab,hn,h4,h5,dd]
  unfold JQ lP
  rw[a6 hk,a6 hk,bo hk]
  exact⟨_,rfl,.nil,aF.nil _,hc,b7 _,fun _ _ _=>rfl⟩
 by_cases c1:k<0
 ·simp only[aj,ak,QS,Qx,↓ab,hn,h0,h1,cY bl,c1]
  exact fail _ (by simp only[ag,hn]) (by simp only[ad,↓ab,Qx]) (by simp only[ad,↓ab]) (by omega)
 ·simp only[aj,ak,aa,QS,Qx,↓ab,hn,h0,h1,cY bl,c1]
  refine(Ek kW jn g7 base s i l p ⟨b,hc⟩ hlen).mono ?_
  rintro _ s1 ⟨rfl,hs⟩
  subst hs
  by_cases c2:((l.length-p:an):a4)<k
  ·simp only[aj,ak,QS,Qx,↓ab,hn,c2]
   exact fail _ (by simp only[ag,hn]) (by simp only[ad,↓ab,Qx]) (by simp only[ad,↓ab]) (by omega)
  ·obtain⟨ht,oH,hi,hp⟩:=id hc
   have l0:=ht.load (P:=af) fU (off:=0) (c:=3) rfl (by simp)
   have l1:=ht.load (P:=af) bu (off:=1) (c:=3) rfl (by simp)
   simp only[aj,ak,QS,Qx,↓ab,hn,c2]
   refine cX.vK (by kernel_rfl) ?_
   have hk:((p:a4)+k).toNat=p+k.toNat:=by omega
   have dx:=oH.aG.p9 (lo:=p) (hi:=p+k.toNat) (by omega) (by omega)
   rw[show p+k.toNat-p=k.toNat by omega] at dx
   simp(disch:=omega)only[aj,ak,aa,ai,QS,Qx,↓ab,hn,h0,h1,Mj,HI,l0,l1,oH.aG.self,aD,oH.aG.GV a0 bK,hk]
   refine(wu Kb s1 _ _ dx (by rw[c9,dc];omega)).mono ?_
   rintro B s2 ⟨hB,hBF,aE⟩
   have dD:=ht.keeps aE
   have ZX:=dD.load (P:=af) bu (off:=1) (c:=3) rfl (by simp)
   simp(disch:=omega)only[aj,ak,QS,Qx,↓ab,hn,h0,h1,HI,ZX,aD,hB.self]
   refine aY bA dD rfl (by simp) rfl ?_
   intro s3 jM mQ bC
   simp(disch:=omega)only[aj,al,oneOf,QS,Qx,↓ab,hn,dd]
   unfold JQ lP
   rw[bg (by omega),bg (by omega),bs (by omega)]
   have cH:aI B≠some i:=fun e=>by have:=hBF i e;have:=ht.lt;omega
   refine⟨B,rfl,hB.aK mQ bC cH,hBF,⟨?_,oH.stay ((aE.weaken hb).trans (ar.aK mQ bC hi)),hi,by omega⟩,⟨by have:=aE.next;omega,fun j hj gR=> ?_⟩⟩
   ·have:((p+k.toNat:an):a4)=(p:a4)+k:=by omega
    rw[this];exact jM
   ·rw[bC j (fun e=>gR (by rw[e];rfl)),aE.get j hj]
def ae5 (base:an)(s:aq)(i:an)(l:av ao)(p:an)(k:a4)(v:bb)(s' :aq):Prop:=
 v= .tuple #[.int .i64 (if 1<=k/\k<=7 then j8 (lP l p k) else 0),.bool (decide (1<=k/\k<=7/\k<=(l.length-p:an)))]/\jG base s' i l (if 1<=k/\k<=7/\k<=(l.length-p:an) then p+k.toNat else p)/\bt (gm i) s s'
def JR (base:an)(s:aq)(i:an)(b:bb)(l:av ao)(p:an)(k:a4)(v:bb)(s' :aq):Prop:=
 v= .tuple #[.int .i64 (if 1<=k/\k<=7 then j8 (lP l p k) else 0),.bool (decide (1<=k/\k<=7/\k<=(l.length-p:an)))]/\Mi base s' i b l (if 1<=k/\k<=7/\k<=(l.length-p:an) then p+k.toNat else p)/\bt (gm i) s s'
theorem ae6 {lib:aA}(hl:lib.at 101=none)(bd:lib.at 148=none)(kW:lib.at 186=none)(jn:lib.at 209=none)(g7:lib.at 105=none)(Kb:lib.at 36=none)(base:an)(s:aq)(i:an)(b:bb)(l:av ao)(p:an)(k:a4)(hc:Mi base s i b l p)(hb:base<=s.next)(hlen:l.length<=4294967296):
  Runs af lib 101 [gm i,.int .i64 k] s (JR base s i b l p k):=by
 refine Runs.enter 37 Tryz.func101 rfl hl rfl rfl ?_
 intro f hn hf
 have h0:f.get 0=gm i:=hf 0
 have h1:f.get 1= .int .i64 k:=hf 1
 clear hf
 have fail:∀(f:aW),f.n=37->f.get 4= .int .i64 0->f.get 5= .bool false->¬(1<=k/\k<=7)->YR af (Tryz.f101).results.toList (JR base s i b l p k) .ret f s:=by
  intro f hn h4 h5 hk
  simp only[aj,al,oneOf,QS,↓ab,hn,h4,h5,ds]
  unfold JR
  rw[a6 hk,a6 (fun h=>hk ⟨h.1,h.2.1⟩),bo (fun h=>hk ⟨h.1,h.2.1⟩)]
  exact⟨rfl,hc,b7 _,fun _ _ _=>rfl⟩
 by_cases c1:k<1
 ·simp only[aj,ak,QS,Qx,↓ab,hn,h1,c1]
  exact fail _ (by simp only[ag,hn]) (by simp only[ad,↓ab,Qx]) (by simp only[ad,↓ab]) (by omega)
 ·by_cases c2:7<k
  ·simp only[aj,ak,QS,Qx,↓ab,hn,h1,c1,c2]
   exact fail _ (by simp only[ag,hn]) (by simp only[ad,↓ab,Qx]) (by simp only[ad,↓ab]) (by omega)
  ·simp only[aj,ak,aa,QS,Qx,↓ab,hn,h0,h1,c1,c2]
   refine(abg bd kW jn g7 Kb base s i b l p k hc hb hlen).mono ?_
   rintro _ s1 ⟨B,rfl,hB,hBF,iK,eK⟩
   obtain⟨L,hL⟩:∃L,L=lP l p k:=⟨_,rfl⟩
   have hL7:L.length<=7:=by rw[hL];unfold lP;split<;>simp;omega
   rw[<-hL] at hB
   simp only[aj,aa,QS,Qx,↓ab,hn,ba,List.getElem?_toArray,List.getElem?_cons_zero,List.getElem?_cons_succ,hB.aG.bm a0]
   refine Comes.eZ (fun q f s' =>∃j:an,q=L.length-j/\j<=L.length/\f.n=37/\f.get 7= .bool (decide (0<=k/\k<=(l.length-p:an)))/\f.get 8= .int .i64 (j8 (L.take j))/\f.get 23=B/\f.get 24= .int .i64 L.length/\f.get 25= .int .i64 j/\s' =s1) ⟨0,rfl,by omega,by simp only[ag,hn],by simp only[ad,↓ab,Qx],by simp only[ad,↓ab,Qx];rfl,by simp only[ad,↓ab,Qx],by simp only[ad,↓ab,Qx],by simp only[ad,↓ab];rfl,rfl⟩ ?_
   clear hn h0 h1 f
   rintro q f s1 ⟨j,rfl,hj,hn,h7,h8,Y5,h24,h25,rfl⟩
   by_cases c:j<L.length
   ·have nM:j8 (L.take j)<4503599627370496:=Lg (by rw[c9];omega)
    have hb8:=(L.getD j 0).toNat_lt
    have mA:j8 (L.take j)*256+(L.getD j 0).toNat=j8 (L.take (j+1)):=by rw[qd c,vN]
    simp(disch:=omega)only[aj,QS,Qx,↓ab,hn,h8,Y5,h24,h25,c,VW,aD,hB.aG.indexAddr a0 bK,hB.aG.di kI,bw,bL cf cb,jV,ZU,mA]
    refine ay (L.length-(j+1)) (by omega) ⟨j+1,rfl,by omega,by simp only[ag,hn],by simp only[ad,↓ab,Qx,h7],by simp only[ad,↓ab,Qx],by simp only[ad,↓ab,Qx,Y5],by simp only[ad,↓ab,Qx,h24],by simp only[ad,↓ab];rfl,rfl⟩
   ·simp only[aj,al,oneOf,QS,Qx,↓ab,hn,h7,h8,h24,h25,c,ds]
    rw[cv (by omega)]
    have e1:(0<=k/\k<=(l.length-p:an))↔(1<=k/\k<=7/\k<=(l.length-p:an)):=by omega
    refine⟨?_,?_,eK⟩
    ·rw[bg (by omega),hL,decide_eq_decide.mpr e1]
    ·simp only[e1] at iK;exact iK
theorem MO {lib:aA}(hl:lib.at 101=none)(bd:lib.at 148=none)(kW:lib.at 186=none)(jn:lib.at 209=none)(g7:lib.at 105=none)(Kb:lib.at 36=none)(base:an)(s:aq)(i:an)(l:av ao)(p:an)(k:a4)(hc:jG base s i l p)(hb:base<=s.next)(hlen:l.length<=4294967296):
  Runs af lib 101 [gm i,.int .i64 k] s (ae5 base s i l p k):=by
 obtain⟨b,hc⟩:=hc
 refine(ae6 hl bd kW jn g7 Kb base s i b l p k hc hb hlen).mono ?_
 rintro v s' ⟨h1,h2,h3⟩
 exact⟨h1,⟨b,h2⟩,h3⟩
end Go.Proofs.YtdfjfncifneocaaGreat
namespace Go.Proofs.YtdfjfncifneocaaGreat
open Go.Cl Go.Cl.Rw Go.Cl.Sto Go.Cl.Fx Go.Cl.Nf Go.Cl.Bt
theorem X4 (n:an):((n:a4)).tmod 31=((n%31:an):a4):=by rw[Int.tmod_eq_emod_of_nonneg (by omega)];omega
theorem abh {D:av ao}(h:2<=D.length):j8 (lP D 0 2)=(D.getD 0 0).toNat*256+(D.getD 1 0).toNat:=by
 match D,h with
 |a::b::r,_=>
  have:lP (a::b::r) 0 2=[a,b]:=by
   unfold lP
   rw[bg (by simp only[List.length_cons];omega)]
   rfl
  rw[this]
  simp[j8]
theorem ajg {s:aq}{x:bb}{D:av ao}(hx:aN s 1 x D.length (ofBytes D))(h:2<=D.length):aN s 1 (dJ 1 x 2 D.length) (D.drop 2).length (ofBytes (D.drop 2)):=by
 have k:=hx.p9 (lo:=2) (hi:=D.length) h (b7 _)
 rw[cv (by rw[dc];exact b7 _)] at k
 exact k
theorem an3:Po df:=by
 have h:(nfp.all fun g=>(df.at g).isNone)=true:=by rfl
 intro g hg
 have:=List.all_eq_true.1 h g (by simpa using hg)
 exact Option.isNone_iff_eq_none.1 this
end Go.Proofs.YtdfjfncifneocaaGreat
namespace Go.Cl.Lz
theorem X5 (b:av ao)(most:an):∀(k p:an) (T:av (av ao)) (L out:av ao),out.length<=most->(dec b most k p T L out).2.length<=most:=by
 intro k
 induction k with
 |zero=>intro p T L out h;simpa [dec] using h
 |succ k ih=>
  intro p T L out h
  rw[dec]
  split
  ·simp
  ·split
   ·exact h
   ·split
    ·exact ih _ _ _ _ h
    ·split
     ·simp
     ·split
      ·simp
      ·exact ih _ _ _ _ (by rw[bk];omega)
theorem PH (b:av ao)(most:an):(vi b most).2.length<=most:=X5 b most _ _ _ _ _ (Nat.zero_le _)
end Go.Cl.Lz
namespace Go.Cl.Ch
open Go.Cl.Pr Go.Cl.Hx Go.Cl.B85
def fuelZ:an:=2000000
theorem MP:fuelZ=2000000:=rfl
attribute [irreducible] fuelZ
def ajh:c3 an (an×av ao)->av ao×a4
 | .ok r=>(r.2,0)
 | .error e=>([],((e:an):a4))
def UI (b:av ao)(most:a4):av ao×a4:=ajh (Nf.vn (8*b.length+fuelZ) b most.toNat)
def Y6 (b:av ao)(most:a4):av ao×a4:=((Lz.vi b most.toNat).2,(((Lz.vi b most.toNat).1:an):a4))
def lg (l:Lk)(r:av ao×a4):av ao×a4:=if r.2≠0 then([],r.2) else jF l.p l.co l.cl r.1
def pK (m:a4):a4:=if m<0 then 0 else m
theorem X6 (b:av ao)(most:a4):(UI b most).1.length<=most.toNat:=by
 unfold UI
 cases h:Nf.vn (8*b.length+fuelZ) b most.toNat with
 |error e=>simp[ajh]
 |ok r=>obtain⟨n,P⟩:=r;exact Nf.X2 h
theorem X7 (b:av ao)(most:a4):(Y6 b most).1.length<=most.toNat:=Lz.PH b _
end Go.Cl.Ch
namespace Go.Proofs.YtdfjfncifneocaaGreat
open Go.Cl Go.Cl.Pr Go.Cl.Ch Go.Cl.Hx Go.Cl.B85 Go.Cl.Uh
def fM (l:Lk)(b:av ao)(most:a4):av ao×a4:=
 if l.name=iI then lg l (UI b most) else if l.name=DZ then lg l (Y6 b most)
 else if l.name=ss then Ga (pK most) b (-1) [] else if l.name=Kc then sy (pK most) b [] []
 else Runs.dec most b []
theorem tQ.abi {s s' :aq}{l:av ao}{bad:a4}{v:bb}(h:tQ s.next s l bad v s'):vg s (l,bad) v s' :=by
 obtain⟨B,rfl,h1,h2,h3⟩:=h
 exact⟨B,rfl,⟨h1,h2,h3⟩⟩
end Go.Proofs.YtdfjfncifneocaaGreat
