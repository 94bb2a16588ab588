import Derived.Test.YtdfjfncifneocaaGreatFixB
open _root_ renaming reduceIte->ab,Nat->an,eq_false->ao,List->av,UInt8->ax,Int->aY,eq_true->a8,if_neg->bb,if_pos->bk,Except->bz,and_self->b5,true_and->en
open Go.Proofs.Tryz renaming prog->af,underlying3->a0,underlying22->a3,underlying115->bw,results163->b4,results162->ch,underlying5->cv,results196->cB,func162->cU,results194->cX,results195->c3,results198->c4,results197->c5,func194->dt,results165->eb,func195->ee,func196->eh,func197->ek
open List renaming getD_eq_getElem?_getD->aC,length_append->bl,getElem?_eq_getElem->ca,replicate->cD,take_length->cL,getElem?_eq_none->c6,length_singleton->c7,take_add_one->dv,cons_append->dP,length_cons->dT,take_zero->ec,count_nil->ed
open Go renaming Value->bq
open Int renaming tdiv_eq_ediv_of_nonneg->b7,tmod_eq_emod_of_nonneg->b8,toNat_natCast->ck
open Nat renaming le_refl->cb,pow_le_pow_right->cp,lt_of_lt_of_le->cz,mul_le_mul->cA,le_trans->cM,zero_le->dc,lt_of_le_of_lt->ds,sub_self->dw,mod_eq_of_lt->dI,div_le_self->ea,add_zero->eg,mod_lt->ep
open Go.IntKind renaming i64->cJ
open BitVec renaming ofInt->cT,ofInt_natCast->c8,toNat_ofNat->dk
open UInt8 renaming ofNat->c9
open Nat renaming reduceLT->QM,reduceEqDiff->WP
set_option maxHeartbeats 16000000
set_option linter.unusedSimpArgs false
set_option linter.unusedVariables false
set_option maxRecDepth 100000
namespace Go.Cl.Fx
open Go.Cl.Rw Go.Cl.Sto
structure lC (jf jb:an) (o:bq) (s:au) (o' :bq) (s' :au):Prop where
 next:s.next<=s'.next
 get:∀i,i<s.next->i≠jf->i≠jb->aI o≠some i->s'.heap.get i=s.heap.get i
 id:aI o' =aI o\/∃i,aI o' =some i/\s.next<=i
theorem lC.refl (jf jb:an)(o:bq)(s:au):lC jf jb o s o s:=⟨cb _,fun _ _ _ _ _=>rfl,.inl rfl⟩
theorem lC.trans {jf jb:an}{o o' o'' :bq}{s s' Fq:au}(h:lC jf jb o s o' s')(k:lC jf jb o' s' o'' Fq):lC jf jb o s o'' Fq:=by
 refine⟨cM h.next k.next,fun i hi h1 h2 h3=> ?_,?_⟩
 ·rw[k.get i (cz hi h.next) h1 h2 ?_,h.get i hi h1 h2 h3];rcases h.id with e|⟨q,e,hq⟩
  ·rw[e];exact h3
  rw[e];intro q2;injection q2 with q2;omega
 rcases k.id with e|⟨q,e,hq⟩
 ·rcases h.id with e2|⟨q,e2,hq⟩
  ·exact .inl (by rw[e,e2])
  exact .inr ⟨q,by rw[e,e2],hq⟩
 exact .inr ⟨q,e,cM h.next hq⟩
theorem lC.stay {jf jb base:an}{o o' :bq}{s s' :au}(h:lC jf jb o s o' s')(h1:base<=jf)(h2:base<=jb)(h3:aM base o)(hb:base<=s.next):aw base s s' :=
 ⟨h.next,fun i hi=>h.get i (by omega) (by omega) (by omega) (fun e=>by have:=h3 i e;omega)⟩
def Ja (jf jb:an)(o a:bq):Prop:=∀i,aI a=some i->i≠jf/\i≠jb/\aI o≠some i
theorem Ja.own {jf jb:an}{o o' a:bq}{s s' :au}{n:an}{L:av bq}(h:Ja jf jb o a)(ho:Own s 1 a n L)(k:lC jf jb o s o' s'):Own s' 1 a n L/\Ja jf jb o' a:=by
 refine⟨?_,fun i hi=>⟨(h i hi).1,(h i hi).2.1,?_⟩⟩
 ·cases ho with
  |nil=>exact .nil
  |of i n low l hi hb hl hlen=>
   have:=h i rfl;refine .of i _ low _ (cz hi k.next) ?_ hl hlen;simp only[au.bL,k.get i hi this.1 this.2.1 this.2.2];exact hb
 rcases k.id with e|⟨q,e,hq⟩
 ·rw[e];exact(h i hi).2.2
 rw[e];intro e2;injection e2 with e2;have:=ho.ei i hi;omega
theorem Py (D:av ax)(a:an):∀k,hi D a k<2^k
 |0=>by simp[hi]
 |k+1=>by
  have h1:=Py D a k;have h2:=qC D (a+k);simp only[hi];rw[Nat.pow_succ];omega
theorem HM (D:av ax)(a:an):bY D a 1=bit D a:=by simp[bY]
theorem Zo {x b:an}(hx:x<1000000)(hb:b<2):cJ.wrap (((cT cJ.bits ((x*2^1:an):aY)|||cT cJ.bits (b:aY)).toNat:an):aY)=((2*x+b:an):aY):=by
 have e1:cJ.bits=64:=rfl;rw[e1];have:(cT 64 ((x*2^1:an):aY)|||cT 64 (b:aY)).toNat=2*x+b:=by
  rw[BitVec.toNat_or,c8,c8,dk,dk,dI (by omega),dI (by omega)];have:=Nat.shiftLeft_add_eq_or_of_lt (i:=1) (b:=b) (by omega) x;rw[Nat.shiftLeft_eq] at this;rw[<-this];omega
 rw[this,aB (by omega)]
theorem X4 (P:Program)(t:TypeId)(k' :IntKind){x:an}(hx:x<1000000):dB P .shl t (.int .i64 ((x:an):aY)) (.int k' 1)=some (.int .i64 ((x*2^1:an):aY)):=by
 rw[p9 P t .i64 _ _ k' (by omega)];have e:min (1:aY).toNat cJ.bits=1:=by decide
 rw[e];have e2:((x:an):aY)*(2:aY)^1=((x*2^1:an):aY):=by omega
 rw[e2,aB (by omega)]
end Go.Cl.Fx
namespace Go.Proofs.YtdfjfncifneocaaGreat
open Go.Cl Go.Cl.Rw Go.Cl.Sto Go.Cl.Fx
theorem o7 {lib:aD}(hl:lib.at 162=none)(base:an)(s:au)(jf jb:an)(D P:av ax)(p n:an)(M:aY)(bv o:bq)(h:Fl base s jf jb D p P M bv o)(abt:n<=16)(hD:p+n<=8*D.length)(EE:D.length<=1000000000):
  Runs af lib 162 [dF jb,.int .i64 n] s fun v s' =>v= .int .i64 (bY D p n:an)/\Fl base s' jf jb D (p+n) P M bv o/\lC jf jb o s o s' :=by
 refine Runs.enter 72 cU rfl hl rfl rfl ?_;intro f hn hf;have h0:f.get 0=dF jb:=hf 0;have h1:f.get 1= .int .i64 n:=hf 1;clear hf;have l0:=h.b.load (P:=af) gJ (off:=0) (c:=4) rfl (by simp);have l1:=h.b.load (P:=af) aP (off:=1) (c:=4) rfl (by simp);have l2:=h.b.load (P:=af) aP (off:=2) (c:=4) rfl (by simp);have c1:¬(8*(D.length:aY)-(p:aY)<n):=by omega
 simp(disch:=omega)only[aj,ak,ad,QM,WP,↓ab,hn,h0,h1,HL,zh,cP,l0,l1,l2,h.low.aL.aQ a3,h.low.aL.self,aB,ao c1];refine Comes.de (fun q f s' =>∃(i:an),q=n-i/\i<=n/\Fl base s' jf jb D (p+i) P M bv o/\lC jf jb o s o s' /\f.n=72/\f.get 0=dF jb/\f.get 1= .int .i64 n/\f.get 5= .int .i64 (bY D p i:an)/\f.get 6= .int .i64 i)
  ⟨0,rfl,by omega,h,lC.refl _ _ _ _,by simp only[ag,hn],by simp only[aa,↓ab,WP,h0],by simp only[aa,↓ab,WP,h1],by simp only[aa,↓ab,WP];rfl,by simp only[aa,↓ab];rfl⟩ ?_
 clear hn h0 h1 f l0 l1 l2;rintro q f s1 ⟨i,rfl,hi,h,aF,hn,h0,h1,h5,h6⟩;by_cases tm:i<n
 ·have tO:(i:aY)<n:=by omega
  have l0:=h.b.load (P:=af) gJ (off:=0) (c:=4) rfl (by simp);have l1:=h.b.load (P:=af) aP (off:=1) (c:=4) rfl (by simp);have hm8:(p+i)%8<8:=ep _ (by omega);have a7:(p+i)/8<D.length:=by omega
  have k1:=h.low.aL.cu (P:=af) gQ a7;rw[aW a7] at k1;have hq:(D.getD ((p+i)/8) 0).toNat/2^((p+i)%8)<256:=ds (ea _ _) (D.getD ((p+i)/8) 0).toNat_lt;have NK:(D.getD ((p+i)/8) 0).toNat/2^((p+i)%8)%2=bit D (p+i):=rfl;have dr:=qC D (p+i);have hv:=cY D p i;have xx:bY D p i+bit D (p+i)*2^i=bY D p (i+1):=rfl;have vf:i<32:=by omega
  have oh:=orI hv dr vf;rw[xx] at oh;have jv:=h.low.aL.indexAddr (k:= .i64) (x:=(((p+i)/8:an):aY)) a3 cO (by omega) (by omega);rw[ck] at jv;have fV:=h.low.aL.self;have oG:=KI af 3 .u64 dr vf;simp(disch:=omega)only[aj,ak,QM,WP,↓ab,hn,h0,h1,h5,h6,a8 tO,HL,zh,l0,l1,fV,gA,Nq,dZ,Xn,aB,jv,k1,a9 a0 bw,pD,aet,fY,aeu,NK,a9 cv a0,oG,kd,oh,a0,bw];refine ba aV h.b rfl (by simp) rfl ?_;intro t2 FJ mf dA;simp(disch:=omega)only[aj,QM,WP,↓ab,hn,h6,aB];refine ar (n-(i+1)) (by omega) ⟨i+1,rfl,by omega,h.at (p' :=p+(i+1)) FJ mf dA,aF.trans ⟨by omega,fun q _ _ h2 _=>dA q h2,.inl rfl⟩,by simp only[aa,ag,↓ab,WP,hn,h0,h1,en];rfl⟩
 obtain rfl:i=n:=by omega
 have tO:¬(i:aY)<i:=by omega
 simp(disch:=omega)only[aj,al,oneOf,QM,WP,↓ab,hn,h1,h5,h6,ao tO,ch];exact⟨h,aF⟩
theorem Ar {lib:aD}(hl:lib.at 194=none)(base:an)(s:au)(jf jb:an)(D P:av ax)(p:an)(M:aY)(c:ax)(bv o:bq)(h:Fl base s jf jb D p P M bv o)(hM:(P.length:aY)<M)(Wq:P.length<=1000000000)(hb:base<=s.next):
  Runs af lib 194 [dF jf,.int .u8 c.toNat] s fun _ s' =>∃o',Fl base s' jf jb D p (P++[c]) M bv o' /\lC jf jb o s o' s' :=by
 refine Runs.enter 47 dt rfl hl rfl rfl ?_;intro f hn hf;have h0:f.get 0=dF jf:=hf 0;have h1:f.get 1= .int .u8 c.toNat:=hf 1;clear hf;have l2:=h.b.load (P:=af) aP (off:=2) (c:=4) rfl (by simp);have w0:=h.f.load (P:=af) cq (off:=0) (c:=4) rfl (by simp);have w1:=h.f.load (P:=af) gJ (off:=1) (c:=4) rfl (by simp);have w2:=h.f.load (P:=af) aP (off:=2) (c:=4) rfl (by simp);have c1:¬M<=(P.length:aY):=by omega
 simp only[aj,ak,ad,ae,QM,WP,↓ab,hn,h0,h1,cP,bT,Bw,Zn,l2,w0,w1,w2,h.own.aL.aQ a3,h.own.self,ao c1,gI a3 cO rU];refine cj a3 cO sm rU rfl h.own (by simp only[aa,↓ab,WP]) (by decide) (by simp only[ag,hn];decide) (by simp only[ag,hn];decide) (by rfl) (by decide) rfl (by omega) (by omega) h.fresh hb ?_;intro bs o2 s2 iV ig aR dK sd;have cE:∀j,j<s.next->aI o≠some j->aI o2≠some j:=fun j hj cE=>by
  rcases sd with e|⟨i,e,hi⟩
  ·rw[e];exact cE
  rw[e];intro q;injection q with q;omega
 have W9:=cE jb h.b.lt h.nb;have hnf:=cE jf h.f.lt h.nf;have xT:=h.f.turns dK h.nf;have dr:=h.b.turns dK h.nb;simp only[aj,QM,WP,↓ab,hn,Bw];refine ba iA xT rfl (by simp) iV.aL.aT ?_;intro s3 hf3 oX iT;simp only[aj,ah,cX];have bA:=aR.trans (aw.aK oX iT h.lf);refine⟨o2,⟨dr.turns (bG.aK (i:=jf) (o:=0) (c:=none) oX iT) (fun e=>h.ne (by injection e with e;exact e.symm)),hf3,h.low.stay bA,?_,ig,W9,hnf,h.ne,h.lb,h.lf⟩,⟨by have:=dK.next;omega,fun i hi h1 _ h3=>by rw[iT i h1,dK.get i hi h3],sd⟩⟩;rw[ct,bl];exact iV.aK oX iT hnf
end Go.Proofs.YtdfjfncifneocaaGreat
namespace Go.Cl.Nf
open Go.Cl.Sto Go.Cl.Fx
def dW (D:av ax)(p n:an):bz an an:=if p+n<=8*D.length then .ok (bY D p n) else .error 2
theorem dn {D:av ax}{p n:an}(h:p+n<=8*D.length):dW D p n= .ok (bY D p n):=bk h
theorem dO {D:av ax}{p n:an}(h:¬p+n<=8*D.length):dW D p n= .error 2:=bb h
def cn (C:av an)(n:an):an:=if n=0 then 0 else C.count n
def fst (C:av an):an->an
 |0=>0
 |n+1=>2*(fst C n+cn C n)
def lD (C:av an)(n:an):an->av an
 |0=>[]
 |k+1=>lD C n k++if C.getD k 0=n then [k] else []
def idx (C:av an)(n:an):av an:=lD C n C.length
def dp (C:av an):an->av an
 |0=>[]
 |n+1=>dp C n++idx C (n+1)
theorem od {C:av an}{k n:an}(h:k<C.length):(C.take (k+1)).count n=(C.take k).count n+if C.getD k 0=n then 1 else 0:=by
 rw[dv,ca h,List.count_append,aC,ca h];simp[List.count_singleton,beq_iff_eq]
theorem ql (C:av an)(n:an):∀k,k<=C.length->(lD C n k).length=(C.take k).count n
 |0,_=>by simp[lD]
 |k+1,h=>by
  rw[lD,bl,ql C n k (by omega),od (by omega)];split<;>simp
theorem xC (C:av an)(n:an):(idx C n).length=C.count n:=by
 unfold idx;rw[ql C n _ (cb _),cL]
theorem Pz (C:av an)(n:an):∀k,k<=C.length->∀r,r<(lD C n k).length->(lD C n k).getD r 0<k/\C.getD ((lD C n k).getD r 0) 0=n/\(C.take ((lD C n k).getD r 0)).count n=r
 |0,_,r,hr=>by simp[lD] at hr
 |k+1,h,r,hr=>by
  have hl:=ql C n k (by omega);by_cases c:r<(lD C n k).length
  ·obtain⟨h1,h2,h3⟩:=Pz C n k (by omega) r c;have e:(lD C n (k+1)).getD r 0=(lD C n k).getD r 0:=by
    rw[lD,aC,List.getElem?_append_left c,aC]
   rw[e];exact⟨by omega,h2,h3⟩
  rw[lD,bl] at hr;by_cases c2:C.getD k 0=n
  ·rw[bk c2] at hr;have fe:r=(lD C n k).length:=by simp at hr;omega
   have e:(lD C n (k+1)).getD r 0=k:=by
    rw[lD,bk c2,fe,aC,List.getElem?_append_right (cb _),dw];rfl
   rw[e];exact⟨by omega,c2,by omega⟩
  rw[bb c2] at hr;simp at hr;omega
theorem abu (C:av an)(n r:an)(hr:r<C.count n):(idx C n).getD r 0<C.length/\C.getD ((idx C n).getD r 0) 0=n/\(C.take ((idx C n).getD r 0)).count n=r:=
 Pz C n C.length (cb _) r (by have:=xC C n;unfold idx at this;omega)
theorem xD (C:av an)(n:an):∀{i j},i<=j->(C.take i).count n<=(C.take j).count n:=by
 intro i j h;exact List.Sublist.count_le _ ((List.take_prefix_take_left h).sublist)
theorem Va {C:av an}{n i j:an}(hi:i<C.length)(hj:j<C.length)(h1:C.getD i 0=n)(h2:C.getD j 0=n)(h:(C.take i).count n=(C.take j).count n):i=j:=by
 have key:∀{i j},i<C.length->C.getD i 0=n->i<j->(C.take i).count n<(C.take j).count n:=by
  intro i j hi h1 Dd;have:=xD C n (show i+1<=j by omega);rw[od hi,bk h1] at this;omega
 by_cases c:i<j
 ·have:=key hi h1 c;omega
 by_cases c2:j<i
 ·have:=key hj h2 c2;omega
 omega
theorem X5 {C:av an}{n i:an}(hi:i<C.length)(h1:C.getD i 0=n):(C.take i).count n<C.count n:=by
 have:=xD C n (show i+1<=C.length by omega);rw[od hi,bk h1,cL] at this;omega
def wH (D:av ax)(C:av an)(p n:an):Prop:=fst C n<=hi D p n/\hi D p n<fst C n+C.count n
instance (D:av ax) (C:av an) (p n:an):Decidable (wH D C p n):=by unfold wH;infer_instance
def nth (D:av ax)(C:av an)(p n:an):an:=(idx C n).getD (hi D p n-fst C n) 0
def EF (D:av ax)(C:av an)(p:an):an->an->bz an (an×an)
 |0,_=> .error 4
 |k+1,n=>if p+(n+1)<=8*D.length then(if wH D C p (n+1) then .ok (nth D C p (n+1),p+(n+1)) else EF D C p k (n+1)) else .error 2
def sym (D:av ax)(C:av an)(p:an):bz an (an×an):=EF D C p 15 0
theorem NZ {D:av ax}{C:av an}{p n:an}(h:wH D C p n):nth D C p n<C.length/\C.getD (nth D C p n) 0=n/\fst C n+(C.take (nth D C p n)).count n=hi D p n:=by
 obtain⟨h1,h2⟩:=h;obtain⟨k1,k2,k3⟩:=abu C n (hi D p n-fst C n) (by omega);exact⟨k1,k2,by show fst C n+(C.take ((idx C n).getD (hi D p n-fst C n) 0)).count n=_;rw[k3];omega⟩
theorem Vb {D:av ax}{C:av an}{p n i:an}(jK:i<C.length)(h1:C.getD i 0=n)(h2:fst C n+(C.take i).count n=hi D p n):wH D C p n/\nth D C p n=i:=by
 have h3:=X5 jK h1;have h:wH D C p n:=⟨by omega,by omega⟩;obtain⟨k1,k2,k3⟩:=NZ h;exact⟨h,Va k1 jK k2 h1 (by omega)⟩
theorem PA {D:av ax}{C:av an}{p:an}:∀{k n:an} {x q:an},EF D C p k n= .ok (x,q)->p+n<q/\q<=8*D.length/\q<=p+n+k/\x<C.length
 |0,n,x,q,h=>by simp[EF] at h
 |k+1,n,x,q,h=>by
  unfold EF at h;split at h
  ·split at h
   ·rename_i c1 c2;injection h with h;injection h with h1 h2
    have:=(NZ c2).1;omega
   have:=PA h;omega
  cases h
theorem sG {D:av ax}{C:av an}{p x q:an}(h:sym D C p= .ok (x,q)):p<q/\q<=8*D.length/\q<=p+15/\x<C.length:=by
 have:=PA h;omega
theorem Lf {D:av ax}{C:av an}{p:an}:∀{k n e:an},EF D C p k n= .error e->e=2\/e=4
 |0,n,e,h=>by injection h with h;exact .inr h.symm
 |k+1,n,e,h=>by
  unfold EF at h;split at h
  ·split at h
   ·cases h
   exact Lf h
  injection h with h;exact .inl h.symm
def rep (M back:an):an->av ax->bz an (av ax)
 |0,P=> .ok P
 |n+1,P=>if M<=P.length then .error 7 else rep M back n (P++[P.getD (P.length-back) 0])
def tz (D:av ax)(M:an):an->an->av ax->bz an (an×av ax)
 |0,a,P=> .ok (8*a,P)
 |k+1,a,P=>if a<D.length then(if M<=P.length then .error 7 else tz D M k (a+1) (P++[D.getD a 0])) else .error 2
def gB (D:av ax)(M p:an)(P:av ax):bz an (an×av ax):=
 if 8*((p+7)/8)+32<=8*D.length then
  if bY D (8*((p+7)/8)) 16+bY D (8*((p+7)/8)+16) 16=65535 then tz D M (bY D (8*((p+7)/8)) 16) ((p+7)/8+4) P else .error 4
 else .error 2
def vg (D:av ax)(M:an)(B:av an)(s p:an)(P:av ax):bz an (an×av ax):=
 if 285<s then .error 4 else
 match dW D p (jz s) with
 | .error e=> .error e
 | .ok x=>match sym D B (p+jz s) with
  | .error e=> .error e
  | .ok (c,q)=>if 30<=c then .error 4 else match dW D q (lW c) with
   | .error e=> .error e
   | .ok y=>if P.length<nm c y then .error 4 else match rep M (nm c y) (lenOf s x) P with
    | .error e=> .error e
    | .ok P' => .ok (q+lW c,P')
def iP (D:av ax)(M:an)(A B:av an):an->an->av ax->bz an (an×av ax)
 |0,_,_=> .error 2
 |k+1,p,P=>match sym D A p with
  | .error e=> .error e
  | .ok (s,q)=>if s=256 then .ok (q,P) else if s<256 then(if M<=P.length then .error 7 else iP D M A B k q (P++[c9 s])) else match vg D M B s q P with
   | .error e=> .error e
   | .ok (r,P')=>iP D M A B k r P'
def rR (D:av ax)(p:an):bz an (an×an×an):=
 match dW D p 5 with
 | .error e=> .error e
 | .ok n=>if 29<n then .error 4 else match dW D (p+5) 5 with
  | .error e=> .error e
  | .ok d=>if 29<d then .error 4 else match dW D (p+10) 4 with
   | .error e=> .error e
   | .ok k=> .ok (n+257,d+1,k+4)
def order:av an:=[16,17,18,0,8,7,9,6,10,5,11,4,12,3,13,2,14,1,15]
def zi (D:av ax):av an->an->av an->bz an (av an×an)
 |[],p,o=> .ok (o,p)
 |i::r,p,o=>match dW D p 3 with
  | .error e=> .error e
  | .ok x=>zi D r (p+3) (o.set i x)
def iY:av an->an
 |[]=>0
 |n::r=>(if 0<n then 2^(15-n) else 0)+iY r
def jF:av an->an
 |[]=>0
 |n::r=>(if 0<n then 1 else 0)+jF r
def na (C:av an):Prop:=iY C=32768\/(iY C<32768/\jF C<=1)
instance (C:av an):Decidable (na C):=by unfold na;infer_instance
def oA (D:av ax)(s p:an)(l:av an):bz an (an×an×an):=
 if s=16 then(if l.length=0 then .error 4 else match dW D p 2 with| .error e=> .error e| .ok n=> .ok (l.getD (l.length-1) 0,3+n,p+2))
 else if s=17 then(match dW D p 3 with| .error e=> .error e| .ok n=> .ok (0,3+n,p+3))
 else if s=18 then(match dW D p 7 with| .error e=> .error e| .ok n=> .ok (0,11+n,p+7))
 else .ok (s,1,p)
def ku (D:av ax)(C:av an)(many:an):an->an->av an->bz an (av an×an)
 |0,_,_=> .error 2
 |k+1,p,l=>if many<=l.length then .ok (l,p) else match sym D C p with
  | .error e=> .error e
  | .ok (s,q)=>match oA D s q l with
   | .error e=> .error e
   | .ok (x,n,r)=>if many<l.length+n then .error 4 else ku D C many k r (l++cD n x)
def zj (N:an)(D:av ax)(p:an):bz an ((av an×av an)×an):=
 match rR D p with
 | .error e=> .error e
 | .ok (n,d,k)=>match zi D (order.take k) (p+14) (cD 19 0) with
  | .error e=> .error e
  | .ok (o,q)=>if na o then(match ku D o (n+d) N q [] with
   | .error e=> .error e
   | .ok (l,r)=>if na (l.take n)/\na (l.drop n)/\l.getD 256 0≠0 then .ok ((l.take n,l.drop n),r) else .error 4) else .error 4
def iQ:av an:=(List.range 288).map fun s=>(Ej s).2
def lX:av an:=cD 32 5
def kv (N:an)(D:av ax)(M kind p:an)(P:av ax):bz an (an×av ax):=
 if kind=0 then gB D M p P
 else if kind=1 then iP D M iQ lX N p P
 else if kind=2 then(match zj N D p with
  | .error e=> .error e
  | .ok ((a,b),q)=>iP D M a b N q P)
 else .error 4
def mU (N:an)(D:av ax)(M p:an)(P:av ax):bz an (an×an×av ax):=
 match dW D p 1 with
 | .error e=> .error e
 | .ok last=>match dW D (p+1) 2 with
  | .error e=> .error e
  | .ok kind=>match kv N D M kind (p+3) P with
   | .error e=> .error e
   | .ok (q,P')=> .ok (last,q,P')
def mV (N:an)(D:av ax)(M:an):an->an->av ax->bz an (an×av ax)
 |0,_,_=> .error 2
 |k+1,p,P=>match mU N D M p P with
  | .error e=> .error e
  | .ok (last,q,P')=>if last=1 then .ok (q,P') else mV N D M k q P'
def zk (N:an)(D:av ax)(M:an):bz an (an×av ax):=mV N D M N 0 []
def Ext {α:Type}(x y:bz an α):Prop:=x= .error 2\/x=y
theorem oe {D:av ax}{p n x:an}(h:dW D p n= .ok x):p+n<=8*D.length/\x=bY D p n:=by
 unfold dW at h;split at h
 ·rename_i c;injection h with h;exact⟨c,h.symm⟩
 cases h
theorem PB {M back:an}:∀{n:an} {P P' :av ax},rep M back n P= .ok P' ->P.length<=M->P'.length<=M
 |0,P,P',h,hp=>by injection h with h;subst h;exact hp
 |n+1,P,P',h,hp=>by
  unfold rep at h;split at h
  ·cases h
  rename_i c;exact PB h (by rw[bl];simp;omega)
theorem PC {D:av ax}{M:an}:∀{k a:an} {P:av ax} {q:an} {P' :av ax},tz D M k a P= .ok (q,P')->a<=D.length->P.length<=M->8*a<=q/\q<=8*D.length/\P'.length<=M
 |0,a,P,q,P',h,ha,hp=>by injection h with h;injection h with h1 h2;subst h2;exact⟨by omega,by omega,hp⟩
 |k+1,a,P,q,P',h,ha,hp=>by
  unfold tz at h;split at h
  ·split at h
   ·cases h
   have:=PC h (by omega) (by rw[bl];simp;omega);omega
  cases h
theorem EG {D:av ax}{M p:an}{P:av ax}{q:an}{P' :av ax}(h:gB D M p P= .ok (q,P'))(hp:P.length<=M):p<=q/\q<=8*D.length/\P'.length<=M:=by
 unfold gB at h;split at h
 ·split at h
  ·have:=PC h (by omega) hp;omega
  cases h
 cases h
theorem Lg {D:av ax}{M:an}{B:av an}{s p:an}{P:av ax}{q:an}{P' :av ax}(h:vg D M B s p P= .ok (q,P'))(hp:P.length<=M):p<=q/\q<=8*D.length/\P'.length<=M:=by
 unfold vg at h;split at h
 ·cases h
 cases h1:dW D p (jz s) with
 |error e=>rw[h1] at h;cases h
 |ok x=>
  rw[h1] at h;dsimp only at h;cases h2:sym D B (p+jz s) with
  |error e=>rw[h2] at h;cases h
  |ok c=>
   rw[h2] at h;dsimp only at h;split at h
   ·cases h
   cases h3:dW D c.2 (lW c.1) with
   |error e=>rw[h3] at h;cases h
   |ok y=>
    rw[h3] at h;dsimp only at h;split at h
    ·cases h
    cases h4:rep M (nm c.1 y) (lenOf s x) P with
    |error e=>rw[h4] at h;cases h
    |ok P2=>
     rw[h4] at h;injection h with h;injection h with e1 e2
     subst e2;have:=sG h2;have:=oe h3;have:=PB h4 hp;omega
theorem o8 {D:av ax}{M:an}{A B:av an}:∀{k p:an} {P:av ax} {q:an} {P' :av ax},iP D M A B k p P= .ok (q,P')->P.length<=M->p<=q/\q<=8*D.length/\P'.length<=M
 |0,p,P,q,P',h,hp=>by cases h
 |k+1,p,P,q,P',h,hp=>by
  unfold iP at h;cases h1:sym D A p with
  |error e=>rw[h1] at h;cases h
  |ok c=>
   rw[h1] at h;have hs:=sG h1;dsimp only at h;split at h
   ·injection h with h;injection h with e1 e2
    subst e2;exact⟨by omega,by omega,hp⟩
   split at h
   ·split at h
    ·cases h
    have:=o8 h (by rw[bl];simp;omega);omega
   cases h2:vg D M B c.1 c.2 P with
   |error e=>rw[h2] at h;cases h
   |ok c2=>
    rw[h2] at h;have:=Lg h2 hp;have:=o8 h (by omega);omega
theorem Vc {N:an}{D:av ax}{M kind p:an}{P:av ax}{q:an}{P' :av ax}(h:kv N D M kind p P= .ok (q,P'))(hp:P.length<=M):q<=8*D.length/\P'.length<=M:=by
 unfold kv at h;split at h
 ·exact(EG h hp).2
 split at h
 ·exact(o8 h hp).2
 split at h
 ·cases h1:zj N D p with
  |error e=>rw[h1] at h;cases h
  |ok c=>rw[h1] at h;exact(o8 h hp).2
 cases h
theorem As {N:an}{D:av ax}{M p:an}{P:av ax}{last q:an}{P' :av ax}(h:mU N D M p P= .ok (last,q,P'))(hp:P.length<=M):q<=8*D.length/\P'.length<=M/\last<2:=by
 unfold mU at h;cases h1:dW D p 1 with
 |error e=>rw[h1] at h;cases h
 |ok c=>
  rw[h1] at h;dsimp only at h;cases h2:dW D (p+1) 2 with
  |error e=>rw[h2] at h;cases h
  |ok d=>
   rw[h2] at h;dsimp only at h;cases h3:kv N D M d (p+3) P with
   |error e=>rw[h3] at h;cases h
   |ok r=>
    rw[h3] at h;injection h with h;injection h with e0 h;injection h with e1 e2
    have:=Vc h3 hp;have hb:=(oe h1).2;have hl:=cY D p 1;subst e0 e1 e2;exact⟨this.1,this.2,by omega⟩
theorem EH {N:an}{D:av ax}{M:an}:∀{k p:an} {P:av ax} {q:an} {P' :av ax},mV N D M k p P= .ok (q,P')->P.length<=M->q<=8*D.length/\P'.length<=M
 |0,p,P,q,P',h,hp=>by cases h
 |k+1,p,P,q,P',h,hp=>by
  unfold mV at h;cases h1:mU N D M p P with
  |error e=>rw[h1] at h;cases h
  |ok c=>
   rw[h1] at h;have hb:=As h1 hp;dsimp only at h;split at h
   ·injection h with h;injection h with e1 e2
    subst e1 e2;exact⟨hb.1,hb.2.1⟩
   exact EH h hb.2.1
theorem EI {N:an}{D:av ax}{M q:an}{P:av ax}(h:zk N D M= .ok (q,P)):q<=8*D.length/\P.length<=M:=EH h (dc _)
def gW (D:av ax)(x:bz an an)(n:an):an:=match x with| .ok p=>if p+n<=8*D.length then bY D p n else 0| .error _=>0
def jP (D:av ax)(x:bz an an)(n:an):bz an an:=match x with| .ok p=>if p+n<=8*D.length then .ok (p+n) else .error 2| .error e=> .error e
theorem lF (D:av ax)(x:bz an an)(n:an):gW D x n<2^n:=by
 have:=Nat.two_pow_pos n;unfold gW;split
 ·split
  ·exact cY ..
  exact this
 exact this
def qG:bz an an->an
 | .ok _=>0
 | .error e=>e
theorem Jb (C:av an)(l:an):∀(f i:an) (o:av an) (n:an),i+f=C.length->o.length=C.length->
  (tx C l f i o n).2+(C.take i).count l=n+C.count l/\∀j,j<C.length->(tx C l f i o n).1.getD j 0=if i<=j/\C.getD j 0=l then n+(C.take j).count l-(C.take i).count l else o.getD j 0
 |0,i,o,n,h,ho=>by
  have:i=C.length:=by omega
  subst this;refine⟨by simp[tx],fun j hj=> ?_⟩;rw[bb (by omega)];rfl
 |f+1,i,o,n,h,ho=>by
  have hi:i<C.length:=by omega
  have hc:=od (n:=l) hi;unfold tx;by_cases c:C.getD i 0=l
  ·rw[bk c] at hc|-
   obtain⟨h1,h2⟩:=Jb C l f (i+1) (o.set i n) (n+1) (by omega) (by simpa using ho);refine⟨by omega,fun j hj=> ?_⟩;rw[h2 j hj];by_cases e:j=i
   ·subst e;rw[bb (by omega),bk ⟨cb _,c⟩,aC,List.getElem?_set_self (by omega)];show n=_;omega
   by_cases e2:i+1<=j/\C.getD j 0=l
   ·have:=xD C l e2.1;rw[bk e2,bk ⟨by omega,e2.2⟩];omega
   rw[bb e2,bb (fun q=>e2 ⟨by omega,q.2⟩),aC,List.getElem?_set_ne (by omega),aC]
  rw[bb c] at hc|-
  obtain⟨h1,h2⟩:=Jb C l f (i+1) o n (by omega) ho;refine⟨by omega,fun j hj=> ?_⟩;rw[h2 j hj];by_cases e:j=i
  ·subst e;rw[bb (by omega),bb (fun q=>c q.2)]
  by_cases e2:i+1<=j/\C.getD j 0=l
  ·rw[bk e2,bk ⟨by omega,e2.2⟩];omega
  rw[bb e2,bb (fun q=>e2 ⟨by omega,q.2⟩)]
theorem PD (C:av an):∀(f l:an) (o:av an) (n:an),l+f=16->1<=l->o.length=C.length->n=fst C (l-1)+cn C (l-1)->
  ∀j,j<C.length->(KM C f l o n).getD j 0=if l<=C.getD j 0/\C.getD j 0<=15 then fst C (C.getD j 0)+(C.take j).count (C.getD j 0) else o.getD j 0
 |0,l,o,n,h,h1,ho,hn,j,hj=>by
  rw[bb (by omega)];rfl
 |f+1,l,o,n,h,h1,ho,hn,j,hj=>by
  obtain⟨k1,k2⟩:=Jb C l C.length 0 o (2*n) (by omega) ho;have e:2*n=fst C l:=by
   obtain⟨m,rfl⟩:∃m,l=m+1:=⟨l-1,by omega⟩
   rw[hn];rfl
  have ecn:cn C l=C.count l:=bb (by omega);rw[ec,ed] at k1;unfold KM;rw[PD C f (l+1) _ _ (by omega) (by omega) (by rw[uO];exact ho) (by rw[Nat.add_sub_cancel,ecn,<-e];omega) j hj,k2 j hj];by_cases c:C.getD j 0=l
  ·rw[bb (by omega),bk ⟨dc _,c⟩,bk (by omega),c,e,ec,ed];rfl
  by_cases c2:l+1<=C.getD j 0/\C.getD j 0<=15
  ·rw[bk c2,bk (by omega)]
  rw[bb c2,bb (fun q=>c q.2),bb (by omega)]
def KOk (C K:av an):Prop:=K.length=C.length/\∀i,i<C.length->1<=C.getD i 0->C.getD i 0<=15->K.getD i 0=fst C (C.getD i 0)+(C.take i).count (C.getD i 0)
theorem sH (C:av an):(fQ C).length=C.length:=by
 unfold fQ;have:∀(f l:an) (o:av an) (n:an),(KM C f l o n).length=o.length:=by
  intro f
  induction f with
  |zero=>intro l o n;rfl
  |succ f ih=>intro l o n;unfold KM;rw[ih,uO]
 rw[this];simp
theorem At (C:av an):KOk C (fQ C):=⟨sH C,fun i hi h1 h2=>by
 unfold fQ;rw[PD C 15 1 (cD C.length 0) 0 rfl (cb _) (by simp) rfl i hi,bk ⟨h1,h2⟩]⟩
def sI (C:av an):Prop:=∀i,C.getD i 0<=15
theorem Vd (A B:av an):iY (A++B)=iY A+iY B:=by
 induction A with
 |nil=>simp[iY]
 |cons a r ih=>simp only[dP,iY,ih];omega
theorem RD (A B:av an):jF (A++B)=jF A+jF B:=by
 induction A with
 |nil=>simp[jF]
 |cons a r ih=>simp only[dP,jF,ih];omega
theorem Jc:∀C:av an,iY C<=32768*C.length
 |[]=>cb _
 |a::r=>by
  have:=Jc r;have h:2^(15-a)<=2^15:=cp (by omega) (by omega);have h2:(2:an)^15=32768:=by decide
  simp only[iY,dT];split<;>omega
theorem EJ:∀C:av an,jF C<=C.length
 |[]=>cb _
 |a::r=>by
  have:=EJ r;simp only[jF,dT];split<;>omega
theorem EK {C:av an}{i:an}(h:i<C.length):C.take (i+1)=C.take i++[C.getD i 0]:=by
 rw[dv,ca h,aC,ca h];rfl
theorem HN {C:av an}{i:an}(h:i<C.length):iY (C.take (i+1))=iY (C.take i)+if 0<C.getD i 0 then 2^(15-C.getD i 0) else 0:=by
 rw[EK h,Vd];simp[iY]
theorem EL {C:av an}{i:an}(h:i<C.length):jF (C.take (i+1))=jF (C.take i)+if 0<C.getD i 0 then 1 else 0:=by
 rw[EK h,RD];simp[jF]
theorem RE:sI iQ:=by
 intro i;by_cases h:i<288
 ·have:iQ.getD i 0=(Ej i).2:=by simp[iQ,aC,List.getElem?_map,List.getElem?_range h]
  rw[this];have:=T4 i;omega
 rw[aC,c6 (by simp[iQ];omega)];exact dc _
theorem RF:sI lX:=by
 intro i;by_cases h:i<32
 ·have key:∀i,i<32->lX.getD i 0<=15:=by decide
  exact key i h
 rw[aC,c6 (by simp[lX];omega)];exact dc _
end Go.Cl.Nf
namespace Go.Proofs.YtdfjfncifneocaaGreat
open Go.Cl Go.Cl.Rw Go.Cl.Sto Go.Cl.Fx Go.Cl.Nf
structure ajM (base:an) (s:au) (jf jb e:an) (bv pv o m:bq):Prop where
 b:az s jb [bv,pv,.int .i64 (e:an)]
 f:az s jf [dF jb,o,m]
 pos:0<e
 ne:jb≠jf
 lb:base<=jb
 lf:base<=jf
def Bd (base:an)(s:au)(jf jb e:an):Prop:=∃bv pv o m,ajM base s jf jb e bv pv o m
theorem mW {lib:aD}(hl:lib.at 167=none)(s:au)(jb:an)(bv pv:bq)(e:an)(h:az s jb [bv,pv,.int .i64 0]):
  Runs af lib 167 [dF jb,.int .i64 (e:an)] s fun _ s' =>az s' jb [bv,pv,.int .i64 (e:an)]/\s'.next=s.next/\∀i,i≠jb->s'.heap.get i=s.heap.get i:=by
 refine Runs.enter 13 Tryz.func167 rfl hl rfl rfl ?_;intro f hn hf;have h0:f.get 0=dF jb:=hf 0;have h1:f.get 1= .int .i64 (e:an):=hf 1;clear hf;have l2:=h.load (P:=af) aP (off:=2) (c:=4) rfl (by simp);simp only[aj,ak,QM,WP,↓ab,hn,h0,h1,cP,l2];refine ba aV h rfl (by simp) rfl ?_;intro s1 MD gZ fL;simp only[aj,ah,Tryz.results167];exact⟨MD,gZ,fL⟩
theorem Fl.bad {base:an}{s s' :au}{jf jb:an}{D P:av ax}{p:an}{M:aY}{bv o:bq}(h:Fl base s jf jb D p P M bv o){e:an}{pv:bq}(he:0<e)(hb:az s' jb [bv,pv,.int .i64 (e:an)])(hn:s'.next=s.next)(hs:∀i,i≠jb->s'.heap.get i=s.heap.get i):Bd base s' jf jb e/\lC jf jb o s o s' :=
 ⟨⟨_,_,_,_,⟨hb,h.f.turns (bG.aK (i:=jb) (o:=0) (c:=none) hn hs) (fun e=>h.ne (by injection e)),he,h.ne,h.lb,h.lf⟩⟩,⟨by omega,fun i _ _ h2 _=>hs i h2,.inl rfl⟩⟩
theorem o9 {lib:aD}(hl:lib.at 162=none)(jt:lib.at 167=none)(base:an)(s:au)(jf jb:an)(D P:av ax)(p n:an)(M:aY)(bv o:bq)(h:Fl base s jf jb D p P M bv o)(abt:n<=16)(hD:¬p+n<=8*D.length)(BS:p<=8*D.length)(EE:D.length<=1000000000):
  Runs af lib 162 [dF jb,.int .i64 n] s fun v s' =>v= .int .i64 0/\Bd base s' jf jb 2/\lC jf jb o s o s' :=by
 refine Runs.enter 72 cU rfl hl rfl rfl ?_;intro f hn hf;have h0:f.get 0=dF jb:=hf 0;have h1:f.get 1= .int .i64 n:=hf 1;clear hf;have l0:=h.b.load (P:=af) gJ (off:=0) (c:=4) rfl (by simp);have l1:=h.b.load (P:=af) aP (off:=1) (c:=4) rfl (by simp);have l2:=h.b.load (P:=af) aP (off:=2) (c:=4) rfl (by simp);have c1:(8*(D.length:aY)-(p:aY)<n):=by omega
 simp(disch:=omega)only[aj,ak,ad,QM,WP,↓ab,hn,h0,h1,HL,zh,cP,l0,l1,l2,h.low.aL.aQ a3,h.low.aL.self,aB,a8 c1];refine(mW jt s jb bv _ 2 h.b).mono ?_;rintro _ s1 ⟨fp,gZ,fL⟩;obtain⟨hB,dg⟩:=h.bad (by decide) fp gZ fL;have l2:=fp.load (P:=af) aP (off:=2) (c:=4) rfl (by simp);have c0:¬((2:an):aY)=0:=by decide
 simp only[aj,ak,al,oneOf,QM,WP,↓ab,undef,hn,h0,cP,l2,ao c0,ch];exact⟨hB,dg⟩
theorem HO {lib:aD}(hl:lib.at 162=none)(base:an)(s:au)(jf jb e:an)(n:an)(h:Bd base s jf jb e):
  Runs af lib 162 [dF jb,.int .i64 n] s fun v s' =>v= .int .i64 0/\s' =s:=by
 obtain⟨bv,pv,o,m,h⟩:=h;refine Runs.enter 72 cU rfl hl rfl rfl ?_;intro f hn hf;have h0:f.get 0=dF jb:=hf 0;have h1:f.get 1= .int .i64 n:=hf 1;clear hf;have l2:=h.b.load (P:=af) aP (off:=2) (c:=4) rfl (by simp);have hp:=h.pos;have c0:¬(e:aY)=0:=by omega
 simp only[aj,ak,al,oneOf,QM,WP,↓ab,undef,hn,h0,cP,l2,ao c0,ch]
theorem Au {lib:aD}(hl:lib.at 194=none)(jt:lib.at 167=none)(base:an)(s:au)(jf jb:an)(D P:av ax)(p:an)(M:aY)(c:ax)(bv o:bq)(h:Fl base s jf jb D p P M bv o)(hM:M<=(P.length:aY)):
  Runs af lib 194 [dF jf,.int .u8 c.toNat] s fun _ s' =>Bd base s' jf jb 7/\lC jf jb o s o s' :=by
 refine Runs.enter 47 dt rfl hl rfl rfl ?_;intro f hn hf;have h0:f.get 0=dF jf:=hf 0;have h1:f.get 1= .int .u8 c.toNat:=hf 1;clear hf;have l2:=h.b.load (P:=af) aP (off:=2) (c:=4) rfl (by simp);have w0:=h.f.load (P:=af) cq (off:=0) (c:=4) rfl (by simp);have w1:=h.f.load (P:=af) gJ (off:=1) (c:=4) rfl (by simp);have w2:=h.f.load (P:=af) aP (off:=2) (c:=4) rfl (by simp);simp only[aj,ak,ad,QM,WP,↓ab,hn,h0,cP,bT,Bw,Zn,l2,w0,w1,w2,h.own.aL.aQ a3,h.own.self,a8 hM];refine(mW jt s jb bv _ 7 h.b).mono ?_;rintro _ s1 ⟨fp,gZ,fL⟩;obtain⟨hB,dg⟩:=h.bad (by decide) fp gZ fL;have BL:=h.f.turns (bG.aK (i:=jb) (o:=0) (c:=none) gZ fL) (fun e=>h.ne (by injection e));have w0:=BL.load (P:=af) cq (off:=0) (c:=4) rfl (by simp);have l2:=fp.load (P:=af) aP (off:=2) (c:=4) rfl (by simp);have c0:¬((7:an):aY)=0:=by decide
 simp only[aj,ak,ah,QM,WP,↓ab,undef,hn,h0,bT,w0,cP,l2,ao c0,cX];exact⟨hB,dg⟩
theorem RG {lib:aD}(hl:lib.at 194=none)(base:an)(s:au)(jf jb e:an)(c:bq)(h:Bd base s jf jb e):
  Runs af lib 194 [dF jf,c] s fun _ s' =>s' =s:=by
 obtain⟨bv,pv,o,m,h⟩:=h;refine Runs.enter 47 dt rfl hl rfl rfl ?_;intro f hn hf;have h0:f.get 0=dF jf:=hf 0;have h1:f.get 1=c:=hf 1;clear hf;have l2:=h.b.load (P:=af) aP (off:=2) (c:=4) rfl (by simp);have w0:=h.f.load (P:=af) cq (off:=0) (c:=4) rfl (by simp);have hp:=h.pos;have c0:¬(e:aY)=0:=by omega
 simp only[aj,ak,ah,QM,WP,↓ab,undef,hn,h0,cP,bT,l2,w0,ao c0,cX]
def vC (jf jb:an)(o:bq)(s:au)(a:bq)(C:av an):Prop:=aU s 1 a C.length (bm C)/\∀i,aI a=some i->i<s.next/\i≠jf/\i≠jb/\aI o≠some i
theorem vC.to {jf jb:an}{o o' a:bq}{s s' :au}{C:av an}(h:vC jf jb o s a C)(k:lC jf jb o s o' s'):vC jf jb o' s' a C:=by
 obtain⟨h1,h2⟩:=h;refine⟨?_,fun i hi=>⟨cz (h2 i hi).1 k.next,(h2 i hi).2.1,(h2 i hi).2.2.1,?_⟩⟩
 ·generalize bm C=L at h1;generalize C.length=n at h1;cases h1 with
  |nil=>exact .nil
  |bare i off=>exact .bare i off
  |of i off n c b l hi hb hz hl hc hlen eO ht=>
   have:=h2 i rfl;refine .of i off _ c b _ (cz hi k.next) ?_ hz hl hc hlen eO ht;simp only[au.bL,k.get i hi this.2.1 this.2.2.1 this.2.2.2];exact hb
 rcases k.id with e|⟨q,e,hq⟩
 ·rw[e];exact(h2 i hi).2.2.2
 rw[e];intro e2;injection e2 with e2;have:=(h2 i hi).1;omega
def abv (base jf jb:an)(D P:av ax)(M:aY)(bv o:bq)(s:au)(v:bq)(s' :au):bz an (an×an)->Prop
 | .ok (x,q)=>v= .int .i64 (x:an)/\Fl base s' jf jb D q P M bv o/\lC jf jb o s o s'
 | .error e=>v= .int .i64 0/\Bd base s' jf jb e/\lC jf jb o s o s'
theorem EM {lib:aD}(hl:lib.at 195=none)(a7:lib.at 162=none)(jt:lib.at 167=none)(base:an)(s:au)(jf jb:an)(D P:av ax)(p:an)(M:aY)(bv o:bq)(h:Fl base s jf jb D p P M bv o)(BS:p<=8*D.length)(EE:D.length<=1000000000)
  (ta tc:bq) (C K:av an) (hA:vC jf jb o s ta C) (hK:vC jf jb o s tc K) (hKO:KOk C K) (hCl:C.length<=1000):
  Runs af lib 195 [dF jb,ta,tc] s fun v s' =>abv base jf jb D P M bv o s v s' (sym D C p):=by
 obtain⟨hKl,hKc⟩:=hKO;refine Runs.enter 47 ee rfl hl rfl rfl ?_;intro f hn hf;have h0:f.get 0=dF jb:=hf 0;have h1:f.get 1=ta:=hf 1;have h2:f.get 2=tc:=hf 2;clear hf;simp only[aj,QM,↓ab,hn];refine Comes.bD (fun z f t=>∃k:an,z=15-k/\k<=15/\p+k<=8*D.length/\EF D C p (15-k) k=sym D C p/\Fl base t jf jb D (p+k) P M bv o/\lC jf jb o s o t/\vC jf jb o t ta C/\vC jf jb o t tc K/\f.n=47/\f.get 0=dF jb/\f.get 1=ta/\f.get 2=tc/\f.get 7= .int .i64 (hi D p k:an)/\f.get 8= .int .i64 ((k:aY)+1))
  (fun z f t=>(z= .ret/\f.n=47/\abv base jf jb D P M bv o s (f.get 6) t (sym D C p))\/(z= .exit 0/\sym D C p= .error 4/\Fl base t jf jb D (p+15) P M bv o/\lC jf jb o s o t/\f.n=47/\f.get 0=dF jb))
  ⟨0,rfl,by omega,by omega,rfl,h,lC.refl _ _ _ _,hA,hK,by simp only[ag,hn],by simp only[aa,↓ab,WP,h0],by simp only[aa,↓ab,WP,h1],by simp only[aa,↓ab,WP,h2],by simp only[aa,↓ab,WP];rfl,by simp only[aa,↓ab];rfl⟩ ?_ ?_
 ·clear hn h0 h1 h2 f h hA hK;rintro Q hQ z f t ⟨k,rfl,hk,hkD,tC,hF,dg,hA,hK,hn,h0,h1,h2,h7,h8⟩;by_cases afg:k<15;rotate_left
  ·obtain rfl:k=15:=by omega
   have d1:¬((15:an):aY)+1<=15:=by omega
   simp only[aj,QM,↓ab,hn,h8,ao d1];exact hQ _ _ _ (.inr ⟨rfl,tC.symm,hF,dg,by simp only[aa,ag,↓ab,WP,hn,h0,b5]⟩)
  have d1:(k:aY)+1<=15:=by omega
  have ajN:2^k<=2^15:=cp (by omega) (by omega);have TG:(2:an)^15=32768:=by decide
  have hhl:=Py D p k;have oG:=X4 af 3 .u64 (x:=hi D p k) (by omega);rw[show 15-k=(15-(k+1))+1 by omega,EF] at tC;simp only[aj,ak,ad,QM,WP,↓ab,hn,h0,h7,h8,a8 d1,oG];by_cases gw:p+(k+1)<=8*D.length;rotate_left
  ·rw[bb gw] at tC;refine(o9 a7 jt base t jf jb D P (p+k) 1 M bv o hF (by omega) (by omega) hkD EE).mono ?_;rintro _ t1 ⟨rfl,ua,mZ⟩;obtain⟨jS,Mc,o',m',hB⟩:=id ua;have l2:=hB.b.load (P:=af) aP (off:=2) (c:=4) rfl (by simp);have c0:¬((2:an):aY)=0:=by decide
   simp only[aj,ak,QM,WP,↓ab,hn,h0,kd,cP,l2,ao c0];exact hQ _ _ _ (.inl ⟨rfl,by simp only[ag,hn],by rw[<-tC];exact⟨by simp only[aa,↓ab],ua,dg.trans mZ⟩⟩)
  rw[bk gw] at tC;refine(o7 a7 base t jf jb D P (p+k) 1 M bv o hF (by omega) (by omega) EE).mono ?_;rintro _ t1 ⟨rfl,L4,mZ⟩;rw[HM];have oh:=Zo (x:=hi D p k) (b:=bit D (p+k)) (by omega) (qC _ _);have ehi:2*hi D p k+bit D (p+k)=hi D p (k+1):=rfl;rw[ehi] at oh;have BR:=hA.to mZ;have hK1:=hK.to mZ;have hK2:aU t1 1 tc C.length (bm K):=by rw[<-hKl];exact hK1.1
  have mZ:=dg.trans mZ;have l2:=L4.b.load (P:=af) aP (off:=2) (c:=4) rfl (by simp);simp only[aj,ak,QM,WP,↓ab,hn,h0,kd,oh,cP,l2];refine Comes.bD (fun z f t' =>∃i:an,z=C.length-i/\i<=C.length/\(∀j,j<i->C.getD j 0=k+1->K.getD j 0≠hi D p (k+1))/\t' =t1/\f.n=47/\f.get 0=dF jb/\f.get 1=ta/\f.get 2=tc/\f.get 7= .int .i64 (hi D p (k+1):an)/\f.get 8= .int .i64 ((k:aY)+1)/\f.get 9= .int .i64 (i:an))
   (fun z f t' =>(z= .ret/\wH D C p (k+1)/\t' =t1/\f.n=47/\f.get 6= .int .i64 (nth D C p (k+1):an))\/(z= .exit 2/\¬wH D C p (k+1)/\t' =t1/\f.n=47/\f.get 0=dF jb/\f.get 1=ta/\f.get 2=tc/\f.get 7= .int .i64 (hi D p (k+1):an)/\f.get 8= .int .i64 ((k:aY)+1)))
   ⟨0,rfl,by omega,fun j hj=>absurd hj (Nat.not_lt_zero j),rfl,by simp only[aa,ag,↓ab,WP,hn,h0,h1,h2,h8,en];rfl⟩ ?_ ?_
  ·clear hn h0 h1 h2 h7 h8 f;rintro Q2 El z f t' ⟨i,rfl,sO,hiq,rfl,hn,h0,h1,h2,h7,h8,h9⟩;by_cases uP:i<C.length;rotate_left
   ·obtain rfl:i=C.length:=by omega
    have d2:¬((C.length:an):aY)<((C.length:an):aY):=by omega
    have BX:¬wH D C p (k+1):=fun X6=>by
     obtain⟨k1,k2,k3⟩:=NZ X6;have k4:=hKc _ k1 (by omega) (by omega);rw[k2] at k4;exact hiq _ k1 k2 (by omega)
    simp only[aj,ak,ad,QM,WP,↓ab,hn,h1,h9,BR.1.aQ dE,ao d2];exact El _ _ _ (.inr ⟨rfl,BX,rfl,by simp only[aa,ag,↓ab,WP,hn,h0,h1,h2,h7,h8,b5]⟩)
   have d2:(i:aY)<(C.length:aY):=by omega
   have jK:=BR.1.indexAddr (P:=af) (k:= .i64) (x:=(i:aY)) dE aV (by omega) (by omega);have xJ:=hK2.indexAddr (P:=af) (k:= .i64) (x:=(i:aY)) dS aV (by omega) (by omega);rw[ck] at jK xJ;have k1:=BR.1.cu (P:=af) xm uP;have k2:=hK2.cu (P:=af) xm uP;rw[fm uP] at k1;rw[fm (by rw[hKl];exact uP)] at k2;by_cases e1:C.getD i 0=k+1
   ·have d3:((C.getD i 0:an):aY)=(k:aY)+1:=by omega
    by_cases e2:K.getD i 0=hi D p (k+1)
    ·have d4:((K.getD i 0:an):aY)=((hi D p (k+1):an):aY):=by omega
     have k4:=hKc i uP (by omega) (by omega);rw[e1] at k4;obtain⟨a1,a2⟩:=Vb (D:=D) (p:=p) uP e1 (by omega);simp only[aj,ak,ad,QM,WP,↓ab,hn,h1,h2,h7,h8,h9,BR.1.aQ dE,a8 d2,jK,xJ,k1,k2,a8 d3,a8 d4];exact El _ _ _ (.inl ⟨rfl,a1,rfl,by simp only[ag,hn],by simp only[aa,↓ab];rw[a2]⟩)
    have d4:¬((K.getD i 0:an):aY)=((hi D p (k+1):an):aY):=by omega
    simp(disch:=omega)only[aj,ak,ad,QM,WP,↓ab,hn,h1,h2,h7,h8,h9,BR.1.aQ dE,a8 d2,jK,xJ,k1,k2,a8 d3,ao d4,aB];exact ar (C.length-(i+1)) (by omega) ⟨i+1,rfl,by omega,fun j hj e=>by
     by_cases e3:j=i
     ·subst e3;exact e2
     exact hiq j (by omega) e,rfl,by simp only[ag,hn],by simp only[aa,↓ab,WP,h0],by simp only[aa,↓ab,WP,h1],by simp only[aa,↓ab,WP,h2],by simp only[aa,↓ab,WP,h7],by simp only[aa,↓ab,WP,h8],by simp only[aa,↓ab];rfl⟩
   have d3:¬((C.getD i 0:an):aY)=(k:aY)+1:=by omega
   simp(disch:=omega)only[aj,ak,ad,QM,WP,↓ab,undef,hn,h1,h8,h9,BR.1.aQ dE,a8 d2,jK,k1,ao d3,aB];exact ar (C.length-(i+1)) (by omega) ⟨i+1,rfl,by omega,fun j hj e=>by
    by_cases e3:j=i
    ·subst e3;exact absurd e e1
    exact hiq j (by omega) e,rfl,by simp only[ag,hn],by simp only[aa,↓ab,WP,h0],by simp only[aa,↓ab,WP,h1],by simp only[aa,↓ab,WP,h2],by simp only[aa,↓ab,WP,h7],by simp only[aa,↓ab,WP,h8],by simp only[aa,↓ab];rfl⟩
  clear hn h0 h1 h2 h7 h8 f;rintro z f t' (⟨rfl,e,rfl,hn,h6⟩|⟨rfl,e,rfl,hn,h0,h1,h2,h7,h8⟩)
  ·rw[bk e] at tC;simp only[aj];exact hQ _ _ _ (.inl ⟨rfl,by simp only[hn],by rw[<-tC];exact⟨by simp only[h6],L4,mZ⟩⟩)
  rw[bb e] at tC;simp(disch:=omega)only[aj,QM,↓ab,hn,h8,aB];exact ar (15-(k+1)) (by omega) ⟨k+1,rfl,by omega,by omega,tC,L4,mZ,BR,hK1,by simp only[ag,hn],by simp only[aa,↓ab,WP,h0],by simp only[aa,↓ab,WP,h1],by simp only[aa,↓ab,WP,h2],by simp only[aa,↓ab,WP,h7],by simp only[aa,↓ab];rfl⟩
 clear hn h0 h1 h2 f;rintro z f t (⟨rfl,hn,hR⟩|⟨rfl,tC,hF,dg,hn,h0⟩)
 ·simp only[aj,al,oneOf,QM,↓ab,hn,c3];exact hR
 simp only[aj,ak,ad,QM,↓ab,hn,h0];refine(mW jt t jb bv _ 4 hF.b).mono ?_;rintro _ s1 ⟨fp,gZ,fL⟩;obtain⟨hB,B0⟩:=hF.bad (by decide) fp gZ fL;simp only[aj,al,oneOf,QM,↓ab,hn,c3];rw[tC];exact⟨rfl,hB,dg.trans B0⟩
theorem Ve {lib:aD}(hl:lib.at 195=none)(a7:lib.at 162=none)(base:an)(s:au)(jf jb e:an)(ta tc:bq)(h:Bd base s jf jb e):
  Runs af lib 195 [dF jb,ta,tc] s fun v s' =>v= .int .i64 0/\s' =s:=by
 obtain⟨bv,pv,o,m,hB⟩:=id h;refine Runs.enter 47 ee rfl hl rfl rfl ?_;intro f hn hf;have h0:f.get 0=dF jb:=hf 0;have h1:f.get 1=ta:=hf 1;have h2:f.get 2=tc:=hf 2;clear hf;have hp:=hB.pos;have c0:¬(e:aY)=0:=by omega
 have oG:=X4 af 3 .u64 (x:=0) (by omega);have oG:dB af .shl 3 (.int .i64 0) (.int .u64 1)=some (.int .i64 0):=oG;have d1:(1:aY)<=15:=by decide
 simp only[aj,QM,↓ab,hn];refine Comes.bD (fun z f t=>z=0/\t=s/\f.n=47/\f.get 0=dF jb/\f.get 7= .int .i64 0/\f.get 8= .int .i64 1)
  (fun z f t=>z= .ret/\t=s/\f.n=47/\f.get 6= .int .i64 0) ⟨rfl,rfl,by simp only[aa,ag,↓ab,WP,hn,h0,b5]⟩ ?_ ?_
 ·clear hn h0 h1 h2 f;rintro Q hQ z f _ ⟨rfl,rfl,hn,h0,h7,h8⟩;simp only[aj,ak,ad,QM,WP,↓ab,hn,h0,h7,h8,a8 d1,oG];refine(HO a7 base _ jf jb e 1 h).mono ?_;rintro _ t1 ⟨rfl,rfl⟩;have l2:=hB.b.load (P:=af) aP (off:=2) (c:=4) rfl (by simp);simp only[aj,ak,QM,WP,↓ab,hn,h0,kd,cP,l2,ao c0];exact hQ _ _ _ ⟨rfl,rfl,by simp only[aa,ag,↓ab,hn,b5]⟩
 clear hn h0 h1 h2 f;rintro z f t ⟨rfl,rfl,hn,h6⟩;simp only[aj,al,oneOf,QM,↓ab,hn,h6,c3]
def vH (base jf jb:an)(D P:av ax)(M:aY)(bv o:bq)(t:au):bz an an->Prop
 | .ok p=>Fl base t jf jb D p P M bv o/\p<=8*D.length
 | .error e=>Bd base t jf jb e
theorem vH.keeps {base jf jb:an}{D P:av ax}{M:aY}{bv o:bq}{t t' :au}{x:bz an an}(h:vH base jf jb D P M bv o t x)(k:aw t.next t t')(hb:base<=t.next):vH base jf jb D P M bv o t' x:=by
 cases x with
 |ok p=>exact⟨⟨h.1.b.keeps k,h.1.f.keeps k,h.1.low.stay (k.weaken hb),h.1.own.keeps k,h.1.fresh,h.1.nb,h.1.nf,h.1.ne,h.1.lb,h.1.lf⟩,h.2⟩
 |error e=>
  obtain⟨jS,pv,o',m',h⟩:=h;exact⟨jS,pv,o',m',⟨h.b.keeps k,h.f.keeps k,h.pos,h.ne,h.lb,h.lf⟩⟩
def Bx (j:an)(t t' :au):Prop:=t'.next=t.next/\∀i,i≠j->t'.heap.get i=t.heap.get i
theorem Bx.refl (j:an)(t:au):Bx j t t:=⟨rfl,fun _ _=>rfl⟩
theorem Bx.trans {j:an}{t t' t'' :au}(h:Bx j t t')(k:Bx j t' t''):Bx j t t'' :=⟨k.1.trans h.1,fun i hi=>(k.2 i hi).trans (h.2 i hi)⟩
theorem Bx.Zq {jf jb:an}{o:bq}{t t' :au}(h:Bx jb t t'):lC jf jb o t o t' :=⟨by rw[h.1];exact cb _,fun i _ _ h2 _=>h.2 i h2,.inl rfl⟩
theorem vH.l2 {base jf jb:an}{D P:av ax}{M:aY}{bv o:bq}{t:au}{x:bz an an}(h:vH base jf jb D P M bv o t x):aN af t 3 (.pointer (some ⟨jb,2,some 4⟩))=some (.int .i64 (qG x:an)):=by
 cases x with
 |ok p=>exact h.1.b.load (P:=af) aP (off:=2) (c:=4) rfl (by simp)
 |error e=>
  obtain⟨jS,pv,o',m',h⟩:=h;exact h.b.load (P:=af) aP (off:=2) (c:=4) rfl (by simp)
theorem vH.w0 {base jf jb:an}{D P:av ax}{M:aY}{bv o:bq}{t:au}{x:bz an an}(h:vH base jf jb D P M bv o t x):aN af t 190 (.pointer (some ⟨jf,0,some 4⟩))=some (dF jb):=by
 cases x with
 |ok p=>exact h.1.f.load (P:=af) cq (off:=0) (c:=4) rfl (by simp)
 |error e=>
  obtain⟨jS,pv,o',m',h⟩:=h;exact h.f.load (P:=af) cq (off:=0) (c:=4) rfl (by simp)
theorem vH.bad {base jf jb:an}{D P:av ax}{M:aY}{bv o:bq}{t:au}{x:bz an an}(h:vH base jf jb D P M bv o t x):qG x=0↔∃p,x= .ok p:=by
 cases x with
 |ok p=>exact⟨fun _=>⟨p,rfl⟩,fun _=>rfl⟩
 |error e=>
  obtain⟨jS,pv,o',m',h⟩:=h;have:=h.pos;exact⟨fun e=>by simp only[qG] at e;omega,fun⟨p,e⟩=>by cases e⟩
theorem kF {lib:aD}(hl:lib.at 162=none)(jt:lib.at 167=none)(base:an)(s:au)(jf jb:an)(D P:av ax)(x:bz an an)(n:an)(M:aY)(bv o:bq)(h:vH base jf jb D P M bv o s x)(abt:n<=16)(EE:D.length<=1000000000):
  Runs af lib 162 [dF jb,.int .i64 n] s fun v s' =>v= .int .i64 (gW D x n:an)/\vH base jf jb D P M bv o s' (jP D x n)/\Bx jb s s' :=by
 have hRd:=h;refine Runs.enter 72 cU rfl hl rfl rfl ?_;intro f hn hf;have h0:f.get 0=dF jb:=hf 0;have h1:f.get 1= .int .i64 n:=hf 1;clear hf;cases x with
 |error e=>
  obtain⟨jS,pv,o',m',h⟩:=h;have l2:=h.b.load (P:=af) aP (off:=2) (c:=4) rfl (by simp);have hp:=h.pos;have c0:¬(e:aY)=0:=by omega
  simp(disch:=omega)only[aj,ak,al,oneOf,QM,WP,↓ab,undef,hn,h0,cP,l2,ao c0,ch];exact⟨rfl,hRd,Bx.refl _ _⟩
 |ok p=>
 obtain⟨h,BS⟩:=h;have l0:=h.b.load (P:=af) gJ (off:=0) (c:=4) rfl (by simp);have l1:=h.b.load (P:=af) aP (off:=1) (c:=4) rfl (by simp);have l2:=h.b.load (P:=af) aP (off:=2) (c:=4) rfl (by simp);by_cases hD:p+n<=8*D.length;rotate_left
 ·have c1:(8*(D.length:aY)-(p:aY)<n):=by omega
  simp(disch:=omega)only[aj,ak,ad,QM,WP,↓ab,hn,h0,h1,HL,zh,cP,l0,l1,l2,h.low.aL.aQ a3,h.low.aL.self,aB,a8 c1];refine(mW jt s jb bv _ 2 h.b).mono ?_;rintro _ s1 ⟨fp,gZ,fL⟩;have BL:=h.f.turns (bG.aK (i:=jb) (o:=0) (c:=none) gZ fL) (fun e=>h.ne (by injection e));have l2:=fp.load (P:=af) aP (off:=2) (c:=4) rfl (by simp);have c0:¬((2:an):aY)=0:=by decide
  simp(disch:=omega)only[aj,ak,al,oneOf,QM,WP,↓ab,undef,hn,h0,cP,l2,ao c0,ch];refine⟨by simp only[gW];rw[bb hD];rfl,?_,⟨gZ,fL⟩⟩;simp only[jP];rw[bb hD]
  exact⟨bv,_,_,_,⟨fp,BL,by decide,h.ne,h.lb,h.lf⟩⟩
 have eV:gW D (.ok p) n=bY D p n:=by simp only[gW];rw[bk hD]
 have eS:jP D (.ok p) n= .ok (p+n):=by simp only[jP];rw[bk hD]
 rw[eV,eS];have c1:¬(8*(D.length:aY)-(p:aY)<n):=by omega
 simp(disch:=omega)only[aj,ak,ad,QM,WP,↓ab,hn,h0,h1,HL,zh,cP,l0,l1,l2,h.low.aL.aQ a3,h.low.aL.self,aB,ao c1];refine Comes.de (fun q f s' =>∃(i:an),q=n-i/\i<=n/\Fl base s' jf jb D (p+i) P M bv o/\Bx jb s s' /\f.n=72/\f.get 0=dF jb/\f.get 1= .int .i64 n/\f.get 5= .int .i64 (bY D p i:an)/\f.get 6= .int .i64 i)
  ⟨0,rfl,by omega,h,Bx.refl _ _,by simp only[ag,hn],by simp only[aa,↓ab,WP,h0],by simp only[aa,↓ab,WP,h1],by simp only[aa,↓ab,WP];rfl,by simp only[aa,↓ab];rfl⟩ ?_
 clear hn h0 h1 f l0 l1 l2;rintro q f s1 ⟨i,rfl,hi,h,aF,hn,h0,h1,h5,h6⟩;by_cases tm:i<n
 ·have tO:(i:aY)<n:=by omega
  have l0:=h.b.load (P:=af) gJ (off:=0) (c:=4) rfl (by simp);have l1:=h.b.load (P:=af) aP (off:=1) (c:=4) rfl (by simp);have hm8:(p+i)%8<8:=ep _ (by omega);have a7:(p+i)/8<D.length:=by omega
  have k1:=h.low.aL.cu (P:=af) gQ a7;rw[aW a7] at k1;have hq:(D.getD ((p+i)/8) 0).toNat/2^((p+i)%8)<256:=ds (ea _ _) (D.getD ((p+i)/8) 0).toNat_lt;have NK:(D.getD ((p+i)/8) 0).toNat/2^((p+i)%8)%2=bit D (p+i):=rfl;have dr:=qC D (p+i);have hv:=cY D p i;have xx:bY D p i+bit D (p+i)*2^i=bY D p (i+1):=rfl;have vf:i<32:=by omega
  have oh:=orI hv dr vf;rw[xx] at oh;have jv:=h.low.aL.indexAddr (k:= .i64) (x:=(((p+i)/8:an):aY)) a3 cO (by omega) (by omega);rw[ck] at jv;have fV:=h.low.aL.self;have oG:=KI af 3 .u64 dr vf;simp(disch:=omega)only[aj,ak,QM,WP,↓ab,hn,h0,h1,h5,h6,a8 tO,HL,zh,l0,l1,fV,gA,Nq,dZ,Xn,aB,jv,k1,a9 a0 bw,pD,aet,fY,aeu,NK,a9 cv a0,oG,kd,oh,a0,bw];refine ba aV h.b rfl (by simp) rfl ?_;intro t2 FJ mf dA;simp(disch:=omega)only[aj,QM,WP,↓ab,hn,h6,aB];refine ar (n-(i+1)) (by omega) ⟨i+1,rfl,by omega,h.at (p' :=p+(i+1)) FJ mf dA,aF.trans ⟨mf,dA⟩,by simp only[ag,hn],by simp only[aa,↓ab,WP,h0],by simp only[aa,↓ab,WP,h1],by simp only[aa,↓ab,WP],by simp only[aa,↓ab];rfl⟩
 obtain rfl:i=n:=by omega
 have tO:¬(i:aY)<i:=by omega
 simp(disch:=omega)only[aj,al,oneOf,QM,WP,↓ab,hn,h1,h5,h6,ao tO,ch];exact⟨⟨h,hD⟩,aF⟩
theorem kG {lib:aD}(hl:lib.at 167=none)(base:an)(s:au)(jf jb:an)(D P:av ax)(p e:an)(M:aY)(bv o:bq)(h:vH base jf jb D P M bv o s (.ok p))(he:0<e):
  Runs af lib 167 [dF jb,.int .i64 (e:an)] s fun _ s' =>vH base jf jb D P M bv o s' (.error e)/\Bx jb s s' :=by
 obtain⟨h,-⟩:=h;refine(mW hl s jb bv _ e h.b).mono ?_;rintro _ s1 ⟨fp,gZ,fL⟩;have BL:=h.f.turns (bG.aK (i:=jb) (o:=0) (c:=none) gZ fL) (fun e=>h.ne (by injection e));exact⟨⟨bv,_,_,_,⟨fp,BL,he,h.ne,h.lb,h.lf⟩⟩,⟨gZ,fL⟩⟩
theorem Jd {lib:aD}(hl:lib.at 198=none)(s:au)(x:bq)(C:av an)(hx:aU s 1 x C.length (bm C))(hlen:C.length<=1000)(Bm:sI C):
  Runs af lib 198 [x] s fun v s' =>v= .bool (decide (na C))/\s' =s:=by
 refine Runs.enter 38 Tryz.func198 rfl hl rfl rfl ?_;intro f hn hf;have h0:f.get 0=x:=hf 0;clear hf;simp only[aj,QM,↓ab,hn];refine Comes.de (fun z f t=>∃i:an,z=C.length-i/\i<=C.length/\t=s/\f.n=38/\f.get 0=x/\f.get 3= .int .i64 (iY (C.take i):an)/\f.get 4= .int .i64 (jF (C.take i):an)/\f.get 5= .int .i64 (i:an))
  ⟨0,rfl,by omega,rfl,by simp only[ag,hn],by simp only[aa,↓ab,WP,h0],by simp only[aa,↓ab,WP];rfl,by simp only[aa,↓ab,WP];rfl,by simp only[aa,↓ab];rfl⟩ ?_
 clear hn h0 f;rintro z f t ⟨i,rfl,hi,rfl,hn,h0,h3,h4,h5⟩;by_cases uP:i<C.length
 ·have d2:(i:aY)<(C.length:aY):=by omega
  have jK:=hx.indexAddr (P:=af) (k:= .i64) (x:=(i:aY)) dE aV (by omega) (by omega);rw[ck] at jK;have k1:=hx.cu (P:=af) xm uP;rw[fm uP] at k1;have hs:=HN uP;have hm:=EL uP;have afh:=Bm i;have Hl:=Jc (C.take i);have hml:=EJ (C.take i);have X1:(C.take i).length=i:=by rw[List.length_take];omega
  by_cases e1:0<C.getD i 0
  ·have d3:((C.getD i 0:an):aY)>0:=by omega
   rw[bk e1] at hs hm;have e2:(15:aY)-((C.getD i 0:an):aY)=((15-C.getD i 0:an):aY):=by omega
   have oG:=KI af 3 .u64 (b:=1) (by decide) (k:=15-C.getD i 0) (by omega);rw[Nat.one_mul] at oG;have oG:dB af .shl 3 (.int .i64 1) (.int .u64 ((15-C.getD i 0:an):aY))=some (.int .i64 ((2^(15-C.getD i 0):an):aY)):=oG;have hpw:2^(15-C.getD i 0)<=2^15:=cp (by omega) (by omega);have TG:(2:an)^15=32768:=by decide
   generalize 2^(15-C.getD i 0)=W at hs oG hpw;have e3:((iY (C.take i):an):aY)+((W:an):aY)=((iY (C.take (i+1)):an):aY):=by omega
   have e4:((jF (C.take i):an):aY)+1=((jF (C.take (i+1)):an):aY):=by omega
   simp(disch:=omega)only[aj,ad,QM,WP,↓ab,hn,h0,h3,h4,h5,hx.aQ dE,a8 d2,jK,k1,a8 d3,e2,aB,a9 a0 bw,pD,oG,e3,e4];exact ar (C.length-(i+1)) (by omega) ⟨i+1,rfl,by omega,rfl,by simp only[aa,ag,↓ab,WP,hn,h0,en];rfl⟩
  have d3:¬((C.getD i 0:an):aY)>0:=by omega
  rw[bb e1] at hs hm;simp(disch:=omega)only[aj,ad,QM,WP,↓ab,hn,h0,h5,hx.aQ dE,a8 d2,jK,k1,ao d3,aB];exact ar (C.length-(i+1)) (by omega) ⟨i+1,rfl,by omega,rfl,by simp only[ag,hn],by simp only[aa,↓ab,WP,h0],by simp only[aa,↓ab,WP,h3];rw[hs,eg],by simp only[aa,↓ab,WP,h4];rw[hm,eg],by simp only[aa,↓ab];rfl⟩
 obtain rfl:i=C.length:=by omega
 have d2:¬((C.length:an):aY)<((C.length:an):aY):=by omega
 rw[cL] at h3 h4;by_cases c1:iY C<=32768
 ·have d3:((iY C:an):aY)<=32768:=by omega
  by_cases c2:iY C=32768
  ·have d4:((iY C:an):aY)=32768:=by omega
   have hm:na C:= .inl c2;simp only[aj,ak,al,oneOf,ad,QM,WP,↓ab,undef,hn,h0,h3,h5,hx.aQ dE,ao d2,a8 d3,a8 d4,a8 hm,c4]
  have d4:¬((iY C:an):aY)=32768:=by omega
  have hm:(((jF C:an):aY)<=1)=na C:=propext ⟨fun h=> .inr ⟨by omega,by omega⟩,fun h=>by rcases h with h|h<;>omega⟩;simp only[aj,ak,al,oneOf,ad,QM,WP,↓ab,hn,h0,h3,h4,h5,hx.aQ dE,ao d2,a8 d3,ao d4,c4];simp only[hm]
 have d3:¬((iY C:an):aY)<=32768:=by omega
 have hm:¬na C:=fun h=>by rcases h with h|h<;>omega
 simp only[aj,ak,al,oneOf,ad,QM,WP,↓ab,undef,hn,h0,h3,h5,hx.aQ dE,ao d2,ao d3,ao hm,c4]
end Go.Proofs.YtdfjfncifneocaaGreat
namespace Go.Proofs.YtdfjfncifneocaaGreat
open Go.Cl Go.Cl.Rw Go.Cl.Sto Go.Cl.Fx
theorem Lh {lib:aD}(hl:lib.at 196=none)(a7:lib.at 162=none)(base:an)(s:au)(jf jb:an)(D P:av ax)(p:an)(M:aY)(bv o:bq)(h:Fl base s jf jb D p P M bv o)(EE:D.length<=1000000000)(q:an)(hq1:257<=q)(hq:q<=285)(hD:p+jz q<=8*D.length):
  Runs af lib 196 [dF jf,.int .i64 (q:an)] s fun v s' =>v= .int .i64 (lenOf q (bY D p (jz q)):an)/\Fl base s' jf jb D (p+jz q) P M bv o/\lC jf jb o s o s' :=by
 refine Runs.enter 32 eh rfl hl rfl rfl ?_;intro f hn hf;have h0:f.get 0=dF jf:=hf 0;have h1:f.get 1= .int .i64 (q:an):=hf 1;clear hf;by_cases c1:q<=264
 ·have d1:(q:aY)<=264:=by omega
  have ew:jz q=0:=by unfold jz;rw[bk (.inl c1)]
  have eo:((lenOf q (bY D p (jz q)):an):aY)=(q:aY)-254:=by unfold lenOf;rw[bk c1];omega
  simp(disch:=omega)only[aj,al,oneOf,QM,WP,↓ab,hn,h1,a8 d1,aB,cB];rw[eo,ew];exact⟨rfl,h,lC.refl _ _ _ _⟩
 have d1:¬(q:aY)<=264:=by omega
 by_cases c2:q=285
 ·have d2:(q:aY)=285:=by omega
  have ew:jz q=0:=by unfold jz;rw[bk (.inr c2)]
  have eo:lenOf q (bY D p (jz q))=258:=by unfold lenOf;rw[bb c1,bk c2]
  simp only[aj,al,oneOf,QM,WP,↓ab,hn,h1,ao d1,a8 d2,cB];rw[eo,ew];exact⟨rfl,h,lC.refl _ _ _ _⟩
 have d2:¬(q:aY)=285:=by omega
 have ew:jz q=(q-261)/4:=by unfold jz;rw[bb (by omega)]
 have e1:(q:aY)-261=((q-261:an):aY):=by omega
 have e2:(q:aY)-265=((q-265:an):aY):=by omega
 have q4:((q-261:an):aY).tdiv 4=(((q-261)/4:an):aY):=by rw[b7 (by omega)];omega
 have r4:((q-265:an):aY).tmod 4=(((q-265)%4:an):aY):=by rw[b8 (by omega)];omega
 have e3:(4:aY)+(((q-265)%4:an):aY)=((4+(q-265)%4:an):aY):=by omega
 have hp:=Cq (show(q-261)/4<=5 by omega);have hm7:4+(q-265)%4<=7:=by omega
 have hx:(4+(q-265)%4)*2^((q-261)/4)<=7*2^5:=cA hm7 hp;have oG:=Ua af 3 .u64 (x:=4+(q-265)%4) (k:=(q-261)/4) (by omega) (by omega);have eo:lenOf q (bY D p (jz q))=(4+(q-265)%4)*2^((q-261)/4)+3+bY D p ((q-261)/4):=by unfold lenOf;rw[bb c1,bb c2,ew]
 have m3:=cY D p ((q-261)/4);rw[eo];rw[ew] at hD|-
 generalize hX:(4+(q-265)%4)*2^((q-261)/4)=X at hx oG;have w0:=h.f.load (P:=af) cq (off:=0) (c:=4) rfl (by simp);simp(disch:=omega)only[aj,ak,ad,QM,WP,↓ab,hn,h0,h1,ao d1,ao d2,aB,e1,gA,q4,e2,dZ,r4,e3,a9 a0 bw,pD,oG,bT,w0];refine(o7 a7 base s jf jb D P p ((q-261)/4) M bv o h (by omega) hD EE).mono ?_;rintro _ s2 ⟨rfl,hF,dg⟩;have e4:((X:an):aY)+3+((bY D p ((q-261)/4):an):aY)=((X+3+bY D p ((q-261)/4):an):aY):=by omega
 simp(disch:=omega)only[aj,al,oneOf,QM,WP,↓ab,hn,aB,e4,cB];exact⟨hF,dg⟩
theorem Gm {lib:aD}(hl:lib.at 197=none)(a7:lib.at 162=none)(base:an)(s:au)(jf jb:an)(D P:av ax)(p:an)(M:aY)(bv o:bq)(h:Fl base s jf jb D p P M bv o)(EE:D.length<=1000000000)(q:an)(hq:q<=29)(hD:p+lW q<=8*D.length):
  Runs af lib 197 [dF jf,.int .i64 (q:an)] s fun v s' =>v= .int .i64 (nm q (bY D p (lW q)):an)/\Fl base s' jf jb D (p+lW q) P M bv o/\lC jf jb o s o s' :=by
 refine Runs.enter 27 ek rfl hl rfl rfl ?_;intro f hn hf;have h0:f.get 0=dF jf:=hf 0;have h1:f.get 1= .int .i64 (q:an):=hf 1;clear hf;by_cases c1:q<=3
 ·have d1:(q:aY)<=3:=by omega
  have ew:lW q=0:=by unfold lW;rw[bk c1]
  have eo:((nm q (bY D p (lW q)):an):aY)=(q:aY)+1:=by unfold nm;rw[bk c1];omega
  simp(disch:=omega)only[aj,al,oneOf,QM,WP,↓ab,hn,h1,a8 d1,aB,c5];rw[eo,ew];exact⟨rfl,h,lC.refl _ _ _ _⟩
 have d1:¬(q:aY)<=3:=by omega
 have ew:lW q=q/2-1:=by unfold lW;rw[bb c1]
 have q4:(q:aY).tdiv 2=((q/2:an):aY):=by rw[b7 (by omega)];omega
 have e1:((q/2:an):aY)-1=((q/2-1:an):aY):=by omega
 have r4:(q:aY).tmod 2=((q%2:an):aY):=by rw[b8 (by omega)];omega
 have e3:(2:aY)+((q%2:an):aY)=((2+q%2:an):aY):=by omega
 have hp:=Cq (show q/2-1<=13 by omega);have hm7:2+q%2<=3:=by omega
 have hx:(2+q%2)*2^(q/2-1)<=3*2^13:=cA hm7 hp;have oG:=Ua af 3 .u64 (x:=2+q%2) (k:=q/2-1) (by omega) (by omega);have eo:nm q (bY D p (lW q))=(2+q%2)*2^(q/2-1)+1+bY D p (q/2-1):=by unfold nm;rw[bb c1,ew]
 have m3:=cY D p (q/2-1);rw[eo];rw[ew] at hD|-
 generalize hX:(2+q%2)*2^(q/2-1)=X at hx oG;have w0:=h.f.load (P:=af) cq (off:=0) (c:=4) rfl (by simp);simp(disch:=omega)only[aj,ak,ad,QM,WP,↓ab,hn,h0,h1,ao d1,gA,q4,aB,e1,dZ,r4,e3,a9 a0 bw,pD,oG,bT,w0];refine(o7 a7 base s jf jb D P p (q/2-1) M bv o h (by omega) hD EE).mono ?_;rintro _ s2 ⟨rfl,hF,dg⟩;have e4:((X:an):aY)+1+((bY D p (q/2-1):an):aY)=((X+1+bY D p (q/2-1):an):aY):=by omega
 simp(disch:=omega)only[aj,al,oneOf,QM,WP,↓ab,hn,aB,e4,c5];exact⟨hF,dg⟩
end Go.Proofs.YtdfjfncifneocaaGreat
namespace Go.Proofs.YtdfjfncifneocaaGreat
open Go.Cl Go.Cl.Rw Go.Cl.Sto Go.Cl.Fx Go.Cl.Nf
def Vf (base jf jb:an)(D:av ax)(M:aY)(bv o:bq)(s s' :au):bz an (an×av ax)->Prop
 | .ok (q,P)=>∃o',Fl base s' jf jb D q P M bv o' /\lC jf jb o s o' s'
 | .error e=>Bd base s' jf jb e/\aw base s s'
theorem lC.aer {jf jb:an}{o:bq}{s s' :au}(hn:s'.next=s.next)(hs:∀i,i≠jb->s'.heap.get i=s.heap.get i):lC jf jb o s o s' :=⟨by omega,fun i _ _ h2 _=>hs i h2,.inl rfl⟩
theorem Je {lib:aD}(hl:lib.at 163=none)(a7:lib.at 162=none)(tI:lib.at 194=none)(jt:lib.at 167=none)(base:an)(s:au)(jf jb:an)(D P:av ax)(p m:an)(bv o:bq)(h:Fl base s jf jb D p P (m:an) bv o)(BS:p<=8*D.length)(EE:D.length<=100000000)(zD:P.length<=m)(hm:m<=100000000)(hb:base<=s.next):
  Runs af lib 163 [dF jf] s fun _ s' =>Vf base jf jb D (m:an) bv o s s' (gB D m p P):=by
 obtain⟨a,ha⟩:∃a,a=(p+7)/8:=⟨_,rfl⟩
 refine Runs.enter 75 Tryz.func163 rfl hl rfl rfl ?_;intro f ow hf;have h0:f.get 0=dF jf:=hf 0;clear hf;have l1:=h.b.load (P:=af) aP (off:=1) (c:=4) rfl (by simp);have w0:=h.f.load (P:=af) cq (off:=0) (c:=4) rfl (by simp);have e7:(p:aY)+7=((p+7:an):aY):=by omega
 have e8:(((p+7)/8:an):aY)*8=((8*a:an):aY):=by rw[ha];omega
 simp(disch:=omega)only[aj];refine cN.MV (by kernel_rfl) ?_;simp(disch:=omega)only[aj,ak,QM,WP,↓ab,ow,h0,bT,zh,w0,l1,e7,gA,Nq,aB,e8];refine Le aV h.b rfl (by simp) rfl ?_;intro s1 fp gZ fL;have h1:=h.at (p' :=8*a) fp gZ fL;have mZ:lC jf jb o s o s1:=lC.aer gZ fL;have w0:=h1.f.load (P:=af) cq (off:=0) (c:=4) rfl (by simp);have bad:∀(e:an) (o1:bq) (t:au),Bd base t jf jb e->lC jf jb o s o1 t->gB D m p P= .error e->Vf base jf jb D (m:an) bv o s t (gB D m p P):=fun e o1 t hB dg he=>by
  rw[he];exact⟨hB,dg.stay h.lf h.lb h.fresh hb⟩
 simp(disch:=omega)only[aj,ak,ad,QM,WP,↓ab,ow,h0,bT,w0];by_cases r1:8*a+16<=8*D.length;rotate_left
 ·have hR:gB D m p P= .error 2:=by unfold gB;rw[<-ha,bb (by omega)]
  refine(o9 a7 jt base s1 jf jb D P (8*a) 16 _ bv o h1 (by omega) (by omega) (by omega) (by omega)).mono ?_;rintro _ s2 ⟨rfl,hB,kR⟩;obtain⟨jS,Mc,o',m',lK⟩:=id hB;have w0:=lK.f.load (P:=af) cq (off:=0) (c:=4) rfl (by simp);have l2:=lK.b.load (P:=af) aP (off:=2) (c:=4) rfl (by simp);have c0:¬((2:an):aY)=0:=by decide
  simp(disch:=omega)only[aj,ak,ad,QM,WP,↓ab,ow,h0,bT,w0];refine(HO a7 base s2 jf jb 2 16 hB).mono ?_;rintro _ s2 ⟨rfl,rfl⟩;simp(disch:=omega)only[aj,ak,QM,WP,↓ab,undef,ow,h0,bT,cP,w0,l2,ao c0];refine Comes.de (fun z f t=>z=0/\s2=t/\f.n=75/\f.get 0=dF jf/\f.get 2= .int .i64 0/\f.get 4= .int .i64 0) ⟨rfl,rfl,by simp only[aa,ag,↓ab,WP,ow,h0,b5]⟩ ?_;clear ow h0 f;rintro z f _ ⟨rfl,rfl,ow,h0,h2,h4⟩;simp(disch:=omega)only[aj,ak,ah,QM,WP,↓ab,undef,ow,h2,h4,ao (show¬(0:aY)<0 by decide),b4];exact bad 2 o s2 hB (mZ.trans kR) hR
 refine(o7 a7 base s1 jf jb D P (8*a) 16 _ bv o h1 (by omega) (by omega) (by omega)).mono ?_;rintro _ s2 ⟨rfl,YF,kR⟩;have kR:=mZ.trans kR;have vL:=cY D (8*a) 16;obtain⟨n,zR⟩:∃n,n=bY D (8*a) 16:=⟨_,rfl⟩
 rw[<-zR] at vL|-
 have w0:=YF.f.load (P:=af) cq (off:=0) (c:=4) rfl (by simp);simp(disch:=omega)only[aj,ak,ad,QM,WP,↓ab,ow,h0,bT,w0];by_cases r2:8*a+16+16<=8*D.length;rotate_left
 ·have hR:gB D m p P= .error 2:=by unfold gB;rw[<-ha,bb (by omega)]
  refine(o9 a7 jt base s2 jf jb D P (8*a+16) 16 _ bv o YF (by omega) (by omega) (by omega) (by omega)).mono ?_;rintro _ s3 ⟨rfl,hB,jT⟩;obtain⟨jS,Mc,o',m',lK⟩:=id hB;have w0:=lK.f.load (P:=af) cq (off:=0) (c:=4) rfl (by simp);have l2:=lK.b.load (P:=af) aP (off:=2) (c:=4) rfl (by simp);have c0:¬((2:an):aY)=0:=by decide
  simp(disch:=omega)only[aj,ak,QM,WP,↓ab,undef,ow,h0,bT,cP,w0,l2,ao c0];refine Comes.de (fun z f t=>z=0/\s3=t/\f.n=75/\f.get 0=dF jf/\f.get 2= .int .i64 (n:an)/\f.get 4= .int .i64 0) ⟨rfl,rfl,by simp only[aa,ag,↓ab,WP,ow,h0,b5]⟩ ?_;clear ow h0 f;rintro z f _ ⟨rfl,rfl,ow,h0,h2,h4⟩;by_cases cn:(0:aY)<(n:aY)
  ·simp(disch:=omega)only[aj,ak,ah,QM,WP,↓ab,undef,ow,h0,h2,h4,a8 cn,bT,cP,w0,l2,ao c0,b4];exact bad 2 o s3 hB (kR.trans jT) hR
  simp(disch:=omega)only[aj,ak,ah,QM,WP,↓ab,undef,ow,h2,h4,ao cn,b4];exact bad 2 o s3 hB (kR.trans jT) hR
 refine(o7 a7 base s2 jf jb D P (8*a+16) 16 _ bv o YF (by omega) (by omega) (by omega)).mono ?_;rintro _ s3 ⟨rfl,h3,jT⟩;have jT:=kR.trans jT;have hkl:=cY D (8*a+16) 16;obtain⟨k,xX⟩:∃k,k=bY D (8*a+16) 16:=⟨_,rfl⟩
 rw[<-xX] at hkl|-
 have ajP:(2:an)^16=65536:=by decide
 have hx:=Y9 (m:=k) (by omega);have w0:=h3.f.load (P:=af) cq (off:=0) (c:=4) rfl (by simp);have l2:=h3.b.load (P:=af) aP (off:=2) (c:=4) rfl (by simp);by_cases cx:n+k=65535;rotate_left
 ·have cx' :¬(n:aY)=((65535-k:an):aY):=by omega
  have hR:gB D m p P= .error 4:=by unfold gB;rw[<-ha,bk (by omega),<-zR,<-xX,bb cx]
  simp(disch:=omega)only[aj,ak,ad,QM,WP,↓ab,undef,ow,h0,bT,cP,w0,l2,Ck,hx,ao cx'];refine(mW jt s3 jb bv _ 4 h3.b).mono ?_;rintro _ s4 ⟨FK,tw,qi⟩;obtain⟨hB,pQ⟩:=h3.bad (by decide) FK tw qi;obtain⟨jS,Mc,o',m',lK⟩:=id hB;have w0:=lK.f.load (P:=af) cq (off:=0) (c:=4) rfl (by simp);have l2:=lK.b.load (P:=af) aP (off:=2) (c:=4) rfl (by simp);have c0:¬((4:an):aY)=0:=by decide
  simp(disch:=omega)only[aj,QM,↓ab,ow];refine Comes.de (fun z f t=>z=0/\s4=t/\f.n=75/\f.get 0=dF jf/\f.get 2= .int .i64 (n:an)/\f.get 4= .int .i64 0) ⟨rfl,rfl,by simp only[aa,ag,↓ab,WP,ow,h0,b5]⟩ ?_;clear ow h0 f;rintro z f _ ⟨rfl,rfl,ow,h0,h2,h4⟩;by_cases cn:(0:aY)<(n:aY)
  ·simp(disch:=omega)only[aj,ak,ah,QM,WP,↓ab,undef,ow,h0,h2,h4,a8 cn,bT,cP,w0,l2,ao c0,b4];exact bad 4 o s4 hB (jT.trans pQ) hR
  simp(disch:=omega)only[aj,ak,ah,QM,WP,↓ab,undef,ow,h2,h4,ao cn,b4];exact bad 4 o s4 hB (jT.trans pQ) hR
 have cx' :(n:aY)=((65535-k:an):aY):=by omega
 have hR:gB D m p P=tz D m n (a+4) P:=by unfold gB;rw[<-ha,bk (by omega),<-zR,<-xX,bk cx]
 simp(disch:=omega)only[aj,ak,QM,WP,↓ab,undef,ow,h0,bT,cP,w0,l2,Ck,hx,<-cx'];rw[hR];rw[hR] at bad;refine Comes.de (fun q f t=>∃(i:an),f.n=75/\f.get 0=dF jf/\f.get 2= .int .i64 (n:an)/\f.get 4= .int .i64 (i:an)/\((∃(P1:av ax) (o1:bq),q=n-i/\i<=n/\a+4+i<=D.length/\tz D m (n-i) (a+4+i) P1=tz D m n (a+4) P/\P1.length<=m/\Fl base t jf jb D (8*(a+4+i)) P1 (m:an) bv o1/\lC jf jb o s o1 t)\/(q=0/\∃(e:an) (o1:bq),Bd base t jf jb e/\lC jf jb o s o1 t/\tz D m n (a+4) P= .error e)))
  ⟨0,by simp only[ag,ow],by simp only[aa,↓ab,WP,h0],by simp only[aa,↓ab,WP],by simp only[aa,↓ab];rfl,.inl ⟨P,o,rfl,by omega,by omega,rfl,zD,by rw[show 8*(a+4+0)=8*a+16+16 by omega];exact h3,jT⟩⟩ ?_
 clear ow h0 f w0 l2 h h1 YF h3 mZ kR jT fp gZ fL hx l1;rintro q f s4 ⟨i,ow,h0,h2,X7,(⟨P1,o1,rfl,hi,hiD,aF,hP1,h4,pQ⟩|⟨rfl,e,o1,hB,pQ,he⟩)⟩;rotate_left
 ·obtain⟨jS,Mc,o',m',lK⟩:=id hB;have w0:=lK.f.load (P:=af) cq (off:=0) (c:=4) rfl (by simp);have l2:=lK.b.load (P:=af) aP (off:=2) (c:=4) rfl (by simp);have hp:=lK.pos;have c0:¬(e:aY)=0:=by omega
  by_cases cn:(i:aY)<(n:aY)
  ·simp(disch:=omega)only[aj,ak,ah,QM,WP,↓ab,undef,ow,h0,h2,X7,a8 cn,bT,cP,w0,l2,ao c0,b4];exact bad e o1 s4 hB pQ he
  simp(disch:=omega)only[aj,ak,ah,QM,WP,↓ab,undef,ow,h2,X7,ao cn,b4];exact bad e o1 s4 hB pQ he
 have w0:=h4.f.load (P:=af) cq (off:=0) (c:=4) rfl (by simp);have l2:=h4.b.load (P:=af) aP (off:=2) (c:=4) rfl (by simp);have FK:base<=s4.next:=cM hb pQ.next;by_cases tm:i<n;rotate_left
 ·obtain rfl:i=n:=by omega
  have tO:¬(i:aY)<i:=by omega
  rw[dw,tz] at aF;simp(disch:=omega)only[aj,ak,ah,QM,WP,↓ab,undef,ow,h2,X7,ao tO,b4];rw[<-aF];exact⟨o1,h4,pQ⟩
 have tO:(i:aY)<n:=by omega
 rw[show n-i=(n-(i+1))+1 by omega,tz] at aF;simp(disch:=omega)only[aj,ak,ad,QM,WP,↓ab,undef,ow,h0,h2,X7,a8 tO,bT,cP,w0,l2];by_cases r3:a+4+i<D.length;rotate_left
 ·rw[bb r3] at aF;refine(o9 a7 jt base s4 jf jb D _ (8*(a+4+i)) 8 _ bv o1 h4 (by omega) (by omega) (by omega) (by omega)).mono ?_;rintro _ s5 ⟨rfl,Ft,vT⟩;simp(disch:=omega)only[aj,ak,ad,QM,WP,↓ab,ow,h0,a9 a0 cv];refine(RG tI base s5 jf jb 2 _ Ft).mono ?_;rintro _ s5 rfl;simp(disch:=omega)only[aj,QM,WP,↓ab,ow,X7,aB];exact ar 0 (by omega) ⟨i+1,by simp only[ag,ow],by simp only[aa,↓ab,WP,h0],by simp only[aa,↓ab,WP,h2],by simp only[aa,↓ab];rfl,.inr ⟨rfl,2,o1,Ft,pQ.trans vT,aF.symm⟩⟩
 rw[bk r3] at aF;refine(o7 a7 base s4 jf jb D _ (8*(a+4+i)) 8 _ bv o1 h4 (by omega) (by omega) (by omega)).mono ?_;rintro _ s5 ⟨rfl,h5,vT⟩;have vT:=pQ.trans vT;rw[aes];have NW:=(D.getD (a+4+i) 0).toNat_lt;have x9:IntKind.u8.wrap (((D.getD (a+4+i) 0).toNat:an):aY)=(((D.getD (a+4+i) 0).toNat:an):aY):=by rw[fO];omega
 simp(disch:=omega)only[aj,ak,ad,QM,WP,↓ab,ow,h0,a9 a0 cv,x9];by_cases r4:m<=P1.length
 ·rw[bk r4] at aF;refine(Au tI jt base s5 jf jb D P1 _ _ (D.getD (a+4+i) 0) bv o1 h5 (by omega)).mono ?_;rintro _ s6 ⟨hB6,Ct⟩;simp(disch:=omega)only[aj,QM,WP,↓ab,ow,X7,aB];exact ar 0 (by omega) ⟨i+1,by simp only[ag,ow],by simp only[aa,↓ab,WP,h0],by simp only[aa,↓ab,WP,h2],by simp only[aa,↓ab];rfl,.inr ⟨rfl,7,o1,hB6,vT.trans Ct,aF.symm⟩⟩
 rw[bb r4] at aF;refine(Ar tI base s5 jf jb D P1 _ _ (D.getD (a+4+i) 0) bv o1 h5 (by omega) (by omega) (cM hb vT.next)).mono ?_;rintro _ s6 ⟨o6,h6,Ct⟩;simp(disch:=omega)only[aj,QM,WP,↓ab,ow,X7,aB];exact ar (n-(i+1)) (by omega) ⟨i+1,by simp only[ag,ow],by simp only[aa,↓ab,WP,h0],by simp only[aa,↓ab,WP,h2],by simp only[aa,↓ab];rfl,.inl ⟨P1++[D.getD (a+4+i) 0],o6,rfl,by omega,by omega,aF,by rw[bl];simp;omega,by rw[show 8*(a+4+(i+1))=8*(a+4+i)+8 by omega];exact h6,vT.trans Ct⟩⟩
theorem Jf {lib:aD}(hl:lib.at 196=none)(a7:lib.at 162=none)(jt:lib.at 167=none)(base:an)(s:au)(jf jb:an)(D P:av ax)(p:an)(M:aY)(bv o:bq)(h:Fl base s jf jb D p P M bv o)(BS:p<=8*D.length)(EE:D.length<=1000000000)(q:an)(hq1:257<=q)(hq:q<=285)(hD:¬p+jz q<=8*D.length):
  Runs af lib 196 [dF jf,.int .i64 (q:an)] s fun v s' =>(∃n:an,v= .int .i64 (n:an))/\Bd base s' jf jb 2/\lC jf jb o s o s' :=by
 refine Runs.enter 32 eh rfl hl rfl rfl ?_;intro f hn hf;have h0:f.get 0=dF jf:=hf 0;have h1:f.get 1= .int .i64 (q:an):=hf 1;clear hf;have c1:¬q<=264:=fun c=>by unfold jz at hD;rw[bk (.inl c)] at hD;omega
 have c2:¬q=285:=fun c=>by unfold jz at hD;rw[bk (.inr c)] at hD;omega
 have d1:¬(q:aY)<=264:=by omega
 have d2:¬(q:aY)=285:=by omega
 have ew:jz q=(q-261)/4:=by unfold jz;rw[bb (by omega)]
 have e1:(q:aY)-261=((q-261:an):aY):=by omega
 have e2:(q:aY)-265=((q-265:an):aY):=by omega
 have q4:((q-261:an):aY).tdiv 4=(((q-261)/4:an):aY):=by rw[b7 (by omega)];omega
 have r4:((q-265:an):aY).tmod 4=(((q-265)%4:an):aY):=by rw[b8 (by omega)];omega
 have e3:(4:aY)+(((q-265)%4:an):aY)=((4+(q-265)%4:an):aY):=by omega
 have hp:=Cq (show(q-261)/4<=5 by omega);have hm7:4+(q-265)%4<=7:=by omega
 have hx:(4+(q-265)%4)*2^((q-261)/4)<=7*2^5:=cA hm7 hp;have oG:=Ua af 3 .u64 (x:=4+(q-265)%4) (k:=(q-261)/4) (by omega) (by omega);rw[ew] at hD;generalize hX:(4+(q-265)%4)*2^((q-261)/4)=X at hx oG;have w0:=h.f.load (P:=af) cq (off:=0) (c:=4) rfl (by simp);simp(disch:=omega)only[aj,ak,ad,QM,WP,↓ab,hn,h0,h1,ao d1,ao d2,aB,e1,gA,q4,e2,dZ,r4,e3,a9 a0 bw,pD,oG,bT,w0];refine(o9 a7 jt base s jf jb D P p ((q-261)/4) M bv o h (by omega) hD BS EE).mono ?_;rintro _ s2 ⟨rfl,hB,dg⟩;have e4:((X:an):aY)+3+0=((X+3:an):aY):=by omega
 simp(disch:=omega)only[aj,al,oneOf,QM,WP,↓ab,hn,aB,e4,cB];exact⟨⟨_,rfl⟩,hB,dg⟩
theorem EN {lib:aD}(hl:lib.at 197=none)(a7:lib.at 162=none)(jt:lib.at 167=none)(base:an)(s:au)(jf jb:an)(D P:av ax)(p:an)(M:aY)(bv o:bq)(h:Fl base s jf jb D p P M bv o)(BS:p<=8*D.length)(EE:D.length<=1000000000)(q:an)(hq:q<=29)(hD:¬p+lW q<=8*D.length):
  Runs af lib 197 [dF jf,.int .i64 (q:an)] s fun v s' =>(∃n:an,v= .int .i64 (n:an))/\Bd base s' jf jb 2/\lC jf jb o s o s' :=by
 refine Runs.enter 27 ek rfl hl rfl rfl ?_;intro f hn hf;have h0:f.get 0=dF jf:=hf 0;have h1:f.get 1= .int .i64 (q:an):=hf 1;clear hf;have c1:¬q<=3:=fun c=>by unfold lW at hD;rw[bk c] at hD;omega
 have d1:¬(q:aY)<=3:=by omega
 have ew:lW q=q/2-1:=by unfold lW;rw[bb c1]
 have q4:(q:aY).tdiv 2=((q/2:an):aY):=by rw[b7 (by omega)];omega
 have e1:((q/2:an):aY)-1=((q/2-1:an):aY):=by omega
 have r4:(q:aY).tmod 2=((q%2:an):aY):=by rw[b8 (by omega)];omega
 have e3:(2:aY)+((q%2:an):aY)=((2+q%2:an):aY):=by omega
 have hp:=Cq (show q/2-1<=13 by omega);have hm7:2+q%2<=3:=by omega
 have hx:(2+q%2)*2^(q/2-1)<=3*2^13:=cA hm7 hp;have oG:=Ua af 3 .u64 (x:=2+q%2) (k:=q/2-1) (by omega) (by omega);rw[ew] at hD;generalize hX:(2+q%2)*2^(q/2-1)=X at hx oG;have w0:=h.f.load (P:=af) cq (off:=0) (c:=4) rfl (by simp);simp(disch:=omega)only[aj,ak,ad,QM,WP,↓ab,hn,h0,h1,ao d1,gA,q4,aB,e1,dZ,r4,e3,a9 a0 bw,pD,oG,bT,w0];refine(o9 a7 jt base s jf jb D P p (q/2-1) M bv o h (by omega) hD BS EE).mono ?_;rintro _ s2 ⟨rfl,hB,dg⟩;have e4:((X:an):aY)+1+0=((X+1:an):aY):=by omega
 simp(disch:=omega)only[aj,al,oneOf,QM,WP,↓ab,hn,aB,e4,c5];exact⟨⟨_,rfl⟩,hB,dg⟩
end Go.Proofs.YtdfjfncifneocaaGreat
namespace Go.Cl.Nf
open Go.Cl.Fx
theorem Li {x b:an}(hx:x<=285)(hb:b<2^jz x):lenOf x b<=1000:=by
 unfold lenOf;split
 ·omega
 split
 ·omega
 have e:jz x=(x-261)/4:=by unfold jz;rw[bb (by omega)]
 rw[e] at hb;have h1:2^((x-261)/4)<=2^6:=cp (by omega) (by omega);have h2:(4+(x-265)%4)*2^((x-261)/4)<=7*2^6:=cA (by omega) h1;have h3:(2:an)^6=64:=by decide
 omega
end Go.Cl.Nf
namespace Go.Proofs.YtdfjfncifneocaaGreat
open Go.Cl Go.Cl.Rw Go.Cl.Sto Go.Cl.Fx Go.Cl.Nf
theorem Bz {lib:aD}(hl:lib.at 165=none)(Zr:lib.at 180=none)(tC:lib.at 195=none)(a7:lib.at 162=none)(kJ:lib.at 194=none)(wO:lib.at 196=none)(hds:lib.at 197=none)(jt:lib.at 167=none)
  (base:an) (s:au) (jf jb:an) (D P0:av ax) (p0 m N:an) (bv o:bq) (h:Fl base s jf jb D p0 P0 (m:an) bv o) (BS:p0<=8*D.length) (EE:D.length<=100000000) (zD:P0.length<=m) (hm:m<=100000000) (hN:8*D.length<N) (hb:base<=s.next)
  (ta td:bq) (C B:av an) (hA:vC jf jb o s ta C) (hB:vC jf jb o s td B) (hCl:C.length<=300) (Em:B.length<=300):
  Runs af lib 165 [dF jf,ta,td] s fun _ s' =>Vf base jf jb D (m:an) bv o s s' (iP D m C B N p0 P0):=by
 refine Runs.enter 147 Tryz.func165 rfl hl rfl rfl ?_;intro f hn hf;have h0:f.get 0=dF jf:=hf 0;have h1:f.get 1=ta:=hf 1;have h2:f.get 2=td:=hf 2;clear hf;simp only[aj,ak,ad,QM,↓ab,hn,h1];refine(Aj Zr s ta C hA.1 hCl).mono ?_;rintro tc s1 ⟨hC,-,hCF,k1⟩;have n1:=k1.next;simp only[aj,ak,ad,QM,WP,↓ab,hn,h2];refine(Aj Zr s1 td B (hB.1.keeps k1) Em).mono ?_;rintro te s2 ⟨hE,-,hEF,k2⟩;have n2:=k2.next;have dA:aw s.next s s2:=k1.trans (k2.weaken n1);have ig:Fl base s2 jf jb D p0 P0 (m:an) bv o:=⟨h.b.keeps dA,h.f.keeps dA,h.low.stay (dA.weaken hb),h.own.keeps dA,h.fresh,h.nb,h.nf,h.ne,h.lb,h.lf⟩;have hjf:=h.f.lt;have B3:=h.b.lt;have r8:∀i,aI o=some i->i<s.next:=fun i hi=>h.own.ei i hi
 have ftS:lC jf jb o s o s2:=⟨dA.next,fun i hi _ _ _=>dA.get i hi,.inl rfl⟩;have Bf:=hA.to ftS;have kQ:=hB.to ftS;have hC2:vC jf jb o s2 tc (fQ C):=⟨by rw[sH];exact(hC.keeps k2).aL,fun i hi=>⟨by have:=(hC.keeps k2).ei i hi;omega,by have:=hCF i hi;omega,by have:=hCF i hi;omega,fun e=>by have:=r8 i e;have:=hCF i hi;omega⟩⟩;have hE2:vC jf jb o s2 te (fQ B):=⟨by rw[sH];exact hE.aL,fun i hi=>⟨by have:=hE.ei i hi;omega,by have:=hEF i hi;omega,by have:=hEF i hi;omega,fun e=>by have:=r8 i e;have:=hEF i hi;omega⟩⟩;have KC:=At C;have KB:=At B;obtain⟨R,hR⟩:∃R,R=iP D m C B N p0 P0:=⟨_,rfl⟩
 have bsn:base<=s2.next:=by omega
 have HP:∀(o1:bq) (t:au),lC jf jb o s2 o1 t->aw base s t:=fun o1 t dg=>(dA.weaken hb).trans (dg.stay h.lf h.lb h.fresh bsn)
 rw[<-hR];simp only[aj,QM,WP,↓ab,hn];refine Comes.bD (fun z f t=>f.n=147/\f.get 0=dF jf/\((∃(p:an) (P:av ax) (o1:bq),iP D m C B z p P=R/\8*D.length<p+z/\p<=8*D.length/\P.length<=m/\Fl base t jf jb D p P (m:an) bv o1/\lC jf jb o s2 o1 t/\vC jf jb o1 t ta C/\vC jf jb o1 t td B/\vC jf jb o1 t tc (fQ C)/\vC jf jb o1 t te (fQ B)/\f.get 1=ta/\f.get 2=td/\f.get 6=tc/\f.get 7=te)\/(z=0/\∃(e:an) (o1:bq),Bd base t jf jb e/\lC jf jb o s2 o1 t/\R= .error e)))
  (fun z f t=>(z= .ret\/z= .exit 0)/\f.n=147/\Vf base jf jb D (m:an) bv o s t R)
  ⟨by simp only[ag,hn],by simp only[aa,↓ab,WP,h0],.inl ⟨p0,P0,o,hR.symm,by omega,BS,zD,ig,lC.refl _ _ _ _,Bf,kQ,hC2,hE2,by simp only[aa,↓ab,WP,h1,h2,b5]⟩⟩ ?_ ?_
 rotate_left
 ·clear hn h0 h1 h2 f ig hA hB Bf kQ hC hC2 hE hE2;rintro z f t ⟨rfl|rfl,hn,hO⟩
  ·simp only[aj,al,eb];exact hO
  simp only[aj,ah,↓ab,eb];exact hO
 clear hn h0 h1 h2 f ig hA hB Bf kQ hC hC2 hE hE2;rintro Q hQ z f t ⟨hn,h0,(⟨p,P,o1,hz,hpz,BS,zD,hF,dg,hA,hB,hC,hE,h1,h2,h6,h7⟩|⟨rfl,e,o1,vU,dg,he⟩)⟩;rotate_left
 ·obtain⟨jS,Mc,o',m',lK⟩:=id vU;have w0:=lK.f.load (P:=af) cq (off:=0) (c:=4) rfl (by simp);have l2:=lK.b.load (P:=af) aP (off:=2) (c:=4) rfl (by simp);have hp:=lK.pos;have c0:¬(e:aY)=0:=by omega
  simp only[aj,ak,QM,↓ab,hn,h0,bT,cP,w0,l2,ao c0];exact hQ _ _ _ ⟨.inr rfl,by simp only[ag,hn],by rw[he];exact⟨vU,HP o1 t dg⟩⟩
 obtain⟨k,rfl⟩:∃k,z=k+1:=⟨z-1,by omega⟩
 have w0:=hF.f.load (P:=af) cq (off:=0) (c:=4) rfl (by simp);have l2:=hF.b.load (P:=af) aP (off:=2) (c:=4) rfl (by simp);rw[iP] at hz;have bt:base<=t.next:=by have:=dg.next;omega
 simp only[aj,ak,ad,QM,WP,↓ab,hn,h0,h1,h6,bT,cP,w0,l2];refine(EM tC a7 jt base t jf jb D P p _ bv o1 hF BS (by omega) ta tc C (fQ C) hA hC KC (by omega)).mono ?_;intro v t1 hS;cases Zt:sym D C p with
 |error e=>
  rw[Zt] at hS hz;obtain⟨rfl,vU,mZ⟩:=hS;obtain⟨jS,Mc,o',m',lK⟩:=id vU;have w0:=lK.f.load (P:=af) cq (off:=0) (c:=4) rfl (by simp);have l2:=lK.b.load (P:=af) aP (off:=2) (c:=4) rfl (by simp);have hp:=lK.pos;have c0:¬(e:aY)=0:=by omega
  simp only[aj,ak,QM,WP,↓ab,undef,hn,h0,bT,cP,w0,l2,ao c0];exact hQ _ _ _ ⟨.inl rfl,by simp only[ag,hn],by rw[<-hz];exact⟨vU,HP o1 t1 (dg.trans mZ)⟩⟩
 |ok x=>
 obtain⟨x,q⟩:=x;rw[Zt] at hS hz;obtain⟨rfl,L4,mZ⟩:=hS;have Hl:=sG Zt;have w0:=L4.f.load (P:=af) cq (off:=0) (c:=4) rfl (by simp);have l2:=L4.b.load (P:=af) aP (off:=2) (c:=4) rfl (by simp);have bt1:base<=t1.next:=by have:=mZ.next;omega
 dsimp only at hz;by_cases cx:x=256
 ·have d1:((x:an):aY)=256:=by omega
  rw[bk cx] at hz;simp only[aj,ak,QM,WP,↓ab,undef,hn,h0,bT,cP,w0,l2,a8 d1];exact hQ _ _ _ ⟨.inl rfl,by simp only[ag,hn],by rw[<-hz];exact⟨o1,L4,ftS.trans (dg.trans mZ)⟩⟩
 have d1:¬((x:an):aY)=256:=by omega
 rw[bb cx] at hz;by_cases cl:x<256
 ·have d2:((x:an):aY)<256:=by omega
  rw[bk cl] at hz;simp only[aj,ak,ad,QM,WP,↓ab,undef,hn,h0,bT,cP,w0,l2,ao d1,a8 d2,a9 a0 cv,b0];by_cases cm:m<=P.length
  ·rw[bk cm] at hz;refine(Au kJ jt base t1 jf jb D P _ _ (c9 x) bv o1 L4 (by omega)).mono ?_;rintro _ t2 ⟨vU,kR⟩;simp only[aj,QM,↓ab,hn];exact ar 0 (by omega) ⟨by simp only[ag,hn],by simp only[aa,↓ab,WP,h0],.inr ⟨rfl,7,o1,vU,(dg.trans mZ).trans kR,hz.symm⟩⟩
  rw[bb cm] at hz;refine(Ar kJ base t1 jf jb D P _ _ (c9 x) bv o1 L4 (by omega) (by omega) bt1).mono ?_;rintro _ t2 ⟨o2,ig,kR⟩;have N0:=mZ.trans kR;simp only[aj,QM,↓ab,hn];exact ar k (by omega) ⟨by simp only[ag,hn],by simp only[aa,↓ab,WP,h0],.inl ⟨q,P++[c9 x],o2,hz,by omega,by omega,by rw[bl,c7];omega,ig,dg.trans N0,hA.to N0,hB.to N0,hC.to N0,hE.to N0,by simp only[aa,↓ab,WP,h1,h2,h6,h7,b5]⟩⟩
 have d2:¬((x:an):aY)<256:=by omega
 rw[bb cl] at hz;unfold vg at hz;by_cases cg:285<x
 ·have d3:((x:an):aY)>285:=by omega
  rw[bk cg] at hz;simp only[aj,ak,ad,QM,WP,↓ab,undef,hn,h0,bT,cP,w0,l2,ao d1,ao d2,a8 d3];refine(mW jt t1 jb bv _ 4 L4.b).mono ?_;rintro _ t2 ⟨FK,tw,qi⟩;obtain⟨vU,kR⟩:=L4.bad (by decide) FK tw qi;simp only[aj,QM,↓ab,hn];exact hQ _ _ _ ⟨.inl rfl,by simp only[ag,hn],by rw[<-hz];exact⟨vU,HP o1 t2 ((dg.trans mZ).trans kR)⟩⟩
 have d3:¬((x:an):aY)>285:=by omega
 rw[bb cg] at hz;simp only[aj,ak,ad,QM,WP,↓ab,undef,hn,h0,bT,cP,w0,l2,ao d1,ao d2,ao d3];by_cases r1:q+jz x<=8*D.length;rotate_left
 ·rw[dO r1] at hz;refine(Jf wO a7 jt base t1 jf jb D P q _ bv o1 L4 (by omega) (by omega) x (by omega) (by omega) r1).mono ?_;rintro _ t2 ⟨⟨n,rfl⟩,vU,kR⟩;have N0:=(dg.trans mZ).trans kR;obtain⟨jS,Mc,o',m',lK⟩:=id vU;have w0:=lK.f.load (P:=af) cq (off:=0) (c:=4) rfl (by simp);simp only[aj,ak,ad,QM,WP,↓ab,undef,hn,h0,h2,h7,bT,w0];refine(Ve tC a7 base t2 jf jb 2 td te vU).mono ?_;rintro _ t2 ⟨rfl,rfl⟩;have w0:=lK.f.load (P:=af) cq (off:=0) (c:=4) rfl (by simp);have l2:=lK.b.load (P:=af) aP (off:=2) (c:=4) rfl (by simp);have c0:¬((2:an):aY)=0:=by decide
  simp only[aj,ak,QM,WP,↓ab,undef,hn,h0,bT,cP,w0,l2,ao c0];exact hQ _ _ _ ⟨.inl rfl,by simp only[ag,hn],by rw[<-hz];exact⟨vU,HP o1 t2 N0⟩⟩
 rw[dn r1] at hz;dsimp only at hz;refine(Lh wO a7 base t1 jf jb D P q _ bv o1 L4 (by omega) x (by omega) (by omega) r1).mono ?_;rintro _ t2 ⟨rfl,ig,kR⟩;have kR:=mZ.trans kR;have w0:=ig.f.load (P:=af) cq (off:=0) (c:=4) rfl (by simp);have xK:=cY D q (jz x);have vL:=Li (x:=x) (by omega) xK;generalize zR:lenOf x (bY D q (jz x))=n at hz vL;simp only[aj,ak,ad,QM,WP,↓ab,undef,hn,h0,h2,h7,bT,w0];refine(EM tC a7 jt base t2 jf jb D P _ _ bv o1 ig r1 (by omega) td te B (fQ B) (hB.to kR) (hE.to kR) KB (by omega)).mono ?_;intro v t3 hS;cases abx:sym D B (q+jz x) with
 |error e=>
  rw[abx] at hS hz;obtain⟨rfl,vU,jT⟩:=hS;obtain⟨jS,Mc,o',m',lK⟩:=id vU;have w0:=lK.f.load (P:=af) cq (off:=0) (c:=4) rfl (by simp);have l2:=lK.b.load (P:=af) aP (off:=2) (c:=4) rfl (by simp);have hp:=lK.pos;have c0:¬(e:aY)=0:=by omega
  simp only[aj,ak,QM,WP,↓ab,undef,hn,h0,bT,cP,w0,l2,ao c0];exact hQ _ _ _ ⟨.inl rfl,by simp only[ag,hn],by rw[<-hz];exact⟨vU,HP o1 t3 (dg.trans (kR.trans jT))⟩⟩
 |ok y=>
 obtain⟨c,r⟩:=y;rw[abx] at hS hz;obtain⟨rfl,Bq,jT⟩:=hS;have jT:=kR.trans jT;have K9:=sG abx;have w0:=Bq.f.load (P:=af) cq (off:=0) (c:=4) rfl (by simp);have l2:=Bq.b.load (P:=af) aP (off:=2) (c:=4) rfl (by simp);dsimp only at hz;by_cases cc:30<=c
 ·have d4:((c:an):aY)>29:=by omega
  rw[bk cc] at hz;simp only[aj,ak,ad,QM,WP,↓ab,undef,hn,h0,bT,cP,w0,l2,a8 d4];refine(mW jt t3 jb bv _ 4 Bq.b).mono ?_;rintro _ t4 ⟨FK,tw,qi⟩;obtain⟨vU,pQ⟩:=Bq.bad (by decide) FK tw qi;obtain⟨jS,Mc,o',m',lK⟩:=id vU;have w0:=lK.f.load (P:=af) cq (off:=0) (c:=4) rfl (by simp);have l2:=lK.b.load (P:=af) aP (off:=2) (c:=4) rfl (by simp);have c0:¬((4:an):aY)=0:=by decide
  simp only[aj,ak,QM,WP,↓ab,undef,hn,h0,bT,cP,w0,l2,ao c0];exact hQ _ _ _ ⟨.inl rfl,by simp only[ag,hn],by rw[<-hz];exact⟨vU,HP o1 t4 (dg.trans (jT.trans pQ))⟩⟩
 have d4:¬((c:an):aY)>29:=by omega
 rw[bb cc] at hz;simp only[aj,ak,ad,QM,WP,↓ab,undef,hn,h0,bT,cP,w0,l2,ao d4];by_cases r2:r+lW c<=8*D.length;rotate_left
 ·rw[dO r2] at hz;refine(EN hds a7 jt base t3 jf jb D P r _ bv o1 Bq (by omega) (by omega) c (by omega) r2).mono ?_;rintro _ t4 ⟨⟨n',rfl⟩,vU,pQ⟩;have N0:=dg.trans (jT.trans pQ);obtain⟨jS,Mc,o',m',lK⟩:=id vU;have w0:=lK.f.load (P:=af) cq (off:=0) (c:=4) rfl (by simp);have l2:=lK.b.load (P:=af) aP (off:=2) (c:=4) rfl (by simp);have c0:¬((2:an):aY)=0:=by decide
  simp only[aj,ak,QM,WP,↓ab,undef,hn,h0,bT,cP,w0,l2,ao c0];refine Comes.bD (fun z f t' =>z=0/\t4=t' /\f.n=147/\f.get 0=dF jf/\f.get 9= .int .i64 (n:an)/\f.get 12= .int .i64 0)
   (fun z f t' =>z= .exit 2/\t4=t' /\f.n=147/\f.get 0=dF jf) ⟨rfl,rfl,by simp only[aa,ag,↓ab,WP,hn,h0,b5]⟩ ?_ ?_
  ·clear hn h0 h1 h2 h6 h7 f;rintro Q2 El z f _ ⟨rfl,rfl,hn,h0,h9,oF⟩;by_cases cn:(0:aY)<(n:aY)
   ·simp only[aj,ak,QM,WP,↓ab,undef,hn,h0,h9,oF,a8 cn,bT,cP,w0,l2,ao c0];exact El _ _ _ ⟨rfl,rfl,by simp only[aa,ag,↓ab,WP,hn,h0,b5]⟩
   simp only[aj,ak,QM,WP,↓ab,undef,hn,h9,oF,ao cn];exact El _ _ _ ⟨rfl,rfl,by simp only[aa,ag,↓ab,WP,hn,h0,b5]⟩
  clear hn h0 h1 h2 h6 h7 f;rintro z f _ ⟨rfl,rfl,hn,h0⟩;simp only[aj,↓ab];exact ar 0 (by omega) ⟨by simp only[hn],by simp only[h0],.inr ⟨rfl,2,o1,vU,N0,hz.symm⟩⟩
 rw[dn r2] at hz;dsimp only at hz;refine(Gm hds a7 base t3 jf jb D P r _ bv o1 Bq (by omega) c (by omega) r2).mono ?_;rintro _ t4 ⟨rfl,hF4,pQ⟩;have pQ:=jT.trans pQ;have afj:1<=nm c (bY D r (lW c)):=by unfold nm;split<;>omega
 generalize XW:nm c (bY D r (lW c))=d at hz afj;have w0:=hF4.f.load (P:=af) cq (off:=0) (c:=4) rfl (by simp);have w1:=hF4.f.load (P:=af) gJ (off:=1) (c:=4) rfl (by simp);have l2:=hF4.b.load (P:=af) aP (off:=2) (c:=4) rfl (by simp);have BA:=hF4.own.aL.aQ (P:=af) a3 (s2:=t4);have bt4:base<=t4.next:=by have:=pQ.next;omega
 by_cases cd:P.length<d
 ·have d5:((d:an):aY)>((P.length:an):aY):=by omega
  rw[bk cd] at hz;simp only[aj,ak,ad,QM,WP,↓ab,undef,hn,h0,bT,Bw,cP,w0,w1,l2,BA,a8 d5];refine(mW jt t4 jb bv _ 4 hF4.b).mono ?_;rintro _ t5 ⟨FK,tw,qi⟩;obtain⟨vU,vT⟩:=hF4.bad (by decide) FK tw qi;have N0:=dg.trans (pQ.trans vT);obtain⟨jS,Mc,o',m',lK⟩:=id vU;have w0:=lK.f.load (P:=af) cq (off:=0) (c:=4) rfl (by simp);have l2:=lK.b.load (P:=af) aP (off:=2) (c:=4) rfl (by simp);have c0:¬((4:an):aY)=0:=by decide
  simp only[aj,QM,↓ab,hn];refine Comes.bD (fun z f t' =>z=0/\t5=t' /\f.n=147/\f.get 0=dF jf/\f.get 9= .int .i64 (n:an)/\f.get 12= .int .i64 0)
   (fun z f t' =>z= .exit 2/\t5=t' /\f.n=147/\f.get 0=dF jf) ⟨rfl,rfl,by simp only[aa,ag,↓ab,WP,hn,h0,b5]⟩ ?_ ?_
  ·clear hn h0 h1 h2 h6 h7 f;rintro Q2 El z f _ ⟨rfl,rfl,hn,h0,h9,oF⟩;by_cases cn:(0:aY)<(n:aY)
   ·simp only[aj,ak,QM,WP,↓ab,undef,hn,h0,h9,oF,a8 cn,bT,cP,w0,l2,ao c0];exact El _ _ _ ⟨rfl,rfl,by simp only[aa,ag,↓ab,WP,hn,h0,b5]⟩
   simp only[aj,ak,QM,WP,↓ab,undef,hn,h9,oF,ao cn];exact El _ _ _ ⟨rfl,rfl,by simp only[aa,ag,↓ab,WP,hn,h0,b5]⟩
  clear hn h0 h1 h2 h6 h7 f;rintro z f _ ⟨rfl,rfl,hn,h0⟩;simp only[aj,↓ab];exact ar 0 (by omega) ⟨by simp only[hn],by simp only[h0],.inr ⟨rfl,4,o1,vU,N0,hz.symm⟩⟩
 have d5:¬((d:an):aY)>((P.length:an):aY):=by omega
 rw[bb cd] at hz;simp only[aj,ak,ad,QM,WP,↓ab,undef,hn,h0,bT,Bw,cP,w0,w1,l2,BA,ao d5];refine Comes.bD (fun z f t' =>∃i:an,base<=t'.next/\f.n=147/\f.get 0=dF jf/\f.get 1=ta/\f.get 2=td/\f.get 6=tc/\f.get 7=te/\f.get 9= .int .i64 (n:an)/\f.get 11= .int .i64 (d:an)/\f.get 12= .int .i64 (i:an)/\((∃(P1:av ax) (o3:bq),z=n-i/\i<=n/\rep m d (n-i) P1=rep m d n P/\d<=P1.length/\P1.length<=m/\Fl base t' jf jb D (r+lW c) P1 (m:an) bv o3/\lC jf jb o1 t o3 t')\/(z=0/\∃(e:an) (o3:bq),Bd base t' jf jb e/\lC jf jb o1 t o3 t' /\rep m d n P= .error e)))
  (fun z f t' =>z= .exit 2/\f.n=147/\f.get 0=dF jf/\f.get 1=ta/\f.get 2=td/\f.get 6=tc/\f.get 7=te/\((∃(P1:av ax) (o3:bq),rep m d n P= .ok P1/\P1.length<=m/\Fl base t' jf jb D (r+lW c) P1 (m:an) bv o3/\lC jf jb o1 t o3 t')\/(∃(e:an) (o3:bq),Bd base t' jf jb e/\lC jf jb o1 t o3 t' /\rep m d n P= .error e)))
  ⟨0,bt4,by simp only[ag,hn],by simp only[aa,↓ab,WP,h0],by simp only[aa,↓ab,WP,h1],by simp only[aa,↓ab,WP,h2],by simp only[aa,↓ab,WP,h6],by simp only[aa,↓ab,WP,h7],by simp only[aa,↓ab,WP],by simp only[aa,↓ab,WP],by simp only[aa,↓ab];rfl,.inl ⟨P,o1,rfl,by omega,rfl,by omega,zD,hF4,pQ⟩⟩ ?_ ?_
 ·clear hn h0 h1 h2 h6 h7 f w0 w1 l2 BA;rintro Q2 El z f t' ⟨i,nb5,hn,h0,h1,h2,h6,h7,h9,eC,oF,(⟨P1,o3,rfl,hi,B8,hdP,hP1,Gn,vT⟩|⟨rfl,e,o3,vU,vT,he⟩)⟩;rotate_left
  ·obtain⟨jS,Mc,o',m',lK⟩:=id vU;have w0:=lK.f.load (P:=af) cq (off:=0) (c:=4) rfl (by simp);have l2:=lK.b.load (P:=af) aP (off:=2) (c:=4) rfl (by simp);have hp:=lK.pos;have c0:¬(e:aY)=0:=by omega
   by_cases cn:(i:aY)<(n:aY)
   ·simp only[aj,ak,QM,WP,↓ab,undef,hn,h0,h9,oF,a8 cn,bT,cP,w0,l2,ao c0];exact El _ _ _ ⟨rfl,by simp only[ag,hn],by simp only[aa,↓ab,WP,h0],by simp only[aa,↓ab,WP,h1],by simp only[aa,↓ab,WP,h2],by simp only[aa,↓ab,WP,h6],by simp only[aa,↓ab,WP,h7],.inr ⟨e,o3,vU,vT,he⟩⟩
   simp only[aj,ak,QM,WP,↓ab,undef,hn,h9,oF,ao cn];exact El _ _ _ ⟨rfl,by simp only[ag,hn],by simp only[aa,↓ab,WP,h0],by simp only[aa,↓ab,WP,h1],by simp only[aa,↓ab,WP,h2],by simp only[aa,↓ab,WP,h6],by simp only[aa,↓ab,WP,h7],.inr ⟨e,o3,vU,vT,he⟩⟩
  have w0:=Gn.f.load (P:=af) cq (off:=0) (c:=4) rfl (by simp);have l2:=Gn.b.load (P:=af) aP (off:=2) (c:=4) rfl (by simp);by_cases tm:i<n;rotate_left
  ·obtain rfl:i=n:=by omega
   have e1:¬((i:an):aY)<((i:an):aY):=by omega
   rw[dw,rep] at B8;simp only[aj,ak,QM,WP,↓ab,undef,hn,h9,oF,ao e1];exact El _ _ _ ⟨rfl,by simp only[ag,hn],by simp only[aa,↓ab,WP,h0],by simp only[aa,↓ab,WP,h1],by simp only[aa,↓ab,WP,h2],by simp only[aa,↓ab,WP,h6],by simp only[aa,↓ab,WP,h7],.inl ⟨P1,o3,B8.symm,hP1,Gn,vT⟩⟩
  have e1:((i:an):aY)<((n:an):aY):=by omega
  rw[show n-i=(n-(i+1))+1 by omega,rep] at B8;simp only[aj,ak,QM,WP,↓ab,undef,hn,h0,h9,oF,a8 e1,bT,cP,w0,l2];obtain⟨BB,hBB⟩:∃BB:an->Bool,BB=fun j=>decide (j<t'.next):=⟨_,rfl⟩
  have Em:∀j,BB j=true->j<t'.next:=by
   intro j h;rw[hBB] at h;exact of_decide_eq_true h
  have Zd:∀j,j<t'.next->BB j=true:=fun j h=>by rw[hBB];exact decide_eq_true h
  refine LB.cN.dx BB Em 0 0 (by kernel_rfl) (by kernel_rfl) ?_;have js:=aw.spare t' 0;have Fo:(spare t' 0).next=t'.next+0:=bu _ _;have toq:lC jf jb o3 t' o3 (spare t' 0):=⟨by omega,fun i hi _ _ _=>js.get i hi,.inl rfl⟩;have y9:∀k,LA.di BB (some (.pointer (some ⟨jf,k,some 4⟩)))=true:=fun k=>LA.bN (A:=BB) (i:=jf) (Zd _ Gn.f.lt)
  have lE:=fun k=>LA.gh Gn.own.aL Zd (k:=k)
  have lL:=LA.rB Gn.own.aL;have hFq:Fl base (spare t' 0) jf jb D (r+lW c) P1 (m:an) bv o3:=⟨Gn.b.keeps js,Gn.f.keeps js,Gn.low.stay (js.weaken nb5),Gn.own.keeps js,Gn.fresh,Gn.nb,Gn.nf,Gn.ne,Gn.lb,Gn.lf⟩;have w1:=hFq.f.load (P:=af) gJ (off:=1) (c:=4) rfl (by simp);have Vg:=hFq.own.aL.aQ (P:=af) a3 (s2:=spare t' 0);have fk:P1.length-d<P1.length:=by omega
  have jK:=hFq.own.aL.indexAddr (P:=af) (k:= .i64) (x:=((P1.length-d:an):aY)) a3 cO (by omega) (by omega);rw[ck] at jK;have k1:=hFq.own.aL.cu (P:=af) gQ fk;rw[aW fk] at k1;have e2:((P1.length:an):aY)-(d:aY)=((P1.length-d:an):aY):=by omega
  simp(disch:=omega)only[aj,ak,bg,bn,Nat.reduceSub,ad,QM,WP,↓ab,hn,h0,eC,oF,Bw,w1,y9,lE,lL,Vg,Gn.own.self,aB,e2,jK,k1];by_cases cm:m<=P1.length
  ·rw[bk cm] at B8;refine(Au kJ jt base (spare t' 0) jf jb D P1 _ _ (P1.getD (P1.length-d) 0) bv o3 hFq (by omega)).mono ?_;rintro _ t6 ⟨vU,Ct⟩;refine⟨fun h=>h.elim,?_⟩;have n6:=Ct.next;exact ar 0 (by omega) ⟨i+1,by omega,by simp only[ag,hn],by simp only[aa,↓ab,WP,h0],by simp only[aa,↓ab,WP,h1],by simp only[aa,↓ab,WP,h2],by simp only[aa,↓ab,WP,h6],by simp only[aa,↓ab,WP,h7],by simp only[aa,↓ab,WP,h9],by simp only[aa,↓ab,WP,eC],by simp only[aa,↓ab];rfl,.inr ⟨rfl,7,o3,vU,vT.trans (toq.trans Ct),B8.symm⟩⟩
  rw[bb cm] at B8;refine(Ar kJ base (spare t' 0) jf jb D P1 _ _ (P1.getD (P1.length-d) 0) bv o3 hFq (by omega) (by omega) (by omega)).mono ?_;rintro _ t6 ⟨o4,hF6,Ct⟩;refine⟨fun h=>h.elim,?_⟩;have n6:=Ct.next;exact ar (n-(i+1)) (by omega) ⟨i+1,by omega,by simp only[ag,hn],by simp only[aa,↓ab,WP,h0],by simp only[aa,↓ab,WP,h1],by simp only[aa,↓ab,WP,h2],by simp only[aa,↓ab,WP,h6],by simp only[aa,↓ab,WP,h7],by simp only[aa,↓ab,WP,h9],by simp only[aa,↓ab,WP,eC],by simp only[aa,↓ab];rfl,.inl ⟨_,o4,rfl,by omega,B8,by rw[bl];omega,by rw[bl,c7];omega,hF6,vT.trans (toq.trans Ct)⟩⟩
 clear hn h0 h1 h2 h6 h7 f w0 w1 l2 BA;rintro z f t' ⟨rfl,hn,h0,h1,h2,h6,h7,(⟨P1,o3,B8,hP1,Gn,vT⟩|⟨e,o3,vU,vT,he⟩)⟩
 ·rw[B8] at hz;simp only[aj,↓ab];exact ar k (by omega) ⟨by simp only[hn],by simp only[h0],.inl ⟨r+lW c,P1,o3,hz,by omega,r2,hP1,Gn,dg.trans vT,hA.to vT,hB.to vT,hC.to vT,hE.to vT,by simp only[h1,h2,h6,h7,b5]⟩⟩
 rw[he] at hz;simp only[aj,↓ab];exact ar 0 (by omega) ⟨by simp only[hn],by simp only[h0],.inr ⟨rfl,e,o3,vU,dg.trans vT,hz.symm⟩⟩
end Go.Proofs.YtdfjfncifneocaaGreat