import Derived.Test.YtdfjfncifneocaaGreatNfG
open _root_ renaming reduceIte->af,Nat->ao,List->a4,if_neg->a6,eq_false->a7,Int->a8,if_pos->bb,eq_true->bg,decide_eq_false->bk,decide_eq_true->bl,UInt8->cd,true_and->cv,and_self->dC
open Go.Proofs.Tryz renaming prog->an,underlying22->bz,underlying180->cg,results213->cz,underlying219->c0,results187->dc,results215->ds,results212->dt
open List renaming getD_eq_getElem?_getD->av,length_append->a1,replicate->a5,toList_toArray->bo,getElem?_eq_getElem->bq,append_assoc->b4,length_replicate->b5,length_cons->b7,length_take->b8,getElem?_append_left->cp,count_le_length->cA,ext_getElem->c7,getElem_set->c8,take_length->c9,length_set->dv,append_nil->dx
open Go renaming Value->a0
open Nat renaming lt_of_lt_of_le->a2,reduceAdd->a9,pow_le_pow_right->ca,le_trans->cb,add_zero->cx,add_sub_cancel->cB,zero_add->dE,le_refl->dH
open Int renaming toNat_natCast->a3
open Go.Value renaming int->cc
open Nat renaming reduceLT->QS,reduceEqDiff->Qx
set_option maxHeartbeats 8000000
set_option linter.unusedSimpArgs false
set_option linter.unusedVariables false
set_option maxRecDepth 100000
namespace Go.Cl.Nf
open Go.Cl.Fx Go.Cl.Sto
theorem vm (C:a4 ao):∀m n,1<=n->n<=m->∀r,r<C.count n->(dq C (n-1)).length+r<(dq C m).length/\(dq C m).getD ((dq C (n-1)).length+r) 0=(idx C n).getD r 0
 |0,n,h1,h2,r,hr=>by omega
 |m+1,n,h1,h2,r,hr=>by
  have hl:=wk C (m+1)
  by_cases c:n=m+1
  ·subst c
   simp only[dq,cB]
   refine⟨by rw[a1,hl];omega,?_⟩
   rw[av,List.getElem?_append_right (by omega),Nat.add_sub_cancel_left,av]
  ·obtain⟨k1,k2⟩:=vm C m n h1 (by omega) r hr
   simp only[dq]
   refine⟨by rw[a1];omega,?_⟩
   rw[av,cp k1,<-av,k2]
theorem aeQ (C:a4 ao){n:ao}(h:1<=n):cn C n=C.count n:=a6 (by omega)
theorem HU (C:a4 ao)(n:ao):(dq C (n+1)).length=(dq C n).length+C.count (n+1):=by
 simp only[dq];rw[a1,wk]
theorem HV (C:a4 ao):∀m,(dq C m).length<=C.length:=by
 have key:∀(L:a4 ao) (m:ao),(dq L m).length=(L.filter (fun x=>decide (1<=x/\x<=m))).length:=by
  intro L m
  induction m with
  |zero=>
   rw[show L.filter (fun x=>decide (1<=x/\x<=0))=[] from List.filter_eq_nil_iff.2 (fun x _=>by simp;omega)]
   rfl
  |succ m ih=>
   rw[HU,ih]
   clear ih
   induction L with
   |nil=>rfl
   |cons a r ih=>
    simp only[List.filter_cons,List.count_cons]
    by_cases c1:a=m+1
    ·subst c1
     have c4:(decide (1<=m+1/\m+1<=m))=false:=bk (by omega)
     have c5:(decide (1<=m+1/\m+1<=m+1))=true:=bl (by omega)
     have c6:(m+1==m+1)=true:=by simp
     rw[c4,c5,c6]
     simp only[if_true,b7]
     rw[a6 (by decide)]
     omega
    ·by_cases c2:1<=a/\a<=m
     ·have c3:1<=a/\a<=m+1:=by omega
      have c4:(decide (1<=a/\a<=m))=true:=bl c2
      have c5:(decide (1<=a/\a<=m+1))=true:=bl c3
      have c6:(a==m+1)=false:=by simpa using c1
      rw[c4,c5,c6]
      simp only[if_true,b7]
      rw[a6 (by decide)]
      omega
     ·have c3:¬(1<=a/\a<=m+1):=by omega
      have c4:(decide (1<=a/\a<=m))=false:=bk c2
      have c5:(decide (1<=a/\a<=m+1))=false:=bk c3
      have c6:(a==m+1)=false:=by simpa using c1
      rw[c4,c5,c6]
      simpa using ih
 intro m
 rw[key]
 exact List.length_filter_le _ _
theorem Rt {P:Program}{t e:TypeId}{m:ao}(hu:P.underlying t=some (.array m e))(cf:aX P e=some 1)(i o c:ao){x:a8}(h0:0<=x)(hx:x<m)(kk:IntKind):
  bT P t (.pointer (some ⟨i,o,some c⟩)) (.int kk x)=some (.pointer (some ⟨i,o+x.toNat,some c⟩)):=by
 obtain⟨k,rfl⟩:∃k:ao,x=k:=⟨x.toNat,by omega⟩
 have hb:Nat.blt k m=true:=by rw[Nat.blt_eq];omega
 show bT P t _ (.int kk (Int.ofNat k))=_
 unfold bT
 rw[hu]
 simp only[cf,hb,if_true,Nat.mul_one,a3]
end Go.Cl.Nf
namespace Go.Proofs.YtdfjfncifneocaaGreat
open Go.Cl Go.Cl.Rw Go.Cl.Sto Go.Cl.Fx Go.Cl.Nf Go.Cl.Bt
def nfp:a4 ao:=[149,220,210,211,187,215,212,188,214,213,189,217,223,218,191,222,221,216,190,150,102,155,192,186,209,105,100]
def Po (lib:aA):Prop:=∀g,nfp.contains g=true->lib.at g=none
theorem dF (a b:a0):ba (.tuple #[a,b]) 0=some a:=rfl
theorem dG (a b:a0):ba (.tuple #[a,b]) 1=some b:=rfl
theorem ig.le {base:ao}{s:aq}{jx ic:ao}{D:a4 cd}{p:ao}(h:ig base s jx ic D p):p<=8*D.length:=by
 obtain⟨q,now,left,h,-⟩:=h
 have:=h.e
 have:=h.c.choose_spec.2.2.2
 omega
theorem ig.lt {base:ao}{s:aq}{jx ic:ao}{D:a4 cd}{p:ao}(h:ig base s jx ic D p):jx<s.next/\ic<s.next/\base<=jx/\base<=ic/\jx≠ic:=by
 obtain⟨q,now,left,h,-⟩:=h
 exact⟨h.t.lt,h.c.choose_spec.1.lt,h.lx,h.lc,h.ne⟩
theorem ig.keeps {base:ao}{s s' :aq}{jx ic:ao}{D:a4 cd}{p:ao}(h:ig base s jx ic D p)(hb:base<=s.next)(k:ar s.next s s'):ig base s' jx ic D p:=by
 obtain⟨q,now,left,h,h7⟩:=h
 exact⟨q,now,left,⟨h.c.keeps hb k,h.t.keeps k,h.e,h.l8,h.r,h.now,h.lx,h.lc,h.ne⟩,h7⟩
def anA (base jx ic:ao)(D:a4 cd)(p n:ao)(s:aq)(v:a0)(s' :aq):Except ao ao->Prop
 | .ok x=>v= .tuple #[.int .i64 (x:ao),.int .i64 0]/\ig base s' jx ic D (p+n)/\lW jx ic s s'
 | .error e=>e=2/\v= .tuple #[.int .i64 0,.int .i64 2]/\lW jx ic s s'
theorem oh {lib:aA}(hL:Po lib)(base:ao)(s:aq)(jx ic:ao)(D:a4 cd)(p n:ao)(h:ig base s jx ic D p)(hb:base<=s.next)(atb:n<=16)(hlen:D.length<=4000000):
  Runs an lib 187 [qx jx,.int .i64 (n:ao)] s fun v s' =>anA base jx ic D p n s v s' (dQ D p n):=by
 refine Runs.enter 13 Tryz.func187 rfl (hL _ rfl) rfl rfl ?_
 intro f hn hf
 have h0:f.get 0=qx jx:=hf 0
 have h1:f.get 1= .int .i64 (n:ao):=hf 1
 clear hf
 simp only[aj,ak,aa,QS,Qx,↓af,hn,h0,h1]
 refine(HO (hL _ rfl) (hL _ rfl) (hL _ rfl) (hL _ rfl) (hL _ rfl) (hL _ rfl) base s jx ic D p (n:ao) h hb hlen).mono ?_
 rintro _ s1 ⟨rfl,hB,fk⟩
 by_cases c:p+n<=8*D.length
 ·have ht:takes D p (n:ao):=⟨by omega,by omega,by omega⟩
  rw[bb ht,a3] at hB
  have e1:pI D p (n:ao)=((cj D p n:ao):a8):=by unfold pI;rw[bb ht,a3]
  have d1:¬((cj D p n:ao):a8)<0:=by omega
  simp only[aj,al,oneOf,QS,Qx,↓af,hn,e1,a7 d1,dc]
  rw[eN c]
  exact⟨rfl,hB,fk⟩
 ·have ht:¬takes D p (n:ao):=fun h=>c (by have:=h.2.2;omega)
  have e1:pI D p (n:ao)= -1:=by unfold pI;rw[a6 ht]
  have d1:(-1:a8)<0:=by decide
  simp only[aj,al,oneOf,QS,Qx,↓af,hn,e1,bg d1,dc]
  rw[mn c]
  exact⟨rfl,rfl,fk⟩
theorem XQ {lib:aA}(hL:Po lib)(base:ao)(s:aq)(jx ic:ao)(D:a4 cd)(p:ao)(h:ig base s jx ic D p)(hb:base<=s.next)(hlen:D.length<=4000000):
  Runs an lib 220 [qx jx] s fun v s' =>v= .int .i64 (if p+1<=8*D.length then((bit D p:ao):a8) else-1)/\(p+1<=8*D.length->ig base s' jx ic D (p+1))/\lW jx ic s s' :=by
 refine Runs.enter 5 Tryz.func220 rfl (hL _ rfl) rfl rfl ?_
 intro f hn hf
 have h0:f.get 0=qx jx:=hf 0
 clear hf
 simp only[aj,ak,aa,QS,Qx,↓af,hn,h0]
 refine(HO (hL _ rfl) (hL _ rfl) (hL _ rfl) (hL _ rfl) (hL _ rfl) (hL _ rfl) base s jx ic D p 1 h hb hlen).mono ?_
 rintro _ s1 ⟨rfl,hB,fk⟩
 simp only[aj,al,oneOf,QS,↓af,hn,Tryz.results220]
 by_cases c:p+1<=8*D.length
 ·have ht:takes D p 1:=⟨by omega,by omega,by omega⟩
  rw[bb ht] at hB
  refine⟨?_,fun _=>hB,fk⟩
  unfold pI
  rw[bb ht,bb c]
  show cc .i64 ((cj D p 1:ao):a8)=_
  rw[TR]
 ·have ht:¬takes D p 1:=fun h=>c (by have:=h.2.2;omega)
  refine⟨?_,fun h=>absurd h c,fk⟩
  unfold pI
  rw[a6 ht,a6 c]
theorem acI:aX an 217=some 16:=by kernel_rfl
theorem Ru:aX an 134=some 1:=by kernel_rfl
theorem Rv:bX an 134=some false:=by kernel_rfl
theorem dM:aX an 219=some 17:=by kernel_rfl
theorem jm:bX an 219=some true:=by kernel_rfl
theorem aiV:an.underlying 217=some (.array 16 3):=Tryz.underlying217
theorem XR (i o c:ao):au an 219 (.pointer (some ⟨i,o,some c⟩)) 0=some (.pointer (some ⟨i,o+0,some c⟩)):=by
 unfold au;rw[c0];simp[acI]
theorem Rx (i o c:ao):au an 219 (.pointer (some ⟨i,o,some c⟩)) 1=some (.pointer (some ⟨i,o+16,some c⟩)):=by
 unfold au;rw[c0];simp[Ru]
def cw (C:a4 ao)(sv:a0):a4 a0:=((List.range 16).map fun n=>cc .i64 ((cn C n:ao):a8))++[sv]
theorem az (C:a4 ao)(sv:a0):(cw C sv).length=17:=by simp[cw]
theorem oi (C:a4 ao)(sv:a0){n:ao}(h:n<16):(cw C sv).getD n undef= .int .i64 ((cn C n:ao):a8):=by
 unfold cw
 rw[av,cp (by simpa using h),List.getElem?_map,List.getElem?_range h];rfl
theorem tU (C:a4 ao)(sv:a0):(cw C sv).getD 16 undef=sv:=by simp[cw,av]
def Gd (jx ic:ao)(s:aq)(sv:a0)(C:a4 ao):Prop:=aN s 1 sv (dq C 15).length (gN (dq C 15))/\∀i,aI sv=some i->i<s.next/\i≠jx/\i≠ic
theorem XS {s s' :aq}{z:ao}{v:a0}{n:ao}{L:a4 a0}(h:aN s z v n L)(hn:s.next<=s'.next)(hs:∀i,aI v=some i->i<s.next->s'.heap.get i=s.heap.get i):aN s' z v n L:=by
 cases h with
 |nil=>exact .nil
 |bare i off=>exact .bare i off
 |of i off n c b l hi hb hz hl hc hlen fy ht=>
  refine .of i off _ c b _ (a2 hi hn) ?_ hz hl hc hlen fy ht
  simp only[aq.bR,hs i rfl hi];exact hb
theorem Gd.to {jx ic:ao}{s s' :aq}{sv:a0}{C:a4 ao}(h:Gd jx ic s sv C)(k:lW jx ic s s'):Gd jx ic s' sv C:=
 ⟨XS h.1 k.next (fun i hi hl=>k.get i hl (h.2 i hi).2.1 (h.2 i hi).2.2),fun i hi=>⟨a2 (h.2 i hi).1 k.next,(h.2 i hi).2⟩⟩
def aiW (base jx ic:ao)(D:a4 cd)(s:aq)(v:a0)(s' :aq):Except ao (ao×ao)->Prop
 | .ok (x,q)=>v= .tuple #[.int .i64 (x:ao),.int .i64 0]/\ig base s' jx ic D q/\lW jx ic s s'
 | .error e=>0<e/\v= .tuple #[.int .i64 0,.int .i64 (e:ao)]/\lW jx ic s s'
theorem Mz {lib:aA}(hL:Po lib)(base:ao)(s:aq)(jx ic:ao)(D:a4 cd)(p:ao)(h:ig base s jx ic D p)(hb:base<=s.next)(hlen:D.length<=4000000)(C:a4 ao)(sv:a0)(hC:Gd jx ic s sv C)(hCl:C.length<=1000):
  Runs an lib 215 [qx jx,.agg (cw C sv).toArray] s fun v s' =>aiW base jx ic D s v s' (sym D C p):=by
 refine Runs.enter 54 Tryz.func215 rfl (hL _ rfl) rfl rfl ?_
 intro f hn hf
 have h0:f.get 0=qx jx:=hf 0
 have h1:f.get 1= .agg (cw C sv).toArray:=hf 1
 clear hf
 simp only[aj,QS,↓af,hn,h1]
 refine aw ?_
 intro s1 Nq bn iV
 obtain⟨jc,hjc⟩:∃j,j=s.next:=⟨_,rfl⟩
 rw[<-hjc] at Nq
 have jL:=az C sv
 have h1B:lW jx ic s s1:=⟨bn.next,fun i hi _ _=>bn.get i hi⟩
 have hC1:=hC.to h1B
 have atd:(2:ao)^15=32768:=by decide
 have MA:=HV C
 simp only[aj,QS,a9,↓af,hn,<-hjc,jL]
 refine Comes.bQ (fun z f t=>∃k:ao,z=15-k/\k<=15/\p+k<=8*D.length/\Bl D C p (15-k) k=sym D C p/\fst C k+cn C k<=hi D p k/\ig base t jx ic D (p+k)/\lW jx ic s1 t/\ax t jc (cw C sv)/\Gd jx ic t sv C/\f.n=54/\f.get 0=qx jx/\f.get 3= .pointer (some ⟨jc,0,some 18⟩)/\f.get 6= .int .i64 (hi D p k:ao)/\f.get 7= .int .i64 ((fst C k+cn C k:ao):a8)/\f.get 8= .int .i64 ((dq C k).length:ao)/\f.get 9= .int .i64 ((k:a8)+1))
  (fun z f t=>(z= .ret/\f.n=54/\∃v e:a0,f.get 4=v/\f.get 5=e/\aiW base jx ic D s (.tuple #[v,e]) t (sym D C p))\/(z= .exit 0/\f.n=54/\sym D C p= .error 4/\lW jx ic s t))
  ⟨0,rfl,by omega,h.le,rfl,by simp[fst,cn,hi],h.keeps hb bn,lW.refl _ _ _,Nq,hC1,by simp only[ag,hn],by simp only[ad,↓af,Qx,h0],by simp only[ad,↓af,Qx],by simp only[ad,↓af,Qx];rfl,by simp only[ad,↓af,Qx];rfl,by simp only[ad,↓af,Qx];rfl,by simp only[ad,↓af];rfl⟩ ?_ ?_
 ·have hjx:=h.lt
  clear hn h0 h1 f Nq h hC hC1
  rintro Q hQ z f t ⟨k,rfl,hk,hkD,XT,hle,hB,fk,Nq,hS,hn,h0,h3,h6,h7,h8,h9⟩
  by_cases ahp:k<15
  rotate_left
  ·obtain rfl:k=15:=by omega
   have d1:¬((15:ao):a8)+1<=15:=by omega
   simp only[aj,QS,↓af,hn,h9,a7 d1]
   exact hQ _ _ _ (.inr ⟨rfl,by simp only[ag,hn],XT.symm,h1B.trans fk⟩)
  have d1:(k:a8)+1<=15:=by omega
  have hkp:2^k<=2^15:=ca (by omega) (by omega)
  have hhl:=XH D p k
  rw[show 15-k=(15-(k+1))+1 by omega,Bl] at XT
  have JI:base<=t.next:=by have:=fk.next;omega
  simp only[aj,ak,aa,QS,Qx,↓af,hn,h0,h9,bg d1]
  refine(XQ hL base t jx ic D (p+k) hB JI hlen).mono ?_
  rintro _ t1 ⟨rfl,EZ,FT⟩
  have Xn:=h1B.trans (fk.trans FT)
  by_cases dd:p+(k+1)<=8*D.length
  rotate_left
  ·rw[a6 dd] at XT
   have d2:(-1:a8)<0:=by decide
   rw[a6 (show¬p+k+1<=8*D.length by omega)]
   simp only[aj,QS,↓af,hn,bg d2]
   refine hQ _ _ _ (.inl ⟨rfl,by simp only[ag,hn],_,_,by simp only[ad,↓af,Qx];rfl,by simp only[ad,↓af];rfl,?_⟩)
   rw[<-XT]
   exact⟨by decide,rfl,Xn⟩
  rw[bb dd] at XT
  have EZ:=EZ dd
  rw[bb (show p+k+1<=8*D.length by omega)]
  have oH:=vO D (p+k)
  have d2:¬((bit D (p+k):ao):a8)<0:=by omega
  have ate:jc<t1.next:=by have:=fk.next;have:=FT.next;omega
  have wi:ax t1 jc (cw C sv):=by
   obtain⟨i1,low,z,i2,i3⟩:=Nq
   exact⟨a2 i1 FT.next,low,z,by simp only[aq.bR,FT.get jc i1 (by omega) (by omega)];exact i2,i3⟩
  have hS1:=hS.to FT
  have tC:=aiT an 3 .u64 (x:=hi D p k) (by omega)
  have ra:=aiS (x:=hi D p k) (b:=bit D (p+k)) (by omega) oH
  have ehi:2*hi D p k+bit D (p+k)=hi D p (k+1):=rfl
  rw[ehi] at ra
  have hsf:=aiT an 3 .u64 (x:=fst C k+cn C k) (by omega)
  have anD:(fst C k+cn C k)*2^1=fst C (k+1):=by simp only[fst];omega
  rw[anD] at hsf
  have Ku:fst C (k+1)<=hi D p (k+1):=by rw[<-ehi];simp only[fst];omega
  have e1:((hi D p (k+1):ao):a8)-((fst C (k+1):ao):a8)=((hi D p (k+1)-fst C (k+1):ao):a8):=by omega
  have atf:=XH D p (k+1)
  have atg:2^(k+1)<=2^15:=ca (by omega) (by omega)
  have S5:cn C (k+1)=C.count (k+1):=aeQ C (by omega)
  have ek:((k:a8)+1).toNat=k+1:=by omega
  have ik:=Rt (P:=an) aiV bA jc 0 18 (x:=(k:a8)+1) (by omega) (by omega) .i64
  rw[ek,dE] at ik
  have lk:=wi.load (P:=an) bu (off:=k+1) (c:=18) (by rw[jL]) (by rw[jL];omega)
  rw[oi C sv (by omega)] at lk
  have lsv:=wi.load (P:=an) Rv (off:=16) (c:=18) (by rw[jL]) (by rw[jL];omega)
  rw[tU] at lsv
  have J8:=MA 15
  have hfk:=MA k
  by_cases Tl:yh D C p (k+1)
  ·rw[bb Tl] at XT
   have d3:((hi D p (k+1)-fst C (k+1):ao):a8)<((cn C (k+1):ao):a8):=by have:=Tl.2;omega
   obtain⟨q1,q2⟩:=vm C 15 (k+1) (by omega) (by omega) (hi D p (k+1)-fst C (k+1)) (by have:=Tl.2;omega)
   rw[cB] at q1 q2
   have e2:((dq C k).length:a8)+((hi D p (k+1):ao):a8)-((fst C (k+1):ao):a8)=(((dq C k).length+(hi D p (k+1)-fst C (k+1)):ao):a8):=by omega
   have is:=hS1.1.indexAddr (P:=an) (k:= .i64) (x:=(((dq C k).length+(hi D p (k+1)-fst C (k+1)):ao):a8)) qZ bA (by omega) (by omega)
   rw[a3] at is
   have ls:=hS1.1.di (P:=an) bu q1
   rw[vP q1,q2] at ls
   simp(disch:=omega)only[aj,QS,Qx,↓af,hn,h3,h6,h7,h8,h9,a7 d2,tC,jV,ra,hsf,aD,e1,XR,Rx,ik,lk,bg d3,lsv,e2,is,ls]
   refine hQ _ _ _ (.inl ⟨rfl,by simp only[ag,hn],_,_,by simp only[ad,↓af,Qx];rfl,by simp only[ad,↓af];rfl,?_⟩)
   rw[<-XT]
   exact⟨rfl,EZ,Xn⟩
  ·rw[a6 Tl] at XT
   have ali:cn C (k+1)<=hi D p (k+1)-fst C (k+1):=by
    rw[S5]
    rcases Nat.lt_or_ge (hi D p (k+1)-fst C (k+1)) (C.count (k+1)) with c|c
    ·exact absurd ⟨Ku,by omega⟩ Tl
    ·exact c
   have d3:¬((hi D p (k+1)-fst C (k+1):ao):a8)<((cn C (k+1):ao):a8):=by omega
   have e2:((fst C (k+1):ao):a8)+((cn C (k+1):ao):a8)=((fst C (k+1)+cn C (k+1):ao):a8):=by omega
   have Vv:=HU C k
   have e3:(((dq C k).length:ao):a8)+((cn C (k+1):ao):a8)=(((dq C (k+1)).length:ao):a8):=by omega
   have ath:=MA (k+1)
   simp(disch:=omega)only[aj,QS,Qx,↓af,hn,h3,h6,h7,h8,h9,a7 d2,tC,jV,ra,hsf,aD,e1,XR,ik,lk,a7 d3,e2,e3]
   exact ay (15-(k+1)) (by omega) ⟨k+1,rfl,by omega,by omega,XT,by omega,EZ,fk.trans FT,wi,hS1,by simp only[ad,ag,↓af,Qx,hn,h0,h3,cv];rfl⟩
 clear hn h0 h1 f
 rintro z f t (⟨rfl,hn,v,e,h4,h5,hR⟩|⟨rfl,hn,XT,fk⟩)
 ·simp only[aj,al,oneOf,QS,↓af,hn,h4,h5,ds]
  exact hR
 ·simp only[aj,al,oneOf,QS,Qx,↓af,hn,ds]
  rw[XT]
  exact⟨by decide,rfl,fk⟩
theorem jP:bX an 177=some false:=by kernel_rfl
theorem BH:aX an 177=some 1:=by kernel_rfl
theorem qA (i o c:ao):au an 180 (.pointer (some ⟨i,o,some c⟩)) 0=some (.pointer (some ⟨i,o+0,some c⟩)):=by
 unfold au;rw[cg];simp[BH]
theorem acJ (i o c:ao):au an 180 (.pointer (some ⟨i,o,some c⟩)) 1=some (.pointer (some ⟨i,o+1,some c⟩)):=by
 unfold au;rw[cg];simp[bA]
theorem AW (i o c:ao):au an 180 (.pointer (some ⟨i,o,some c⟩)) 2=some (.pointer (some ⟨i,o+2,some c⟩)):=by
 unfold au;rw[cg];simp[fT]
abbrev su (j:ao):a0:= .pointer (some ⟨j,0,some 4⟩)
structure Rs (base:ao) (s:aq) (jr jx ic:ao) (D:a4 cd) (p:ao) (P:a4 cd) (M:a8) (o:a0):Prop where
 bit:ig base s jx ic D p
 t:ax s jr [qx jx,.int .i64 M,o]
 own:Own s 1 o P.length (ofBytes P)
 fresh:aF base o
 nr:aI o≠some jr
 nx:aI o≠some jx
 nc:aI o≠some ic
 rx:jr≠jx
 rc:jr≠ic
 lr:base<=jr
structure uF (jr jx ic:ao) (o:a0) (s:aq) (o' :a0) (s' :aq):Prop where
 next:s.next<=s'.next
 get:∀i,i<s.next->i≠jr->i≠jx->i≠ic->aI o≠some i->s'.heap.get i=s.heap.get i
 id:aI o' =aI o\/∃i,aI o' =some i/\s.next<=i
theorem uF.refl (jr jx ic:ao)(o:a0)(s:aq):uF jr jx ic o s o s:=⟨dH _,fun _ _ _ _ _ _=>rfl,.inl rfl⟩
theorem uF.trans {jr jx ic:ao}{o o' o'' :a0}{s s' yB:aq}(h:uF jr jx ic o s o' s')(k:uF jr jx ic o' s' o'' yB):uF jr jx ic o s o'' yB:=by
 refine⟨cb h.next k.next,fun i hi h1 h2 h4 h3=> ?_,?_⟩
 ·rw[k.get i (a2 hi h.next) h1 h2 h4 ?_,h.get i hi h1 h2 h4 h3]
  rcases h.id with e|⟨q,e,hq⟩
  ·rw[e];exact h3
  ·rw[e];intro q2;injection q2 with q2;omega
 ·rcases k.id with e|⟨q,e,hq⟩
  ·rcases h.id with e2|⟨q,e2,hq⟩
   ·exact .inl (by rw[e,e2])
   ·exact .inr ⟨q,by rw[e,e2],hq⟩
  ·exact .inr ⟨q,e,cb h.next hq⟩
theorem uF.stay {jr jx ic base:ao}{o o' :a0}{s s' :aq}(h:uF jr jx ic o s o' s')(h1:base<=jr)(h2:base<=jx)(h4:base<=ic)(h3:aF base o)(hb:base<=s.next):ar base s s' :=
 ⟨h.next,fun i hi=>h.get i (by omega) (by omega) (by omega) (by omega) (fun e=>by have:=h3 i e;omega)⟩
theorem rF {jr jx ic:ao}{o:a0}{s s' :aq}(h:lW jx ic s s'):uF jr jx ic o s o s' :=⟨h.next,fun i hi _ h2 h4 _=>h.get i hi h2 h4,.inl rfl⟩
theorem uF.kept {jr jx ic:ao}{o o' :a0}{s t t' :aq}(h:uF jr jx ic o s o' t)(k:ar t.next t t'):uF jr jx ic o s o' t' :=
 ⟨cb h.next k.next,fun i hi h1 h2 h4 h3=>(k.get i (a2 hi h.next)).trans (h.get i hi h1 h2 h4 h3),h.id⟩
theorem JN {s s' :aq}{i:ao}{cs:a4 a0}(h:ax s i cs)(hn:s.next<=s'.next)(hg:s'.heap.get i=s.heap.get i):ax s' i cs:=by
 obtain⟨i1,low,z,i2,i3⟩:=h
 exact⟨a2 i1 hn,low,z,by simp only[aq.bR,hg];exact i2,i3⟩
theorem aiY {s s' :aq}{z:ao}{v:a0}{n:ao}{L:a4 a0}(h:Own s z v n L)(hn:s.next<=s'.next)(hs:∀i,aI v=some i->i<s.next->s'.heap.get i=s.heap.get i):Own s' z v n L:=by
 cases h with
 |nil=>exact .nil
 |of i n low l hi hb hl hlen=>
  refine .of i _ low _ (a2 hi hn) ?_ hl hlen
  simp only[aq.bR,hs i rfl hi];exact hb
theorem Rs.bits {base:ao}{s s' :aq}{jr jx ic:ao}{D P:a4 cd}{p p' :ao}{M:a8}{o:a0}(h:Rs base s jr jx ic D p P M o)(hB:ig base s' jx ic D p')(k:lW jx ic s s'):Rs base s' jr jx ic D p' P M o:=
 ⟨hB,JN h.t k.next (k.get jr h.t.lt h.rx h.rc),aiY h.own k.next (fun i hi hl=>k.get i hl (fun e=>h.nx (by rw[hi,e])) (fun e=>h.nc (by rw[hi,e]))),h.fresh,h.nr,h.nx,h.nc,h.rx,h.rc,h.lr⟩
theorem Rs.keeps {base:ao}{s s' :aq}{jr jx ic:ao}{D P:a4 cd}{p:ao}{M:a8}{o:a0}(h:Rs base s jr jx ic D p P M o)(hb:base<=s.next)(k:ar s.next s s'):Rs base s' jr jx ic D p P M o:=
 ⟨h.bit.keeps hb k,h.t.keeps k,h.own.keeps k,h.fresh,h.nr,h.nx,h.nc,h.rx,h.rc,h.lr⟩
theorem Gd.rto {jr jx ic:ao}{o o' :a0}{s s' :aq}{sv:a0}{C:a4 ao}(h:Gd jx ic s sv C)(hr:∀i,aI sv=some i->i≠jr/\aI o≠some i)(k:uF jr jx ic o s o' s'):Gd jx ic s' sv C:=
 ⟨XS h.1 k.next (fun i hi hl=>k.get i hl (hr i hi).1 (h.2 i hi).2.1 (h.2 i hi).2.2 (hr i hi).2),fun i hi=>⟨a2 (h.2 i hi).1 k.next,(h.2 i hi).2⟩⟩
def JO (base jr jx ic:ao)(D:a4 cd)(M:a8)(o:a0)(s:aq)(v:a0)(s' :aq):Except ao (ao×a4 cd)->Prop
 | .ok (q,P)=>v= .int .i64 0/\∃o',Rs base s' jr jx ic D q P M o' /\uF jr jx ic o s o' s'
 | .error e=>0<e/\v= .int .i64 (e:ao)/\ar base s s'
theorem EA {lib:aA}(hL:Po lib)(base:ao)(s:aq)(jr jx ic:ao)(D P:a4 cd)(p m:ao)(M:a8)(hM:m=M.toNat)(c:cd)(o:a0)(h:Rs base s jr jx ic D p P M o)(hb:base<=s.next)(hPl:P.length<=100000000):
  Runs an lib 212 [su jr,.int .u8 c.toNat] s fun v s' =>JO base jr jx ic D M o s v s' (if m<=P.length then .error 7 else .ok (p,P++[c])):=by
 have oH:=h.bit.lt
 refine Runs.enter 25 Tryz.func212 rfl (hL _ rfl) rfl rfl ?_
 intro f hn hf
 have h0:f.get 0=su jr:=hf 0
 have h1:f.get 1= .int .u8 c.toNat:=hf 1
 clear hf
 have r0:=h.t.load (P:=an) jP (off:=0) (c:=4) rfl (by simp)
 have r1:=h.t.load (P:=an) bu (off:=1) (c:=4) rfl (by simp)
 have r2:=h.t.load (P:=an) fU (off:=2) (c:=4) rfl (by simp)
 by_cases cm:m<=P.length
 ·have c1:(P.length:a8)>=M:=by omega
  simp only[aj,ak,al,oneOf,aa,QS,Qx,↓af,hn,h0,acJ,AW,r1,r2,h.own.aG.bm bz,h.own.self,bg c1,dt]
  rw[bb cm]
  exact⟨by decide,rfl,ar.refl _ _⟩
 have c1:¬(P.length:a8)>=M:=by omega
 simp only[aj,ak,aa,ae,QS,Qx,↓af,hn,h0,h1,acJ,AW,r1,r2,h.own.aG.bm bz,h.own.self,a7 c1,gG bz bK ks]
 refine bG bz bK jW ks rfl h.own (by simp only[ad,↓af,Qx]) (by decide) (by simp only[ag,hn];decide) (by simp only[ag,hn];decide) (by rfl) (by decide) rfl (by omega) (by omega) h.fresh hb ?_
 intro bs o2 s2 fN Zk aR dD qN
 have cH:∀j,j<s.next->aI o≠some j->aI o2≠some j:=fun j hj cH=>by
  rcases qN with e|⟨i,e,hi⟩
  ·rw[e];exact cH
  ·rw[e];intro q;injection q with q;omega
 have hnr:=cH jr h.t.lt h.nr
 have xG:=cH jx oH.1 h.nx
 have hnc:=cH ic oH.2.1 h.nc
 have gx:=h.t.turns dD h.nr
 simp only[aj,QS,Qx,↓af,hn,AW]
 refine aY fT gx rfl (by simp) fN.aG.aL ?_
 intro s3 A8 mQ fB
 simp only[aj,al,oneOf,QS,↓af,hn,dt]
 rw[a6 cm]
 have bC:=aR.trans (ar.aK mQ fB h.lr)
 obtain⟨q,now,left,hB,h7⟩:=h.bit
 have Az:ig base s3 jx ic D p:=by
  have dI:base<=s2.next:=cb hb aR.next
  have c2:=(hB.c.turns hb h.fresh dD h.nc).turns dI (da h.lr) (bt.aK (i:=jr) (o:=0) (c:=some 3) mQ fB) (eD h.rc)
  exact⟨q,now,left,⟨c2,(hB.t.turns dD h.nx).turns (bt.aK (i:=jr) (o:=0) (c:=none) mQ fB) (fun e=>h.rx (by injection e)),hB.e,hB.l8,hB.r,hB.now,hB.lx,hB.lc,hB.ne⟩,h7⟩
 refine⟨rfl,o2,⟨Az,A8,?_,Zk,hnr,xG,hnc,h.rx,h.rc,h.lr⟩,⟨by have:=dD.next;omega,fun i hi h1 _ _ h3=>by rw[fB i h1,dD.get i hi h3],qN⟩⟩
 rw[br,a1]
 exact fN.aK mQ fB hnr
end Go.Proofs.YtdfjfncifneocaaGreat
namespace Go.Cl.Nf
open Go.Cl.Fx Go.Cl.Sto
theorem rG {C:a4 ao}{i:ao}(hi:i<C.length)(n:ao):cn (C.take (i+1)) n=cn (C.take i) n+if C.getD i 0=n/\n≠0 then 1 else 0:=by
 unfold cn
 by_cases h:n=0
 ·subst h;simp
 ·rw[a6 h,a6 h,oZ hi]
  by_cases c:C.getD i 0=n
  ·rw[bb c,bb ⟨c,h⟩]
  ·rw[a6 c,a6 (fun q=>c q.1)]
theorem Pp (C:a4 ao)(i n:ao):cn (C.take i) n<=C.length:=by
 unfold cn
 split
 ·omega
 ·exact cb cA (by rw[b8];omega)
theorem TZ (C:a4 ao)(n:ao):dq C n++jH C (n+1) C.length=dq C (n+1):=rfl
def jh:a4 (ao×ao)->a4 ao
 |[]=>[]
 |(a,b)::r=>a5 a b++jh r
def MB (L:a4 (ao×ao)):a4 a0:=L.flatMap fun p=>[.int .i64 (p.1:ao),.int .i64 (p.2:ao)]
theorem MD:∀{L:a4 (ao×ao)} {i:ao},i<L.length->((MB L).drop (i*2)).take 2=[.int .i64 ((L.getD i (0,0)).1:ao),.int .i64 ((L.getD i (0,0)).2:ao)]
 |[],i,h=>by simp at h
 |p::r,0,h=>rfl
 |p::r,i+1,h=>by
  have:=MD (L:=r) (i:=i) (by simpa using h)
  show((List.drop ((i+1)*2) ([cc .i64 (p.1:ao),cc .i64 (p.2:ao)]++MB r))).take 2=_
  rw[show(i+1)*2=2+i*2 by omega,<-List.drop_drop]
  exact this
theorem EB:∀{L:a4 (ao×ao)} {i:ao},i<L.length->jh (L.take (i+1))=jh (L.take i)++a5 (L.getD i (0,0)).1 (L.getD i (0,0)).2
 |[],i,h=>by simp at h
 |(a,b)::r,0,h=>by simp[jh]
 |(a,b)::r,i+1,h=>by
  have:=EB (L:=r) (i:=i) (by simpa using h)
  simp only[List.take_succ_cons,jh]
  rw[this,b4];rfl
end Go.Cl.Nf
namespace Go.Proofs.YtdfjfncifneocaaGreat
open Go.Cl Go.Cl.Rw Go.Cl.Sto Go.Cl.Fx Go.Cl.Nf Go.Cl.Bt
theorem AY:bV an 219=some (.agg (cw [] (.slice none 0 0)).toArray):=by kernel_rfl
theorem AZ:bN (.agg (cw [] (.slice none 0 0)).toArray)=true:=by kernel_rfl
theorem Pq {C:a4 ao}{i:ao}(hi:i<C.length)(h0:0<C.getD i 0)(my:C.getD i 0<=15)(sv:a0):(cw (C.take i) sv).set (C.getD i 0) (.int .i64 ((cn (C.take i) (C.getD i 0)+1:ao):a8))=cw (C.take (i+1)) sv:=by
 refine c7 (by rw[dv,az,az]) (fun j h1 h2=> ?_)
 rw[az] at h2
 have e:∀(T:a4 ao) (hj:j<(cw T sv).length),(cw T sv)[j]=(cw T sv).getD j undef:=fun T hj=>by rw[av,bq hj];rfl
 rw[c8]
 by_cases c:C.getD i 0=j
 ·rw[bb c,e,oi _ _ (by omega),rG hi,bb ⟨c,by omega⟩,c]
 ·rw[a6 c,e,e]
  by_cases c16:j<16
  ·rw[oi _ _ c16,oi _ _ c16,rG hi,a6 (fun q=>c q.1),cx]
  ·obtain rfl:j=16:=by omega
   rw[tU,tU]
theorem Ps {C:a4 ao}{i:ao}(hi:i<C.length)(h0:¬0<C.getD i 0)(sv:a0):cw (C.take (i+1)) sv=cw (C.take i) sv:=by
 unfold cw
 congr 1
 refine List.map_congr_left (fun n _=> ?_)
 rw[rG hi,a6 (fun q=>by omega),cx]
theorem Pt (C:a4 ao)(sv sw:a0):(cw C sv).set 16 sw=cw C sw:=by
 refine c7 (by rw[dv,az,az]) (fun j h1 h2=> ?_)
 rw[az] at h2
 have e:∀(T:a0) (hj:j<(cw C T).length),(cw C T)[j]=(cw C T).getD j undef:=fun T hj=>by rw[av,bq hj];rfl
 rw[c8]
 by_cases c:16=j
 ·subst c;rw[bb rfl,e,tU]
 ·rw[a6 c,e,e,oi _ _ (by omega),oi _ _ (by omega)]
theorem kU (C:a4 ao){sv:a0}(h:aL sv=true):(cw C sv).all aL=true:=by
 unfold cw
 rw[List.all_append,Bool.and_eq_true]
 exact⟨by rw[List.all_map,List.all_eq_true];intro n _;rfl,by simp[h]⟩
theorem ym:∀{l:a4 a0},(∀v∈l,cN v v=true)->fp l l=true
 |[],_=>rfl
 |v::l,h=>by
  simp only[fp,Bool.and_eq_true]
  exact⟨h v (List.mem_cons_self ..),ym (fun w hw=>h w (List.mem_cons_of_mem _ hw))⟩
theorem wo {s:aq}{sv:a0}{n:ao}{L:a4 a0}(C:a4 ao)(h:aN s 1 sv n L):bZ (.agg (cw C sv).toArray) (.agg (cw C sv).toArray)=true:=by
 show fp (cw C sv) (cw C sv)=true
 refine ym (fun v hv=> ?_)
 unfold cw at hv
 rcases List.mem_append.1 hv with hv|hv
 ·obtain⟨n,-,rfl⟩:=List.mem_map.1 hv
  simp[cN]
 ·rw[List.mem_singleton.1 hv]
  cases h<;>simp[cN]
def acK (s:aq)(C:a4 ao)(v:a0)(s' :aq):Prop:=∃sv,v= .tuple #[.agg (cw C sv).toArray,.bool (decide (Mu C))]/\Own s' 1 sv (dq C 15).length (gN (dq C 15))/\aF s.next sv/\ar s.next s s'
theorem ME {lib:aA}(hL:Po lib)(s:aq)(x:a0)(C:a4 ao)(hx:aN s 1 x C.length (gN C))(hlen:C.length<=1000)(my:aeO C):
  Runs an lib 213 [x] s (acK s C):=by
 refine Runs.enter 67 Tryz.func213 rfl (hL _ rfl) rfl rfl ?_
 intro f hn hf
 have h0:f.get 0=x:=hf 0
 clear hf
 simp only[aj,↓af,AY,AZ]
 refine aw ?_
 intro s1 pd bn iV
 obtain⟨j2,hj2⟩:∃j,j=s.next:=⟨_,rfl⟩
 rw[<-hj2] at pd
 simp only[aj,QS,a9,↓af,hn,<-hj2,az,AY,AZ]
 refine aw ?_
 intro s2 kY aR m8
 obtain⟨j4,hj4⟩:∃j,j=s1.next:=⟨_,rfl⟩
 rw[<-hj4] at kY
 have gx:=pd.keeps aR
 have EC:ar s.next s s2:=bn.trans (aR.weaken (by omega))
 have ko:=hx.keeps EC
 simp only[aj,aa,QS,Qx,a9,↓af,hn,h0,<-hj4,az,ko.bm qZ]
 refine Comes.bQ (fun z f t=>∃i:ao,z=C.length-i/\i<=C.length/\ax t j2 (cw [] (.slice none 0 0))/\ax t j4 (cw (C.take i) (.slice none 0 0))/\ar s.next s t/\t.next=s2.next/\f.n=67/\f.get 0=x/\f.get 2= .pointer (some ⟨j2,0,some 18⟩)/\f.get 4= .pointer (some ⟨j4,0,some 18⟩)/\f.get 5= .int .i64 (jY (C.take i):ao)/\f.get 6= .int .i64 (jI (C.take i):ao)/\f.get 12=x/\f.get 13= .int .i64 (C.length:ao)/\f.get 14= .int .i64 (i:ao))
  (fun z f t=>z= .exit 0/\ax t j2 (cw [] (.slice none 0 0))/\ax t j4 (cw C (.slice none 0 0))/\ar s.next s t/\t.next=s2.next/\f.n=67/\f.get 0=x/\f.get 2= .pointer (some ⟨j2,0,some 18⟩)/\f.get 4= .pointer (some ⟨j4,0,some 18⟩)/\f.get 5= .int .i64 (jY C:ao)/\f.get 6= .int .i64 (jI C:ao))
  ⟨0,rfl,by omega,gx,kY,EC,rfl,by simp only[ag,hn],by simp only[ad,↓af,Qx,h0],by simp only[ad,↓af,Qx],by simp only[ad,↓af,Qx],by simp only[ad,↓af,Qx];rfl,by simp only[ad,↓af,Qx];rfl,by simp only[ad,↓af,Qx,cv];rfl⟩ ?_ ?_
 ·clear hn h0 f pd gx kY bn aR EC ko
  rintro Q hQ z f t ⟨i,rfl,hi,hr,hc,aE,B4,hn,h0,h2,h4,h5,h6,rX,Kg,nY⟩
  have AA:=hx.keeps aE
  by_cases E3:i<C.length
  rotate_left
  ·obtain rfl:i=C.length:=by omega
   have d1:¬((C.length:ao):a8)<((C.length:ao):a8):=by omega
   rw[c9] at hc h5 h6
   simp only[aj,QS,↓af,hn,Kg,nY,a7 d1]
   exact hQ _ _ _ ⟨rfl,hr,hc,aE,B4,by simp only[ad,ag,↓af,Qx,hn,h0,h2,h4,h5,h6,dC]⟩
  have d1:(i:a8)<((C.length:ao):a8):=by omega
  have sn:=AA.indexAddr (P:=an) (k:= .i64) (x:=(i:a8)) qZ bA (by omega) (by omega)
  rw[a3] at sn
  have k1:=AA.di (P:=an) bu E3
  rw[vP E3] at k1
  have hs:=TT E3
  have hm:=Pn E3
  have anE:=my i
  have pE:=Rq (C.take i)
  have hml:=Mx (C.take i)
  have Lq:(C.take i).length=i:=by rw[b8];omega
  by_cases e1:0<C.getD i 0
  ·have d3:((C.getD i 0:ao):a8)>0:=by omega
   rw[bb e1] at hs hm
   have e2:(15:a8)-((C.getD i 0:ao):a8)=((15-C.getD i 0:ao):a8):=by omega
   have tC:=SO an 3 .i64 (b:=1) (by decide) (k:=15-C.getD i 0) (by omega)
   rw[Nat.one_mul] at tC
   have tC:cQ an .shl 3 (.int .i64 1) (.int .i64 ((15-C.getD i 0:ao):a8))=some (.int .i64 ((2^(15-C.getD i 0):ao):a8)):=tC
   have hpw:2^(15-C.getD i 0)<=2^15:=ca (by omega) (by omega)
   have Ns:(2:ao)^15=32768:=by decide
   generalize 2^(15-C.getD i 0)=W at hs tC hpw
   have e3:((jY (C.take i):ao):a8)+((W:ao):a8)=((jY (C.take (i+1)):ao):a8):=by omega
   have e4:((jI (C.take i):ao):a8)+1=((jI (C.take (i+1)):ao):a8):=by omega
   have ik:=Rt (P:=an) aiV bA j4 0 18 (x:=((C.getD i 0:ao):a8)) (by omega) (by omega) .i64
   rw[a3,dE] at ik
   have lk:=hc.load (P:=an) bu (off:=C.getD i 0) (c:=18) (by rw[az]) (by rw[az];omega)
   rw[oi _ _ (by omega)] at lk
   have jS:=Pp C i (C.getD i 0)
   have e5:((cn (C.take i) (C.getD i 0):ao):a8)+1=((cn (C.take i) (C.getD i 0)+1:ao):a8):=by omega
   simp(disch:=omega)only[aj,QS,Qx,↓af,hn,h4,rX,Kg,nY,bg d1,sn,k1,bg d3,XR,ik,lk,aD,e5]
   refine aY bA hc (by rw[az]) (by rw[az];omega) rfl ?_
   intro t2 kY g9 cR
   rw[Pq E3 e1 anE] at kY
   simp(disch:=omega)only[aj,QS,Qx,↓af,hn,h5,h6,nY,e2,aD,tC,e3,e4]
   exact ay (C.length-(i+1)) (by omega) ⟨i+1,rfl,by omega,hr.aK g9 cR (by omega),kY,aE.trans (ar.aK g9 cR (by omega)),by omega,by simp only[ad,ag,↓af,Qx,hn,h0,h2,h4,rX,Kg,cv];rfl⟩
  ·have d3:¬((C.getD i 0:ao):a8)>0:=by omega
   rw[a6 e1] at hs hm
   simp(disch:=omega)only[aj,QS,Qx,↓af,hn,rX,Kg,nY,bg d1,sn,k1,a7 d3,aD]
   exact ay (C.length-(i+1)) (by omega) ⟨i+1,rfl,by omega,hr,by rw[Ps E3 e1];exact hc,aE,B4,by simp only[ag,hn],by simp only[ad,↓af,Qx,h0],by simp only[ad,↓af,Qx,h2],by simp only[ad,↓af,Qx,h4],by simp only[ad,↓af,Qx,h5];rw[hs,cx],by simp only[ad,↓af,Qx,h6];rw[hm,cx],by simp only[ad,↓af,Qx,rX],by simp only[ad,↓af,Qx,Kg],by simp only[ad,↓af];rfl⟩
 clear hn h0 f pd gx kY bn aR EC ko
 rintro z f t ⟨rfl,hr,hc,aE,B4,hn,h0,h2,h4,h5,h6⟩
 have MA:=HV C
 simp only[aj,QS,↓af,hn]
 refine Comes.bQ (fun z f t=>∃(k:ao) (y:a0),z=15-k/\k<=15/\ax t j2 (cw [] (.slice none 0 0))/\ax t j4 (cw C y)/\Own t 1 y (dq C k).length (gN (dq C k))/\aF s2.next y/\ar s.next s t/\s2.next<=t.next/\f.n=67/\f.get 0=x/\f.get 2= .pointer (some ⟨j2,0,some 18⟩)/\f.get 4= .pointer (some ⟨j4,0,some 18⟩)/\f.get 5= .int .i64 (jY C:ao)/\f.get 6= .int .i64 (jI C:ao)/\f.get 9= .int .i64 ((k:a8)+1))
  (fun z f t=>z= .exit 2/\∃y:a0,ax t j2 (cw [] (.slice none 0 0))/\ax t j4 (cw C y)/\Own t 1 y (dq C 15).length (gN (dq C 15))/\aF s2.next y/\ar s.next s t/\f.n=67/\f.get 2= .pointer (some ⟨j2,0,some 18⟩)/\f.get 4= .pointer (some ⟨j4,0,some 18⟩)/\f.get 5= .int .i64 (jY C:ao)/\f.get 6= .int .i64 (jI C:ao))
  ⟨0,_,rfl,by omega,hr,hc,.nil,aF.nil _,aE,by omega,by simp only[ad,ag,↓af,Qx,hn,h0,h2,h4,h5,h6,cv];rfl⟩ ?_ ?_
 ·clear hn h0 h2 h4 h5 h6 f hr hc aE B4
  rintro Q hQ z f t ⟨k,y,rfl,hk,hr,hc,hy,kN,aE,B4,hn,h0,h2,h4,h5,h6,h9⟩
  by_cases ahp:k<15
  rotate_left
  ·obtain rfl:k=15:=by omega
   have d1:¬((15:ao):a8)+1<=15:=by omega
   simp only[aj,QS,↓af,hn,h9,a7 d1]
   exact hQ _ _ _ ⟨rfl,y,hr,hc,hy,kN,aE,by simp only[ad,ag,↓af,Qx,hn,h2,h4,h5,h6,dC]⟩
  have d1:(k:a8)+1<=15:=by omega
  have AA:=hx.keeps aE
  simp only[aj,aa,QS,Qx,↓af,hn,h0,h9,bg d1,AA.bm qZ]
  refine Comes.bQ (fun z f t=>∃(i:ao) (y:a0),z=C.length-i/\i<=C.length/\ax t j2 (cw [] (.slice none 0 0))/\ax t j4 (cw C y)/\Own t 1 y (dq C k++jH C (k+1) i).length (gN (dq C k++jH C (k+1) i))/\aF s2.next y/\ar s.next s t/\s2.next<=t.next/\f.n=67/\f.get 0=x/\f.get 2= .pointer (some ⟨j2,0,some 18⟩)/\f.get 4= .pointer (some ⟨j4,0,some 18⟩)/\f.get 5= .int .i64 (jY C:ao)/\f.get 6= .int .i64 (jI C:ao)/\f.get 9= .int .i64 ((k:a8)+1)/\f.get 39=x/\f.get 40= .int .i64 (C.length:ao)/\f.get 41= .int .i64 (i:ao))
   (fun z f t=>z= .exit 4/\∃y:a0,ax t j2 (cw [] (.slice none 0 0))/\ax t j4 (cw C y)/\Own t 1 y (dq C (k+1)).length (gN (dq C (k+1)))/\aF s2.next y/\ar s.next s t/\s2.next<=t.next/\f.n=67/\f.get 0=x/\f.get 2= .pointer (some ⟨j2,0,some 18⟩)/\f.get 4= .pointer (some ⟨j4,0,some 18⟩)/\f.get 5= .int .i64 (jY C:ao)/\f.get 6= .int .i64 (jI C:ao)/\f.get 9= .int .i64 ((k:a8)+1))
   ⟨0,y,rfl,by omega,hr,hc,by simp only[jH,dx];exact hy,kN,aE,B4,by simp only[ad,ag,↓af,Qx,hn,h0,h2,h4,h5,h6,h9,cv];rfl⟩ ?_ ?_
  ·clear hn h0 h2 h4 h5 h6 h9 f hr hc hy kN aE B4 AA
   rintro Q2 hQ2 z f t ⟨i,y,rfl,hi,hr,hc,hy,kN,aE,B4,hn,h0,h2,h4,h5,h6,h9,Pu,Ry,h41⟩
   have AA:=hx.keeps aE
   by_cases E3:i<C.length
   rotate_left
   ·obtain rfl:i=C.length:=by omega
    have d2:¬((C.length:ao):a8)<((C.length:ao):a8):=by omega
    rw[TZ] at hy
    simp only[aj,QS,↓af,hn,Ry,h41,a7 d2]
    exact hQ2 _ _ _ ⟨rfl,y,hr,hc,hy,kN,aE,B4,by simp only[ad,ag,↓af,Qx,hn,h0,h2,h4,h5,h6,h9,dC]⟩
   have d2:(i:a8)<((C.length:ao):a8):=by omega
   have sn:=AA.indexAddr (P:=an) (k:= .i64) (x:=(i:a8)) qZ bA (by omega) (by omega)
   rw[a3] at sn
   have k1:=AA.di (P:=an) bu E3
   rw[vP E3] at k1
   by_cases e1:C.getD i 0=k+1
   ·have d3:((C.getD i 0:ao):a8)=(k:a8)+1:=by omega
    have lsv:=hc.load (P:=an) Rv (off:=16) (c:=18) (by rw[az]) (by rw[az];omega)
    rw[tU] at lsv
    have C6:(dq C k++jH C (k+1) i).length<=3000:=by
     have h1:=MA k
     have h2:=o5 C (k+1) i (by omega)
     have h3:(C.take i).count (k+1)<=(C.take i).length:=cA
     rw[b8] at h3
     rw[a1];omega
    simp only[aj,ae,QS,Qx,↓af,hn,h4,h9,Pu,Ry,h41,bg d2,sn,k1,bg d3,Rx,lsv,gG qZ bA QR]
    refine bG qZ bA V8 QR rfl hy (by simp only[ad,↓af,Qx]) (by decide) (by simp only[ag,hn];decide) (by simp only[ag,hn];decide) (by rfl) (by decide) rfl (by omega) (by omega) kN B4 ?_
    intro bs y2 t2 wQ ai1 aR dD qN
    have anF:aI y≠some j2:=fun e=>by have:=kN _ e;omega
    have anG:aI y≠some j4:=fun e=>by have:=kN _ e;omega
    have ai2:aI y2≠some j4:=fun e=>by have:=ai1 _ e;omega
    have gx:=hr.turns dD anF
    have kY:=hc.turns dD anG
    have e6:gN (dq C k++jH C (k+1) i)++[cc .i64 (i:ao)]=gN (dq C k++jH C (k+1) (i+1)):=by
     simp only[jH]
     rw[bb e1,<-b4]
     exact HT _ [i]
    have e7:(dq C k++jH C (k+1) i).length+1=(dq C k++jH C (k+1) (i+1)).length:=by
     simp only[jH]
     rw[bb e1,<-b4]
     simp only[a1,List.length_singleton]
    rw[e6,e7] at wQ
    simp only[aj,QS,Qx,↓af,hn,h4,Rx]
    refine aY Ru kY (by rw[az]) (by rw[az];omega) wQ.aG.aL ?_
    intro t3 yP mQ fB
    rw[Pt] at yP
    simp(disch:=omega)only[aj,QS,Qx,↓af,hn,h41,aD]
    have atj:=dD.next
    exact ay (C.length-(i+1)) (by omega) ⟨i+1,y2,rfl,by omega,gx.aK mQ fB (by omega),yP,wQ.aK mQ fB ai2,ai1,(aE.trans (aR.weaken (by omega))).trans (ar.aK mQ fB (by omega)),by omega,by simp only[ag,hn],by simp only[ad,↓af,Qx,h0],by simp only[ad,↓af,Qx,h2],by simp only[ad,↓af,Qx,h4],by simp only[ad,↓af,Qx,h5],by simp only[ad,↓af,Qx,h6],by simp only[ad,↓af,Qx,h9],by simp only[ad,↓af,Qx,Pu],by simp only[ad,↓af,Qx,Ry],by simp only[ad,↓af];rfl⟩
   ·have d3:¬((C.getD i 0:ao):a8)=(k:a8)+1:=by omega
    have e8:jH C (k+1) (i+1)=jH C (k+1) i:=by simp only[jH];rw[a6 e1,dx]
    simp(disch:=omega)only[aj,QS,Qx,↓af,hn,h9,Pu,Ry,h41,bg d2,sn,k1,a7 d3,aD]
    exact ay (C.length-(i+1)) (by omega) ⟨i+1,y,rfl,by omega,hr,hc,by rw[e8];exact hy,kN,aE,B4,by simp only[ag,hn],by simp only[ad,↓af,Qx,h0],by simp only[ad,↓af,Qx,h2],by simp only[ad,↓af,Qx,h4],by simp only[ad,↓af,Qx,h5],by simp only[ad,↓af,Qx,h6],by simp only[ad,↓af,Qx,h9],by simp only[ad,↓af,Qx,Pu],by simp only[ad,↓af,Qx,Ry],by simp only[ad,↓af];rfl⟩
  clear hn h0 h2 h4 h5 h6 h9 f hr hc hy kN aE B4 AA
  rintro z f t ⟨rfl,y,hr,hc,hy,kN,aE,B4,hn,h0,h2,h4,h5,h6,h9⟩
  simp(disch:=omega)only[aj,QS,↓af,hn,h9,aD]
  exact ay (15-(k+1)) (by omega) ⟨k+1,y,rfl,by omega,hr,hc,hy,kN,aE,B4,by simp only[ag,hn],by simp only[ad,↓af,Qx,h0],by simp only[ad,↓af,Qx,h2],by simp only[ad,↓af,Qx,h4],by simp only[ad,↓af,Qx,h5],by simp only[ad,↓af,Qx,h6],by simp only[ad,↓af];rfl⟩
 clear hn h0 h2 h4 h5 h6 f hr hc aE B4
 rintro z f t ⟨rfl,y,hr,hc,hy,kN,aE,hn,h2,h4,h5,h6⟩
 have Pv:=hc.bF (P:=an) jm (by rw[az];exact dM) (c:=18) (by rw[az])
 have hmz:(if jY C=32768 then true else if jY C<32768 then decide (((jI C:ao):a8)<=1) else false)=decide (Mu C):=by
  by_cases c1:jY C=32768
  ·rw[bb c1];exact(bl (.inl c1)).symm
  ·rw[a6 c1]
   by_cases c2:jY C<32768
   ·rw[bb c2]
    exact decide_eq_decide.2 ⟨fun h=> .inr ⟨c2,by omega⟩,fun h=>by rcases h with h|h<;>omega⟩
   ·rw[a6 c2];exact(bk (fun h=>by rcases h with h|h<;>omega)).symm
 have fin:∀(t' :aq) (b:Bool),ax t' j2 (cw C y)->t'.next=t.next->(∀i,i≠j2->t'.heap.get i=t.heap.get i)->b=decide (Mu C)->acK s C (.tuple #[.agg (cw C y).toArray,.bool b]) t' :=fun t' b h1 h2 h3 h4=>by
  subst h4
  exact⟨y,rfl,hy.aK h2 h3 (fun e=>by have:=kN _ e;omega),fun i hi=>by have:=kN i hi;omega,aE.trans (ar.aK h2 h3 (by omega))⟩
 by_cases c1:jY C=32768
 ·have d1:((jY C:ao):a8)=32768:=by omega
  rw[bb c1] at hmz
  simp only[aj,ak,QS,Qx,↓af,undef,hn,h2,h4,h5,Pv,bg d1]
  refine aB dM (by decide) hr (az _ _) rfl (az _ _) (kU C hy.aG.aL) ?_
  intro t2 gx g9 cR
  have MF:=gx.bF (P:=an) jm (by rw[az];exact dM) (c:=18) (by rw[az])
  simp only[aj,al,oneOf,QS,Qx,↓af,undef,hn,h2,aV,MF,cz]
  exact fin t2 true gx g9 cR hmz
 have d1:¬((jY C:ao):a8)=32768:=by omega
 rw[a6 c1] at hmz
 by_cases c2:jY C<32768
 ·have d2:((jY C:ao):a8)<32768:=by omega
  rw[bb c2] at hmz
  simp only[aj,ak,QS,Qx,↓af,hn,h2,h4,h5,h6,Pv,a7 d1,bg d2]
  refine aB dM (by decide) hr (az _ _) rfl (az _ _) (kU C hy.aG.aL) ?_
  intro t2 gx g9 cR
  have MF:=gx.bF (P:=an) jm (by rw[az];exact dM) (c:=18) (by rw[az])
  simp only[aj,al,oneOf,QS,Qx,↓af,undef,hn,h2,aV,MF,cz]
  exact fin t2 _ gx g9 cR hmz
 ·have d2:¬((jY C:ao):a8)<32768:=by omega
  rw[a6 c2] at hmz
  simp only[aj,ak,QS,Qx,↓af,undef,hn,h2,h4,h5,Pv,a7 d1,a7 d2]
  refine aB dM (by decide) hr (az _ _) rfl (az _ _) (kU C hy.aG.aL) ?_
  intro t2 gx g9 cR
  have MF:=gx.bF (P:=an) jm (by rw[az];exact dM) (c:=18) (by rw[az])
  simp only[aj,al,oneOf,QS,Qx,↓af,undef,hn,h2,aV,MF,cz]
  exact fin t2 false gx g9 cR hmz
theorem ED:aX an 122=some 2:=by kernel_rfl
theorem aeS:bX an 122=some true:=by kernel_rfl
theorem Rz:bV an 122=some (.agg #[.int .i64 0,.int .i64 0]):=by kernel_rfl
theorem ai3:bN (.agg #[.int .i64 0,.int .i64 0])=true:=rfl
theorem XU:an.underlying 122=some (.array 2 3):=Tryz.underlying122
theorem RA:an.underlying 121=some (.slice 122):=Tryz.underlying121
theorem HW:∀L:a4 (ao×ao),(∀x∈L,x.1<=200)->(jh L).length<=200*L.length
 |[],_=>dH _
 |(a,b)::r,h=>by
  have h1:=h (a,b) (by simp)
  have h2:=HW r (fun x hx=>h x (by simp[hx]))
  simp only[jh,a1,b5,b7]
  have h1:a<=200:=h1
  omega
def acL (s:aq)(C:a4 ao)(v:a0)(s' :aq):Prop:=Own s' 1 v C.length (gN C)/\aF s.next v/\ar s.next s s'
theorem MG {lib:aA}(hL:Po lib)(s:aq)(x:a0)(L:a4 (ao×ao))(hx:aN s 2 x L.length (MB L))(hlen:L.length<=10)(my:∀x∈L,x.1<=200):
  Runs an lib 214 [x] s (acL s (jh L)):=by
 refine Runs.enter 24 Tryz.func214 rfl (hL _ rfl) rfl rfl ?_
 intro f hn hf
 have h0:f.get 0=x:=hf 0
 clear hf
 simp only[aj,aa,QS,Qx,↓af,hn,h0,hx.bm RA]
 refine Comes.bQ (fun z f t=>∃(i:ao) (y:a0),z=L.length-i/\i<=L.length/\Own t 1 y (jh (L.take i)).length (gN (jh (L.take i)))/\aF s.next y/\ar s.next s t/\f.n=24/\f.get 3=y/\f.get 6=x/\f.get 7= .int .i64 (L.length:ao)/\f.get 8= .int .i64 (i:ao))
  (fun z f t=>z= .exit 0/\f.n=24/\∃y,f.get 3=y/\acL s (jh L) y t)
  ⟨0,_,rfl,by omega,.nil,aF.nil _,ar.refl _ _,by simp only[ad,ag,↓af,Qx,hn,cv];rfl⟩ ?_ ?_
 ·clear hn h0 f
  rintro Q hQ z f t ⟨i,y,rfl,hi,hy,kN,aE,hn,h3,h6,h7,h8⟩
  have AA:=hx.keeps aE
  by_cases E3:i<L.length
  rotate_left
  ·obtain rfl:i=L.length:=by omega
   have d1:¬((L.length:ao):a8)<((L.length:ao):a8):=by omega
   rw[c9] at hy
   simp only[aj,QS,↓af,hn,h7,h8,a7 d1]
   exact hQ _ _ _ ⟨rfl,by simp only[ag,hn],y,by simp only[ad,↓af,Qx,h3],hy,kN,aE⟩
  have d1:(i:a8)<((L.length:ao):a8):=by omega
  have sn:=AA.indexAddr (P:=an) (k:= .i64) (x:=(i:a8)) RA ED (by omega) (by omega)
  rw[a3] at sn
  have k1:=AA.fJ (P:=an) aeS ED E3
  rw[MD E3] at k1
  have pT:L.getD i (0,0)∈L:=by rw[av,bq E3];exact List.getElem_mem E3
  have ha:=my _ pT
  have SC:=EB E3
  have KM:=HW (L.take i) (fun x hx=>my x (List.mem_of_mem_take hx))
  have bd:(L.take i).length=i:=by rw[b8];omega
  generalize Iu:L.getD i (0,0)=ab at k1 ha SC
  simp only[aj,QS,Qx,↓af,hn,h6,h7,h8,bg d1,sn,k1,Rz,ai3]
  refine aw ?_
  intro t1 he1 bn iV
  obtain⟨je,hje⟩:∃j,j=t.next:=⟨_,rfl⟩
  rw[<-hje] at he1
  have Qa:=hy.keeps bn
  simp only[aj,QS,Qx,↓af,hn,<-hje]
  refine aB ED (by decide) he1 rfl rfl rfl rfl ?_
  intro t2 XV g9 cR
  have wQ:=Qa.aK g9 cR (fun e=>by have:=hy.iD _ e;omega)
  have XV:ax t2 je [.int .i64 (ab.1:ao),.int .i64 (ab.2:ao)]:=XV
  have aR:ar s.next s t2:=(aE.trans (bn.weaken (by have:=aE.next;omega))).trans (ar.aK g9 cR (by have:=aE.next;omega))
  have w0:=XV.load (P:=an) bu (off:=0) (c:=3) rfl (by simp)
  have w1:=XV.load (P:=an) bu (off:=1) (c:=3) rfl (by simp)
  have i0:=Rt (P:=an) XU bA je 0 3 (x:=0) (by omega) (by omega) .i64
  have i1:=Rt (P:=an) XU bA je 0 3 (x:=1) (by omega) (by omega) .i64
  have i0:bT an 122 (.pointer (some ⟨je,0,some 3⟩)) (.int .i64 0)=some (.pointer (some ⟨je,0,some 3⟩)):=i0
  have i1:bT an 122 (.pointer (some ⟨je,0,some 3⟩)) (.int .i64 1)=some (.pointer (some ⟨je,1,some 3⟩)):=i1
  simp only[aj,ak,QS,a9,↓af,hn,b7,List.length_nil,i0,w0]
  refine Comes.bQ (fun z f t' =>∃(j:ao) (y:a0),z=ab.1-j/\j<=ab.1/\Own t' 1 y (jh (L.take i)++a5 j ab.2).length (gN (jh (L.take i)++a5 j ab.2))/\aF s.next y/\(∀q,aI y=some q->q≠je)/\ax t' je [.int .i64 (ab.1:ao),.int .i64 (ab.2:ao)]/\ar s.next s t' /\je<t'.next/\f.n=24/\f.get 3=y/\f.get 5= .pointer (some ⟨je,0,some 3⟩)/\f.get 6=x/\f.get 7= .int .i64 (L.length:ao)/\f.get 8= .int .i64 (i:ao)/\f.get 13= .int .i64 (ab.1:ao)/\f.get 14= .int .i64 (j:ao))
   (fun z f t' =>z= .exit 2/\∃(y:a0),Own t' 1 y (jh (L.take (i+1))).length (gN (jh (L.take (i+1))))/\aF s.next y/\ar s.next s t' /\f.n=24/\f.get 3=y/\f.get 6=x/\f.get 7= .int .i64 (L.length:ao)/\f.get 8= .int .i64 (i:ao))
   ⟨0,y,rfl,by omega,by simpa using wQ,kN,fun q hq=>by have:=hy.iD q hq;omega,XV,aR,XV.lt,by simp only[ad,ag,↓af,Qx,hn,h3,h6,h7,h8,cv];rfl⟩ ?_ ?_
  ·clear hn h3 h6 h7 h8 f
   rintro Q2 hQ2 z f t' ⟨j,y,rfl,hj,hy,kN,hyj,he,aE,N4,hn,h3,h5,h6,h7,h8,Kg,nY⟩
   by_cases hja:j<ab.1
   rotate_left
   ·obtain rfl:j=ab.1:=by omega
    have d2:¬((ab.1:ao):a8)<((ab.1:ao):a8):=by omega
    rw[<-SC] at hy
    simp only[aj,ak,QS,↓af,hn,Kg,nY,a7 d2]
    exact hQ2 _ _ _ ⟨rfl,y,hy,kN,aE,by simp only[ad,ag,↓af,Qx,hn,h3,h6,h7,h8,dC]⟩
   have d2:(j:a8)<((ab.1:ao):a8):=by omega
   have w1:=he.load (P:=an) bu (off:=1) (c:=3) rfl (by simp)
   have Kb:(jh (L.take i)++a5 j ab.2).length<=3000:=by rw[a1,b5];omega
   simp only[aj,ak,ae,QS,Qx,↓af,hn,h3,h5,Kg,nY,bg d2,i1,w1,gG qZ bA QR]
   refine bG qZ bA V8 QR rfl hy (by simp only[ad,↓af,Qx]) (by decide) (by simp only[ag,hn];decide) (by simp only[ag,hn];decide) (by rfl) (by decide) rfl (by omega) (by omega) kN aE.next ?_
   intro bs y2 t6 wQ Zk aR dD qN
   have e6:gN (jh (L.take i)++a5 j ab.2)++[cc .i64 (ab.2:ao)]=gN (jh (L.take i)++a5 (j+1) ab.2):=by
    rw[List.replicate_succ',<-b4]
    exact HT _ [ab.2]
   have e7:(jh (L.take i)++a5 j ab.2).length+1=(jh (L.take i)++a5 (j+1) ab.2).length:=by
    simp only[a1,b5];omega
   rw[e6,e7] at wQ
   simp(disch:=omega)only[aj,QS,Qx,↓af,hn,nY,aD]
   have YU:=dD.next
   exact ay (ab.1-(j+1)) (by omega) ⟨j+1,y2,rfl,by omega,wQ,Zk,fun q hq=>by
    rcases qN with e|⟨w,e,hw⟩
    ·exact hyj q (by rw[<-e];exact hq)
    ·rw[e] at hq;injection hq with hq;omega,he.turns dD (fun e=>hyj je e rfl),aE.trans (aR.weaken (by have:=aE.next;omega)),by omega,by simp only[ag,hn],by simp only[ad,↓af,Qx],by simp only[ad,↓af,Qx,h5],by simp only[ad,↓af,Qx,h6],by simp only[ad,↓af,Qx,h7],by simp only[ad,↓af,Qx,h8],by simp only[ad,↓af,Qx,Kg],by simp only[ad,↓af];rfl⟩
  clear hn h3 h6 h7 h8 f
  rintro z f t' ⟨rfl,y,hy,kN,aE,hn,h3,h6,h7,h8⟩
  simp(disch:=omega)only[aj,QS,↓af,hn,h8,aD]
  exact ay (L.length-(i+1)) (by omega) ⟨i+1,y,rfl,by omega,hy,kN,aE,by simp only[ag,hn],by simp only[ad,↓af,Qx,h3],by simp only[ad,↓af,Qx,h6],by simp only[ad,↓af,Qx,h7],by simp only[ad,↓af];rfl⟩
 clear hn h0 f
 rintro z f t ⟨rfl,hn,y,h3,hR⟩
 simp only[aj,al,oneOf,QS,↓af,hn,h3,Tryz.results214]
 exact hR
theorem Pw:jh [(144,8),(112,9),(24,7),(8,8)]=er:=by decide+kernel
theorem MH:jh [(32,5)]=fW:=by decide+kernel
theorem acM (a b:a8):cC an 122 [(0,.int .i64 a),(1,.int .i64 b)]=some (.agg #[.int .i64 a,.int .i64 b]):=by
 unfold cC;rw[XU,Rz]
 have c1:∀a:a8,(cc .i64 a).cells.toList=[.int .i64 a]:=fun _=>rfl
 simp only[fG,c1]
 simp[bA,bN,gQ,bS,setAt]
theorem aeT (s:aq):aO an s 121 4 [(0,.agg #[.int .i64 144,.int .i64 8]),(1,.agg #[.int .i64 112,.int .i64 9]),(2,.agg #[.int .i64 24,.int .i64 7]),(3,.agg #[.int .i64 8,.int .i64 8])]=aZ s (MB [(144,8),(112,9),(24,7),(8,8)]) 4 2:=by
 unfold aO;rw[RA];simp only[ED,Rz];rfl
theorem aeU (s:aq):aO an s 121 1 [(0,.agg #[.int .i64 32,.int .i64 5])]=aZ s (MB [(32,5)]) 1 2:=by
 unfold aO;rw[RA];simp only[ED,Rz];rfl
def anH (s:aq)(v:a0)(s' :aq):Prop:=∃sa sb,v= .tuple #[.agg (cw er sa).toArray,.agg (cw fW sb).toArray]/\Own s' 1 sa (dq er 15).length (gN (dq er 15))/\Own s' 1 sb (dq fW 15).length (gN (dq fW 15))/\aF s.next sa/\aF s.next sb/\ar s.next s s'
theorem Px {lib:aA}(hL:Po lib)(s:aq):Runs an lib 189 [] s (anH s):=by
 refine Runs.enter 25 Tryz.func189 rfl (hL _ rfl) rfl rfl ?_
 intro f hn hf
 clear hf
 simp only[aj,↓af,AY,AZ]
 refine aw ?_
 intro s1 qJ bn iV
 obtain⟨j0,hj0⟩:∃j,j=s.next:=⟨_,rfl⟩
 rw[<-hj0] at qJ
 simp only[aj,QS,a9,↓af,hn,<-hj0,az,AY,AZ]
 refine aw ?_
 intro s2 Bq aR m8
 obtain⟨j1,Xs⟩:∃j,j=s1.next:=⟨_,rfl⟩
 rw[<-Xs] at Bq
 have Ns:=qJ.keeps aR
 have k2:ar s.next s s2:=bn.trans (aR.weaken (by omega))
 simp only[aj,ae,QS,Qx,a9,↓af,hn,<-Xs,az,acM,aeT]
 refine aQ (by rfl) ?_
 intro yr s3 hyr atk k3
 simp only[aj,ak,aa,QS,↓af,hn]
 refine(MG hL s3 yr [(144,8),(112,9),(24,7),(8,8)] hyr.aG (by decide) (by decide)).mono ?_
 rintro ya s4 ⟨hya,atl,k4⟩
 rw[Pw] at hya
 simp only[aj,ak,aa,QS,↓af,hn]
 refine(ME hL s4 ya er hya.aG (by rw[show er.length=288 from AB];decide) TU).mono ?_
 rintro _ s5 ⟨sa,rfl,hsa,aa8,k5⟩
 have n3:=k3.next
 have n4:=k4.next
 have n5:=k5.next
 have k35:ar s2.next s2 s5:=(k3.trans (k4.weaken n3)).trans (k5.weaken (by omega))
 simp only[aj,QS,Qx,↓af,hn,dF,dG,AY,AZ]
 refine aw ?_
 intro s6 hc6 dY aej
 obtain⟨j2,hj2⟩:∃j,j=s5.next:=⟨_,rfl⟩
 rw[<-hj2] at hc6
 have anI:=hsa.keeps dY
 simp only[aj,QS,Qx,a9,↓af,hn,<-hj2,az]
 refine aB dM (by decide) hc6 (az _ _) rfl (az _ _) (kU _ hsa.aG.aL) ?_
 intro s7 hc7 hn7 hs7
 have anJ:=anI.aK hn7 hs7 (fun e=>by have:=hsa.iD _ e;omega)
 have k7:ar s2.next s2 s7:=(k35.trans (dY.weaken (by omega))).trans (ar.aK hn7 hs7 (by omega))
 simp only[aj,ae,QS,Qx,↓af,hn,acM,aeU]
 refine aQ (by rfl) ?_
 intro yr2 s8 anK ap0 k8
 simp only[aj,ak,aa,QS,↓af,hn]
 refine(MG hL s8 yr2 [(32,5)] anK.aG (by decide) (by decide)).mono ?_
 rintro yb s9 ⟨YW,ato,k9⟩
 rw[MH] at YW
 simp only[aj,ak,aa,QS,↓af,hn]
 refine(ME hL s9 yb fW YW.aG (by decide) TV).mono ?_
 rintro _ vf ⟨sb,rfl,YP,aa9,k10⟩
 have n8:=k8.next
 have n9:=k9.next
 have n10:=k10.next
 have Py:ar s7.next s7 vf:=(k8.trans (k9.weaken n8)).trans (k10.weaken (by omega))
 have ai5:=hc7.keeps Py
 have acN:=anJ.keeps Py
 simp only[aj,QS,Qx,↓af,hn,dF,dG,AY,AZ]
 refine aw ?_
 intro s11 ai6 RB ap2
 obtain⟨j4,hj4⟩:∃j,j=vf.next:=⟨_,rfl⟩
 rw[<-hj4] at ai6
 have ai7:=YP.keeps RB
 have ai8:=acN.keeps RB
 have anL:=ai5.keeps RB
 simp only[aj,QS,Qx,a9,↓af,hn,<-hj4,az]
 refine aB dM (by decide) ai6 (az _ _) rfl (az _ _) (kU _ YP.aG.aL) ?_
 intro yF aba abb abc
 have XW:=ai7.aK abb abc (fun e=>by have:=YP.iD _ e;omega)
 have XX:=ai8.aK abb abc (fun e=>by have:=acN.iD _ e;omega)
 have aeW:=anL.aK abb abc (by have:=ai5.lt;omega)
 have kk:ar s2.next s2 yF:=((k7.trans (Py.weaken (by have:=k7.next;omega))).trans (RB.weaken (by have:=k7.next;omega))).trans (ar.aK abb abc (by have:=k7.next;omega))
 have anM:=Ns.keeps kk
 have aeX:=Bq.keeps kk
 have lc:=aeW.bF (P:=an) jm (by rw[az];exact dM) (c:=18) (by rw[az])
 have ld:=aba.bF (P:=an) jm (by rw[az];exact dM) (c:=18) (by rw[az])
 simp only[aj,QS,Qx,↓af,hn]
 obtain⟨A,hA⟩:∃A:ao->Bool,A=fun j=>decide (j<yF.next/\j≠j0/\j≠j1):=⟨_,rfl⟩
 have iU:∀j,A j=true->j<yF.next:=by
  intro j h
  rw[hA] at h
  exact(of_decide_eq_true h).1
 have hA0:A j0=false:=by rw[hA];exact bk (fun h=>h.2.1 rfl)
 have hA1:A j1=false:=by rw[hA];exact bk (fun h=>h.2.2 rfl)
 have pk:=ar.spare yF 0
 have Uy:(spare yF 0).next=yF.next+0:=bU _ _
 have anN:=aeW.lt
 have anO:=aba.lt
 have l2:∀k,LA.ej A (some (.pointer (some ⟨j2,k,some 18⟩)))=true:=fun k=>LA.cr (A:=A) (i:=j2) (by rw[hA];exact bl ⟨anN,by omega,by omega⟩)
 have l4:∀k,LA.ej A (some (.pointer (some ⟨j4,k,some 18⟩)))=true:=fun k=>LA.cr (A:=A) (i:=j4) (by rw[hA];exact bl ⟨anO,by omega,by omega⟩)
 have ve:∀(C:a4 ao) (v:a0) (n:ao) (L:a4 a0),Own yF 1 v n L->bZ (.agg (cw C v).toArray) (.agg (cw C v).toArray)=true:=fun C v n L h=>wo C h.aG
 have hcq:=(aeW.keeps pk).bF (P:=an) jm (by rw[az];exact dM) (c:=18) (by rw[az])
 have U0:=(aba.keeps pk).bF (P:=an) jm (by rw[az];exact dM) (c:=18) (by rw[az])
 refine LB.cX.fi A iU 2 0 (by kernel_rfl) (by kernel_rfl) ?_
 simp only[aj,bH,bI,QS,Qx,↓af,hn,hcq,U0,l2,l4,ve _ _ _ _ XX,ve _ _ _ _ XW]
 refine LB.ct dM (by decide) (anM.keeps pk) (az _ _) rfl (az _ _) (kU _ hsa.aG.aL) (fun _=>hA0) ?_
 intro t1 eK nt1 et1
 have anQ:=((aba.keeps pk).aK nt1 et1 (by omega)).bF (P:=an) jm (by rw[az];exact dM) (c:=18) (by rw[az])
 try simp only[aj,bI,Nat.add_one_sub_one,QS,Qx,↓af,hn]
 refine LB.ct dM (by decide) ((aeX.keeps pk).aK nt1 et1 (by omega)) (az _ _) rfl (az _ _) (kU _ YP.aG.aL) (fun _=>hA1) ?_
 intro t2 dD nt2 et2
 have vV:ax t2 j0 _:=eK.aK nt2 et2 (by omega)
 have la:=vV.bF (P:=an) jm (by rw[bo,az];exact dM) (c:=18) (by rw[bo,az])
 have lb:=dD.bF (P:=an) jm (by rw[bo,az];exact dM) (c:=18) (by rw[bo,az])
 simp only[aj,bI,Nat.sub_self,oneOf,QS,Qx,↓af,aj,al,oneOf,QS,Qx,↓af,hn,aV,la,lb,Tryz.results189]
 have fin:∀y (n:ao) (L:a4 a0),Own yF 1 y n L->(∀i,aI y=some i->j1<i)->Own t2 1 y n L:=fun y n L h1 h2=>((h1.keeps pk).aK nt1 et1 (fun e=>by have:=h2 _ e;omega)).aK nt2 et2 (fun e=>by have:=h2 _ e;omega)
 have k7n:=k7.next
 exact⟨sa,sb,rfl,fin _ _ _ XX (fun i hi=>by have:=aa8 i hi;omega),fin _ _ _ XW (fun i hi=>by have:=aa9 i hi;omega),fun i hi=>by have:=aa8 i hi;omega,fun i hi=>by have:=aa9 i hi;omega,(((k2.trans (kk.weaken (by omega))).trans (pk.weaken (by have:=kk.next;omega))).trans (ar.aK nt1 et1 (by omega))).trans (ar.aK nt2 et2 (by omega))⟩
end Go.Proofs.YtdfjfncifneocaaGreat
