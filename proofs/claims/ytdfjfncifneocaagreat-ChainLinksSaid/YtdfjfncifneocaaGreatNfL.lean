import Derived.Test.YtdfjfncifneocaaGreatNfH
open _root_ renaming reduceIte->af,Nat->ao,eq_false->av,Int->ax,if_neg->a0,if_pos->a3,eq_true->a8,List->bk,decide_eq_true->b7,UInt8->ca,of_decide_eq_true->cp,and_self->cX,true_and->c8,decide_eq_false->dt,Except->eg
open Go.Proofs.Tryz renaming prog->an,results216->bt,results223->bw,results217->cb,results188->cT,results221->c6,underlying22->c9,results213->dv,results222->dw,underlying3->eh,underlying5->ek,results218->er
open Go renaming Value->aC
open List renaming length_append->a1,replicate->a2,length_replicate->b4,length_singleton->ch,append_assoc->ck,getD_eq_getElem?_getD->cv,toList_toArray->cJ,getElem?_eq_getElem->cL,length_take->c5,count_le_length->dI,replicate_succ'->dP,ext_getElem->eb,getElem_set->ec,take_length->ed,length_cons->ee,length_set->en,append_nil->ep
open Nat renaming reduceAdd->bl,mod_eq_of_lt->b8,pow_le_pow_right->cz,add_zero->c7,reduceSub->dc,xor_lt_two_pow->dT,sub_self->ea,mul_le_mul->et,xor_assoc->eu,xor_self->ey,xor_zero->eA
open Int renaming toNat_natCast->bq
open BitVec renaming ofInt->bz,toNat_ofNat->bA,ofInt_natCast->cD,toNat_xor->ds,ofNat->ev
open Go.IntKind renaming i64->b5
open Go.Value renaming int->dk
open Nat renaming reduceLT->QM,reduceEqDiff->WP
set_option maxHeartbeats 8000000
set_option linter.unusedSimpArgs false
set_option linter.unusedVariables false
set_option maxRecDepth 100000
namespace Go.Cl.Nf
open Go.Cl.Fx Go.Cl.Sto
theorem sL {C:bk ao}{i:ao}(hi:i<C.length)(n:ao):cn (C.take (i+1)) n=cn (C.take i) n+if C.getD i 0=n/\n≠0 then 1 else 0:=by
 unfold cn;by_cases h:n=0
 ·subst h;simp
 rw[a0 h,a0 h,od hi];by_cases c:C.getD i 0=n
 ·rw[a3 c,a3 ⟨c,h⟩]
 rw[a0 c,a0 (fun q=>c q.1)]
theorem N6 (C:bk ao)(i n:ao):cn (C.take i) n<=C.length:=by
 unfold cn;split
 ·omega
 exact Nat.le_trans dI (by rw[c5];omega)
theorem RQ (C:bk ao)(n:ao):dp C n++lD C (n+1) C.length=dp C (n+1):=rfl
def kL:bk (ao×ao)->bk ao
 |[]=>[]
 |(a,b)::r=>a2 a b++kL r
def Lp (L:bk (ao×ao)):bk aC:=L.flatMap fun p=>[.int .i64 (p.1:ao),.int .i64 (p.2:ao)]
theorem Lq:∀{L:bk (ao×ao)} {i:ao},i<L.length->((Lp L).drop (i*2)).take 2=[.int .i64 ((L.getD i (0,0)).1:ao),.int .i64 ((L.getD i (0,0)).2:ao)]
 |[],i,h=>by simp at h
 |p::r,0,h=>rfl
 |p::r,i+1,h=>by
  have:=Lq (L:=r) (i:=i) (by simpa using h);show((List.drop ((i+1)*2) ([dk .i64 (p.1:ao),dk .i64 (p.2:ao)]++Lp r))).take 2=_;rw[show(i+1)*2=2+i*2 by omega,<-List.drop_drop];exact this
theorem EX:∀{L:bk (ao×ao)} {i:ao},i<L.length->kL (L.take (i+1))=kL (L.take i)++a2 (L.getD i (0,0)).1 (L.getD i (0,0)).2
 |[],i,h=>by simp at h
 |(a,b)::r,0,h=>by simp[kL]
 |(a,b)::r,i+1,h=>by
  have:=EX (L:=r) (i:=i) (by simpa using h);simp only[List.take_succ_cons,kL];rw[this,ck];rfl
end Go.Cl.Nf
namespace Go.Proofs.YtdfjfncifneocaaGreat
open Go.Cl Go.Cl.Rw Go.Cl.Sto Go.Cl.Fx Go.Cl.Nf Go.Cl.Bt
theorem pM:b6 an 219=some (.agg (bC [] (.slice none 0 0)).toArray):=by kernel_rfl
theorem pN:cr (.agg (bC [] (.slice none 0 0)).toArray)=true:=by kernel_rfl
theorem N7 {C:bk ao}{i:ao}(hi:i<C.length)(h0:0<C.getD i 0)(Bm:C.getD i 0<=15)(sv:aC):(bC (C.take i) sv).set (C.getD i 0) (.int .i64 ((cn (C.take i) (C.getD i 0)+1:ao):ax))=bC (C.take (i+1)) sv:=by
 refine eb (by rw[en,aq,aq]) (fun j h1 h2=> ?_);rw[aq] at h2;have e:∀(T:bk ao) (hj:j<(bC T sv).length),(bC T sv)[j]=(bC T sv).getD j undef:=fun T hj=>by rw[cv,cL hj];rfl
 rw[ec];by_cases c:C.getD i 0=j
 ·rw[a3 c,e,pL _ _ (by omega),sL hi,a3 ⟨c,by omega⟩,c]
 rw[a0 c,e,e];by_cases Zy:j<16
 ·rw[pL _ _ Zy,pL _ _ Zy,sL hi,a0 (fun q=>c q.1),c7]
 obtain rfl:j=16:=by omega
 rw[vh,vh]
theorem N8 {C:bk ao}{i:ao}(hi:i<C.length)(h0:¬0<C.getD i 0)(sv:aC):bC (C.take (i+1)) sv=bC (C.take i) sv:=by
 unfold bC
 congr 1
 refine List.map_congr_left (fun n _=> ?_);rw[sL hi,a0 (fun q=>by omega),c7]
theorem N9 (C:bk ao)(sv sw:aC):(bC C sv).set 16 sw=bC C sw:=by
 refine eb (by rw[en,aq,aq]) (fun j h1 h2=> ?_);rw[aq] at h2;have e:∀(T:aC) (hj:j<(bC C T).length),(bC C T)[j]=(bC C T).getD j undef:=fun T hj=>by rw[cv,cL hj];rfl
 rw[ec];by_cases c:16=j
 ·subst c;rw[a3 rfl,e,vh]
 rw[a0 c,e,e,pL _ _ (by omega),pL _ _ (by omega)]
theorem cG (C:bk ao){sv:aC}(h:aT sv=true):(bC C sv).all aT=true:=by
 unfold bC;rw[List.all_append,Bool.and_eq_true];exact⟨by rw[List.all_map,List.all_eq_true];intro n _;rfl,by simp[h]⟩
theorem zm:∀{l:bk aC},(∀v∈l,cw v v=true)->fc l l=true
 |[],_=>rfl
 |v::l,h=>by
  simp only[fc,Bool.and_eq_true];exact⟨h v (List.mem_cons_self ..),zm (fun w hw=>h w (List.mem_cons_of_mem _ hw))⟩
theorem ky {s:au}{sv:aC}{n:ao}{L:bk aC}(C:bk ao)(h:aU s 1 sv n L):bI (.agg (bC C sv).toArray) (.agg (bC C sv).toArray)=true:=by
 show fc (bC C sv) (bC C sv)=true;refine zm (fun v hv=> ?_);unfold bC at hv;rcases List.mem_append.1 hv with hv|hv
 ·obtain⟨n,-,rfl⟩:=List.mem_map.1 hv;simp[cw]
 rw[List.mem_singleton.1 hv];cases h<;>simp[cw]
def ZE (s:au)(C:bk ao)(v:aC)(s' :au):Prop:=∃sv,v= .tuple #[.agg (bC C sv).toArray,.bool (decide (na C))]/\Own s' 1 sv (dp C 15).length (bm (dp C 15))/\aM s.next sv/\aw s.next s s'
theorem vi {lib:aD}(hL:Jm lib)(s:au)(x:aC)(C:bk ao)(hx:aU s 1 x C.length (bm C))(hlen:C.length<=1000)(Bm:sI C):
  Runs an lib 213 [x] s (ZE s C):=by
 refine Runs.enter 67 Tryz.func213 rfl (hL _ rfl) rfl rfl ?_;intro f hn hf;have h0:f.get 0=x:=hf 0;clear hf;simp only[aj,↓af,pM,pN];refine aA ?_;intro s1 vK aY gG;obtain⟨j2,ZF⟩:∃j,j=s.next:=⟨_,rfl⟩
 rw[<-ZF] at vK;simp only[aj,QM,bl,↓af,hn,<-ZF,aq,pM,pN];refine aA ?_;intro s2 j6 aR jD;obtain⟨j4,hj4⟩:∃j,j=s1.next:=⟨_,rfl⟩
 rw[<-hj4] at j6;have fe:=vK.keeps aR;have og:aw s.next s s2:=aY.trans (aR.weaken (by omega));have kA:=hx.keeps og;simp only[aj,ad,QM,WP,bl,↓af,hn,h0,<-hj4,aq,kA.aQ dS];refine Comes.bD (fun z f t=>∃i:ao,z=C.length-i/\i<=C.length/\az t j2 (bC [] (.slice none 0 0))/\az t j4 (bC (C.take i) (.slice none 0 0))/\aw s.next s t/\t.next=s2.next/\f.n=67/\f.get 0=x/\f.get 2= .pointer (some ⟨j2,0,some 18⟩)/\f.get 4= .pointer (some ⟨j4,0,some 18⟩)/\f.get 5= .int .i64 (iY (C.take i):ao)/\f.get 6= .int .i64 (jF (C.take i):ao)/\f.get 12=x/\f.get 13= .int .i64 (C.length:ao)/\f.get 14= .int .i64 (i:ao))
  (fun z f t=>z= .exit 0/\az t j2 (bC [] (.slice none 0 0))/\az t j4 (bC C (.slice none 0 0))/\aw s.next s t/\t.next=s2.next/\f.n=67/\f.get 0=x/\f.get 2= .pointer (some ⟨j2,0,some 18⟩)/\f.get 4= .pointer (some ⟨j4,0,some 18⟩)/\f.get 5= .int .i64 (iY C:ao)/\f.get 6= .int .i64 (jF C:ao))
  ⟨0,rfl,by omega,fe,j6,og,rfl,by simp only[ag,hn],by simp only[aa,↓af,WP,h0],by simp only[aa,↓af,WP],by simp only[aa,↓af,WP],by simp only[aa,↓af,WP];rfl,by simp only[aa,↓af,WP];rfl,by simp only[aa,↓af,WP,c8];rfl⟩ ?_ ?_
 ·clear hn h0 f vK fe j6 aY aR og kA;rintro Q hQ z f t ⟨i,rfl,hi,hr,hc,aF,xL,hn,h0,h2,h4,h5,h6,oF,mY,pO⟩;have EY:=hx.keeps aF;by_cases uP:i<C.length;rotate_left
  ·obtain rfl:i=C.length:=by omega
   have d1:¬((C.length:ao):ax)<((C.length:ao):ax):=by omega
   rw[ed] at hc h5 h6;simp only[aj,QM,↓af,hn,mY,pO,av d1];exact hQ _ _ _ ⟨rfl,hr,hc,aF,xL,by simp only[aa,ag,↓af,WP,hn,h0,h2,h4,h5,h6,cX]⟩
  have d1:(i:ax)<((C.length:ao):ax):=by omega
  have jK:=EY.indexAddr (P:=an) (k:= .i64) (x:=(i:ax)) dS aV (by omega) (by omega);rw[bq] at jK;have k1:=EY.cu (P:=an) aP uP;rw[fm uP] at k1;have hs:=HN uP;have hm:=EL uP;have afh:=Bm i;have Hl:=Jc (C.take i);have hml:=EJ (C.take i);have X1:(C.take i).length=i:=by rw[c5];omega
  by_cases e1:0<C.getD i 0
  ·have d3:((C.getD i 0:ao):ax)>0:=by omega
   rw[a3 e1] at hs hm;have e2:(15:ax)-((C.getD i 0:ao):ax)=((15-C.getD i 0:ao):ax):=by omega
   have oG:=KI an 3 .i64 (b:=1) (by decide) (k:=15-C.getD i 0) (by omega);rw[Nat.one_mul] at oG;have oG:dB an .shl 3 (.int .i64 1) (.int .i64 ((15-C.getD i 0:ao):ax))=some (.int .i64 ((2^(15-C.getD i 0):ao):ax)):=oG;have hpw:2^(15-C.getD i 0)<=2^15:=cz (by omega) (by omega);have TG:(2:ao)^15=32768:=by decide
   generalize 2^(15-C.getD i 0)=W at hs oG hpw;have e3:((iY (C.take i):ao):ax)+((W:ao):ax)=((iY (C.take (i+1)):ao):ax):=by omega
   have e4:((jF (C.take i):ao):ax)+1=((jF (C.take (i+1)):ao):ax):=by omega
   have ik:=PM (P:=an) afB aV j4 0 18 (x:=((C.getD i 0:ao):ax)) (by omega) (by omega) .i64;rw[bq,Nat.zero_add] at ik;have lk:=hc.load (P:=an) aP (off:=C.getD i 0) (c:=18) (by rw[aq]) (by rw[aq];omega);rw[pL _ _ (by omega)] at lk;have iz:=N6 C i (C.getD i 0);have e5:((cn (C.take i) (C.getD i 0):ao):ax)+1=((cn (C.take i) (C.getD i 0)+1:ao):ax):=by omega
   simp(disch:=omega)only[aj,QM,WP,↓af,hn,h4,oF,mY,pO,a8 d1,jK,k1,a8 d3,Vs,ik,lk,aB,e5];refine ba aV hc (by rw[aq]) (by rw[aq];omega) rfl ?_;intro t2 j6 mf dA;rw[N7 uP e1 afh] at j6;simp(disch:=omega)only[aj,QM,WP,↓af,hn,h5,h6,pO,e2,aB,oG,e3,e4];exact ar (C.length-(i+1)) (by omega) ⟨i+1,rfl,by omega,hr.aK mf dA (by omega),j6,aF.trans (aw.aK mf dA (by omega)),by omega,by simp only[aa,ag,↓af,WP,hn,h0,h2,h4,oF,mY,c8];rfl⟩
  have d3:¬((C.getD i 0:ao):ax)>0:=by omega
  rw[a0 e1] at hs hm;simp(disch:=omega)only[aj,QM,WP,↓af,hn,oF,mY,pO,a8 d1,jK,k1,av d3,aB];exact ar (C.length-(i+1)) (by omega) ⟨i+1,rfl,by omega,hr,by rw[N8 uP e1];exact hc,aF,xL,by simp only[ag,hn],by simp only[aa,↓af,WP,h0],by simp only[aa,↓af,WP,h2],by simp only[aa,↓af,WP,h4],by simp only[aa,↓af,WP,h5];rw[hs,c7],by simp only[aa,↓af,WP,h6];rw[hm,c7],by simp only[aa,↓af,WP,oF],by simp only[aa,↓af,WP,mY],by simp only[aa,↓af];rfl⟩
 clear hn h0 f vK fe j6 aY aR og kA;rintro z f t ⟨rfl,hr,hc,aF,xL,hn,h0,h2,h4,h5,h6⟩;have Lo:=HW C;simp only[aj,QM,↓af,hn];refine Comes.bD (fun z f t=>∃(k:ao) (y:aC),z=15-k/\k<=15/\az t j2 (bC [] (.slice none 0 0))/\az t j4 (bC C y)/\Own t 1 y (dp C k).length (bm (dp C k))/\aM s2.next y/\aw s.next s t/\s2.next<=t.next/\f.n=67/\f.get 0=x/\f.get 2= .pointer (some ⟨j2,0,some 18⟩)/\f.get 4= .pointer (some ⟨j4,0,some 18⟩)/\f.get 5= .int .i64 (iY C:ao)/\f.get 6= .int .i64 (jF C:ao)/\f.get 9= .int .i64 ((k:ax)+1))
  (fun z f t=>z= .exit 2/\∃y:aC,az t j2 (bC [] (.slice none 0 0))/\az t j4 (bC C y)/\Own t 1 y (dp C 15).length (bm (dp C 15))/\aM s2.next y/\aw s.next s t/\f.n=67/\f.get 2= .pointer (some ⟨j2,0,some 18⟩)/\f.get 4= .pointer (some ⟨j4,0,some 18⟩)/\f.get 5= .int .i64 (iY C:ao)/\f.get 6= .int .i64 (jF C:ao))
  ⟨0,_,rfl,by omega,hr,hc,.nil,aM.nil _,aF,by omega,by simp only[aa,ag,↓af,WP,hn,h0,h2,h4,h5,h6,c8];rfl⟩ ?_ ?_
 ·clear hn h0 h2 h4 h5 h6 f hr hc aF xL;rintro Q hQ z f t ⟨k,y,rfl,hk,hr,hc,hy,ko,aF,xL,hn,h0,h2,h4,h5,h6,h9⟩;by_cases afg:k<15;rotate_left
  ·obtain rfl:k=15:=by omega
   have d1:¬((15:ao):ax)+1<=15:=by omega
   simp only[aj,QM,↓af,hn,h9,av d1];exact hQ _ _ _ ⟨rfl,y,hr,hc,hy,ko,aF,by simp only[aa,ag,↓af,WP,hn,h2,h4,h5,h6,cX]⟩
  have d1:(k:ax)+1<=15:=by omega
  have EY:=hx.keeps aF;simp only[aj,ad,QM,WP,↓af,hn,h0,h9,a8 d1,EY.aQ dS];refine Comes.bD (fun z f t=>∃(i:ao) (y:aC),z=C.length-i/\i<=C.length/\az t j2 (bC [] (.slice none 0 0))/\az t j4 (bC C y)/\Own t 1 y (dp C k++lD C (k+1) i).length (bm (dp C k++lD C (k+1) i))/\aM s2.next y/\aw s.next s t/\s2.next<=t.next/\f.n=67/\f.get 0=x/\f.get 2= .pointer (some ⟨j2,0,some 18⟩)/\f.get 4= .pointer (some ⟨j4,0,some 18⟩)/\f.get 5= .int .i64 (iY C:ao)/\f.get 6= .int .i64 (jF C:ao)/\f.get 9= .int .i64 ((k:ax)+1)/\f.get 39=x/\f.get 40= .int .i64 (C.length:ao)/\f.get 41= .int .i64 (i:ao))
   (fun z f t=>z= .exit 4/\∃y:aC,az t j2 (bC [] (.slice none 0 0))/\az t j4 (bC C y)/\Own t 1 y (dp C (k+1)).length (bm (dp C (k+1)))/\aM s2.next y/\aw s.next s t/\s2.next<=t.next/\f.n=67/\f.get 0=x/\f.get 2= .pointer (some ⟨j2,0,some 18⟩)/\f.get 4= .pointer (some ⟨j4,0,some 18⟩)/\f.get 5= .int .i64 (iY C:ao)/\f.get 6= .int .i64 (jF C:ao)/\f.get 9= .int .i64 ((k:ax)+1))
   ⟨0,y,rfl,by omega,hr,hc,by simp only[lD,ep];exact hy,ko,aF,xL,by simp only[aa,ag,↓af,WP,hn,h0,h2,h4,h5,h6,h9,c8];rfl⟩ ?_ ?_
  ·clear hn h0 h2 h4 h5 h6 h9 f hr hc hy ko aF xL EY;rintro Q2 El z f t ⟨i,y,rfl,hi,hr,hc,hy,ko,aF,xL,hn,h0,h2,h4,h5,h6,h9,Oa,PS,h41⟩;have EY:=hx.keeps aF;by_cases uP:i<C.length;rotate_left
   ·obtain rfl:i=C.length:=by omega
    have d2:¬((C.length:ao):ax)<((C.length:ao):ax):=by omega
    rw[RQ] at hy;simp only[aj,QM,↓af,hn,PS,h41,av d2];exact El _ _ _ ⟨rfl,y,hr,hc,hy,ko,aF,xL,by simp only[aa,ag,↓af,WP,hn,h0,h2,h4,h5,h6,h9,cX]⟩
   have d2:(i:ax)<((C.length:ao):ax):=by omega
   have jK:=EY.indexAddr (P:=an) (k:= .i64) (x:=(i:ax)) dS aV (by omega) (by omega);rw[bq] at jK;have k1:=EY.cu (P:=an) aP uP;rw[fm uP] at k1;by_cases e1:C.getD i 0=k+1
   ·have d3:((C.getD i 0:ao):ax)=(k:ax)+1:=by omega
    have lsv:=hc.load (P:=an) PO (off:=16) (c:=18) (by rw[aq]) (by rw[aq];omega);rw[vh] at lsv;have amT:(dp C k++lD C (k+1) i).length<=3000:=by
     have h1:=Lo k;have h2:=ql C (k+1) i (by omega);have h3:(C.take i).count (k+1)<=(C.take i).length:=dI;rw[c5] at h3;rw[a1];omega
    simp only[aj,ae,QM,WP,↓af,hn,h4,h9,Oa,PS,h41,a8 d2,jK,k1,a8 d3,PQ,lsv,gI dS aV qf];refine cj dS aV sy qf rfl hy (by simp only[aa,↓af,WP]) (by decide) (by simp only[ag,hn];decide) (by simp only[ag,hn];decide) (by rfl) (by decide) rfl (by omega) (by omega) ko xL ?_;intro bs y2 t2 nh Yf aR dK sd;have aka:aI y≠some j2:=fun e=>by have:=ko _ e;omega
    have akb:aI y≠some j4:=fun e=>by have:=ko _ e;omega
    have afG:aI y2≠some j4:=fun e=>by have:=Yf _ e;omega
    have fe:=hr.turns dK aka;have j6:=hc.turns dK akb;have e6:bm (dp C k++lD C (k+1) i)++[dk .i64 (i:ao)]=bm (dp C k++lD C (k+1) (i+1)):=by
     simp only[lD];rw[a3 e1,<-ck];exact vI _ [i]
    have e7:(dp C k++lD C (k+1) i).length+1=(dp C k++lD C (k+1) (i+1)).length:=by
     simp only[lD];rw[a3 e1,<-ck];simp only[a1,ch]
    rw[e6,e7] at nh;simp only[aj,QM,WP,↓af,hn,h4,PQ];refine ba PN j6 (by rw[aq]) (by rw[aq];omega) nh.aL.aT ?_;intro t3 qO oX iT;rw[N9] at qO;simp(disch:=omega)only[aj,QM,WP,↓af,hn,h41,aB];have apH:=dK.next;exact ar (C.length-(i+1)) (by omega) ⟨i+1,y2,rfl,by omega,fe.aK oX iT (by omega),qO,nh.aK oX iT afG,Yf,(aF.trans (aR.weaken (by omega))).trans (aw.aK oX iT (by omega)),by omega,by simp only[ag,hn],by simp only[aa,↓af,WP,h0],by simp only[aa,↓af,WP,h2],by simp only[aa,↓af,WP,h4],by simp only[aa,↓af,WP,h5],by simp only[aa,↓af,WP,h6],by simp only[aa,↓af,WP,h9],by simp only[aa,↓af,WP,Oa],by simp only[aa,↓af,WP,PS],by simp only[aa,↓af];rfl⟩
   have d3:¬((C.getD i 0:ao):ax)=(k:ax)+1:=by omega
   have e8:lD C (k+1) (i+1)=lD C (k+1) i:=by simp only[lD];rw[a0 e1,ep]
   simp(disch:=omega)only[aj,QM,WP,↓af,hn,h9,Oa,PS,h41,a8 d2,jK,k1,av d3,aB];exact ar (C.length-(i+1)) (by omega) ⟨i+1,y,rfl,by omega,hr,hc,by rw[e8];exact hy,ko,aF,xL,by simp only[ag,hn],by simp only[aa,↓af,WP,h0],by simp only[aa,↓af,WP,h2],by simp only[aa,↓af,WP,h4],by simp only[aa,↓af,WP,h5],by simp only[aa,↓af,WP,h6],by simp only[aa,↓af,WP,h9],by simp only[aa,↓af,WP,Oa],by simp only[aa,↓af,WP,PS],by simp only[aa,↓af];rfl⟩
  clear hn h0 h2 h4 h5 h6 h9 f hr hc hy ko aF xL EY;rintro z f t ⟨rfl,y,hr,hc,hy,ko,aF,xL,hn,h0,h2,h4,h5,h6,h9⟩;simp(disch:=omega)only[aj,QM,↓af,hn,h9,aB];exact ar (15-(k+1)) (by omega) ⟨k+1,y,rfl,by omega,hr,hc,hy,ko,aF,xL,by simp only[ag,hn],by simp only[aa,↓af,WP,h0],by simp only[aa,↓af,WP,h2],by simp only[aa,↓af,WP,h4],by simp only[aa,↓af,WP,h5],by simp only[aa,↓af,WP,h6],by simp only[aa,↓af];rfl⟩
 clear hn h0 h2 h4 h5 h6 f hr hc aF xL;rintro z f t ⟨rfl,y,hr,hc,hy,ko,aF,hn,h2,h4,h5,h6⟩;have EZ:=hc.bd (P:=an) dy (by rw[aq];exact bB) (c:=18) (by rw[aq]);have hmz:(if iY C=32768 then true else if iY C<32768 then decide (((jF C:ao):ax)<=1) else false)=decide (na C):=by
  by_cases c1:iY C=32768
  ·rw[a3 c1];exact(b7 (.inl c1)).symm
  rw[a0 c1];by_cases c2:iY C<32768
  ·rw[a3 c2];exact decide_eq_decide.2 ⟨fun h=> .inr ⟨c2,by omega⟩,fun h=>by rcases h with h|h<;>omega⟩
  rw[a0 c2];exact(dt (fun h=>by rcases h with h|h<;>omega)).symm
 have fin:∀(t' :au) (b:Bool),az t' j2 (bC C y)->t'.next=t.next->(∀i,i≠j2->t'.heap.get i=t.heap.get i)->b=decide (na C)->ZE s C (.tuple #[.agg (bC C y).toArray,.bool b]) t' :=fun t' b h1 h2 h3 h4=>by
  subst h4;exact⟨y,rfl,hy.aK h2 h3 (fun e=>by have:=ko _ e;omega),fun i hi=>by have:=ko i hi;omega,aF.trans (aw.aK h2 h3 (by omega))⟩
 by_cases c1:iY C=32768
 ·have d1:((iY C:ao):ax)=32768:=by omega
  rw[a3 c1] at hmz;simp only[aj,ak,QM,WP,↓af,undef,hn,h2,h4,h5,EZ,a8 d1];refine aG bB (by decide) hr (aq _ _) rfl (aq _ _) (cG C hy.aL.aT) ?_;intro t2 fe mf dA;have Lr:=fe.bd (P:=an) dy (by rw[aq];exact bB) (c:=18) (by rw[aq]);simp only[aj,al,oneOf,QM,WP,↓af,undef,hn,h2,a4,Lr,dv];exact fin t2 true fe mf dA hmz
 have d1:¬((iY C:ao):ax)=32768:=by omega
 rw[a0 c1] at hmz;by_cases c2:iY C<32768
 ·have d2:((iY C:ao):ax)<32768:=by omega
  rw[a3 c2] at hmz;simp only[aj,ak,QM,WP,↓af,hn,h2,h4,h5,h6,EZ,av d1,a8 d2];refine aG bB (by decide) hr (aq _ _) rfl (aq _ _) (cG C hy.aL.aT) ?_;intro t2 fe mf dA;have Lr:=fe.bd (P:=an) dy (by rw[aq];exact bB) (c:=18) (by rw[aq]);simp only[aj,al,oneOf,QM,WP,↓af,undef,hn,h2,a4,Lr,dv];exact fin t2 _ fe mf dA hmz
 have d2:¬((iY C:ao):ax)<32768:=by omega
 rw[a0 c2] at hmz;simp only[aj,ak,QM,WP,↓af,undef,hn,h2,h4,h5,EZ,av d1,av d2];refine aG bB (by decide) hr (aq _ _) rfl (aq _ _) (cG C hy.aL.aT) ?_;intro t2 fe mf dA;have Lr:=fe.bd (P:=an) dy (by rw[aq];exact bB) (c:=18) (by rw[aq]);simp only[aj,al,oneOf,QM,WP,↓af,undef,hn,h2,a4,Lr,dv];exact fin t2 false fe mf dA hmz
theorem E3:br an 122=some 2:=by kernel_rfl
theorem abS:bU an 122=some true:=by kernel_rfl
theorem PT:b6 an 122=some (.agg #[.int .i64 0,.int .i64 0]):=by kernel_rfl
theorem afH:cr (.agg #[.int .i64 0,.int .i64 0])=true:=rfl
theorem Vt:an.underlying 122=some (.array 2 3):=Tryz.underlying122
theorem PU:an.underlying 121=some (.slice 122):=Tryz.underlying121
theorem HX:∀L:bk (ao×ao),(∀x∈L,x.1<=200)->(kL L).length<=200*L.length
 |[],_=>Nat.le_refl _
 |(a,b)::r,h=>by
  have h1:=h (a,b) (by simp);have h2:=HX r (fun x hx=>h x (by simp[hx]));simp only[kL,a1,b4,ee];have h1:a<=200:=h1;omega
def ZG (s:au)(C:bk ao)(v:aC)(s' :au):Prop:=Own s' 1 v C.length (bm C)/\aM s.next v/\aw s.next s s'
theorem Ls {lib:aD}(hL:Jm lib)(s:au)(x:aC)(L:bk (ao×ao))(hx:aU s 2 x L.length (Lp L))(hlen:L.length<=10)(Bm:∀x∈L,x.1<=200):
  Runs an lib 214 [x] s (ZG s (kL L)):=by
 refine Runs.enter 24 Tryz.func214 rfl (hL _ rfl) rfl rfl ?_;intro f hn hf;have h0:f.get 0=x:=hf 0;clear hf;simp only[aj,ad,QM,WP,↓af,hn,h0,hx.aQ PU];refine Comes.bD (fun z f t=>∃(i:ao) (y:aC),z=L.length-i/\i<=L.length/\Own t 1 y (kL (L.take i)).length (bm (kL (L.take i)))/\aM s.next y/\aw s.next s t/\f.n=24/\f.get 3=y/\f.get 6=x/\f.get 7= .int .i64 (L.length:ao)/\f.get 8= .int .i64 (i:ao))
  (fun z f t=>z= .exit 0/\f.n=24/\∃y,f.get 3=y/\ZG s (kL L) y t)
  ⟨0,_,rfl,by omega,.nil,aM.nil _,aw.refl _ _,by simp only[aa,ag,↓af,WP,hn,c8];rfl⟩ ?_ ?_
 ·clear hn h0 f;rintro Q hQ z f t ⟨i,y,rfl,hi,hy,ko,aF,hn,h3,h6,h7,h8⟩;have EY:=hx.keeps aF;by_cases uP:i<L.length;rotate_left
  ·obtain rfl:i=L.length:=by omega
   have d1:¬((L.length:ao):ax)<((L.length:ao):ax):=by omega
   rw[ed] at hy;simp only[aj,QM,↓af,hn,h7,h8,av d1];exact hQ _ _ _ ⟨rfl,by simp only[ag,hn],y,by simp only[aa,↓af,WP,h3],hy,ko,aF⟩
  have d1:(i:ax)<((L.length:ao):ax):=by omega
  have jK:=EY.indexAddr (P:=an) (k:= .i64) (x:=(i:ax)) PU E3 (by omega) (by omega);rw[bq] at jK;have k1:=EY.fZ (P:=an) abS E3 uP;rw[Lq uP] at k1;have mB:L.getD i (0,0)∈L:=by rw[cv,cL uP];exact List.getElem_mem uP
  have ha:=Bm _ mB;have O7:=EX uP;have xN:=HX (L.take i) (fun x hx=>Bm x (List.mem_of_mem_take hx));have a7:(L.take i).length=i:=by rw[c5];omega
  generalize Fm:L.getD i (0,0)=ab at k1 ha O7;simp only[aj,QM,WP,↓af,hn,h6,h7,h8,a8 d1,jK,k1,PT,afH];refine aA ?_;intro t1 Zc aY gG;obtain⟨je,hje⟩:∃j,j=t.next:=⟨_,rfl⟩
  rw[<-hje] at Zc;have Gx:=hy.keeps aY;simp only[aj,QM,WP,↓af,hn,<-hje];refine aG E3 (by decide) Zc rfl rfl rfl rfl ?_;intro t2 Mb mf dA;have nh:=Gx.aK mf dA (fun e=>by have:=hy.ei _ e;omega);have Mb:az t2 je [.int .i64 (ab.1:ao),.int .i64 (ab.2:ao)]:=Mb;have aR:aw s.next s t2:=(aF.trans (aY.weaken (by have:=aF.next;omega))).trans (aw.aK mf dA (by have:=aF.next;omega));have w0:=Mb.load (P:=an) aP (off:=0) (c:=3) rfl (by simp);have w1:=Mb.load (P:=an) aP (off:=1) (c:=3) rfl (by simp);have i0:=PM (P:=an) Vt aV je 0 3 (x:=0) (by omega) (by omega) .i64;have i1:=PM (P:=an) Vt aV je 0 3 (x:=1) (by omega) (by omega) .i64;have i0:bK an 122 (.pointer (some ⟨je,0,some 3⟩)) (.int .i64 0)=some (.pointer (some ⟨je,0,some 3⟩)):=i0;have i1:bK an 122 (.pointer (some ⟨je,0,some 3⟩)) (.int .i64 1)=some (.pointer (some ⟨je,1,some 3⟩)):=i1;simp only[aj,ak,QM,bl,↓af,hn,ee,List.length_nil,i0,w0];refine Comes.bD (fun z f t' =>∃(j:ao) (y:aC),z=ab.1-j/\j<=ab.1/\Own t' 1 y (kL (L.take i)++a2 j ab.2).length (bm (kL (L.take i)++a2 j ab.2))/\aM s.next y/\(∀q,aI y=some q->q≠je)/\az t' je [.int .i64 (ab.1:ao),.int .i64 (ab.2:ao)]/\aw s.next s t' /\je<t'.next/\f.n=24/\f.get 3=y/\f.get 5= .pointer (some ⟨je,0,some 3⟩)/\f.get 6=x/\f.get 7= .int .i64 (L.length:ao)/\f.get 8= .int .i64 (i:ao)/\f.get 13= .int .i64 (ab.1:ao)/\f.get 14= .int .i64 (j:ao))
   (fun z f t' =>z= .exit 2/\∃(y:aC),Own t' 1 y (kL (L.take (i+1))).length (bm (kL (L.take (i+1))))/\aM s.next y/\aw s.next s t' /\f.n=24/\f.get 3=y/\f.get 6=x/\f.get 7= .int .i64 (L.length:ao)/\f.get 8= .int .i64 (i:ao))
   ⟨0,y,rfl,by omega,by simpa using nh,ko,fun q hq=>by have:=hy.ei q hq;omega,Mb,aR,Mb.lt,by simp only[aa,ag,↓af,WP,hn,h3,h6,h7,h8,c8];rfl⟩ ?_ ?_
  ·clear hn h3 h6 h7 h8 f;rintro Q2 El z f t' ⟨j,y,rfl,hj,hy,ko,hyj,he,aF,Xz,hn,h3,h5,h6,h7,h8,mY,pO⟩;by_cases SC:j<ab.1;rotate_left
   ·obtain rfl:j=ab.1:=by omega
    have d2:¬((ab.1:ao):ax)<((ab.1:ao):ax):=by omega
    rw[<-O7] at hy;simp only[aj,ak,QM,↓af,hn,mY,pO,av d2];exact El _ _ _ ⟨rfl,y,hy,ko,aF,by simp only[aa,ag,↓af,WP,hn,h3,h6,h7,h8,cX]⟩
   have d2:(j:ax)<((ab.1:ao):ax):=by omega
   have w1:=he.load (P:=an) aP (off:=1) (c:=3) rfl (by simp);have U6:(kL (L.take i)++a2 j ab.2).length<=3000:=by rw[a1,b4];omega
   simp only[aj,ak,ae,QM,WP,↓af,hn,h3,h5,mY,pO,a8 d2,i1,w1,gI dS aV qf];refine cj dS aV sy qf rfl hy (by simp only[aa,↓af,WP]) (by decide) (by simp only[ag,hn];decide) (by simp only[ag,hn];decide) (by rfl) (by decide) rfl (by omega) (by omega) ko aF.next ?_;intro bs y2 t6 nh ig aR dK sd;have e6:bm (kL (L.take i)++a2 j ab.2)++[dk .i64 (ab.2:ao)]=bm (kL (L.take i)++a2 (j+1) ab.2):=by
    rw[dP,<-ck];exact vI _ [ab.2]
   have e7:(kL (L.take i)++a2 j ab.2).length+1=(kL (L.take i)++a2 (j+1) ab.2).length:=by
    simp only[a1,b4];omega
   rw[e6,e7] at nh;simp(disch:=omega)only[aj,QM,WP,↓af,hn,pO,aB];have Ku:=dK.next;exact ar (ab.1-(j+1)) (by omega) ⟨j+1,y2,rfl,by omega,nh,ig,fun q hq=>by
    rcases sd with e|⟨w,e,hw⟩
    ·exact hyj q (by rw[<-e];exact hq)
    rw[e] at hq;injection hq with hq;omega,he.turns dK (fun e=>hyj je e rfl),aF.trans (aR.weaken (by have:=aF.next;omega)),by omega,by simp only[ag,hn],by simp only[aa,↓af,WP],by simp only[aa,↓af,WP,h5],by simp only[aa,↓af,WP,h6],by simp only[aa,↓af,WP,h7],by simp only[aa,↓af,WP,h8],by simp only[aa,↓af,WP,mY],by simp only[aa,↓af];rfl⟩
  clear hn h3 h6 h7 h8 f;rintro z f t' ⟨rfl,y,hy,ko,aF,hn,h3,h6,h7,h8⟩;simp(disch:=omega)only[aj,QM,↓af,hn,h8,aB];exact ar (L.length-(i+1)) (by omega) ⟨i+1,y,rfl,by omega,hy,ko,aF,by simp only[ag,hn],by simp only[aa,↓af,WP,h3],by simp only[aa,↓af,WP,h6],by simp only[aa,↓af,WP,h7],by simp only[aa,↓af];rfl⟩
 clear hn h0 f;rintro z f t ⟨rfl,hn,y,h3,hR⟩;simp only[aj,al,oneOf,QM,↓af,hn,h3,Tryz.results214];exact hR
theorem Ob:kL [(144,8),(112,9),(24,7),(8,8)]=iQ:=by decide+kernel
theorem Lt:kL [(32,5)]=lX:=by decide+kernel
theorem ZH (a b:ax):da an 122 [(0,.int .i64 a),(1,.int .i64 b)]=some (.agg #[.int .i64 a,.int .i64 b]):=by
 unfold da;rw[Vt,PT]
 have c1:∀a:ax,(dk .i64 a).cells.toList=[.int .i64 a]:=fun _=>rfl
 simp only[iu,c1];simp[aV,cr,iD,bJ,setAt]
theorem abT (s:au):bp an s 121 4 [(0,.agg #[.int .i64 144,.int .i64 8]),(1,.agg #[.int .i64 112,.int .i64 9]),(2,.agg #[.int .i64 24,.int .i64 7]),(3,.agg #[.int .i64 8,.int .i64 8])]=a6 s (Lp [(144,8),(112,9),(24,7),(8,8)]) 4 2:=by
 unfold bp;rw[PU];simp only[E3,PT];rfl
theorem abU (s:au):bp an s 121 1 [(0,.agg #[.int .i64 32,.int .i64 5])]=a6 s (Lp [(32,5)]) 1 2:=by
 unfold bp;rw[PU];simp only[E3,PT];rfl
def akc (s:au)(v:aC)(s' :au):Prop:=∃sa sb,v= .tuple #[.agg (bC iQ sa).toArray,.agg (bC lX sb).toArray]/\Own s' 1 sa (dp iQ 15).length (bm (dp iQ 15))/\Own s' 1 sb (dp lX 15).length (bm (dp lX 15))/\aM s.next sa/\aM s.next sb/\aw s.next s s'
theorem Oc {lib:aD}(hL:Jm lib)(s:au):Runs an lib 189 [] s (akc s):=by
 refine Runs.enter 25 Tryz.func189 rfl (hL _ rfl) rfl rfl ?_;intro f hn hf;clear hf;simp only[aj,↓af,pM,pN];refine aA ?_;intro s1 BK aY gG;obtain⟨j0,hj0⟩:∃j,j=s.next:=⟨_,rfl⟩
 rw[<-hj0] at BK;simp only[aj,QM,bl,↓af,hn,<-hj0,aq,pM,pN];refine aA ?_;intro s2 Cg aR jD;obtain⟨j1,hj1⟩:∃j,j=s1.next:=⟨_,rfl⟩
 rw[<-hj1] at Cg;have TG:=BK.keeps aR;have k2:aw s.next s s2:=aY.trans (aR.weaken (by omega));simp only[aj,ae,QM,WP,bl,↓af,hn,<-hj1,aq,ZH,abT];refine bc (by rfl) ?_;intro yr s3 hyr apJ k3;simp only[aj,ak,ad,QM,↓af,hn];refine(Ls hL s3 yr [(144,8),(112,9),(24,7),(8,8)] hyr.aL (by decide) (by decide)).mono ?_;rintro ya s4 ⟨hya,apK,k4⟩;rw[Ob] at hya;simp only[aj,ak,ad,QM,↓af,hn];refine(vi hL s4 ya iQ hya.aL (by rw[show iQ.length=288 from qd];decide) RE).mono ?_;rintro _ s5 ⟨sa,rfl,vV,Jo,k5⟩;have n3:=k3.next;have n4:=k4.next;have n5:=k5.next;have Zf:aw s2.next s2 s5:=(k3.trans (k4.weaken n3)).trans (k5.weaken (by omega));simp only[aj,QM,WP,↓af,hn,cQ,cR,pM,pN];refine aA ?_;intro s6 XQ cU aeE;obtain⟨j2,ZF⟩:∃j,j=s5.next:=⟨_,rfl⟩
 rw[<-ZF] at XQ;have akd:=vV.keeps cU;simp only[aj,QM,WP,bl,↓af,hn,<-ZF,aq];refine aG bB (by decide) XQ (aq _ _) rfl (aq _ _) (cG _ vV.aL.aT) ?_;intro s7 hc7 JC zy;have abV:=akd.aK JC zy (fun e=>by have:=vV.ei _ e;omega);have k7:aw s2.next s2 s7:=(Zf.trans (cU.weaken (by omega))).trans (aw.aK JC zy (by omega));simp only[aj,ae,QM,WP,↓af,hn,ZH,abU];refine bc (by rfl) ?_;intro yr2 s8 ake amW k8;simp only[aj,ak,ad,QM,↓af,hn];refine(Ls hL s8 yr2 [(32,5)] ake.aL (by decide) (by decide)).mono ?_;rintro yb s9 ⟨Sv,apM,k9⟩;rw[Lt] at Sv;simp only[aj,ak,ad,QM,↓af,hn];refine(vi hL s9 yb lX Sv.aL (by decide) RF).mono ?_;rintro _ XB ⟨sb,rfl,vq,Jp,k10⟩;have n8:=k8.next;have n9:=k9.next;have n10:=k10.next;have abW:aw s7.next s7 XB:=(k8.trans (k9.weaken n8)).trans (k10.weaken (by omega));have Vu:=hc7.keeps abW;have HY:=abV.keeps abW;simp only[aj,QM,WP,↓af,hn,cQ,cR,pM,pN];refine aA ?_;intro Wi RA PV amY;obtain⟨j4,hj4⟩:∃j,j=XB.next:=⟨_,rfl⟩
 rw[<-hj4] at RA;have afI:=vq.keeps PV;have afJ:=HY.keeps PV;have akf:=Vu.keeps PV;simp only[aj,QM,WP,bl,↓af,hn,<-hj4,aq];refine aG bB (by decide) RA (aq _ _) rfl (aq _ _) (cG _ vq.aL.aT) ?_;intro zz Yg Yh Yi;have Vv:=afI.aK Yh Yi (fun e=>by have:=vq.ei _ e;omega);have Vw:=afJ.aK Yh Yi (fun e=>by have:=HY.ei _ e;omega);have abX:=akf.aK Yh Yi (by have:=Vu.lt;omega);have kk:aw s2.next s2 zz:=((k7.trans (abW.weaken (by have:=k7.next;omega))).trans (PV.weaken (by have:=k7.next;omega))).trans (aw.aK Yh Yi (by have:=k7.next;omega));have akg:=TG.keeps kk;have aa4:=Cg.keeps kk;have lc:=abX.bd (P:=an) dy (by rw[aq];exact bB) (c:=18) (by rw[aq]);have ld:=Yg.bd (P:=an) dy (by rw[aq];exact bB) (c:=18) (by rw[aq]);simp only[aj,QM,WP,↓af,hn];obtain⟨A,hA⟩:∃A:ao->Bool,A=fun j=>decide (j<zz.next/\j≠j0/\j≠j1):=⟨_,rfl⟩
 have gu:∀j,A j=true->j<zz.next:=by
  intro j h;rw[hA] at h;exact(cp h).1
 have hA0:A j0=false:=by rw[hA];exact dt (fun h=>h.2.1 rfl)
 have BR:A j1=false:=by rw[hA];exact dt (fun h=>h.2.2 rfl)
 have js:=aw.spare zz 0;have Fo:(spare zz 0).next=zz.next+0:=bu _ _;have afK:=abX.lt;have aki:=Yg.lt;have l2:∀k,LA.di A (some (.pointer (some ⟨j2,k,some 18⟩)))=true:=fun k=>LA.bN (A:=A) (i:=j2) (by rw[hA];exact b7 ⟨afK,by omega,by omega⟩)
 have l4:∀k,LA.di A (some (.pointer (some ⟨j4,k,some 18⟩)))=true:=fun k=>LA.bN (A:=A) (i:=j4) (by rw[hA];exact b7 ⟨aki,by omega,by omega⟩)
 have ve:∀(C:bk ao) (v:aC) (n:ao) (L:bk aC),Own zz 1 v n L->bI (.agg (bC C v).toArray) (.agg (bC C v).toArray)=true:=fun C v n L h=>ky C h.aL
 have hcq:=(abX.keeps js).bd (P:=an) dy (by rw[aq];exact bB) (c:=18) (by rw[aq]);have Qh:=(Yg.keeps js).bd (P:=an) dy (by rw[aq];exact bB) (c:=18) (by rw[aq]);refine LB.cN.dx A gu 2 0 (by kernel_rfl) (by kernel_rfl) ?_;simp only[aj,bg,bn,QM,WP,↓af,hn,hcq,Qh,l2,l4,ve _ _ _ _ Vw,ve _ _ _ _ Vv];refine LB.bS bB (by decide) (akg.keeps js) (aq _ _) rfl (aq _ _) (cG _ vV.aL.aT) (fun _=>hA0) ?_;intro t1 eJ nt1 et1;have abZ:=((Yg.keeps js).aK nt1 et1 (by omega)).bd (P:=an) dy (by rw[aq];exact bB) (c:=18) (by rw[aq])
 try simp only[aj,bn,Nat.add_one_sub_one,QM,WP,↓af,hn]
 refine LB.bS bB (by decide) ((aa4.keeps js).aK nt1 et1 (by omega)) (aq _ _) rfl (aq _ _) (cG _ vq.aL.aT) (fun _=>BR) ?_;intro t2 dK nt2 et2;have vO:az t2 j0 _:=eJ.aK nt2 et2 (by omega);have la:=vO.bd (P:=an) dy (by rw[cJ,aq];exact bB) (c:=18) (by rw[cJ,aq]);have lb:=dK.bd (P:=an) dy (by rw[cJ,aq];exact bB) (c:=18) (by rw[cJ,aq]);simp only[aj,bn,ea,oneOf,QM,WP,↓af,aj,al,oneOf,QM,WP,↓af,hn,a4,la,lb,Tryz.results189];have fin:∀y (n:ao) (L:bk aC),Own zz 1 y n L->(∀i,aI y=some i->j1<i)->Own t2 1 y n L:=fun y n L h1 h2=>((h1.keeps js).aK nt1 et1 (fun e=>by have:=h2 _ e;omega)).aK nt2 et2 (fun e=>by have:=h2 _ e;omega)
 have k7n:=k7.next;exact⟨sa,sb,rfl,fin _ _ _ Vw (fun i hi=>by have:=Jo i hi;omega),fin _ _ _ Vv (fun i hi=>by have:=Jp i hi;omega),fun i hi=>by have:=Jo i hi;omega,fun i hi=>by have:=Jp i hi;omega,(((k2.trans (kk.weaken (by omega))).trans (js.weaken (by have:=kk.next;omega))).trans (aw.aK nt1 et1 (by omega))).trans (aw.aK nt2 et2 (by omega))⟩
end Go.Proofs.YtdfjfncifneocaaGreat
namespace Go.Cl.Nf
open Go.Cl.Fx Go.Cl.Sto
def xH (D:bk ca)(s g from_ p:ao):eg ao (ao×ao):=
 if s<2*g then .ok (from_+s,p) else match dW D p (s/g-1) with
  | .error e=> .error e
  | .ok x=> .ok (from_+(g+s%g)*2^(s/g-1)+x,p+(s/g-1))
def zn (D:bk ca)(s p:ao):eg ao (ao×ao):=match dW D p (jz s) with| .error e=> .error e| .ok x=> .ok (lenOf s x,p+jz s)
def HZ (D:bk ca)(s p:ao):eg ao (ao×ao):=match dW D p (lW s) with| .error e=> .error e| .ok x=> .ok (nm s x,p+lW s)
theorem Od (D:bk ca){s p:ao}(h1:257<=s)(h2:s<285)(hp:p<=8*D.length):xH D (s-257) 4 3 p=zn D s p:=by
 unfold xH zn;by_cases c:s<=264
 ·have ew:jz s=0:=by unfold jz;rw[a3 (.inl c)]
  rw[a3 (by omega),ew,dn (by omega)];dsimp only;have eo:lenOf s (bY D p 0)=s-254:=by unfold lenOf;rw[a3 c]
  rw[eo,show 3+(s-257)=s-254 by omega,c7]
 have ew:jz s=(s-261)/4:=by unfold jz;rw[a0 (by omega)]
 have e1:(s-257)/4-1=(s-261)/4:=by omega
 have e2:(s-257)%4=(s-265)%4:=by omega
 rw[a0 (by omega),ew,e1,e2];cases dW D p ((s-261)/4) with
 |error e=>rfl
 |ok x=>
  dsimp only;have eo:lenOf s x=(4+(s-265)%4)*2^((s-261)/4)+3+x:=by unfold lenOf;rw[a0 c,a0 (by omega)]
  rw[eo];generalize (4+(s-265)%4)*2^((s-261)/4)=X;rw[show 3+X+x=X+3+x by omega]
theorem Oe (D:bk ca){s p:ao}(hp:p<=8*D.length):xH D s 2 1 p=HZ D s p:=by
 unfold xH HZ;by_cases c:s<=3
 ·have ew:lW s=0:=by unfold lW;rw[a3 c]
  rw[a3 (by omega),ew,dn (by omega)];dsimp only;have eo:nm s (bY D p 0)=s+1:=by unfold nm;rw[a3 c]
  rw[eo,Nat.add_comm 1 s];rfl
 have ew:lW s=s/2-1:=by unfold lW;rw[a0 c]
 rw[a0 (by omega),ew];cases dW D p (s/2-1) with
 |error e=>rfl
 |ok x=>
  dsimp only;have eo:nm s x=(2+s%2)*2^(s/2-1)+1+x:=by unfold nm;rw[a0 c]
  rw[eo];generalize (2+s%2)*2^(s/2-1)=X;rw[show 1+X+x=X+1+x by omega]
theorem Vx (D:bk ca)(M:ao)(B:bk ao)(s p:ao)(P:bk ca):vg D M B s p P=if 285<s then .error 4 else qm (zn D s p) fun a=>qm (sym D B a.2) fun c=>if 30<=c.1 then .error 4 else qm (HZ D c.1 c.2) fun b=>if P.length<b.1 then .error 4 else qm (rep M b.1 a.1 P) fun P' => .ok (b.2,P'):=by
 unfold vg zn;split
 ·rfl
 cases dW D p (jz s) with
 |error e=>rfl
 |ok x=>
  dsimp only;rw[iS];dsimp only;cases sym D B (p+jz s) with
  |error e=>rfl
  |ok c=>
   rw[iS];dsimp only;split
   ·rfl
   unfold HZ;cases dW D c.2 (lW c.1) with
   |error e=>rfl
   |ok y=>
    dsimp only;rw[iS];dsimp only;split
    ·rfl
    cases rep M (nm c.1 y) (lenOf s x) P with
    |error e=>rfl
    |ok P' =>rfl
end Go.Cl.Nf
namespace Go.Proofs.YtdfjfncifneocaaGreat
open Go.Cl Go.Cl.Rw Go.Cl.Sto Go.Cl.Fx Go.Cl.Nf Go.Cl.Bt
def afL (base jr jx ic:ao)(D P:bk ca)(M:ax)(o:aC)(s:au)(v:aC)(s' :au):eg ao (ao×ao)->Prop
 | .ok (x,q)=>v= .tuple #[.int .i64 (x:ao),.int .i64 0]/\Rs base s' jr jx ic D q P M o/\eZ jx ic s s'
 | .error e=>0<e/\(∃n:ax,v= .tuple #[.int .i64 n,.int .i64 (e:ao)])/\eZ jx ic s s'
theorem BE {lib:aD}(hL:Jm lib)(base:ao)(s:au)(jr jx ic:ao)(D P:bk ca)(p:ao)(M:ax)(o:aC)(h:Rs base s jr jx ic D p P M o)(hb:base<=s.next)(hlen:D.length<=4000000)(q g fr:ao)(hg:(g=4/\q<=27)\/(g=2/\q<=29))(wL:fr<=10):
  Runs an lib 222 [lZ jr,.int .i64 (q:ao),.int .i64 (g:ao),.int .i64 (fr:ao)] s fun v s' =>afL base jr jx ic D P M o s v s' (xH D q g fr p):=by
 refine Runs.enter 45 Tryz.func222 rfl (hL _ rfl) rfl rfl ?_;intro f hn hf;have h0:f.get 0=lZ jr:=hf 0;have h1:f.get 1= .int .i64 (q:ao):=hf 1;have h2:f.get 2= .int .i64 (g:ao):=hf 2;have h3:f.get 3= .int .i64 (fr:ao):=hf 3;clear hf;have r0:=h.t.load (P:=an) gC (off:=0) (c:=4) rfl (by simp);unfold xH;by_cases c1:q<2*g
 ·have d1:(q:ax)<2*(g:ax):=by omega
  have e1:(fr:ax)+(q:ax)=((fr+q:ao):ax):=by omega
  rw[a3 c1];simp(disch:=omega)only[aj,al,oneOf,QM,WP,↓af,hn,h1,h2,h3,aB,a8 d1,e1,dw];exact⟨rfl,h,eZ.refl _ _ _⟩
 have d1:¬(q:ax)<2*(g:ax):=by omega
 rw[a0 c1];have hgz:¬(g:ax)=0:=by omega
 have q4:(q:ax).tdiv (g:ax)=((q/g:ao):ax):=by rw[Int.tdiv_eq_ediv_of_nonneg (by omega)];rfl
 have r4:(q:ax).tmod (g:ax)=((q%g:ao):ax):=by rw[Int.tmod_eq_emod_of_nonneg (by omega)];rfl
 have hqg:2<=q/g/\q/g<=14/\q%g<=3/\(g=4->q/g<=6):=by rcases hg with ⟨rfl,h⟩|⟨rfl,h⟩<;>omega
 have e2:((q/g:ao):ax)-1=((q/g-1:ao):ax):=by omega
 have e3:(g:ax)+((q%g:ao):ax)=((g+q%g:ao):ax):=by omega
 have akm:(g+q%g)*2^(q/g-1)<=100000:=by
  rcases hg with ⟨rfl,h⟩|⟨rfl,h⟩
  ·have h1:2^(q/4-1)<=2^5:=cz (by omega) (by omega);have h2:(4+q%4)*2^(q/4-1)<=7*2^5:=et (by omega) h1;have h3:(2:ao)^5=32:=by decide
   omega
  have h1:2^(q/2-1)<=2^13:=cz (by omega) (by omega);have h2:(2+q%2)*2^(q/2-1)<=3*2^13:=et (by omega) h1;have h3:(2:ao)^13=8192:=by decide
  omega
 have oG:=Ua an 3 .i64 (x:=g+q%g) (k:=q/g-1) (by omega) (by omega);have m3:=cY D p (q/g-1);have hpw:2^(q/g-1)<=2^13:=cz (by omega) (by omega);have apN:(2:ao)^13=8192:=by decide
 generalize hX:(g+q%g)*2^(q/g-1)=X at akm oG;simp(disch:=omega)only[aj,ak,ad,QM,WP,↓af,hn,h0,h1,h2,aB,av d1,gA,q4,e2,lG,r0];refine(fU hL base s jx ic D p (q/g-1) h.bit hb (by omega) hlen).mono ?_;intro v s1 hN;cases hx:dW D p (q/g-1) with
 |error e=>
  rw[hx] at hN;obtain⟨rfl,rfl,dg⟩:=hN;have e4:(fr:ax)+((X:ao):ax)+0=((fr+X:ao):ax):=by omega
  simp(disch:=omega)only[aj,al,oneOf,QM,WP,↓af,hn,h1,h2,h3,cQ,cR,dZ,r4,e3,aB,oG,e4,dw];exact⟨by decide,⟨_,rfl⟩,dg⟩
 |ok y=>
  rw[hx] at hN;obtain⟨rfl,hB,dg⟩:=hN;have hy:=(oe hx).2;have e4:(fr:ax)+((X:ao):ax)+((y:ao):ax)=((fr+X+y:ao):ax):=by omega
  simp(disch:=omega)only[aj,al,oneOf,QM,WP,↓af,hn,h1,h2,h3,cQ,cR,dZ,r4,e3,aB,oG,e4,dw];exact⟨rfl,h.bits hB dg,dg⟩
theorem Lu {lib:aD}(hL:Jm lib)(base:ao)(s:au)(jr jx ic:ao)(D P:bk ca)(p:ao)(M:ax)(o:aC)(h:Rs base s jr jx ic D p P M o)(hb:base<=s.next)(hlen:D.length<=4000000)(q:ao)(hq:257<=q)(Cg:q<=400):
  Runs an lib 221 [lZ jr,.int .i64 (q:ao)] s fun v s' =>afL base jr jx ic D P M o s v s' (if 285<q then .error 4 else zn D q p):=by
 refine Runs.enter 16 Tryz.func221 rfl (hL _ rfl) rfl rfl ?_;intro f hn hf;have h0:f.get 0=lZ jr:=hf 0;have h1:f.get 1= .int .i64 (q:ao):=hf 1;clear hf;have BS:=h.bit.le;by_cases c1:q=285
 ·have d1:(q:ax)=285:=by omega
  rw[a0 (by omega)];have e:zn D q p= .ok (258,p):=by
   subst c1;unfold zn;have ew:jz 285=0:=rfl;rw[ew,dn (by omega)];rfl
  rw[e];simp only[aj,al,oneOf,QM,WP,↓af,hn,h1,a8 d1,c6];exact⟨rfl,h,eZ.refl _ _ _⟩
 have d1:¬(q:ax)=285:=by omega
 by_cases c2:285<q
 ·have d2:(q:ax)>285:=by omega
  rw[a3 c2];simp only[aj,al,oneOf,QM,WP,↓af,hn,h1,av d1,a8 d2,c6];exact⟨by decide,⟨_,rfl⟩,eZ.refl _ _ _⟩
 have d2:¬(q:ax)>285:=by omega
 rw[a0 c2,<-Od D hq (by omega) BS];have e1:(q:ax)-257=((q-257:ao):ax):=by omega
 simp(disch:=omega)only[aj,ak,ad,QM,WP,↓af,hn,h0,h1,av d1,av d2,aB,e1];refine(BE hL base s jr jx ic D P p M o h hb hlen (q-257) 4 3 (.inl ⟨rfl,by omega⟩) (by omega)).mono ?_;intro v s1 hG;cases hx:xH D (q-257) 4 3 p with
 |error e=>
  rw[hx] at hG;obtain⟨he,⟨n,rfl⟩,dg⟩:=hG;simp only[aj,al,oneOf,QM,WP,↓af,hn,cQ,cR,c6];exact⟨he,⟨n,rfl⟩,dg⟩
 |ok y=>
  obtain⟨y,r⟩:=y;rw[hx] at hG;obtain⟨rfl,hR,dg⟩:=hG;simp only[aj,al,oneOf,QM,WP,↓af,hn,cQ,cR,c6];exact⟨rfl,hR,dg⟩
def Of (jr jx ic:ao)(o:aC)(s:au)(v:aC)(C:bk ao):Prop:=∃sv,v= .agg (bC C sv).toArray/\B9 jx ic s sv C/\(∀i,aI sv=some i->i≠jr/\aI o≠some i)
theorem lH (k:IntKind)(a b:ax):bI (.tuple #[.int k a,.int k b]) (.tuple #[.int k a,.int k b])=true:=by simp[bI,qp,wJ,cw]
theorem RR {lib:aD}(hL:Jm lib)(base:ao)(s:au)(jr jx ic:ao)(D P:bk ca)(p m:ao)(M:ax)(hM:m=M.toNat)(o:aC)(h:Rs base s jr jx ic D p P M o)(hb:base<=s.next)(hlen:D.length<=4000000)(zD:P.length<=m)(hm:m<=100000000)(q:ao)(hq:257<=q)(Cg:q<=400)(v:aC)(B:bk ao)(hB:Of jr jx ic o s v B)(Em:B.length<=1000):
  Runs an lib 216 [lZ jr,.int .i64 (q:ao),v] s fun v s' =>Jn base jr jx ic D M o s v s' (vg D m B q p P):=by
 obtain⟨sv,rfl,hS,hSo⟩:=hB;rw[Vx];have a7:=h.bit.lt;refine Runs.enter 72 Tryz.func216 rfl (hL _ rfl) rfl rfl ?_;intro f hn hf;have h0:f.get 0=lZ jr:=hf 0;have h1:f.get 1= .int .i64 (q:ao):=hf 1;have h2:f.get 2= .agg (bC B sv).toArray:=hf 2;clear hf;simp only[aj,QM,↓af,hn,h2];refine aA ?_;intro s1 PL aY gG;obtain⟨jb,B3⟩:∃j,j=s.next:=⟨_,rfl⟩
 rw[<-B3] at PL;have nH:=h.keeps hb aY;have fp:base<=s1.next:=by omega
 have k1:vJ jr jx ic o s o s1:=(vJ.refl jr jx ic o s).kept aY;have r8:∀i,aI o=some i->i<s.next:=fun i hi=>h.own.ei i hi
 have eG:∀o' t,vJ jr jx ic o s o' t->aw base s t:=fun o' t k=>k.stay h.lr a7.2.2.1 a7.2.2.2.1 h.fresh hb
 simp only[aj,ak,ad,QM,WP,bl,↓af,hn,h0,h1,<-B3,aq];refine(Lu hL base s1 jr jx ic D P p M o nH fp hlen q hq Cg).mono ?_;intro v s2 hG;by_cases cg:285<q
 ·rw[a3 cg] at hG|-
  obtain⟨-,⟨n,rfl⟩,dg⟩:=hG;simp only[aj,ak,al,oneOf,QM,WP,↓af,hn,cQ,cR,av (show¬((4:ao):ax)=0 by decide),bt];exact⟨by decide,rfl,eG _ _ (k1.trans (qH dg))⟩
 rw[a0 cg] at hG|-
 cases hx:zn D q p with
 |error e=>
  rw[hx] at hG;obtain⟨he,⟨n,rfl⟩,dg⟩:=hG;have c0:¬(e:ax)=0:=by omega
  simp only[aj,ak,al,oneOf,QM,WP,↓af,hn,cQ,cR,av c0,bt];rw[nK];exact⟨he,rfl,eG _ _ (k1.trans (qH dg))⟩
 |ok a=>
 obtain⟨n,q2⟩:=a;rw[hx] at hG;obtain⟨rfl,iq,kR⟩:=hG;rw[iS];dsimp only;have akn:n<=1000:=by
  unfold zn at hx;cases hy:dW D p (jz q) with
  |error e=>rw[hy] at hx;cases hx
  |ok y=>
   rw[hy] at hx;injection hx with hx;injection hx with hx _;have:=(oe hy).2;have m3:=cY D p (jz q);rw[<-hx];exact Li (by omega) (by omega)
 have k2:=k1.trans (qH kR);have dr:base<=s2.next:=by have:=kR.next;omega
 have afM:=gX PL kR.next (kR.get jb PL.lt (by omega) (by omega));have hS2:=(hS.rto hSo k1).to kR;have r0:=iq.t.load (P:=an) gC (off:=0) (c:=4) rfl (by simp);simp only[aj,ak,QM,WP,↓af,hn,cQ,cR];obtain⟨A,hA⟩:∃A:ao->Bool,A=fun j=>decide (j<s2.next):=⟨_,rfl⟩
 have gu:∀j,A j=true->j<s2.next:=by
  intro j h;rw[hA] at h;exact cp h
 have oO:∀j,j<s2.next->A j=true:=fun j h=>by rw[hA];exact b7 h
 have js:=aw.spare s2 0;have Fo:(spare s2 0).next=s2.next+0:=bu _ _;have zl:=iq.keeps dr js;have hbq:=afM.keeps js;have lr:∀k,LA.di A (some (.pointer (some ⟨jr,k,some 4⟩)))=true:=fun k=>LA.bN (A:=A) (i:=jr) (oO _ iq.t.lt)
 have lb:∀k,LA.di A (some (.pointer (some ⟨jb,k,some 18⟩)))=true:=fun k=>LA.bN (A:=A) (i:=jb) (oO _ afM.lt)
 have r0q:=zl.t.load (P:=an) gC (off:=0) (c:=4) rfl (by simp);have EZ:=hbq.bd (P:=an) dy (by rw[aq];exact bB) (c:=18) (by rw[aq]);have kq:eZ jx ic s2 (spare s2 0):=⟨by omega,fun i hi _ _=>js.get i hi⟩;refine LB.cN.dx A gu 0 0 (by kernel_rfl) (by kernel_rfl) ?_;simp only[aj,ak,bg,bn,dc,ad,QM,WP,↓af,hn,h0,lG,r0q,EZ,lr,lb,ky B hS2.1];refine(EU hL base (spare s2 0) jx ic D q2 zl.bit (by omega) hlen B sv (hS2.to kq) Em).mono ?_;intro v s3 hY;refine⟨fun h=>h.elim,?_⟩;cases hy:sym D B q2 with
 |error e=>
  rw[hy] at hY;obtain⟨he,rfl,dg⟩:=hY;have c0:¬(e:ax)=0:=by omega
  simp only[aj,ak,bg,bn,oneOf,QM,WP,↓af,aj,ak,al,oneOf,QM,WP,↓af,hn,cQ,cR,lH,av c0,bt];rw[nK];exact⟨he,rfl,eG _ _ (k2.trans (qH (kq.trans dg)))⟩
 |ok c=>
 obtain⟨c,q3⟩:=c;rw[hy] at hY;obtain⟨rfl,JF,jT⟩:=hY;rw[iS];dsimp only;have uU:=zl.bits JF jT;have k3:=k2.trans (qH (kq.trans jT));have FJ:base<=s3.next:=by have:=jT.next;omega
 by_cases cc:30<=c
 ·have d1:((c:ao):ax)>=30:=by omega
  rw[a3 cc];simp only[aj,ak,bg,bn,oneOf,QM,WP,↓af,aj,ak,al,oneOf,QM,WP,↓af,hn,cQ,cR,lH,a8 d1,bt];exact⟨by decide,rfl,eG _ _ k3⟩
 have d1:¬((c:ao):ax)>=30:=by omega
 rw[a0 cc];simp only[aj,ak,bg,bn,ad,QM,WP,↓af,aj,ak,ad,QM,WP,↓af,hn,h0,cQ,cR,lH,av d1];refine(BE hL base s3 jr jx ic D P q3 M o uU FJ hlen c 2 1 (.inr ⟨rfl,by omega⟩) (by omega)).mono ?_;rw[Oe D JF.le];intro v s4 hG4;cases hz:HZ D c q3 with
 |error e=>
  rw[hz] at hG4;obtain⟨he,⟨n',rfl⟩,dg⟩:=hG4;have c0:¬(e:ax)=0:=by omega
  simp only[aj,ak,al,oneOf,QM,WP,↓af,hn,cQ,cR,av c0,bt];rw[nK];exact⟨he,rfl,eG _ _ (k3.trans (qH dg))⟩
 |ok b=>
 obtain⟨d,q4⟩:=b;rw[hz] at hG4;obtain⟨rfl,rO,pQ⟩:=hG4;rw[iS];dsimp only;have k4:=k3.trans (qH pQ);have FK:base<=s4.next:=by have:=pQ.next;omega
 have yp:1<=d:=by
  unfold HZ at hz;cases hy:dW D q3 (lW c) with
  |error e=>rw[hy] at hz;cases hz
  |ok y=>
   rw[hy] at hz;injection hz with hz;injection hz with hz _;rw[<-hz];unfold nm;split<;>omega
 have r2:=rO.t.load (P:=an) gJ (off:=2) (c:=4) rfl (by simp);have BA:=rO.own.aL.aQ (P:=an) c9 (s2:=s4);by_cases cd:P.length<d
 ·have d2:((d:ao):ax)>((P.length:ao):ax):=by omega
  rw[a3 cd];simp only[aj,ak,al,oneOf,ad,QM,WP,↓af,hn,h0,cQ,cR,BD,r2,BA,a8 d2,bt];exact⟨by decide,rfl,eG _ _ k4⟩
 have d2:¬((d:ao):ax)>((P.length:ao):ax):=by omega
 rw[a0 cd];simp only[aj,ak,ad,QM,WP,↓af,hn,h0,cQ,cR,BD,r2,BA,av d2];refine Comes.bD (fun z f t=>∃(i:ao) (P1:bk ca) (o1:aC),z=n-i/\i<=n/\rep m d (n-i) P1=rep m d n P/\d<=P1.length/\P1.length<=m/\Rs base t jr jx ic D q4 P1 M o1/\vJ jr jx ic o s o1 t/\base<=t.next/\f.n=72/\f.get 0=lZ jr/\f.get 9= .int .i64 (d:ao)/\f.get 50= .int .i64 (n:ao)/\f.get 51= .int .i64 (i:ao))
  (fun z f t=>f.n=72/\((z= .exit 0/\∃(P1:bk ca) (o1:aC),rep m d n P= .ok P1/\Rs base t jr jx ic D q4 P1 M o1/\vJ jr jx ic o s o1 t)\/(z= .ret/\∃e:ao,rep m d n P= .error e/\0<e/\f.get 6= .int .i64 (e:ao)/\aw base s t)))
  ⟨0,P,o,rfl,by omega,rfl,by omega,zD,rO,k4,FK,by simp only[aa,ag,↓af,WP,hn,h0,c8];rfl⟩ ?_ ?_
 rotate_left
 ·clear hn h0 h1 h2 f;rintro z f t ⟨hn,(⟨rfl,P1,o1,B8,hR,dg⟩|⟨rfl,e,B8,he,h6,aF⟩)⟩
  ·simp only[aj,al,oneOf,QM,↓af,hn,bt];rw[B8];exact⟨rfl,o1,hR,dg⟩
  simp only[aj,al,oneOf,QM,↓af,hn,h6,bt];rw[B8];exact⟨he,rfl,aF⟩
 clear hn h0 h1 h2 f r2 BA;rintro Q hQ z f t ⟨i,P1,o1,rfl,hi,B8,hdP,hP1,hR,dg,zC,hn,h0,h9,h50,h51⟩;by_cases tm:i<n;rotate_left
 ·obtain rfl:i=n:=by omega
  have e1:¬((i:ao):ax)<((i:ao):ax):=by omega
  rw[ea,rep] at B8;simp only[aj,QM,↓af,hn,h50,h51,av e1];exact hQ _ _ _ ⟨by simp only[ag,hn],.inl ⟨rfl,P1,o1,B8.symm,hR,dg⟩⟩
 have e1:((i:ao):ax)<((n:ao):ax):=by omega
 rw[show n-i=(n-(i+1))+1 by omega,rep] at B8;simp only[aj,QM,↓af,hn,h50,h51,a8 e1];obtain⟨A2,Bf⟩:∃A:ao->Bool,A=fun j=>decide (j<t.next):=⟨_,rfl⟩
 have Jq:∀j,A2 j=true->j<t.next:=by
  intro j h;rw[Bf] at h;exact cp h
 have Lv:∀j,j<t.next->A2 j=true:=fun j h=>by rw[Bf];exact b7 h
 refine LB.cN.dx A2 Jq 0 0 (by kernel_rfl) (by kernel_rfl) ?_;have js:=aw.spare t 0;have Fo:(spare t 0).next=t.next+0:=bu _ _;have kq:vJ jr jx ic o1 t o1 (spare t 0):=⟨by omega,fun i hi _ _ _ _=>js.get i hi,.inl rfl⟩;have lr:∀k,LA.di A2 (some (.pointer (some ⟨jr,k,some 4⟩)))=true:=fun k=>LA.bN (A:=A2) (i:=jr) (Lv _ hR.t.lt)
 have lE:=fun k=>LA.gh hR.own.aL Lv (k:=k)
 have lL:=LA.rB hR.own.aL;have zl:=hR.keeps zC js;have r2:=zl.t.load (P:=an) gJ (off:=2) (c:=4) rfl (by simp);have Vg:=zl.own.aL.aQ (P:=an) c9 (s2:=spare t 0);have fk:P1.length-d<P1.length:=by omega
 have jK:=zl.own.aL.indexAddr (P:=an) (k:= .i64) (x:=((P1.length-d:ao):ax)) c9 cO (by omega) (by omega);rw[bq] at jK;have k1:=zl.own.aL.cu (P:=an) gQ fk;rw[aW fk] at k1;have e2:((P1.length:ao):ax)-(d:ax)=((P1.length-d:ao):ax):=by omega
 simp(disch:=omega)only[aj,ak,bg,bn,dc,ad,QM,WP,↓af,hn,h0,h9,BD,r2,lr,lE,lL,Vg,hR.own.self,aB,e2,jK,k1];refine(EW hL base (spare t 0) jr jx ic D P1 q4 m M hM (P1.getD (P1.length-d) 0) o1 zl (by omega) (by omega)).mono ?_;intro v t6 hO;refine⟨fun h=>h.elim,?_⟩;by_cases cm:m<=P1.length
 ·rw[a3 cm] at hO B8;obtain⟨-,rfl,cU⟩:=hO;simp only[aj,ak,QM,WP,↓af,aj,ak,QM,WP,↓af,hn,av (show¬((7:ao):ax)=0 by decide)];exact hQ _ _ _ ⟨by simp only[ag,hn],.inr ⟨rfl,7,B8.symm,by decide,by simp only[aa,↓af],(eG _ _ (dg.trans kq)).trans cU⟩⟩
 rw[a0 cm] at hO B8;obtain⟨rfl,o6,hR6,Ct⟩:=hO;simp(disch:=omega)only[aj,ak,QM,WP,↓af,aj,ak,QM,WP,↓af,hn,h51,aB];have n6:=Ct.next;exact ar (n-(i+1)) (by omega) ⟨i+1,_,o6,rfl,by omega,B8,by rw[a1];omega,by rw[a1,ch];omega,hR6,dg.trans (kq.trans Ct),by omega,by simp only[ag,hn],by simp only[aa,↓af,WP,h0],by simp only[aa,↓af,WP,h9],by simp only[aa,↓af,WP,h50],by simp only[aa,↓af];rfl⟩
def Og (jr jx ic:ao)(o:aC)(s:au)(j:ao)(C:bk ao):Prop:=∃sv,az s j (bC C sv)/\B9 jx ic s sv C/\(∀i,aI sv=some i->i≠jr/\aI o≠some i)/\j≠jr/\j≠jx/\j≠ic/\aI o≠some j
theorem Og.to {jr jx ic j:ao}{o o' :aC}{s s' :au}{C:bk ao}(h:Og jr jx ic o s j C)(k:vJ jr jx ic o s o' s'):Og jr jx ic o' s' j C:=by
 obtain⟨sv,h1,h2,h3,h4,h5,h6,h7⟩:=h;have key:∀i,i<s.next->aI o≠some i->aI o' ≠some i:=fun i hi cE=>by
  rcases k.id with e|⟨q,e,hq⟩
  ·rw[e];exact cE
  rw[e];intro e2;injection e2 with e2;omega
 exact⟨sv,gX h1 k.next (k.get j h1.lt h4 h5 h6 h7),h2.rto h3 k,fun i hi=>⟨(h3 i hi).1,key i (h2.2 i hi).1 (h3 i hi).2⟩,h4,h5,h6,key j h1.lt h7⟩
theorem E4 {lib:aD}(hL:Jm lib)(base:ao)(s:au)(jr jx ic:ao)(D P0:bk ca)(p0 m N:ao)(M:ax)(hM:m=M.toNat)(o:aC)(h:Rs base s jr jx ic D p0 P0 M o)(hb:base<=s.next)(hlen:D.length<=4000000)(zD:P0.length<=m)(hm:m<=100000000)(hN:8*D.length<N)(va vb:aC)(A B:bk ao)(hA:Of jr jx ic o s va A)(hB:Of jr jx ic o s vb B)(gu:A.length<=300)(Em:B.length<=1000):
  Runs an lib 190 [lZ jr,va,vb] s fun v s' =>Jn base jr jx ic D M o s v s' (iP D m A B N p0 P0):=by
 obtain⟨sa,rfl,hSa,afP⟩:=hA;obtain⟨sb,rfl,hSb,afQ⟩:=hB;have a7:=h.bit.lt;have Yj:=h.t.lt;have r8:∀i,aI o=some i->i<s.next:=fun i hi=>h.own.ei i hi
 refine Runs.enter 39 Tryz.func190 rfl (hL _ rfl) rfl rfl ?_;intro f hn hf;have h0:f.get 0=lZ jr:=hf 0;have h1:f.get 1= .agg (bC A sa).toArray:=hf 1;have h2:f.get 2= .agg (bC B sb).toArray:=hf 2;clear hf;simp only[aj,QM,↓af,hn,h1];refine aA ?_;intro s1 iy aY gG;obtain⟨ja,SC⟩:∃j,j=s.next:=⟨_,rfl⟩
 rw[<-SC] at iy;simp only[aj,QM,WP,bl,↓af,hn,h2,<-SC,aq];refine aA ?_;intro s2 wi aR jD;obtain⟨jb,B3⟩:∃j,j=s1.next:=⟨_,rfl⟩
 rw[<-B3] at wi;have og:aw s.next s s2:=aY.trans (aR.weaken (by omega));have k2:vJ jr jx ic o s o s2:=(vJ.refl jr jx ic o s).kept og;have iq:=h.keeps hb og;have cA:Og jr jx ic o s2 ja A:=⟨sa,iy.keeps aR,hSa.rto afP k2,afP,by omega,by omega,by omega,fun e=>by have:=r8 _ e;omega⟩;have cB:Og jr jx ic o s2 jb B:=⟨sb,wi,hSb.rto afQ k2,afQ,by omega,by omega,by omega,fun e=>by have:=r8 _ e;omega⟩;obtain⟨R,hR⟩:∃R,R=iP D m A B N p0 P0:=⟨_,rfl⟩
 rw[<-hR];have eG:∀o' t,vJ jr jx ic o s o' t->aw base s t:=fun o' t k=>k.stay h.lr a7.2.2.1 a7.2.2.2.1 h.fresh hb
 simp only[aj,QM,bl,↓af,hn,<-B3,aq];refine Comes.bD (fun z f t=>∃(p:ao) (P:bk ca) (o1:aC),iP D m A B z p P=R/\8*D.length<p+z/\P.length<=m/\Rs base t jr jx ic D p P M o1/\vJ jr jx ic o s o1 t/\Og jr jx ic o1 t ja A/\Og jr jx ic o1 t jb B/\base<=t.next/\f.n=39/\f.get 0=lZ jr/\f.get 4= .pointer (some ⟨ja,0,some 18⟩)/\f.get 5= .pointer (some ⟨jb,0,some 18⟩))
  (fun z f t=>z= .ret/\f.n=39/\∃v,f.get 6=v/\Jn base jr jx ic D M o s v t R)
  ⟨p0,P0,o,hR.symm,by omega,zD,iq,k2,cA,cB,by omega,by simp only[aa,ag,↓af,WP,hn,h0,cX]⟩ ?_ ?_
 rotate_left
 ·clear hn h0 h1 h2 f;rintro z f t ⟨rfl,hn,v,h6,hO⟩;simp only[aj,al,oneOf,QM,↓af,hn,h6,Tryz.results190];exact hO
 clear hn h0 h1 h2 f cA cB iq iy wi k2;rintro Q hQ z f t ⟨p,P,o1,hz,hpz,zD,Gf,dg,cA,cB,zC,hn,h0,h4,h5⟩;have BS:=Gf.bit.le;obtain⟨k,rfl⟩:∃k,z=k+1:=⟨z-1,by omega⟩
 rw[iP] at hz;have cA0:=cA;obtain⟨xa,hca,hxa,apS,-,-,-,-⟩:=cA0;simp only[aj];obtain⟨A2,Bf⟩:∃A:ao->Bool,A=fun j=>decide (j<t.next):=⟨_,rfl⟩
 have Jq:∀j,A2 j=true->j<t.next:=by
  intro j h;rw[Bf] at h;exact cp h
 have Lv:∀j,j<t.next->A2 j=true:=fun j h=>by rw[Bf];exact b7 h
 have js:=aw.spare t 0;have Fo:(spare t 0).next=t.next+0:=bu _ _;have zl:=Gf.keeps zC js;have hcq:=hca.keeps js;have kq:eZ jx ic t (spare t 0):=⟨by omega,fun i hi _ _=>js.get i hi⟩;have lr:∀k,LA.di A2 (some (.pointer (some ⟨jr,k,some 4⟩)))=true:=fun k=>LA.bN (A:=A2) (i:=jr) (Lv _ Gf.t.lt)
 have lb:∀k,LA.di A2 (some (.pointer (some ⟨ja,k,some 18⟩)))=true:=fun k=>LA.bN (A:=A2) (i:=ja) (Lv _ hca.lt)
 have r0q:=zl.t.load (P:=an) gC (off:=0) (c:=4) rfl (by simp);have EZ:=hcq.bd (P:=an) dy (by rw[aq];exact bB) (c:=18) (by rw[aq]);refine LB.cN.dx A2 Jq 0 0 (by kernel_rfl) (by kernel_rfl) ?_;simp only[aj,ak,bg,bn,dc,ad,QM,WP,↓af,hn,h0,h4,lG,r0q,EZ,lr,lb,ky A hxa.1];refine(EU hL base (spare t 0) jx ic D p zl.bit (by omega) hlen A xa (hxa.to kq) (by omega)).mono ?_;intro v t3 hY;refine⟨fun h=>h.elim,?_⟩;cases hy:sym D A p with
 |error e=>
  rw[hy] at hY hz;obtain⟨he,rfl,pF⟩:=hY;have c0:¬(e:ax)=0:=by omega
  simp only[aj,ak,bg,bn,QM,WP,↓af,aj,ak,QM,WP,↓af,hn,cQ,cR,lH,av c0];exact hQ _ _ _ ⟨rfl,by simp only[ag,hn],_,by simp only[aa,↓af];rfl,by rw[<-hz];exact⟨he,rfl,eG _ _ (dg.trans (qH (kq.trans pF)))⟩⟩
 |ok y=>
 obtain⟨x,q⟩:=y;rw[hy] at hY hz;obtain⟨rfl,JF,jT⟩:=hY;have Hl:=sG hy;have uU:=zl.bits JF jT;have SD:vJ jr jx ic o1 t o1 t3:=qH (kq.trans jT);have k3:=dg.trans SD;have FJ:base<=t3.next:=by have:=jT.next;omega
 dsimp only at hz;by_cases cx:x=256
 ·have d1:((x:ao):ax)=256:=by omega
  rw[a3 cx] at hz;simp only[aj,ak,bg,bn,QM,WP,↓af,aj,ak,QM,WP,↓af,hn,cQ,cR,lH,a8 d1];exact hQ _ _ _ ⟨rfl,by simp only[ag,hn],_,by simp only[aa,↓af];rfl,by rw[<-hz];exact⟨rfl,o1,uU,k3⟩⟩
 have d1:¬((x:ao):ax)=256:=by omega
 rw[a0 cx] at hz;by_cases cl:x<256
 ·have d2:((x:ao):ax)<256:=by omega
  rw[a3 cl] at hz;simp only[aj,ak,bg,bn,ad,QM,WP,↓af,aj,ak,ad,QM,WP,↓af,hn,h0,cQ,cR,lH,av d1,a8 d2,a9 eh ek,b0];refine(EW hL base t3 jr jx ic D P q m M hM (UInt8.ofNat x) o1 uU FJ (by omega)).mono ?_;intro v t4 hO;by_cases cm:m<=P.length
  ·rw[a3 cm] at hO hz;obtain⟨-,rfl,cU⟩:=hO;simp only[aj,ak,QM,WP,↓af,hn,av (show¬((7:ao):ax)=0 by decide)];exact hQ _ _ _ ⟨rfl,by simp only[ag,hn],_,by simp only[aa,↓af];rfl,by rw[<-hz];exact⟨by decide,rfl,(eG _ _ k3).trans cU⟩⟩
  rw[a0 cm] at hO hz;obtain⟨rfl,o6,hR6,Ct⟩:=hO;have kk:=SD.trans Ct;simp only[aj,ak,QM,↓af,hn];have n6:=Ct.next;exact ar k (by omega) ⟨q,_,o6,hz,by omega,by rw[a1,ch];omega,hR6,dg.trans kk,cA.to kk,cB.to kk,by omega,by simp only[aa,ag,↓af,WP,hn,h0,h4,h5,cX]⟩
 have d2:¬((x:ao):ax)<256:=by omega
 rw[a0 cl] at hz;have cB3:=cB.to SD;obtain⟨xb,Ce,hxb,ako,-,-,-,-⟩:=id cB3;have afR:=Ce.bd (P:=an) dy (by rw[aq];exact bB) (c:=18) (by rw[aq]);simp only[aj,ak,bg,bn,ad,QM,WP,↓af,aj,ak,ad,QM,WP,↓af,hn,h0,h5,cQ,cR,lH,av d1,av d2,afR];refine(RR hL base t3 jr jx ic D P q m M hM o1 uU FJ hlen zD hm x (by omega) (by omega) _ B ⟨xb,rfl,hxb,ako⟩ Em).mono ?_;intro v t4 hO;cases PK:vg D m B x q P with
 |error e=>
  rw[PK] at hO hz;obtain⟨he,rfl,cU⟩:=hO;have c0:¬(e:ax)=0:=by omega
  simp only[aj,ak,QM,WP,↓af,hn,av c0];exact hQ _ _ _ ⟨rfl,by simp only[ag,hn],_,by simp only[aa,↓af];rfl,by rw[<-hz];exact⟨he,rfl,(eG _ _ k3).trans cU⟩⟩
 |ok y=>
  obtain⟨r,P'⟩:=y;rw[PK] at hO hz;obtain⟨rfl,o6,hR6,Ct⟩:=hO;have kk:=SD.trans Ct;have iz:=Lg PK zD;simp only[aj,ak,QM,↓af,hn];have n6:=Ct.next;exact ar k (by omega) ⟨r,P',o6,hz,by omega,iz.2.2,hR6,dg.trans kk,cA.to kk,cB.to kk,by omega,by simp only[aa,ag,↓af,WP,hn,h0,h4,h5,cX]⟩
theorem ab1 {n k:ao}(hn:n<65536)(hk:k<65536):(b5.wrap (((bz b5.bits (n:ax)^^^bz b5.bits (k:ax)).toNat:ao):ax)=65535)=(n+k=65535):=by
 have e1:b5.bits=64:=rfl;rw[e1];have hx:(bz 64 (n:ax)^^^bz 64 (k:ax)).toNat=n^^^k:=by
  rw[ds,cD,cD,bA,bA,b8 (by omega),b8 (by omega)]
 have a7:n^^^k<65536:=dT (n:=16) hn hk;rw[hx,aB (by omega)];have key:(65535^^^k)=65535-k:=by
  have:=Y9 (m:=k) hk;rw[e1,aB (by
   rw[ds,cD];have e2:(bz 64 65535)=ev 64 65535:=rfl;rw[e2,bA,bA,b8 (by omega),b8 (by omega)];have:k^^^65535<2^16:=dT (n:=16) hk (by omega);have:(2:ao)^16=65536:=by decide
   omega)] at this
  rw[ds,cD] at this;have e2:(bz 64 65535)=ev 64 65535:=rfl;rw[e2,bA,bA,b8 (by omega),b8 (by omega)] at this;rw[Nat.xor_comm];omega
 refine propext ⟨fun h=> ?_,fun h=> ?_⟩
 ·have h:n^^^k=65535:=by omega
  have:n=65535^^^k:=by rw[<-h,eu,ey,eA]
  omega
 have:n=65535^^^k:=by omega
 rw[this,eu,ey,eA];rfl
theorem ab2 {base:ao}{s:au}{jx ic:ao}{D:bk ca}{a:ao}(h:jO base s jx ic D (8*a)):∃now,RB base s jx ic D (8*a) a now 0:=by
 obtain⟨q,now,left,h,h7⟩:=h;have he:=h.e;obtain rfl:left=0:=by omega
 obtain rfl:q=a:=by omega
 exact⟨now,h⟩
theorem Lw {lib:aD}(hL:Jm lib)(base:ao)(s:au)(jr jx ic:ao)(D P:bk ca)(p m:ao)(M:ax)(hM:m=M.toNat)(o:aC)(h:Rs base s jr jx ic D p P M o)(hb:base<=s.next)(hlen:D.length<=4000000)(zD:P.length<=m)(hm:m<=100000000):
  Runs an lib 188 [lZ jr] s fun v s' =>Jn base jr jx ic D M o s v s' (gB D m p P):=by
 obtain⟨a,ha⟩:∃a,a=(p+7)/8:=⟨_,rfl⟩
 have BS:=h.bit.le;have a7:=h.bit.lt;have eG:∀o' t,vJ jr jx ic o s o' t->aw base s t:=fun o' t k=>k.stay h.lr a7.2.2.1 a7.2.2.2.1 h.fresh hb
 refine Runs.enter 60 Tryz.func188 rfl (hL _ rfl) rfl rfl ?_;intro f hn hf;have h0:f.get 0=lZ jr:=hf 0;clear hf;have r0:=h.t.load (P:=an) gC (off:=0) (c:=4) rfl (by simp);simp only[aj,ak,ad,QM,WP,↓af,hn,h0,lG,r0];refine(RC (hL _ rfl) base s jx ic D p h.bit hb).mono ?_;rintro _ s1 ⟨ua,mZ⟩;rw[<-ha] at ua;have nH:=h.bits ua mZ;have fp:base<=s1.next:=by have:=mZ.next;omega
 have r0:=nH.t.load (P:=an) gC (off:=0) (c:=4) rfl (by simp);unfold gB;rw[<-ha];simp only[aj,ak,ad,QM,WP,↓af,hn,h0,lG,r0];refine(fU hL base s1 jx ic D (8*a) 16 ua fp (by omega) hlen).mono ?_;intro v s2 hN;by_cases c1:8*a+16<=8*D.length;rotate_left
 ·rw[dO c1] at hN;obtain⟨-,rfl,dg⟩:=hN;rw[a0 (show¬8*a+32<=8*D.length by omega)];simp only[aj,ak,al,oneOf,QM,WP,↓af,hn,cQ,cR,av (show¬(2:ax)=0 by decide),cT];exact⟨by decide,rfl,eG _ _ (qH (mZ.trans dg))⟩
 rw[dn c1] at hN;obtain⟨rfl,kQ,kR⟩:=hN;have iq:=nH.bits kQ kR;have kR:=mZ.trans kR;have dr:base<=s2.next:=by have:=kR.next;omega
 have r0:=iq.t.load (P:=an) gC (off:=0) (c:=4) rfl (by simp);have vL:=cY D (8*a) 16;obtain⟨n,zR⟩:∃n,n=bY D (8*a) 16:=⟨_,rfl⟩
 rw[<-zR] at vL|-
 have ajP:(2:ao)^16=65536:=by decide
 simp only[aj,ak,ad,QM,WP,↓af,hn,h0,cQ,cR,lG,r0];refine(fU hL base s2 jx ic D (8*a+16) 16 kQ dr (by omega) hlen).mono ?_;intro v s3 hN;by_cases c2:8*a+16+16<=8*D.length;rotate_left
 ·rw[dO c2] at hN;obtain⟨-,rfl,dg⟩:=hN;rw[a0 (show¬8*a+32<=8*D.length by omega)];simp only[aj,ak,al,oneOf,QM,WP,↓af,hn,cQ,cR,av (show¬(2:ax)=0 by decide),cT];exact⟨by decide,rfl,eG _ _ (qH (kR.trans dg))⟩
 rw[dn c2] at hN;obtain⟨rfl,JF,jT⟩:=hN;have uU:=iq.bits JF jT;have jT:=kR.trans jT;have FJ:base<=s3.next:=by have:=jT.next;omega
 have hkl:=cY D (8*a+16) 16;obtain⟨k,xX⟩:∃k,k=bY D (8*a+16) 16:=⟨_,rfl⟩
 rw[<-xX] at hkl|-
 rw[a3 (show 8*a+32<=8*D.length by omega)];have hx:=ab1 (n:=n) (k:=k) (by omega) (by omega);by_cases cx:n+k=65535;rotate_left
 ·rw[a0 cx];have hx:(b5.wrap (((bz b5.bits (n:ax)^^^bz b5.bits (k:ax)).toNat:ao):ax)=65535)=False:=by rw[hx];exact av cx
  simp only[aj,ak,al,oneOf,QM,WP,↓af,hn,cQ,cR,Ck,hx,cT];exact⟨by decide,rfl,eG _ _ (qH jT)⟩
 rw[a3 cx];have hx:(b5.wrap (((bz b5.bits (n:ax)^^^bz b5.bits (k:ax)).toNat:ao):ax)=65535)=True:=by rw[hx];exact a8 cx
 rw[show 8*a+16+16=8*(a+4) by omega] at uU;simp only[aj,ak,QM,WP,↓af,hn,cQ,cR,Ck,hx];refine Comes.bD (fun z f t=>∃(i:ao) (P1:bk ca) (o1:aC),z=n-i/\i<=n/\tz D m (n-i) (a+4+i) P1=tz D m n (a+4) P/\P1.length<=m/\Rs base t jr jx ic D (8*(a+4+i)) P1 M o1/\vJ jr jx ic o s o1 t/\base<=t.next/\f.n=60/\f.get 0=lZ jr/\f.get 39= .int .i64 (n:ao)/\f.get 40= .int .i64 (i:ao))
  (fun z f t=>f.n=60/\((z= .exit 0/\∃(q:ao) (P1:bk ca) (o1:aC),tz D m n (a+4) P= .ok (q,P1)/\Rs base t jr jx ic D q P1 M o1/\vJ jr jx ic o s o1 t)\/(z= .ret/\∃e:ao,tz D m n (a+4) P= .error e/\0<e/\f.get 2= .int .i64 (e:ao)/\aw base s t)))
  ⟨0,P,o,rfl,by omega,rfl,zD,uU,qH jT,FJ,by simp only[aa,ag,↓af,WP,hn,h0,c8];rfl⟩ ?_ ?_
 rotate_left
 ·clear hn h0 f;rintro z f t ⟨hn,(⟨rfl,q,P1,o1,B8,hR,dg⟩|⟨rfl,e,B8,he,h2,aF⟩)⟩
  ·simp only[aj,al,oneOf,QM,↓af,hn,cT];rw[B8];exact⟨rfl,o1,hR,dg⟩
  simp only[aj,al,oneOf,QM,↓af,hn,h2,cT];rw[B8];exact⟨he,rfl,aF⟩
 clear hn h0 f r0 nH iq uU ua kQ JF mZ kR jT;rintro Q hQ z f t ⟨i,P1,o1,rfl,hi,aF,hP1,hR,dg,zC,hn,h0,Oa,PS⟩;by_cases tm:i<n;rotate_left
 ·obtain rfl:i=n:=by omega
  have e1:¬((i:ao):ax)<((i:ao):ax):=by omega
  rw[ea,tz] at aF;simp only[aj,QM,↓af,hn,Oa,PS,av e1];exact hQ _ _ _ ⟨by simp only[ag,hn],.inl ⟨rfl,_,P1,o1,aF.symm,hR,dg⟩⟩
 have e1:((i:ao):ax)<((n:ao):ax):=by omega
 rw[show n-i=(n-(i+1))+1 by omega,tz] at aF;obtain⟨now,RS⟩:=ab2 hR.bit;have hcp:a+4+i<=D.length:=RS.c.choose_spec.2.2.2;have r0:=hR.t.load (P:=an) gC (off:=0) (c:=4) rfl (by simp);have g0:=RS.t.load (P:=an) ED (off:=0) (c:=4) rfl (by simp);simp only[aj,ak,ad,QM,WP,↓af,hn,h0,Oa,PS,a8 e1,lG,r0,u9,g0];refine(zd (hL _ rfl) (hL _ rfl) (hL _ rfl) (hL _ rfl) (hL _ rfl) base t ic D (a+4+i) RS.c zC (by omega)).mono ?_;rintro _ t3 ⟨rfl,qO,jE⟩;have kb:eZ jx ic t t3:=eZ.turns jE;by_cases r3:a+4+i<D.length;rotate_left
 ·rw[a0 r3] at aF;have oC:fT D ((a+4+i:ao):ax)= -1:=by unfold fT;rw[a0 (by omega)]
  simp only[aj,QM,↓af,hn,oC,a8 (show(-1:ax)<0 by decide)];exact hQ _ _ _ ⟨by simp only[ag,hn],.inr ⟨rfl,2,aF.symm,by decide,by simp only[aa,↓af];rfl,eG _ _ (dg.trans (qH kb))⟩⟩
 rw[a3 r3] at aF;have NW:=(D.getD (a+4+i) 0).toNat_lt;have oC:fT D ((a+4+i:ao):ax)=((D.getD (a+4+i) 0).toNat:ax):=by unfold fT;rw[a3 (by omega),bq]
 have x9:IntKind.u8.wrap (((D.getD (a+4+i) 0).toNat:ao):ax)=(((D.getD (a+4+i) 0).toNat:ao):ax):=by rw[fO];omega
 have d1:¬(((D.getD (a+4+i) 0).toNat:ao):ax)<0:=by omega
 rw[Nat.min_eq_left (by omega)] at qO;have Xm:jO base t3 jx ic D (8*(a+4+(i+1))):=⟨a+4+i+1,now,0,⟨qO,RS.t.turns jE (fv (fun e=>RS.ne e.symm)),by omega,by omega,fun h=>by omega,RS.now,RS.lx,RS.lc,RS.ne⟩,by omega⟩;have rO:=hR.bits Xm kb;have FK:base<=t3.next:=by have:=kb.next;omega
 simp only[aj,ak,ad,QM,WP,↓af,hn,h0,oC,av d1,a9 eh ek,x9];refine(EW hL base t3 jr jx ic D P1 _ m M hM (D.getD (a+4+i) 0) o1 rO FK (by omega)).mono ?_;intro v t6 hO;by_cases cm:m<=P1.length
 ·rw[a3 cm] at hO aF;obtain⟨-,rfl,cU⟩:=hO;simp only[aj,ak,QM,WP,↓af,hn,av (show¬((7:ao):ax)=0 by decide)];exact hQ _ _ _ ⟨by simp only[ag,hn],.inr ⟨rfl,7,aF.symm,by decide,by simp only[aa,↓af],(eG _ _ (dg.trans (qH kb))).trans cU⟩⟩
 rw[a0 cm] at hO aF;obtain⟨rfl,o6,hR6,Ct⟩:=hO;simp(disch:=omega)only[aj,ak,QM,WP,↓af,hn,PS,aB];have n6:=Ct.next;exact ar (n-(i+1)) (by omega) ⟨i+1,_,o6,rfl,by omega,aF,by rw[a1,ch];omega,hR6,dg.trans ((qH kb).trans Ct),by omega,by simp only[ag,hn],by simp only[aa,↓af,WP,h0],by simp only[aa,↓af,WP,Oa],by simp only[aa,↓af];rfl⟩
theorem Lx (a b c d:aC):aH (.tuple #[a,b,c,d]) 0=some a:=rfl
theorem Vy (a b c d:aC):aH (.tuple #[a,b,c,d]) 1=some b:=rfl
theorem Vz (a b c d:aC):aH (.tuple #[a,b,c,d]) 2=some c:=rfl
theorem VA (a b c d:aC):aH (.tuple #[a,b,c,d]) 3=some d:=rfl
theorem Ly (a b c:aC):aH (.tuple #[a,b,c]) 0=some a:=rfl
theorem LD (a b c:aC):aH (.tuple #[a,b,c]) 1=some b:=rfl
theorem LF (a b c:aC):aH (.tuple #[a,b,c]) 2=some c:=rfl
def afS (base jr jx ic:ao)(D P:bk ca)(p:ao)(M:ax)(o:aC)(s:au)(v:aC)(s' :au):eg ao (ao×ao×ao)->Prop
 | .ok (n,d,k)=>v= .tuple #[.int .i64 (n:ao),.int .i64 (d:ao),.int .i64 (k:ao),.int .i64 0]/\Rs base s' jr jx ic D (p+14) P M o/\eZ jx ic s s'
 | .error e=>0<e/\(∃a b c,v= .tuple #[.int .i64 a,.int .i64 b,.int .i64 c,.int .i64 (e:ao)])/\eZ jx ic s s'
theorem RT {lib:aD}(hL:Jm lib)(base:ao)(s:au)(jr jx ic:ao)(D P:bk ca)(p:ao)(M:ax)(o:aC)(h:Rs base s jr jx ic D p P M o)(hb:base<=s.next)(hlen:D.length<=4000000):
  Runs an lib 217 [lZ jr] s fun v s' =>afS base jr jx ic D P p M o s v s' (rR D p):=by
 refine Runs.enter 53 Tryz.func217 rfl (hL _ rfl) rfl rfl ?_;intro f hn hf;have h0:f.get 0=lZ jr:=hf 0;clear hf;have p5:(2:ao)^5=32:=by decide
 have p4:(2:ao)^4=16:=by decide
 have r0:=h.t.load (P:=an) gC (off:=0) (c:=4) rfl (by simp);have ne2:¬(2:ax)=0:=by decide
 unfold rR;simp only[aj,ak,ad,QM,WP,↓af,hn,h0,lG,r0];refine(fU hL base s jx ic D p 5 h.bit hb (by omega) hlen).mono ?_;intro v s1 hN;by_cases c1:p+5<=8*D.length;rotate_left
 ·rw[dO c1] at hN|-
  obtain⟨-,rfl,dg⟩:=hN;simp only[aj,ak,al,oneOf,QM,WP,↓af,hn,cQ,cR,av ne2,cb];exact⟨by decide,⟨_,_,_,rfl⟩,dg⟩
 rw[dn c1] at hN|-
 dsimp only;obtain⟨rfl,ua,mZ⟩:=hN;have Uf:=cY D p 5;generalize bY D p 5=n at Uf;have e1:(n:ax)+257=((n+257:ao):ax):=by omega
 by_cases cn:29<n
 ·have d1:((n+257:ao):ax)>286:=by omega
  rw[a3 cn];simp(disch:=omega)only[aj,ak,al,oneOf,QM,WP,↓af,hn,cQ,cR,aB,e1,a8 d1,cb];exact⟨by decide,⟨_,_,_,rfl⟩,mZ⟩
 have d1:¬((n+257:ao):ax)>286:=by omega
 rw[a0 cn];have nH:=h.bits ua mZ;have fp:base<=s1.next:=by have:=mZ.next;omega
 have r0:=nH.t.load (P:=an) gC (off:=0) (c:=4) rfl (by simp);simp(disch:=omega)only[aj,ak,ad,QM,WP,↓af,hn,h0,cQ,cR,aB,e1,av d1,lG,r0];refine(fU hL base s1 jx ic D (p+5) 5 ua fp (by omega) hlen).mono ?_;intro v s2 hN;by_cases c2:p+5+5<=8*D.length;rotate_left
 ·rw[dO c2] at hN|-
  obtain⟨-,rfl,dg⟩:=hN;simp only[aj,ak,al,oneOf,QM,WP,↓af,hn,cQ,cR,av ne2,cb];exact⟨by decide,⟨_,_,_,rfl⟩,mZ.trans dg⟩
 rw[dn c2] at hN|-
 dsimp only;obtain⟨rfl,kQ,kR⟩:=hN;have kR:=mZ.trans kR;have Uf:=cY D (p+5) 5;generalize bY D (p+5) 5=d at Uf;have e2:(d:ax)+1=((d+1:ao):ax):=by omega
 by_cases cd:29<d
 ·have d2:((d+1:ao):ax)>30:=by omega
  rw[a3 cd];simp(disch:=omega)only[aj,ak,al,oneOf,QM,WP,↓af,hn,cQ,cR,aB,e2,a8 d2,cb];exact⟨by decide,⟨_,_,_,rfl⟩,kR⟩
 have d2:¬((d+1:ao):ax)>30:=by omega
 rw[a0 cd];have iq:=h.bits kQ kR;have dr:base<=s2.next:=by have:=kR.next;omega
 have r0:=iq.t.load (P:=an) gC (off:=0) (c:=4) rfl (by simp);simp(disch:=omega)only[aj,ak,ad,QM,WP,↓af,hn,h0,cQ,cR,aB,e2,av d2,lG,r0];refine(fU hL base s2 jx ic D (p+5+5) 4 kQ dr (by omega) hlen).mono ?_;intro v s3 hN;rw[show p+10=p+5+5 by omega];by_cases c3:p+5+5+4<=8*D.length;rotate_left
 ·rw[dO c3] at hN|-
  obtain⟨-,rfl,dg⟩:=hN;simp only[aj,al,oneOf,QM,WP,↓af,hn,cQ,cR,e1,e2,cb];exact⟨by decide,⟨_,_,_,rfl⟩,kR.trans dg⟩
 rw[dn c3] at hN|-
 dsimp only;obtain⟨rfl,JF,jT⟩:=hN;have jT:=kR.trans jT;have FK:=cY D (p+5+5) 4;generalize bY D (p+5+5) 4=k at FK;have e3:(k:ax)+4=((k+4:ao):ax):=by omega
 simp(disch:=omega)only[aj,al,oneOf,QM,WP,↓af,hn,cQ,cR,aB,e1,e2,e3,cb];exact⟨rfl,h.bits JF jT,jT⟩
def akp (base jr jx ic:ao)(D P:bk ca)(M:ax)(o:aC)(s:au)(v:aC)(s' :au):eg ao (ao×ao×ao)->Prop
 | .ok (x,n,q)=>v= .tuple #[.int .i64 (x:ao),.int .i64 (n:ao),.int .i64 0]/\Rs base s' jr jx ic D q P M o/\eZ jx ic s s'
 | .error e=>0<e/\(∃a b,v= .tuple #[.int .i64 a,.int .i64 b,.int .i64 (e:ao)])/\eZ jx ic s s'
theorem Oh {lib:aD}(hL:Jm lib)(base:ao)(s:au)(jr jx ic:ao)(D P:bk ca)(p:ao)(M:ax)(o:aC)(h:Rs base s jr jx ic D p P M o)(hb:base<=s.next)(hlen:D.length<=4000000)(x:ao)(y:aC)(l:bk ao)(hy:Own s 1 y l.length (bm l))(zu:∀i,aI y=some i->i≠jx/\i≠ic)(Ie:l.length<=1000):
  Runs an lib 223 [lZ jr,.int .i64 (x:ao),y] s fun v s' =>akp base jr jx ic D P M o s v s' (oA D x p l):=by
 refine Runs.enter 65 Tryz.func223 rfl (hL _ rfl) rfl rfl ?_;intro f hn hf;have h0:f.get 0=lZ jr:=hf 0;have h1:f.get 1= .int .i64 (x:ao):=hf 1;have h2:f.get 2=y:=hf 2;clear hf;have p2:(2:ao)^2=4:=by decide
 have p3:(2:ao)^3=8:=by decide
 have p7:(2:ao)^7=128:=by decide
 have r0:=h.t.load (P:=an) gC (off:=0) (c:=4) rfl (by simp);unfold oA;by_cases Zy:x=16
 ·have d16:((x:ao):ax)=16:=by omega
  rw[a3 Zy];by_cases cl:l.length=0
  ·have d0:((l.length:ao):ax)=0:=by omega
   rw[a3 cl];simp only[aj,al,oneOf,ad,QM,WP,↓af,hn,h1,h2,a8 d16,hy.aL.aQ dS,a8 d0,bw];exact⟨by decide,⟨_,_,rfl⟩,eZ.refl _ _ _⟩
  have d0:¬((l.length:ao):ax)=0:=by omega
  rw[a0 cl];simp only[aj,ak,ad,QM,WP,↓af,hn,h0,h1,h2,a8 d16,hy.aL.aQ dS,av d0,lG,r0];refine(fU hL base s jx ic D p 2 h.bit hb (by omega) hlen).mono ?_;intro v s1 hN;have e1:((l.length:ao):ax)-1=((l.length-1:ao):ax):=by omega
  have Gr:∀t,eZ jx ic s t->bK an 134 y (.int .i64 ((l.length-1:ao):ax))=some (aX 1 y (l.length-1))/\aN an t 3 (aX 1 y (l.length-1))=some (.int .i64 ((l.getD (l.length-1) 0:ao):ax)):=fun t k=>by
   have JE:=EV hy k.next (fun i hi hl=>k.get i hl (zu i hi).1 (zu i hi).2);have i1:=JE.aL.indexAddr (P:=an) (k:= .i64) (x:=((l.length-1:ao):ax)) dS aV (by omega) (by omega);rw[bq] at i1;have k1:=JE.aL.cu (P:=an) aP (k:=l.length-1) (by omega);rw[fm (by omega)] at k1;exact⟨i1,k1⟩
  by_cases c1:p+2<=8*D.length
  ·rw[dn c1] at hN|-
   dsimp only;obtain⟨rfl,ua,mZ⟩:=hN;obtain⟨i1,k1⟩:=Gr s1 mZ;have m3:=cY D p 2;generalize bY D p 2=n at m3;have e3:(3:ax)+(n:ax)=((3+n:ao):ax):=by omega
   simp(disch:=omega)only[aj,al,oneOf,ad,QM,WP,↓af,hn,h2,cQ,cR,hy.aL.aQ dS,aB,e1,i1,k1,e3,bw];exact⟨rfl,h.bits ua mZ,mZ⟩
  rw[dO c1] at hN|-
  obtain⟨-,rfl,dg⟩:=hN;obtain⟨i1,k1⟩:=Gr s1 dg;simp(disch:=omega)only[aj,al,oneOf,ad,QM,WP,↓af,hn,h2,cQ,cR,hy.aL.aQ dS,aB,e1,i1,k1,bw];exact⟨by decide,⟨_,_,rfl⟩,dg⟩
 have d16:¬((x:ao):ax)=16:=by omega
 rw[a0 Zy];by_cases c17:x=17
 ·have d17:((x:ao):ax)=17:=by omega
  rw[a3 c17];simp only[aj,ak,ad,QM,WP,↓af,hn,h0,h1,av d16,a8 d17,lG,r0];refine(fU hL base s jx ic D p 3 h.bit hb (by omega) hlen).mono ?_;intro v s1 hN;by_cases c1:p+3<=8*D.length
  ·rw[dn c1] at hN|-
   dsimp only;obtain⟨rfl,ua,mZ⟩:=hN;have m3:=cY D p 3;generalize bY D p 3=n at m3;have e3:(3:ax)+(n:ax)=((3+n:ao):ax):=by omega
   simp(disch:=omega)only[aj,al,oneOf,QM,WP,↓af,hn,cQ,cR,aB,e3,bw];exact⟨rfl,h.bits ua mZ,mZ⟩
  rw[dO c1] at hN|-
  obtain⟨-,rfl,dg⟩:=hN;simp only[aj,al,oneOf,QM,WP,↓af,hn,cQ,cR,bw];exact⟨by decide,⟨_,_,rfl⟩,dg⟩
 have d17:¬((x:ao):ax)=17:=by omega
 rw[a0 c17];by_cases c18:x=18
 ·have d18:((x:ao):ax)=18:=by omega
  rw[a3 c18];simp only[aj,ak,ad,QM,WP,↓af,hn,h0,h1,av d16,av d17,a8 d18,lG,r0];refine(fU hL base s jx ic D p 7 h.bit hb (by omega) hlen).mono ?_;intro v s1 hN;by_cases c1:p+7<=8*D.length
  ·rw[dn c1] at hN|-
   dsimp only;obtain⟨rfl,ua,mZ⟩:=hN;have m3:=cY D p 7;generalize bY D p 7=n at m3;have e3:(11:ax)+(n:ax)=((11+n:ao):ax):=by omega
   simp(disch:=omega)only[aj,al,oneOf,QM,WP,↓af,hn,cQ,cR,aB,e3,bw];exact⟨rfl,h.bits ua mZ,mZ⟩
  rw[dO c1] at hN|-
  obtain⟨-,rfl,dg⟩:=hN;simp only[aj,al,oneOf,QM,WP,↓af,hn,cQ,cR,bw];exact⟨by decide,⟨_,_,rfl⟩,dg⟩
 have d18:¬((x:ao):ax)=18:=by omega
 rw[a0 c18];simp only[aj,al,oneOf,QM,WP,↓af,hn,h1,av d16,av d17,av d18,bw];exact⟨rfl,h,eZ.refl _ _ _⟩
def akq (base jr jx ic:ao)(D P:bk ca)(M:ax)(o:aC)(many:ao)(s:au)(v:aC)(s' :au):eg ao (bk ao×ao)->Prop
 | .ok (l,q)=>∃y,v= .tuple #[y,.int .i64 0]/\Own s' 1 y l.length (bm l)/\aM s.next y/\Rs base s' jr jx ic D q P M o/\eZ jx ic s s' /\sI l/\l.length=many
 | .error e=>0<e/\(∃w,v= .tuple #[w,.int .i64 (e:ao)])/\eZ jx ic s s'
theorem LG {D:bk ca}{s p:ao}{l:bk ao}{x n q:ao}(hs:s<=18)(hl:sI l)(h:oA D s p l= .ok (x,n,q)):n<=200/\x<=15:=by
 unfold oA at h;split at h
 ·split at h
  ·cases h
  cases h1:dW D p 2 with
  |error e=>rw[h1] at h;cases h
  |ok y=>
   rw[h1] at h;injection h with h;injection h with h2 h;injection h with h3 _
   have:=(oe h1).2;have:=cY D p 2;have:=hl (l.length-1);omega
 split at h
 ·cases h1:dW D p 3 with
  |error e=>rw[h1] at h;cases h
  |ok y=>
   rw[h1] at h;injection h with h;injection h with h2 h;injection h with h3 _
   have:=(oe h1).2;have:=cY D p 3;omega
 split at h
 ·cases h1:dW D p 7 with
  |error e=>rw[h1] at h;cases h
  |ok y=>
   rw[h1] at h;injection h with h;injection h with h2 h;injection h with h3 _
   have:=(oe h1).2;have:=cY D p 7;omega
 injection h with h;injection h with h2 h;injection h with h3 _
 omega
theorem Jr {lib:aD}(hL:Jm lib)(base:ao)(s:au)(jr jx ic:ao)(D P:bk ca)(p0:ao)(M:ax)(o:aC)(h:Rs base s jr jx ic D p0 P M o)(hb:base<=s.next)(hlen:D.length<=4000000)(vc:aC)(C:bk ao)(hC:Of jr jx ic o s vc C)(hCl:C.length=19)(many N:ao)(am3:many<=400)(hN:8*D.length+1<N):
  Runs an lib 218 [lZ jr,vc,.int .i64 (many:ao)] s fun v s' =>akq base jr jx ic D P M o many s v s' (ku D C many N p0 []):=by
 obtain⟨sc,rfl,hS,hSo⟩:=hC;have a7:=h.bit.lt;have Yj:=h.t.lt;have r8:∀i,aI o=some i->i<s.next:=fun i hi=>h.own.ei i hi
 refine Runs.enter 55 Tryz.func218 rfl (hL _ rfl) rfl rfl ?_;intro f hn hf;have h0:f.get 0=lZ jr:=hf 0;have h1:f.get 1= .agg (bC C sc).toArray:=hf 1;have h2:f.get 2= .int .i64 (many:ao):=hf 2;clear hf;simp only[aj,QM,↓af,hn,h1];refine aA ?_;intro s1 iy aY gG;obtain⟨jc,ZC⟩:∃j,j=s.next:=⟨_,rfl⟩
 rw[<-ZC] at iy;have k1:eZ jx ic s s1:=⟨aY.next,fun i hi _ _=>aY.get i hi⟩;have nH:=h.keeps hb aY;have V7:=hS.to k1;obtain⟨R,hR⟩:∃R,R=ku D C many N p0 []:=⟨_,rfl⟩
 rw[<-hR];simp only[aj,QM,bl,↓af,hn,<-ZC,aq];refine Comes.bD (fun z f t=>∃(p:ao) (l:bk ao) (y:aC),ku D C many z p l=R/\8*D.length+1<z+p/\l.length<=many/\sI l/\Own t 1 y l.length (bm l)/\aM s1.next y/\Rs base t jr jx ic D p P M o/\eZ jx ic s t/\s1.next<=t.next/\az t jc (bC C sc)/\B9 jx ic t sc C/\f.n=55/\f.get 0=lZ jr/\f.get 2= .int .i64 (many:ao)/\f.get 4= .pointer (some ⟨jc,0,some 18⟩)/\f.get 8=y)
  (fun z f t=>f.n=55/\((z= .exit 0/\∃(l:bk ao) (q:ao),R= .ok (l,q)/\Own t 1 (f.get 8) l.length (bm l)/\aM s.next (f.get 8)/\Rs base t jr jx ic D q P M o/\eZ jx ic s t/\sI l/\l.length=many)\/(z= .ret/\∃(e:ao) (w:aC),R= .error e/\0<e/\f.get 6=w/\f.get 7= .int .i64 (e:ao)/\eZ jx ic s t)))
  ⟨p0,[],_,hR.symm,by omega,by simp,fun i=>by simp,.nil,aM.nil _,nH,k1,by omega,iy,V7,by simp only[aa,ag,↓af,WP,hn,h0,h2,cX]⟩ ?_ ?_
 rotate_left
 ·clear hn h0 h1 h2 f;rintro z f t ⟨hn,(⟨rfl,l,q,zl,hy,ko,Gf,dg,rM,YI⟩|⟨rfl,e,w,hRe,he,h6,h7,dg⟩)⟩
  ·obtain⟨y,h8⟩:∃y,f.get 8=y:=⟨_,rfl⟩
   rw[h8] at hy ko;simp only[aj,al,oneOf,QM,WP,↓af,hn,h8,er];rw[zl];exact⟨y,rfl,hy,ko,Gf,dg,rM,YI⟩
  simp only[aj,al,oneOf,QM,↓af,hn,h6,h7,er];rw[hRe];exact⟨he,⟨_,rfl⟩,dg⟩
 clear hn h0 h1 h2 f nH V7 iy;rintro Q hQ z f t ⟨p,l,y,hz,hpz,hlM,rM,hy,ko,Gf,dg,xL,PK,hSx,hn,h0,h2,h4,h8⟩;have BS:=Gf.bit.le;have zC:base<=t.next:=by omega
 obtain⟨k,rfl⟩:∃k,z=k+1:=⟨z-1,by omega⟩
 rw[ku] at hz;by_cases cM:many<=l.length
 ·have d1:¬((l.length:ao):ax)<(many:ax):=by omega
  rw[a3 cM] at hz;simp only[aj,ad,QM,WP,↓af,hn,h2,h8,hy.aL.aQ dS,av d1];exact hQ _ _ _ ⟨by simp only[ag,hn],.inl ⟨rfl,l,p,hz.symm,by simp only[aa,↓af,WP,h8];exact hy,by simp only[aa,↓af,WP,h8];exact fun i hi=>by have:=ko i hi;omega,Gf,dg,rM,by omega⟩⟩
 have d1:((l.length:ao):ax)<(many:ax):=by omega
 rw[a0 cM] at hz;simp only[aj,ad,QM,WP,↓af,hn,h2,h8,hy.aL.aQ dS,a8 d1];obtain⟨A2,Bf⟩:∃A:ao->Bool,A=fun j=>decide (j<t.next):=⟨_,rfl⟩
 have Jq:∀j,A2 j=true->j<t.next:=by
  intro j h;rw[Bf] at h;exact cp h
 have Lv:∀j,j<t.next->A2 j=true:=fun j h=>by rw[Bf];exact b7 h
 have js:=aw.spare t 0;have Fo:(spare t 0).next=t.next+0:=bu _ _;have zl:=Gf.keeps zC js;have hcq:=PK.keeps js;have kq:eZ jx ic t (spare t 0):=⟨by omega,fun i hi _ _=>js.get i hi⟩;have lr:∀k,LA.di A2 (some (.pointer (some ⟨jr,k,some 4⟩)))=true:=fun k=>LA.bN (A:=A2) (i:=jr) (Lv _ Gf.t.lt)
 have lb:∀k,LA.di A2 (some (.pointer (some ⟨jc,k,some 18⟩)))=true:=fun k=>LA.bN (A:=A2) (i:=jc) (Lv _ PK.lt)
 have r0q:=zl.t.load (P:=an) gC (off:=0) (c:=4) rfl (by simp);have EZ:=hcq.bd (P:=an) dy (by rw[aq];exact bB) (c:=18) (by rw[aq]);refine LB.cN.dx A2 Jq 0 0 (by kernel_rfl) (by kernel_rfl) ?_;simp only[aj,ak,bg,bn,dc,ad,QM,WP,↓af,hn,h0,h4,lG,r0q,EZ,lr,lb,ky C hSx.1];refine(EU hL base (spare t 0) jx ic D p zl.bit (by omega) hlen C sc (hSx.to kq) (by omega)).mono ?_;intro v t3 hY;refine⟨fun h=>h.elim,?_⟩;cases tC:sym D C p with
 |error e=>
  rw[tC] at hY hz;obtain⟨he,rfl,pF⟩:=hY;have c0:¬(e:ax)=0:=by omega
  simp only[aj,ak,bg,bn,QM,WP,↓af,aj,ak,QM,WP,↓af,hn,cQ,cR,lH,av c0];exact hQ _ _ _ ⟨by simp only[ag,hn],.inr ⟨rfl,e,_,hz.symm,he,by simp only[aa,↓af,WP];rfl,by simp only[aa,↓af],dg.trans (kq.trans pF)⟩⟩
 |ok xq=>
 obtain⟨x,q⟩:=xq;rw[tC] at hY hz;obtain⟨rfl,JF,jT⟩:=hY;dsimp only at hz;have Hl:=sG tC;have SD:=kq.trans jT;have uU:=zl.bits JF jT;have FJ:base<=t3.next:=by have:=jT.next;omega
 have zu:∀i,aI y=some i->i≠jx/\i≠ic:=fun i hi=>by have:=ko i hi;omega
 have hy3:=EV hy SD.next (fun i hi hl=>SD.get i hl (zu i hi).1 (zu i hi).2);have qO:=gX PK SD.next (SD.get jc PK.lt (by omega) (by omega));have hS3:=hSx.to SD;simp only[aj,ak,bg,bn,ad,QM,WP,↓af,aj,ak,ad,QM,WP,↓af,hn,h0,h8,cQ,cR,lH];refine(Oh hL base t3 jr jx ic D P q M o uU FJ hlen x y l hy3 zu (by omega)).mono ?_;intro v t4 hG;cases nd:oA D x q l with
 |error e=>
  rw[nd] at hG hz;obtain⟨he,⟨a,b,rfl⟩,Rn⟩:=hG;have c0:¬(e:ax)=0:=by omega
  simp only[aj,ak,QM,WP,↓af,hn,Ly,LD,LF,av c0];exact hQ _ _ _ ⟨by simp only[ag,hn],.inr ⟨rfl,e,_,hz.symm,he,by simp only[aa,↓af,WP];rfl,by simp only[aa,↓af],dg.trans (SD.trans Rn)⟩⟩
 |ok a=>
 obtain⟨xv,xn,r⟩:=a;rw[nd] at hG hz;obtain⟨rfl,rO,pQ⟩:=hG;dsimp only at hz;have Gr:=LG (by omega) rM nd;have apW:=HT nd;have kk4:=SD.trans pQ;have hy4:=EV hy3 pQ.next (fun i hi hl=>pQ.get i hl (zu i hi).1 (zu i hi).2);have Gj:=gX qO pQ.next (pQ.get jc qO.lt (by omega) (by omega));have Wp:=hS3.to pQ;have n4:=kk4.next;have eM:(many:ax)-((l.length:ao):ax)=((many-l.length:ao):ax):=by omega
 by_cases cn:many<l.length+xn
 ·have d2:((xn:ao):ax)>((many-l.length:ao):ax):=by omega
  rw[a3 cn] at hz;simp(disch:=omega)only[aj,ak,ad,QM,WP,↓af,hn,h2,h8,Ly,LD,LF,hy4.aL.aQ dS,aB,eM,a8 d2];exact hQ _ _ _ ⟨by simp only[ag,hn],.inr ⟨rfl,4,_,hz.symm,by decide,by simp only[aa,↓af,WP];rfl,by simp only[aa,↓af];rfl,dg.trans kk4⟩⟩
 have d2:¬((xn:ao):ax)>((many-l.length:ao):ax):=by omega
 rw[a0 cn] at hz;simp(disch:=omega)only[aj,ak,ad,QM,WP,↓af,hn,h2,h8,Ly,LD,LF,hy4.aL.aQ dS,aB,eM,av d2];refine Comes.bD (fun z f t' =>∃(i:ao) (y:aC),z=xn-i/\i<=xn/\Own t' 1 y (l.length+i) (bm (l++a2 i xv))/\aM s1.next y/\aw s1.next t4 t' /\f.n=55/\f.get 0=lZ jr/\f.get 2= .int .i64 (many:ao)/\f.get 4= .pointer (some ⟨jc,0,some 18⟩)/\f.get 8=y/\f.get 11= .int .i64 (xv:ao)/\f.get 46= .int .i64 (xn:ao)/\f.get 47= .int .i64 (i:ao))
  (fun z f t' =>z= .exit 2/\∃(y:aC),Own t' 1 y (l.length+xn) (bm (l++a2 xn xv))/\aM s1.next y/\aw s1.next t4 t' /\f.n=55/\f.get 0=lZ jr/\f.get 2= .int .i64 (many:ao)/\f.get 4= .pointer (some ⟨jc,0,some 18⟩)/\f.get 8=y)
  ⟨0,y,rfl,by omega,by simpa using hy4,ko,aw.refl _ _,by simp only[ag,hn],by simp only[aa,↓af,WP,h0],by simp only[aa,↓af,WP,h2],by simp only[aa,↓af,WP,h4],by simp only[aa,↓af,WP,h8],by simp only[aa,↓af,WP],by simp only[aa,↓af,WP],by simp only[aa,↓af];rfl⟩ ?_ ?_
 ·clear hn h0 h2 h4 h8 f;rintro Q2 El z f t' ⟨i,y,rfl,hi,hy,ko,aF,hn,h0,h2,h4,h8,eC,BZ,h47⟩;by_cases tm:i<xn;rotate_left
  ·obtain rfl:i=xn:=by omega
   have d3:¬((i:ao):ax)<((i:ao):ax):=by omega
   simp only[aj,QM,↓af,hn,BZ,h47,av d3];exact El _ _ _ ⟨rfl,y,hy,ko,aF,by simp only[aa,ag,↓af,WP,hn,h0,h2,h4,h8,cX]⟩
  have d3:((i:ao):ax)<((xn:ao):ax):=by omega
  simp only[aj,ae,QM,WP,↓af,hn,h8,eC,BZ,h47,a8 d3,gI dS aV qf];refine cj dS aV sy qf rfl hy (by simp only[aa,↓af,WP]) (by decide) (by simp only[ag,hn];decide) (by simp only[ag,hn];decide) (by rfl) (by decide) rfl (by omega) (by omega) ko (by have:=aF.next;omega) ?_;intro bs y2 t6 nh ig aR dK sd;have e6:bm (l++a2 i xv)++[dk .i64 (xv:ao)]=bm (l++a2 (i+1) xv):=by
   rw[dP,<-ck];exact vI _ [xv]
  rw[e6] at nh;simp(disch:=omega)only[aj,QM,WP,↓af,hn,h47,aB];exact ar (xn-(i+1)) (by omega) ⟨i+1,y2,rfl,by omega,nh,ig,aF.trans aR,by simp only[ag,hn],by simp only[aa,↓af,WP,h0],by simp only[aa,↓af,WP,h2],by simp only[aa,↓af,WP,h4],by simp only[aa,↓af,WP],by simp only[aa,↓af,WP,eC],by simp only[aa,↓af,WP,BZ],by simp only[aa,↓af];rfl⟩
 clear hn h0 h2 h4 h8 f;rintro z f t' ⟨rfl,y2,nh,Yf,aF,hn,h0,h2,h4,h8⟩;have hjs:jr<s1.next/\jx<s1.next/\ic<s1.next:=by omega
 have stB:eZ jx ic t4 t' ->True:=fun _=>trivial
 have U2:Rs base t' jr jx ic D r P M o:=by
  obtain⟨q5,now,left,Ft,h7⟩:=rO.bit;have hg:∀i,i<s1.next->t'.heap.get i=t4.heap.get i:=fun i hi=>aF.get i hi
  obtain⟨bb,c1,c2,c3,c4⟩:=Ft.c;exact⟨⟨q5,now,left,⟨⟨bb,gX c1 aF.next (hg ic hjs.2.2),c2.stay (aF.weaken (by omega)),c3,c4⟩,gX Ft.t aF.next (hg jx hjs.2.1),Ft.e,Ft.l8,Ft.r,Ft.now,Ft.lx,Ft.lc,Ft.ne⟩,h7⟩,gX rO.t aF.next (hg jr hjs.1),EV rO.own aF.next (fun i hi _=>hg i (by have:=r8 i hi;omega)),rO.fresh,rO.nr,rO.nx,rO.nc,rO.rx,rO.rc,rO.lr⟩
 have abK:eZ jx ic s t' :=⟨by have:=aF.next;omega,fun i hi g1 g2=>(aF.get i (by omega)).trans ((dg.trans kk4).get i hi g1 g2)⟩;have hS5:B9 jx ic t' sc C:=⟨N5 Wp.1 aF.next (fun i hi _=>aF.get i (by have:=(hS.2 i hi).1;omega)),fun i hi=>⟨Nat.lt_of_lt_of_le (Wp.2 i hi).1 aF.next,(Wp.2 i hi).2⟩⟩;simp only[aj,↓af];have n5:=aF.next;exact ar k (by omega) ⟨r,l++a2 xn xv,y2,hz,by omega,by rw[a1,b4];omega,Lj rM Gr.2,by rw[a1,b4];exact nh,Yf,U2,abK,by omega,gX Gj n5 (aF.get jc (by omega)),hS5,by simp only[hn,h0,h2,h4,h8,cX]⟩
end Go.Proofs.YtdfjfncifneocaaGreat