/-
 Differences undone, in plain words; the program's Decode.
-/
import Derived.Test.YtdfjfncifneocaaGreatChB
open _root_ renaming reduceIte->ab,Nat->av,UInt8->ax,List->aC,eq_false->bb,Int->bk,eq_true->bq,if_neg->bt,if_pos->b8,decide_eq_true->eB,decide_eq_false->e0,and_self->fr,congrArg->gd
open Go.Proofs.Tryz renaming prog->af,underlying22->an,underlying124->bz,underlying3->b4,underlying121->b5,underlying122->cd,results107->ch,results156->ck,results125->cm,underlying5->cx,underlying147->cD,results70->c7,results66->dw,underlying173->dT,results124->eu,results192->ey,underlying137->eL,underlying112->eQ,results106->e5,results154->e6,results153->e8,results122->e9,results123->fb,results155->fl
open List renaming getD_eq_getElem?_getD->ao,length_drop->a0,length_append->a8,getElem?_append_left->b7,length_take->ca,drop_append_of_le_length->cb,length_nil->cg,getElem?_append_right->cv,getElem?_eq_getElem->cA,getElem?_drop->cB,take_of_length_le->cT,replicate->cU,take_append_of_le_length->c8,length_pos_iff->dk,append_assoc->ea,getElem?_take_of_lt->ec,length_cons->en,nil_append->et,length_replicate->eA,length->eX,mem_range->fo
open Go renaming Value->bl,Program->er,TypeId->eM,IntKind->ga
open Int renaming toNat_natCast->bw,ofNat->gg
open BitVec renaming ofInt->cc,ofInt_natCast->c9,toNat_ofNat->dv
open Go.IntKind renaming u8->cp,i64->cM
open Nat renaming le_trans->cz,le_refl->cL,succ_mul->ds,add_sub_cancel->dt,mul_one->eb,reduceAdd->ed,le_mul_of_pos_right->ee,mod_eq_of_lt->eg,add_sub_cancel_left->ek,add_zero->eo,mul_le_mul->eD,mul_le_mul_right->eG,pow_le_pow_right->eI,mul_comm->eS,div_eq_of_lt->eV,mul_add_div->e4,add_assoc->fs,sub_self->fS,zero_mul->fV,blt_eq->gf
open UInt8 renaming ofNat->dc
open Nat renaming reduceLT->QM,reduceEqDiff->WP
set_option maxHeartbeats 16000000
set_option linter.unusedSimpArgs false
set_option linter.unusedVariables false
set_option maxRecDepth 100000
namespace Go.Cl.Pr
def NH (l:aC ax)(h n i:av):ax:=l.getD (i/n*(h+n)+h+i%n) 0
def NI (l:aC ax)(h n r:av):bk:=if h=1 then(((l.getD (r*(h+n)) 0).toNat:av):bk) else 1
def im (l:aC ax)(h n c:av):av->aC ax
 |0=>[]
 |m+1=>im l h n c m++[Ea ((((NH l h n m).toNat:av):bk)+gs (NI l h n (m/n)) (im l h n c m) n c m)]
theorem gV (l:aC ax)(h n c:av):∀m,(im l h n c m).length=m
 |0=>rfl
 |m+1=>by rw[im,a8,gV l h n c m];rfl
theorem Ao (l:aC ax)(h n c:av):∀m k,k<=m->(im l h n c m).take k=im l h n c k
 |0,k,hk=>by obtain rfl:k=0:=by omega
             rfl
 |m+1,k,hk=>by
  by_cases e:k=m+1
  ·subst e;exact cT (by rw[gV];exact cL _)
  rw[im,c8 (by rw[gV];omega)];exact Ao l h n c m k (by omega)
theorem UC (l:aC ax)(h n c:av){m k j:av}(hk:k<=m)(hj:j<k):(im l h n c m).getD j 0=(im l h n c k).getD j 0:=by
 rw[<-Ao l h n c m k hk,ao,ao,ec hj]
def y8 (l:aC ax)(h n q:av):Bool:=(List.range q).any fun r=>decide (4<NI l h n r)
def ks (p co cl:bk)(l:aC ax):aC ax×bk:=
 if¬pC p co cl then([],1) else if p=1 then(l,0)
 else if l.length%((if 10<=p then 1 else 0)+co.toNat*cl.toNat)≠0 then([],4)
 else if y8 l (if 10<=p then 1 else 0) (co.toNat*cl.toNat) (l.length/((if 10<=p then 1 else 0)+co.toNat*cl.toNat))=true then([],4)
 else(im l (if 10<=p then 1 else 0) (co.toNat*cl.toNat) co.toNat (l.length/((if 10<=p then 1 else 0)+co.toNat*cl.toNat)*(co.toNat*cl.toNat)),0)
theorem KR {l:aC ax}{h n q r:av}(hr:r<q)(hc:4<NI l h n r):y8 l h n q=true:=by
 unfold y8;rw[List.any_eq_true];exact⟨r,fo.2 hr,eB hc⟩
theorem UD (l:aC ax)(h n r:av):0<=NI l h n r/\NI l h n r<=255:=by
 unfold NI;split
 ·exact rE _
 omega
def nZ (l:aC ax)(h n c r k:av):aC ax:=(im l h n c (r*n+k)).drop (r*n)++cU (n-k) 0
theorem KS {l:aC ax}{h n c r k:av}(hk:k<=n):(nZ l h n c r k).length=n:=by
 unfold nZ;rw[a8,a0,gV,eA];omega
theorem Rg (l:aC ax)(h n c r:av):nZ l h n c r 0=cU n 0:=by
 unfold nZ;rw[List.drop_of_length_le (by rw[gV];omega),et,Nat.sub_zero]
theorem KT (l:aC ax)(h n c r:av):nZ l h n c r n=(im l h n c ((r+1)*n)).drop (r*n):=by
 unfold nZ;rw[fS,List.replicate_zero,List.append_nil,ds]
theorem Rh {l:aC ax}{h n c r k j:av}(hj:j<k):(nZ l h n c r k).getD j 0=(im l h n c (r*n+k)).getD (r*n+j) 0:=by
 unfold nZ;rw[ao,b7 (by rw[a0,gV];omega),cB,<-ao]
theorem UF {l:aC ax}{h n c r k:av}(hk:k<n):(nZ l h n c r k).set k (Ea ((((NH l h n (r*n+k)).toNat:av):bk)+gs (NI l h n ((r*n+k)/n)) (im l h n c (r*n+k)) n c (r*n+k)))=nZ l h n c r (k+1):=by
 unfold nZ;have e1:((im l h n c (r*n+k)).drop (r*n)).length=k:=by rw[a0,gV];omega
 rw[List.set_append_right _ _ (by omega),e1,fS,<-fs];have e2:n-k=(n-(k+1))+1:=by omega
 rw[e2,List.replicate_succ,List.set_cons_zero,im,cb (by rw[gV];omega),ea];rfl
theorem abg {T:bk}{l:aC ax}{h n c r k:av}(hn:0<n)(hk:k<n)(W:aC ax)(hW:W=if r=0 then [] else(im l h n c (r*n)).drop ((r-1)*n)):il T (if c<=k then((((nZ l h n c r k).getD (k-c) 0).toNat:av):bk) else 0) (if 0<W.length then(((W.getD k 0).toNat:av):bk) else 0) (if 0<W.length/\c<=k then(((W.getD (k-c) 0).toNat:av):bk) else 0)=gs T (im l h n c (r*n+k)) n c (r*n+k)\/c=0:=by
 by_cases hc:c=0
 ·exact .inr hc
 left;have hm:(r*n+k)%n=k:=Nh hk;have e1:(if c<=k then((((nZ l h n c r k).getD (k-c) 0).toNat:av):bk) else 0)=lz (im l h n c (r*n+k)) n c (r*n+k):=by
  unfold lz;rw[hm];split
  ·rw[Rh (by omega),show r*n+k-c=r*n+(k-c) by omega]
  rfl
 have e2:(if 0<W.length then(((W.getD k 0).toNat:av):bk) else 0)=iL (im l h n c (r*n+k)) n (r*n+k)/\(if 0<W.length/\c<=k then(((W.getD (k-c) 0).toNat:av):bk) else 0)=fg (im l h n c (r*n+k)) n c (r*n+k):=by
  unfold iL fg;rw[hm];cases r with
  |zero=>
   rw[b8 rfl] at hW;subst hW;rw[fV,bt (by simp),bt (by omega),bt (by simp),bt (by omega)];exact⟨rfl,rfl⟩
  |succ r=>
   rw[bt (by omega),dt] at hW;have hs:(r+1)*n=r*n+n:=ds r n;have hwl:W.length=n:=by rw[hW,a0,gV];omega
   have hg:∀j,j<n->W.getD j 0=(im l h n c ((r+1)*n+k)).getD (r*n+j) 0:=fun j hj=>by
    rw[hW,ao,cB,<-ao];exact(UC l h n c (k:=(r+1)*n) (by omega) (by omega)).symm
   rw[b8 (by omega),b8 (by omega)];refine⟨by rw[hg k hk,show(r+1)*n+k-n=r*n+k by omega],?_⟩;by_cases h' :c<=k
   ·rw[b8 ⟨by omega,h'⟩,b8 ⟨by omega,h'⟩,hg _ (by omega),show(r+1)*n+k-n-c=r*n+(k-c) by omega]
   rw[bt (fun q=>h' q.2),bt (fun q=>h' q.2)]
 unfold gs;rw[e1,e2.1,e2.2]
end Go.Cl.Pr
namespace Go.Proofs.YtdfjfncifneocaaGreat
open Go.Cl Go.Cl.Pr
theorem O0 (n:av):cU n (.int .u8 0)=ofBytes (cU n 0):=by simp[ofBytes]
theorem IZ (l:aC ax)(k:av)(c:ax):(ofBytes l).set k (.int .u8 (c.toNat:bk))=ofBytes (l.set k c):=by
 simp[ofBytes,List.map_set]
theorem XK {s:au}{z:av}{v:bl}{n:av}{l:aC bl}(h:aU s z v n l)(hn:0<n){lo hi j:av}(e:aI (jC z v lo hi)=some j):j<s.next:=by
 cases h with
 |nil=>omega
 |bare=>omega
 |of i off n c b l sO hb hz hl hc hlen eO ht=>
  have:j=i:=by
   have e:some i=some j:=e;injection e with e;exact e.symm
  omega
theorem Bn {lib:aD}(L:F9 lib)(hl:lib.at 70=none)(s:au)(p co cl:bk)(x:bl)(l:aC ax)(hx:aU s 1 x l.length (ofBytes l))(hlen:l.length<=100000000):
  Runs af lib 70 [i3 p co cl,x] s (rK s (ks p co cl l)):=by
 obtain⟨QQ,eK⟩:∃QQ:bl->au->Prop,QQ=rK s (ks p co cl l):=⟨_,rfl⟩
 rw[<-eK];refine Runs.enter 90 Tryz.func70 rfl hl rfl rfl ?_;intro f hn hf;have h0:f.get 0=i3 p co cl:=hf 0;have h1:f.get 1=x:=hf 1;clear hf;have Ah:[Value.int .i64 p,.int .i64 co,.int .i64 cl].length+1=4:=rfl;simp(disch:=omega)only[aj,QM,↓ab,hn,h0];refine aA ?_;intro s1 ht aF vR;have ht:az s1 s.next (l3 p co cl):=ht;have la:aN af s1 56 (.pointer (some ⟨s.next,0,some 4⟩))=some (i3 p co cl):=az.bd (P:=af) (cs:=l3 p co cl) TX KE ht (c:=4) rfl;simp(disch:=omega)only[aj,ak,ad,QM,WP,↓ab,hn,Ah,la];refine(KF L.may s1 p co cl).mono ?_;rintro _ s2 ⟨rfl,dA⟩;have Mm:=aF.trans (dA.weaken aF.next);have dK:=ht.keeps dA;have n1:=aF.next;have n2:=dA.next;by_cases hm:pC p co cl;rotate_left
 ·rw[e0 hm];simp(disch:=omega)only[aj,al,oneOf,QM,WP,↓ab,hn,c7];have e:ks p co cl l=([],1):=by unfold ks;rw[b8 hm]
  rw[eK,e];exact⟨_,rfl,⟨.nil,aM.nil _,Mm⟩⟩
 rw[eB hm];have q0:∀t,aw s2.next s2 t->aN af t 3 (.pointer (some ⟨s.next,0,some 4⟩))=some (.int .i64 p):=fun t h=>(dK.keeps h).load aP (off:=0) (c:=4) rfl (by simp)
 have q1:∀t,aw s2.next s2 t->aN af t 3 (.pointer (some ⟨s.next,1,some 4⟩))=some (.int .i64 co):=fun t h=>(dK.keeps h).load aP (off:=1) (c:=4) rfl (by simp)
 have q2:∀t,aw s2.next s2 t->aN af t 3 (.pointer (some ⟨s.next,2,some 4⟩))=some (.int .i64 cl):=fun t h=>(dK.keeps h).load aP (off:=2) (c:=4) rfl (by simp)
 have kA:=hx.keeps Mm;have k2:=aw.refl s2.next s2;by_cases BK:p=1
 ·have e:ks p co cl l=(l,0):=by unfold ks;rw[bt (fun h=>h hm),b8 BK]
  simp(disch:=omega)only[aj,ad,QM,WP,↓ab,hn,h1,Ec,q0 _ k2,bq BK];refine gb an an (.inl ⟨_,rfl⟩) cO sm rU rfl (Own.nil:Own s2 1 (.slice none 0 0) 0 []) kA.src (by rw[eW,eb]) (by decide) (pn _) (by omega) (by omega) (aM.nil s2.next) (cL _) ?_;intro w s3 hw hF iT _ _;simp(disch:=omega)only[aj,al,oneOf,QM,WP,↓ab,hn,c7];rw[eK,e];exact⟨w,rfl,⟨by rw[et,Nat.zero_add] at hw;exact hw,fun j hj=>by have:=hF j hj;omega,Mm.trans (iT.weaken (by omega))⟩⟩
 obtain⟨hpk,iy,j6,nS,iG⟩:=id hm;obtain⟨c,rfl⟩:∃c:av,co=c:=⟨co.toNat,by omega⟩
 obtain⟨m,rfl⟩:∃m:av,cl=m:=⟨cl.toNat,by omega⟩
 obtain⟨n,zR⟩:∃n:av,n=c*m:=⟨_,rfl⟩
 have gZ:1<=n:=by rw[zR];exact eD (show 1<=c by omega) (show 1<=m by omega)
 have mf:n<=16384:=by rw[zR];exact eD (show c<=4 by omega) (show m<=4096 by omega)
 have XA:c<=n:=by rw[zR];exact ee c (by omega)
 obtain⟨h,hh⟩:∃h:av,h=if 10<=p then 1 else 0:=⟨_,rfl⟩
 have hh1:h<=1:=by rw[hh];split<;>omega
 have ep:ks p (c:bk) (m:bk) l=if l.length%(h+n)≠0 then([],4) else if y8 l h n (l.length/(h+n))=true then([],4) else(im l h n c (l.length/(h+n)*n),0):=by
  unfold ks;rw[bt (fun h=>h hm),bt BK,bw,bw,<-zR,<-hh]
 have hmul:cM.wrap ((c:bk)*(m:bk))=(n:bk):=by
  have e:(c:bk)*(m:bk)=(n:bk):=by rw[zR];exact(Int.natCast_mul c m).symm
  rw[e,aB (by omega)]
 simp(disch:=omega)only[aj,QM,WP,↓ab,hn,Ec,Nj,QW,q0 _ k2,q1 _ k2,q2 _ k2,bb BK,hmul];generalize hK:oD af lib (Code.seq (Code.region _ _ _) (Code.seq _ _)) _=K;have go:∀f,f.n=90->f.get 1=x->f.get 2= .pointer (some ⟨s.next,0,some 4⟩)->f.get 6= .int .i64 (n:av)->f.get 7= .int .i64 (h:av)->K .normal f s2:=by
  clear hn h0 h1 f;subst hK;intro f hn h1 h2 h6 h7;simp(disch:=omega)only[aj,ak,ad,QM,WP,↓ab,hn,h1,h6,h7,aB];have XL:(h:bk)+(n:bk)=((h+n:av):bk):=by omega
  rw[XL];refine(Nz L s2 x l kA hlen (h+n) (by omega) (by omega)).mono ?_;rintro _ s3 ⟨w,vs,rfl,hw,hb,iT⟩;have x0:∀b,aH (.tuple #[w,.bool b]) 0=some w:=fun _=>rfl
  have x1:∀b,aH (.tuple #[w,.bool b]) 1=some (.bool b):=fun _=>rfl
  have h03:=Mm.trans (iT.weaken Mm.next);by_cases yZ:l.length%(h+n)=0;rotate_left
  ·rw[b8 yZ] at ep;rw[e0 yZ];simp(disch:=omega)only[aj,al,oneOf,QM,WP,↓ab,hn,x0,x1,c7];rw[eK,ep];exact⟨_,rfl,⟨.nil,aM.nil _,h03⟩⟩
  rw[bt (fun h=>h yZ)] at ep;rw[eB yZ];obtain⟨q,hq⟩:∃q,q=l.length/(h+n):=⟨_,rfl⟩
  have hqn:q*(h+n)=l.length:=by
   have:=Nat.div_add_mod l.length (h+n);rw[yZ,eS,<-hq] at this;omega
  rw[<-hq] at hw hb ep;have XM:q<=l.length:=by rw[<-hqn];exact ee q (by omega)
  have ajk:q*n<=l.length:=by rw[<-hqn];exact Nat.mul_le_mul_left q (by omega)
  have n3:=iT.next;simp(disch:=omega)only[aj,ad,QM,WP,↓ab,hn,x0,x1,hw.aQ eL];refine Comes.bD (fun z f t=>∃(r:av) (o y:bl) (W:aC ax),z=q-r/\r<=q/\(∀j,j<r->¬4<NI l h n j)/\Own t 1 o (r*n) (ofBytes (im l h n c (r*n)))/\W=(if r=0 then [] else(im l h n c (r*n)).drop ((r-1)*n))/\aU t 1 y W.length (ofBytes W)/\(∀j,aI y=some j->aI o≠some j)/\aM s3.next o/\(∀j,aI y=some j->j<t.next)/\aw s3.next s3 t/\f.n=90/\f.get 2= .pointer (some ⟨s.next,0,some 4⟩)/\f.get 6= .int .i64 (n:av)/\f.get 7= .int .i64 (h:av)/\f.get 10=o/\f.get 11=y/\f.get 44=w/\f.get 45= .int .i64 (q:av)/\f.get 46= .int .i64 (r:av))
   (fun z f t=>(z= .ret/\y8 l h n q=true/\aw s3.next s3 t/\f.n=90/\f.get 4= .slice none 0 0/\f.get 5= .int .i64 4)\/(z= .exit 0/\y8 l h n q=false/\∃o,Own t 1 o (q*n) (ofBytes (im l h n c (q*n)))/\aM s3.next o/\aw s3.next s3 t/\f.n=90/\f.get 10=o))
   ⟨0,.slice none 0 0,.slice none 0 0,[],rfl,by omega,fun j hj=>by omega,by rw[fV];exact .nil,rfl,.nil,(fun j e=>by cases e),aM.nil _,(fun j e=>by cases e),aw.refl _ _,by simp only[ag,hn],by simp only[aa,↓ab,WP,h2],by simp only[aa,↓ab,WP,h6],by simp only[aa,↓ab,WP,h7],by simp only[aa,↓ab,WP],by simp only[aa,↓ab,WP],by simp only[aa,↓ab,WP],by simp only[aa,↓ab,WP],by simp only[aa,↓ab];rfl⟩ ?_ ?_
  ·clear hn h1 h2 h6 h7 f;rintro Q hQ z f t ⟨r,o,y,W,rfl,hr,kI,ho,hW,hy,uJ,hF,tD,aF,hn,h2,h6,h7,cJ,eC,Gg,Gh,BZ⟩;by_cases a7:r<q;rotate_left
   ·obtain rfl:r=q:=by omega
    have d1:¬((r:av):bk)<((r:av):bk):=by omega
    have Hk:y8 l h n r=false:=by
     unfold y8;rw[List.any_eq_false];intro j hj;have:=kI j (fo.1 hj)
     simpa using this
    simp(disch:=omega)only[aj,ak,QM,↓ab,hn,Gh,BZ,bb d1];exact hQ _ _ _ (.inr ⟨rfl,Hk,o,ho,hF,aF,by simp only[ag,hn],by simp only[aa,↓ab,WP,cJ]⟩)
   have d1:((r:av):bk)<((q:av):bk):=by omega
   have hrn:(r+1)*(h+n)<=l.length:=by rw[<-hqn];exact eG (h+n) a7
   have hrs:(r+1)*(h+n)=r*(h+n)+(h+n):=ds r (h+n);have abh:(r+1)*n=r*n+n:=ds r n;have ajl:(r+1)*n<=q*n:=eG n a7;have xM:(IK l (h+n) r).length=h+n:=KA hrn;have TF:=hw.keeps aF;have fk:=TF.indexAddr (P:=af) (k:= .i64) (x:=(r:bk)) eL iA (by omega) (by omega);rw[bw] at fk;have eF:=TF.cu (P:=af) gJ a7;have nD:=hb.aL r (by rw[IL];exact a7);rw[QV] at nD;obtain⟨R,hR⟩:∃R,R=vs.getD r undef:=⟨_,rfl⟩
   rw[<-hR] at eF nD;obtain⟨T,hT⟩:∃T,T=NI l h n r:=⟨_,rfl⟩
   have Zg:=UD l h n r;rw[<-hT] at Zg;have nt:=aF.next;simp(disch:=omega)only[aj,ak,QM,WP,↓ab,hn,h7,Gg,Gh,BZ,bq d1,fk,eF];generalize hK2:oD af lib (Code.seq (Code.seq (Code.region _ _ _) (Code.cond _ _ _)) (Code.seq _ _)) _=K2;have go2:∀f,f.n=90->f.get 2= .pointer (some ⟨s.next,0,some 4⟩)->f.get 6= .int .i64 (n:av)->f.get 7= .int .i64 (h:av)->f.get 10=o->f.get 11=y->f.get 13=R->f.get 14= .int .i64 T->f.get 44=w->f.get 45= .int .i64 (q:av)->f.get 46= .int .i64 (r:av)->K2 .normal f t:=by
    clear hn h2 h6 h7 cJ eC Gg Gh BZ f;subst hK2;intro f hn h2 h6 h7 cJ eC mY pO Gg Gh BZ;by_cases c4:T>4
    ·simp(disch:=omega)only[aj,QM,↓ab,hn,pO,bq c4];exact hQ _ _ _ (.inl ⟨rfl,KR a7 (by rw[<-hT];exact c4),aF,by simp only[ag,hn],by simp only[aa,↓ab,WP],by simp only[aa,↓ab]⟩)
    have hRt:=nD.keeps aF;have mk:dq af t 22 (.int .i64 (n:av)) (.int .i64 (n:av))=a6 t (cU n (.int .u8 0)) n 1:=rm an cO rU sm (by omega) (by omega);simp(disch:=omega)only[aj,QM,WP,↓ab,hn,h6,pO,bb c4,mk];refine bc (by rw[eA,eb]) ?_;intro v t1 hv xp aY;rw[O0,<-Rg l h n c r] at hv;have nt1:=aY.next;have Fw:=hv.ei;have r8:=ho.ei;have XN:=hRt.keeps aY;have Hl:fa af t1 22 R (some (.int .i64 (h:av))) none none=some (jC 1 R h (h+n)):=by
     have:=XN.qZ (P:=af) an cO (k:= .i64) (x:=(h:bk)) (by omega) (by omega);rw[bw,xM] at this;exact this
    have kD:=XN.IB (lo:=h) (hi:=h+n) (by omega) (by omega);obtain⟨Z,hZ⟩:∃Z,Z=jC 1 R h (h+n):=⟨_,rfl⟩
    obtain⟨ZL,hZL⟩:∃ZL,ZL=((IK l (h+n) r).drop h).take (h+n-h):=⟨_,rfl⟩
    rw[<-hZ,<-hZL] at kD;rw[<-hZ] at Hl;have hZl:ZL.length=n:=by rw[hZL,ca,a0];omega
    have hZg:∀k,k<n->ZL.getD k 0=NH l h n (r*n+k):=fun k hk=>by
     rw[hZL,ao,ec (by omega),cB,<-ao,Hp (by omega)];unfold NH;rw[Nh hk,show(r*n+k)/n=r by rw[eS,e4 (by omega),eV hk,eo],fs]
    rw[hZl] at kD;simp(disch:=omega)only[aj,ad,ai,QM,WP,↓ab,hn,h7,mY,Hl,kD.aQ an];refine Comes.bD (fun z f u=>∃(k:av),z=n-k/\k<=n/\Own u 1 v n (ofBytes (nZ l h n c r k))/\Own u 1 o (r*n) (ofBytes (im l h n c (r*n)))/\aU u 1 y W.length (ofBytes W)/\aU u 1 Z n (ofBytes ZL)/\aw t.next t u/\f.n=90/\f.get 2= .pointer (some ⟨s.next,0,some 4⟩)/\f.get 6= .int .i64 (n:av)/\f.get 7= .int .i64 (h:av)/\f.get 10=o/\f.get 11=y/\f.get 14= .int .i64 T/\f.get 15=v/\f.get 44=w/\f.get 45= .int .i64 (q:av)/\f.get 46= .int .i64 (r:av)/\f.get 62=Z/\f.get 63= .int .i64 (n:av)/\f.get 64= .int .i64 (k:av))
     (fun z f u=>z= .exit 2/\Own u 1 v n (ofBytes (nZ l h n c r n))/\Own u 1 o (r*n) (ofBytes (im l h n c (r*n)))/\aw t.next t u/\f.n=90/\f.get 2= .pointer (some ⟨s.next,0,some 4⟩)/\f.get 6= .int .i64 (n:av)/\f.get 7= .int .i64 (h:av)/\f.get 10=o/\f.get 15=v/\f.get 44=w/\f.get 45= .int .i64 (q:av)/\f.get 46= .int .i64 (r:av))
     ⟨0,rfl,by omega,hv,ho.keeps aY,hy.keeps aY,kD,aY,by simp only[ag,hn],by simp only[aa,↓ab,WP,h2],by simp only[aa,↓ab,WP,h6],by simp only[aa,↓ab,WP,h7],by simp only[aa,↓ab,WP,cJ],by simp only[aa,↓ab,WP,eC],by simp only[aa,↓ab,WP,pO],by simp only[aa,↓ab,WP],by simp only[aa,↓ab,WP,Gg],by simp only[aa,↓ab,WP,Gh],by simp only[aa,↓ab,WP,BZ],by simp only[aa,↓ab,WP],by simp only[aa,↓ab,WP],by simp only[aa,↓ab];rfl⟩ ?_ ?_
    ·clear hn h2 h6 h7 cJ eC mY pO Gg Gh BZ hv ho hy kD Hl XN f;rintro Q hQ z f u ⟨k,rfl,hk,hv,ho,hy,kD,hu,hn,h2,h6,h7,cJ,eC,pO,Bm,Gg,Gh,BZ,h62,WH,h64⟩;by_cases Ri:k<n;rotate_left
     ·obtain rfl:k=n:=by omega
      have d1:¬((k:av):bk)<((k:av):bk):=by omega
      simp(disch:=omega)only[aj,QM,↓ab,hn,WH,h64,bb d1];exact hQ _ _ _ ⟨rfl,hv,ho,hu,by simp only[ag,hn],by simp only[aa,↓ab,WP,h2],by simp only[aa,↓ab,WP,h6],by simp only[aa,↓ab,WP,h7],by simp only[aa,↓ab,WP,cJ],by simp only[aa,↓ab,WP,Bm],by simp only[aa,↓ab,WP,Gg],by simp only[aa,↓ab,WP,Gh],by simp only[aa,↓ab,WP,BZ]⟩
     have d1:((k:av):bk)<((n:av):bk):=by omega
     have nu:=hu.next;have fk:=kD.indexAddr (P:=af) (k:= .i64) (x:=(k:bk)) an cO (by omega) (by omega);rw[bw] at fk;have eF:=kD.cu (P:=af) gQ Ri;rw[aW (by omega),hZg k Ri] at eF;have aeY:=hv.aL.indexAddr (P:=af) (k:= .i64) (x:=(k:bk)) an cO (by omega) (by omega);rw[bw] at aeY;have hrU:(nZ l h n c r k).length=n:=KS (by omega);have k2u:aw s2.next s2 u:=(iT.trans (aF.weaken n3)).trans (hu.weaken (by omega));simp(disch:=omega)only[aj,ak,ad,QM,WP,↓ab,hn,h2,eC,Bm,h62,WH,h64,bq d1,fk,eF,Nj,q1 _ k2u];have hWl:W.length=0\/W.length=(nZ l h n c r k).length:=by
      rw[hW];split
      ·exact .inl rfl
      rename_i Zh;refine .inr ?_;rw[hrU,a0,gV];obtain⟨r',rfl⟩:∃r',r=r' +1:=⟨r-1,by omega⟩
      rw[dt,ds];omega
     refine(Xl L u v y (nZ l h n c r k) W (by rw[hrU];exact hv.aL) hy (by omega) k c (by omega) (by omega) hWl).mono ?_;rintro _ u2 ⟨rfl,aR⟩;have hga:=(abg (T:=T) (l:=l) (h:=h) (c:=c) (r:=r) (by omega) Ri W hW).resolve_right (by omega);have a1:0<=Pb (nZ l h n c r k) k c/\Pb (nZ l h n c r k) k c<=255:=by
      unfold Pb;split
      ·exact rE _
      omega
     have a2:0<=T0 W k/\T0 W k<=255:=by
      unfold T0;split
      ·exact rE _
      omega
     have a3:0<=T3 W k c/\T3 W k c<=255:=by
      unfold T3;split
      ·exact rE _
      omega
     simp(disch:=omega)only[aj,ak,ad,QM,WP,↓ab,hn,pO];refine(Nn L u2 T _ _ _ (by omega) a1 a2 a3).mono ?_;have hga:il T (Pb (nZ l h n c r k) k c) (T0 W k) (T3 W k c)=gs T (im l h n c (r*n+k)) n c (r*n+k):=hga;rw[hga];rintro _ u3 ⟨rfl,bA⟩;have HB:aw u.next u u3:=aR.trans (bA.weaken aR.next);have hdv:(r*n+k)/n=r:=by rw[eS,e4 (by omega),eV Ri,eo]
     have ew:cp.wrap ((((NH l h n (r*n+k)).toNat:av):bk)+cp.wrap (gs T (im l h n c (r*n+k)) n c (r*n+k)))=((Ea ((((NH l h n (r*n+k)).toNat:av):bk)+gs T (im l h n c (r*n+k)) n c (r*n+k))).toNat:bk):=by
      rw[Ho,fO,fO];omega
     have Gi:=hv.keeps HB;simp(disch:=omega)only[aj,QM,WP,↓ab,hn,a9 b4 cx,ew,aeY];refine cI cO Gi Ri rfl ?_;intro u4 Uv ly;have Uv:Own u4 1 v n (ofBytes (nZ l h n c r (k+1))):=by
      rw[IZ] at Uv;have:=UF (l:=l) (h:=h) (c:=c) (r:=r) Ri;rw[hdv,<-hT] at this;rw[this] at Uv;exact Uv
     have Rj:∀j,aI v=some j->t.next<=j:=xp
     have BI:=(ho.keeps HB).turns ly (fun j e e2=>by have:=r8 j e;have:=Rj j e2;omega);have hy4:=(hy.keeps HB).turns ly (fun j _ e e2=>by have:=tD j e;have:=Rj j e2;omega);have ajo:∀j,j<u3.next->aI Z=some j->aI v≠some j:=fun j _ e e2=>by
      have h1:=Rj j e2;rw[hZ] at e;have h2:=XK hRt (by omega) e;omega
     have Gj:=(kD.keeps HB).turns ly ajo;have n34:=ly.next;have hk4:aw t.next t u4:=(hu.trans (HB.weaken nu)).trans (ly.keeps xp (by have:=HB.next;omega));simp(disch:=omega)only[aj,QM,WP,↓ab,hn,h64,aB];exact ar (n-(k+1)) (by omega) ⟨k+1,rfl,by omega,Uv,BI,hy4,Gj,hk4,by simp only[ag,hn],by simp only[aa,↓ab,WP,h2],by simp only[aa,↓ab,WP,h6],by simp only[aa,↓ab,WP,h7],by simp only[aa,↓ab,WP,cJ],by simp only[aa,↓ab,WP,eC],by simp only[aa,↓ab,WP,pO],by simp only[aa,↓ab,WP,Bm],by simp only[aa,↓ab,WP,Gg],by simp only[aa,↓ab,WP,Gh],by simp only[aa,↓ab,WP,BZ],by simp only[aa,↓ab,WP,h62],by simp only[aa,↓ab,WP,WH],by simp only[aa,↓ab];rfl⟩
    clear hn h2 h6 h7 cJ eC mY pO Gg Gh BZ hv ho hy kD Hl XN f;rintro z f u ⟨rfl,hv,ho,hu,hn,h2,h6,h7,cJ,Bm,Gg,Gh,BZ⟩;have nu:=hu.next;have hrU:(nZ l h n c r n).length=n:=KS (by omega);simp(disch:=omega)only[aj,ad,QM,WP,↓ab,hn,cJ,Bm];refine gb an an (.inl ⟨_,rfl⟩) cO sm rU rfl ho hv.aL.src (by rw[eW,hrU,eb]) (by decide) (pn _) (by omega) (by omega) hF (by omega) ?_;intro o' u2 Cj zw aR dg oh;have Bp:=aR.next;have ev:ofBytes (im l h n c (r*n))++ofBytes (nZ l h n c r n)=ofBytes (im l h n c ((r+1)*n)):=by
     rw[<-ct,KT,<-Ao l h n c ((r+1)*n) (r*n) (by omega),List.take_append_drop]
    rw[ev,<-abh] at Cj;have Rj:∀j,aI v=some j->t.next<=j:=xp
    have Hh:=hv.turns dg (fun j e e2=>by have:=r8 j e2;have:=Rj j e;omega);have hwl:(nZ l h n c r n)=(im l h n c ((r+1)*n)).drop (r*n):=KT l h n c r;simp(disch:=omega)only[aj,QM,WP,↓ab,hn,Bm,BZ,aB];refine ar (q-(r+1)) (by omega) ⟨r+1,o',v,nZ l h n c r n,rfl,by omega,fun j hj=> ?_,Cj,by rw[bt (by omega),dt];exact hwl,by rw[hrU];exact Hh.aL,fun j e e2=> ?_,zw,fun j e=>Hh.ei j e,(aF.trans (hu.weaken nt)).trans aR,by simp only[ag,hn],by simp only[aa,↓ab,WP,h2],by simp only[aa,↓ab,WP,h6],by simp only[aa,↓ab,WP,h7],by simp only[aa,↓ab,WP],by simp only[aa,↓ab,WP],by simp only[aa,↓ab,WP,Gg],by simp only[aa,↓ab,WP,Gh],by simp only[aa,↓ab];rfl⟩
    ·by_cases e:j=r
     ·rw[e,<-hT];exact c4
     exact kI j (by omega)
    rcases oh with e3|⟨k,e3,hk⟩
    ·rw[e3] at e2;have:=r8 j e2;have:=Rj j e;omega
    rw[e3] at e2;injection e2 with e2
    have ao7:=hv.ei j e;omega
   by_cases eh:h=1
   ·have d1:(h:bk)=1:=by omega
    have hRt:=nD.keeps aF;have hi0:bK af 22 R (.int .i64 0)=some (aX 1 R 0):=hRt.indexAddr (P:=af) (k:= .i64) (x:=0) an cO (by omega) (by omega);have qN:=hRt.cu (P:=af) gQ (k:=0) (by omega);rw[aW (by omega),Hp (by omega),eo] at qN;have hTe:T=(((l.getD (r*(h+n)) 0).toNat:av):bk):=by rw[hT];unfold NI;rw[b8 eh]
    rw[<-hTe] at qN;simp(disch:=omega)only[aj,QM,WP,↓ab,hn,bq d1,hi0,qN,a9 cx b4,aB];exact go2 _ (by simp only[ag,hn]) (by simp only[aa,↓ab,WP,h2]) (by simp only[aa,↓ab,WP,h6]) (by simp only[aa,↓ab,WP,h7]) (by simp only[aa,↓ab,WP,cJ]) (by simp only[aa,↓ab,WP,eC]) (by simp only[aa,↓ab,WP]) (by simp only[aa,↓ab]) (by simp only[aa,↓ab,WP,Gg]) (by simp only[aa,↓ab,WP,Gh]) (by simp only[aa,↓ab,WP,BZ])
   have d1:¬(h:bk)=1:=by omega
   have hTe:T=1:=by rw[hT];unfold NI;rw[bt eh]
   simp(disch:=omega)only[aj,bb d1];exact go2 _ (by simp only[ag,hn]) (by simp only[aa,↓ab,WP,h2]) (by simp only[aa,↓ab,WP,h6]) (by simp only[aa,↓ab,WP,h7]) (by simp only[aa,↓ab,WP,cJ]) (by simp only[aa,↓ab,WP,eC]) (by simp only[aa,↓ab,WP]) (by simp only[aa,↓ab,WP,hTe]) (by simp only[aa,↓ab,WP,Gg]) (by simp only[aa,↓ab,WP,Gh]) (by simp only[aa,↓ab,WP,BZ])
  clear hn h1 h2 h6 h7 f;rintro z f t (⟨rfl,fF,aF,hn,h4,h5⟩|⟨rfl,fF,o,ho,hF,aF,hn,cJ⟩)
  ·rw[b8 fF] at ep;simp(disch:=omega)only[aj,al,oneOf,QM,↓ab,hn,h4,h5,c7];rw[eK,ep];exact⟨_,rfl,⟨.nil,aM.nil _,h03.trans (aF.weaken h03.next)⟩⟩
  rw[bt (by rw[fF];simp)] at ep;simp(disch:=omega)only[aj,al,oneOf,QM,WP,↓ab,hn,cJ,c7];rw[eK,ep];exact⟨o,rfl,⟨by rw[gV];exact ho,fun j hj=>by have:=hF j hj;have:=h03.next;omega,h03.trans (aF.weaken h03.next)⟩⟩
 by_cases XO:10<=p
 ·have eh:h=1:=by rw[hh,b8 XO]
  simp(disch:=omega)only[aj,QM,↓ab,hn,bq XO];exact go _ (by simp only[ag,hn]) (by simp only[aa,↓ab,WP,h1]) (by simp only[aa,↓ab,WP]) (by simp only[aa,↓ab,WP]) (by simp only[aa,↓ab,eh];rfl)
 have eh:h=0:=by rw[hh,bt XO]
 simp(disch:=omega)only[aj,bb XO];exact go _ (by simp only[ag,hn]) (by simp only[aa,↓ab,WP,h1]) (by simp only[aa,↓ab,WP]) (by simp only[aa,↓ab,WP]) (by simp only[aa,↓ab,WP,eh];rfl)
end Go.Proofs.YtdfjfncifneocaaGreat
namespace Go.Cl
section
variable {P:er} {lib:aD} {all r:aC Oper} {f:aZ} {s:au} {d:Option Tmp} {Q:aZ->au->Prop}
end
end Go.Cl
namespace Go.Cl.Lz
theorem aaP (P:er)(t:eM)(k' :ga)(x:av){k:av}(h:k<8):dB P .shr t (.int .u8 (x:av)) (.int k' (k:av))=some (.int .u8 ((x/2^k:av):bk)):=by
 rw[mL P t .u8 _ _ k' (by omega)];have e:min ((k:av):bk).toNat cp.bits=k:=by
  have:cp.bits=8:=rfl;rw[this,bw];omega
 rw[e,Int.fdiv_eq_ediv_of_nonneg _ (by exact Int.pow_nonneg (by omega))]
 norm_cast
theorem UG (x:av)(h:x<256):cp.wrap (((cc cp.bits (x:bk)&&&cc cp.bits 1).toNat:av):bk)=((x%2:av):bk):=by
 have e1:cp.bits=8:=rfl;rw[e1];have:(cc 8 (x:bk)&&&cc 8 1).toNat=x%2:=by
  rw[BitVec.toNat_and,c9,dv,eg (by omega)];show x&&&1=_;exact Nat.and_one_is_mod _
 rw[this,fO];omega
theorem ae1 (P:er)(t:eM)(k' :ga)(a:bk):dB P .shl t (.int .i64 a) (.int k' 1)=some (.int .i64 (cM.wrap (a*2))):=by
 rw[p9 P t .i64 a 1 k' (by decide)];rfl
theorem UH {n d:av}(hn:n<1099511627776)(hd:d<2):cM.wrap (((cc cM.bits ((n:bk)*2)|||cc cM.bits (d:bk)).toNat:av):bk)=((n*2+d:av):bk):=by
 have e1:cM.bits=64:=rfl;rw[e1];have:(cc 64 ((n:bk)*2)|||cc 64 (d:bk)).toNat=n*2+d:=by
  have e2:((n:bk)*2)=((n*2:av):bk):=by omega
  rw[e2,BitVec.toNat_or,c9,c9,dv,dv,eg (by omega),eg (by omega)];have:=Nat.shiftLeft_add_eq_or_of_lt (i:=1) (b:=d) hd n;rw[Nat.shiftLeft_eq] at this;exact this.symm
 rw[this,aB (by omega)]
end Go.Cl.Lz
namespace Go.Cl
theorem KV {v:bl}(h:aT v=true):v.cells.toList=[v]:=by cases v<;>first|rfl|cases h
theorem az.uD {P:er}{e:eM}{n:av}(nd:bU P e=some true)(cX:br P e=some n){s:au}{i:av}{cs:aC bl}(h:az s i cs){off c:av}(hc:c=cs.length+1)(ho:off+n<=cs.length):
  aN P s e (.pointer (some ⟨i,off,some c⟩))=some (.agg ((cs.drop off).take n).toArray):=by
 obtain⟨low,z,h1,h2⟩:=h.eE;subst hc;unfold aN;simp only[nd,cX];rw[ij h1 h2 (cL _) (by omega)]
theorem az.Rk {P:er}{e:eM}{n:av}(cX:br P e=some (n+1)){s:au}{i:av}{cs:aC bl}(h:az s i cs){off c:av}(hc:c=cs.length+1){v:bl}{vs:aC bl}(hv:v.cells.toList=vs)(hl:vs.length=n+1)(gF:vs.all aT=true)(ho:off+(n+1)<=cs.length):
  ∃s',fw P s e (.pointer (some ⟨i,off,some c⟩)) v=some s' /\az s' i (cs.take off++vs++cs.drop (off+(n+1)))/\(s'.next=s.next/\∀j,j≠i->s'.heap.get j=s.heap.get j):=by
 obtain⟨low,z,h1,h2⟩:=h.eE;subst hc;have hlen:(cs.take off++vs++cs.drop (off+(n+1))).length=cs.length:=by simp;omega
 refine⟨s.put i (.eE ⟨cs.take off++vs++cs.drop (off+(n+1)),cs.length+1,true,z⟩),?_,⟨h.lt,cs.length+1,z,?_,by rw[hlen];exact cL _⟩,rfl,fun j hj=>au.bo _ _ _ _ (Ne.symm hj)⟩
 ·unfold fw;simp only[cX,hv,hl];unfold au.storeAt;have IE:setAt cs off vs=some (cs.take off++vs++cs.drop (off+(n+1))):=by
   rw[uy _ _ _ (by rw[hl];omega),hl]
  have jZ:(true&&Nat.ble low (cs.length+1)&&Nat.beq (cs.length+1) (cs.length+1)&&vs.all aT)=true:=by
   simp only[Bool.true_and,Bool.and_eq_true,Nat.ble_eq];exact⟨⟨h2,Nat.beq_refl _⟩,gF⟩
  simp only[h1,jZ,if_true,IE];cases vs with
  |nil=>simp at hl
  |cons a r=>simp
 rw[au.cC _ _ _ (by omega)]
section
variable {P:er} {lib:aD} {all r:aC Oper} {f:aZ} {s:au} {d:Option Tmp} {Q:aZ->au->Prop}
theorem lJ {e:eM}{n:av}(cX:br P e=some (n+1)){i:av}{cs:aC bl}(h:az s i cs){off c:av}(hc:c=cs.length+1){v:bl}{vs:aC bl}(hv:v.cells.toList=vs)(hl:vs.length=n+1)(gF:vs.all aT=true)(ho:off+(n+1)<=cs.length)
  (K:∀s',az s' i (cs.take off++vs++cs.drop (off+(n+1)))->s'.next=s.next->(∀j,j≠i->s'.heap.get j=s.heap.get j)->iH P lib all r f s d Q (some (.val undef s'))):iH P lib all r f s d Q (Fk (fw P s e (.pointer (some ⟨i,off,some c⟩)) v)):=by
 obtain⟨s',h1,h2,h3,h4⟩:=h.Rk cX hc hv hl gF ho;rw[h1,kW];exact K s' h2 h3 h4
theorem oQ {id:av}{e:eM}(cX:br P e=some 1){i:av}{cs:aC bl}(h:az s i cs){off c:av}(hc:c=cs.length+1)(ho:off<cs.length){v:bl}(hv:aT v=true)
  (K:∀s',az s' i (cs.set off v)->s'.next=s.next->(∀j,j≠i->s'.heap.get j=s.heap.get j)->uv P lib all r id f d Q undef s'):rh P lib all r id f d s Q (Fk (fw P s e (.pointer (some ⟨i,off,some c⟩)) v)):=by
 obtain⟨s',h1,h2,h3,h4⟩:=h.store cX hc ho hv;rw[h1,kW];exact K s' h2 h3 h4
end
def Pk (p:av×av):aC bl:=[.int .i64 (p.1:av),.int .i64 (p.2:av)]
def nF (l:aC (av×av)):aC bl:=l.flatMap Pk
theorem uS (l:aC (av×av))(p:av×av):nF (l++[p])=nF l++[.int .i64 (p.1:av),.int .i64 (p.2:av)]:=by simp[nF,Pk]
theorem KW {l:aC (av×av)}{i:av}{p:av×av}(h:l[i]?=some p):(nF l).getD (i*2+0) undef= .int .i64 (p.1:av):=Kn (f:=Pk) (z:=2) (fun _=>rfl) (by omega) l i p h
theorem KX {l:aC (av×av)}{i:av}{p:av×av}(h:l[i]?=some p):(nF l).getD (i*2+1) undef= .int .i64 (p.2:av):=Kn (f:=Pk) (z:=2) (fun _=>rfl) (by omega) l i p h
theorem aU.UI {P:er}{t e:eM}{m z:av}(hu:P.underlying t=some (.array m e))(cX:br P e=some 1){s:au}{v:bl}{n:av}{l:aC bl}(h:aU s z v n l){i k:av}(hi:i<n)(hk:k<m)(kk:ga):
  bK P t (aX z v i) (.int kk (k:av))=some (bP (aX z v i) k):=by
 have hb:Nat.blt k m=true:=by simpa [gf] using hk
 show bK P t (aX z v i) (.int kk (gg k))=_;cases h with
 |nil=>omega
 |bare=>omega
 |of j off n c b l hj hbk hz hl hc hlen eO ht=>
  unfold bK;rw[hu];simp only[aX,cX,hb,if_true,eb,bP]
theorem Pl {P:er}{t e:eM}{m:av}(hu:P.underlying t=some (.array m e))(cX:br P e=some 1)(i o c:av){k:av}(hk:k<m)(kk:ga):
  bK P t (.pointer (some ⟨i,o,some c⟩)) (.int kk (k:av))=some (.pointer (some ⟨i,o+k,some c⟩)):=by
 have hb:Nat.blt k m=true:=by simpa [gf] using hk
 show bK P t _ (.int kk (gg k))=_;unfold bK;rw[hu];simp only[cX,hb,if_true,eb]
end Go.Cl
namespace Go.Proofs.YtdfjfncifneocaaGreat
open Go.Cl Go.Cl.Lz Go.Cl.Rw
theorem gL:br af 122=some (1+1):=by kernel_rfl
theorem Rl:bU af 122=some true:=by kernel_rfl
theorem Ap:br af 121=some 1:=by kernel_rfl
theorem Aq:bU af 121=some false:=by kernel_rfl
theorem UJ (i o c:av):ay af 124 (.pointer (some ⟨i,o,some c⟩)) 0=some (.pointer (some ⟨i,o+0,some c⟩)):=by
 unfold ay;rw[bz];simp[iA]
theorem UL (i o c:av):ay af 124 (.pointer (some ⟨i,o,some c⟩)) 1=some (.pointer (some ⟨i,o+1,some c⟩)):=by
 unfold ay;rw[bz];simp[aV]
theorem Pm (i o c:av):ay af 124 (.pointer (some ⟨i,o,some c⟩)) 2=some (.pointer (some ⟨i,o+2,some c⟩)):=by
 unfold ay;rw[bz];simp[aV]
theorem rN (i o c:av):ay af 124 (.pointer (some ⟨i,o,some c⟩)) 3=some (.pointer (some ⟨i,o+3,some c⟩)):=by
 unfold ay;rw[bz];simp[Ap]
theorem KY (i o c:av):ay af 124 (.pointer (some ⟨i,o,some c⟩)) 4=some (.pointer (some ⟨i,o+4,some c⟩)):=by
 unfold ay;rw[bz];simp[gL]
theorem uT (i o c:av):ay af 124 (.pointer (some ⟨i,o,some c⟩)) 5=some (.pointer (some ⟨i,o+6,some c⟩)):=by
 unfold ay;rw[bz];simp[iA]
structure nG (base:av) (s:au) (j:av) (bv rv ov:bl) (b:aC ax) (p:av) (most:bk) (rows:aC (av×av)) (last:av×av) (out:aC ax):Prop where
 fE:az s j [bv,.int .i64 p,.int .i64 most,rv,.int .i64 last.1,.int .i64 last.2,ov]
 b:ML base s 1 bv b.length (ofBytes b)
 rows:Own s 2 rv rows.length (nF rows)
 rf:aM base rv
 rj:aI rv≠some j
 out:Own s 1 ov out.length (ofBytes out)
 of:aM base ov
 oj:aI ov≠some j
 ox:∀k,aI ov=some k->aI rv≠some k
 lo:base<=j
abbrev xw (j:av):bl:= .pointer (some ⟨j,0,some 8⟩)
theorem nG.put {base:av}{s s' :au}{j:av}{bv rv ov:bl}{b:aC ax}{p p' :av}{most:bk}{rows:aC (av×av)}{last last' :av×av}{out:aC ax}(h:nG base s j bv rv ov b p most rows last out)
  (ht:az s' j [bv,.int .i64 p',.int .i64 most,rv,.int .i64 last'.1,.int .i64 last'.2,ov]) (hn:s'.next=s.next) (hs:∀i,i≠j->s'.heap.get i=s.heap.get i):nG base s' j bv rv ov b p' most rows last' out:=
 ⟨ht,h.b.stay (aw.aK hn hs h.lo),h.rows.aK hn hs h.rj,h.rf,h.rj,h.out.aK hn hs h.oj,h.of,h.oj,h.ox,h.lo⟩
def XP (base:av)(s:au)(j:av)(bv rv ov:bl)(b:aC ax)(p:av)(most:bk)(rows:aC (av×av))(last:av×av)(out:aC ax)(w:av)(v:bl)(s' :au):Prop:=
 (8*b.length<p+w/\v= .tuple #[.int .i64 0,.int .i64 2]/\s' =s)\/
 (¬8*b.length<p+w/\v= .tuple #[.int .i64 (jN b p w:av),.int .i64 0]/\nG base s' j bv rv ov b (p+w) most rows last out/\aw base s s')
theorem NJ {lib:aD}(hl:lib.at 106=none)(y9:lib.at 152=none)(base:av)(s:au)(j:av)(bv rv ov:bl)(b:aC ax)(p:av)(most:bk)(rows:aC (av×av))(last:av×av)(out:aC ax)
  (h:nG base s j bv rv ov b p most rows last out) (hb:b.length<=4000000) (hp:p<=8*b.length) (hr:rows.length<=1000000):
  Runs af lib 106 [xw j] s (XP base s j bv rv ov b p most rows last out (width (258+rows.length))):=by
 refine Runs.enter 61 Tryz.func106 rfl hl rfl rfl ?_;intro f hn hf;have h0:f.get 0=xw j:=hf 0;clear hf;have g0:=h.fE.load (P:=af) gJ (off:=0) (c:=8) rfl (by simp);have g1:=h.fE.load (P:=af) aP (off:=1) (c:=8) rfl (by simp);have g3:=h.fE.load (P:=af) Aq (off:=3) (c:=8) rfl (by simp);obtain⟨w,hw⟩:∃w,w=width (258+rows.length):=⟨_,rfl⟩
 have JB:=En (258+rows.length);have ajt:(258:bk)+(rows.length:bk)=((258+rows.length:av):bk):=by omega
 rw[<-hw] at JB|-
 have nj:=h.b.aL;simp(disch:=omega)only[aj,ak,ad,QM,WP,↓ab,hn,h0,rN,g3,h.rows.aL.aQ b5,aB];rw[ajt];refine(Q7 y9 s (258+rows.length)).mono ?_;rintro _ s1 ⟨rfl,fL⟩;subst fL;rw[<-hw];by_cases c1:8*b.length<p+w
 ·have wG:8*(b.length:bk)-(p:bk)<(w:bk):=by omega
  simp(disch:=omega)only[aj,ak,al,oneOf,ad,QM,WP,↓ab,hn,h0,UJ,UL,g0,g1,nj.self,nj.aQ an,aB,bq wG,e5];exact .inl ⟨c1,rfl,rfl⟩
 have wG:¬8*(b.length:bk)-(p:bk)<(w:bk):=by omega
 simp(disch:=omega)only[aj,ak,ad,QM,WP,↓ab,hn,h0,UJ,UL,g0,g1,nj.self,nj.aQ an,aB,bb wG];refine Comes.bD (fun z f s' =>∃(k:av),z=w-k/\k<=w/\nG base s' j bv rv ov b (p+k) most rows last out/\aw base s1 s' /\f.n=61/\f.get 0=xw j/\f.get 5= .int .i64 (jN b p k:av)/\f.get 26= .int .i64 w/\f.get 27= .int .i64 k)
  (fun y f s' =>y= .exit 0/\nG base s' j bv rv ov b (p+w) most rows last out/\aw base s1 s' /\f.n=61/\f.get 5= .int .i64 (jN b p w:av))
  ⟨0,rfl,by omega,h,aw.refl _ _,by simp only[ag,hn],by simp only[aa,↓ab,WP,h0],by simp only[aa,↓ab,WP];rfl,by simp only[aa,↓ab,WP],by simp only[aa,↓ab];rfl⟩ ?_ ?_
 ·clear hn h0 f g0 g1 g3 nj;rintro Q hQ z f s2 ⟨k,rfl,hk,hR,aF,hn,h0,h5,h26,h27⟩;have g0:=hR.fE.load (P:=af) gJ (off:=0) (c:=8) rfl (by simp);have g1:=hR.fE.load (P:=af) aP (off:=1) (c:=8) rfl (by simp);have nj:=hR.b.aL;by_cases hkw:k<w
  ·have c2:(k:bk)<(w:bk):=by omega
   have hi:(p+k)/8<b.length:=by omega
   have jv:=nj.indexAddr (k:= .i64) (x:=(((p+k)/8:av):bk)) an cO (by omega) (by omega);rw[bw] at jv;have eF:=nj.cu (P:=af) gQ hi;rw[aW hi] at eF;have hm:(p+k)%8<8:=Nat.mod_lt _ (by omega);have e7:(7:bk)-(((p+k)%8:av):bk)=((7-(p+k)%8:av):bk):=by omega
   have h7:7-(p+k)%8<8:=by omega
   obtain⟨y,hy⟩:∃y,y=(b.getD ((p+k)/8) 0).toNat:=⟨_,rfl⟩
   have nh:y<256:=by rw[hy];exact(b.getD ((p+k)/8) 0).toNat_lt
   rw[<-hy] at eF;have hdiv:y/2^(7-(p+k)%8)<256:=Nat.lt_of_le_of_lt (Nat.div_le_self _ _) nh;have NK:y/2^(7-(p+k)%8)%2=tg b (p+k):=by rw[hy];rfl
   have m3:=Ep b (p+k);have hhl:=uQ b p k;have ao8:2^k<=2^12:=eI (by omega) (by omega);have oh:=UH (n:=jN b p k) (d:=tg b (p+k)) (by omega) m3;have hand:=UG _ hdiv;rw[NK] at hand;have x9:cM.wrap ((tg b (p+k):av):bk)=((tg b (p+k):av):bk):=aB (by omega);have xx:jN b p k*2+tg b (p+k)=jN b p (k+1):=rfl;rw[xx] at oh;simp(disch:=omega)only[aj,ak,QM,WP,↓ab,hn,h0,h5,h26,h27,bq c2,UJ,UL,g0,g1,nj.self,Nq,Xn,gA,dZ,ae1,jv,eF,e7,aaP,fY,hand,b4,a9 cx b4,x9,kd,oh,aB];refine ba aV hR.fE rfl (by simp) rfl ?_;intro s3 jE oX iT;simp(disch:=omega)only[aj,QM,WP,↓ab,hn,h27,aB];refine ar (w-(k+1)) (by omega) ⟨k+1,rfl,by omega,?_,aF.trans (aw.aK oX iT hR.lo),by simp only[aa,ag,↓ab,WP,hn,h0,h26,true_and];rfl⟩;exact hR.put (p' :=p+(k+1)) (last' :=last) jE oX iT
  obtain rfl:k=w:=by omega
  have c2:¬(k:bk)<(k:bk):=by omega
  simp(disch:=omega)only[aj,QM,↓ab,hn,h26,h27,bb c2];exact hQ _ _ _ ⟨rfl,hR,aF,by simp only[aa,ag,↓ab,WP,hn,h5,fr]⟩
 clear hn h0 f;rintro _ f s2 ⟨rfl,hR,aF,hn,h5⟩;simp(disch:=omega)only[aj,al,oneOf,QM,WP,↓ab,hn,h5,e5];exact .inr ⟨c1,rfl,hR,aF⟩
end Go.Proofs.YtdfjfncifneocaaGreat
namespace Go.Cl.Lz
def Gk (out:aC ax)(a:av):av->aC ax
 |0=>out
 |n+1=>Gk out a n++[(Gk out a n).getD (a+n) 0]
theorem sB (out:aC ax)(a:av):∀n,(Gk out a n).length=out.length+n
 |0=>rfl
 |n+1=>by rw[Gk,a8,sB out a n];rfl
end Go.Cl.Lz
namespace Go.Proofs.YtdfjfncifneocaaGreat
open Go.Cl Go.Cl.Lz Go.Cl.Rw
theorem KZ (a b:bk):da af 122 [(0,.int .i64 a),(1,.int .i64 b)]=some (.agg #[.int .i64 a,.int .i64 b]):=by
 unfold da;rw[cd]
 have hz:b6 af 122=some (.agg #[.int .i64 0,.int .i64 0]):=by kernel_rfl
 rw[hz];simp[aV,cr,iD,iu,setAt,Value.cells]
theorem NL {j:av}{v:bl}{s s' :au}(h:aw s.next s s'):fK j v s v s' :=⟨h.next,fun i hi _ _=>h.get i hi,.inl rfl⟩
def I0 (base:av)(s:au)(j:av)(bv rv ov:bl)(b:aC ax)(p:av)(most:bk)(rows:aC (av×av))(out:aC ax)(n:av)(X:aC ax)(v:bl)(s' :au):Prop:=
 ∃(Wn:bl) (last' :av×av) (K3:aC ax),nG base s' j bv rv Wn b p most rows last' K3/\fK j ov s Wn s' /\
  ((v= .int .i64 0/\((out.length+n:av):bk)<=most/\last' =(out.length,n)/\K3=X)\/(v= .int .i64 7/\most<((out.length+n:av):bk)))
theorem nG.grow {base:av}{s s1 s2 s3:au}{j:av}{bv rv ov o2:bl}{b:aC ax}{p:av}{most:bk}{rows:aC (av×av)}{last:av×av}{out Rm:aC ax}(h:nG base s j bv rv ov b p most rows last out)(hb:base<=s.next)
  (h1:aw s.next s s1) (h2:Own s2 1 o2 Rm.length (ofBytes Rm)) (xT:aM base o2) (dK:bG ov s1 s2) (fM:aI o2=aI ov\/∃i,aI o2=some i/\s1.next<=i)
  (ht:az s3 j [bv,.int .i64 p,.int .i64 most,rv,.int .i64 last.1,.int .i64 last.2,o2]) (hn:s3.next=s2.next) (hs:∀i,i≠j->s3.heap.get i=s2.heap.get i):
  nG base s3 j bv rv o2 b p most rows last Rm/\fK j ov s o2 s3:=by
 have a7:=h.fE.lt;have hoj:aI o2≠some j:=by
  rcases fM with e|⟨i,e,hi⟩
  ·rw[e];exact h.oj
  rw[e];intro q;injection q with q;have:=h1.next;omega
 refine⟨⟨ht,((h.b.stay (h1.weaken hb)).stay (dK.keeps h.of (cz hb h1.next))).stay (aw.aK hn hs h.lo),((h.rows.keeps h1).turns dK (fun i hi e=>h.ox i e hi)).aK hn hs h.rj,h.rf,h.rj,h2.aK hn hs hoj,xT,hoj,fun k hk=> ?_,h.lo⟩,
  ((NL h1).trans (fK.turns dK fM)).trans (fK.put hn hs)⟩
 rcases fM with e|⟨i,e,hi⟩
 ·rw[e] at hk;exact h.ox k hk
 rw[e] at hk;injection hk with hk;subst hk
 intro q;have:=h.rows.ei _ q;have:=h1.next;omega
theorem HC {lib:aD}(hl:lib.at 154=none)(base:av)(s:au)(j:av)(bv rv ov:bl)(b:aC ax)(p:av)(most:bk)(rows:aC (av×av))(last:av×av)(out:aC ax)(a n:av)
  (h:nG base s j bv rv ov b p most rows last out) (hb:base<=s.next) (ha:a<out.length) (WR:1<=n) (ho:out.length+n<=100000000):
  Runs af lib 154 [xw j,.int .i64 a,.int .i64 n] s (I0 base s j bv rv ov b p most rows out n (Gk out a n)):=by
 refine Runs.enter 51 Tryz.func154 rfl hl rfl rfl ?_;intro f hn hf;have h0:f.get 0=xw j:=hf 0;have h1:f.get 1= .int .i64 a:=hf 1;have h2:f.get 2= .int .i64 n:=hf 2;clear hf;have g6:=h.fE.load (P:=af) gJ (off:=6) (c:=8) rfl (by simp);simp only[aj,ak,ad,ae,QM,WP,↓ab,hn,h0,h2,KY,uT,g6,h.out.aL.aQ an,KZ];refine lJ gL h.fE rfl rfl rfl rfl (by simp) ?_;intro s1 eJ gZ fL;have nH:nG base s1 j bv rv ov b p most rows (out.length,n) out:=h.put eJ gZ fL;have B0:fK j ov s ov s1:=fK.put gZ fL;simp only[aj,QM,WP,↓ab,hn,h2];refine Comes.bD (fun z f s' =>∃(k:av) (Wn:bl),z=n-k/\k<=n/\nG base s' j bv rv Wn b p most rows (out.length,n) (Gk out a k)/\fK j ov s Wn s' /\(k=0\/((out.length+k:av):bk)<=most)/\f.n=51/\f.get 0=xw j/\f.get 1= .int .i64 a/\f.get 18= .int .i64 n/\f.get 19= .int .i64 k)
  (fun y f s' =>(y= .exit 0/\f.n=51/\I0 base s j bv rv ov b p most rows out n (Gk out a n) (.int .i64 0) s')\/(y= .ret/\f.n=51/\f.get 6= .int .i64 7/\I0 base s j bv rv ov b p most rows out n (Gk out a n) (.int .i64 7) s'))
  ⟨0,ov,rfl,by omega,nH,B0,.inl rfl,by simp only[aa,ag,↓ab,WP,hn,h0,h1,true_and];rfl⟩ ?_ ?_
 ·clear hn h0 h1 h2 f g6 nH B0 eJ gZ fL s1;rintro Q hQ z f s2 ⟨k,o1,rfl,hk,hR,dg,YN,hn,h0,h1,IJ,Kv⟩;have dr:=cz hb dg.next;have g6:=hR.fE.load (P:=af) gJ (off:=6) (c:=8) rfl (by simp);have g2:=hR.fE.load (P:=af) aP (off:=2) (c:=8) rfl (by simp);have hlen:=sB out a k;have UM:=hR.out.aL;by_cases Ri:k<n
  ·have c1:(k:bk)<(n:bk):=by omega
   by_cases c2:most<=((Gk out a k).length:bk)
   ·simp only[aj,ak,ad,QM,WP,↓ab,hn,h0,IJ,Kv,bq c1,Pm,uT,g2,g6,hR.out.self,UM.aQ an,bq c2];refine hQ _ _ _ (.inr ⟨rfl,by simp only[ag,hn],by simp only[aa,↓ab],o1,_,_,hR,dg,.inr ⟨rfl,by omega⟩⟩)
   have YY:a+k<(Gk out a k).length:=by omega
   have dI:=aw.spare s2 1;have ae2:=(hR.out.keeps dI).aL;have g6S:=(hR.fE.keeps dI).load (P:=af) gJ (off:=6) (c:=8) rfl (by simp);have jv:=ae2.indexAddr (k:= .i64) (x:=((a:bk)+(k:bk))) an cO (by omega) (by omega);rw[show((a:bk)+(k:bk)).toNat=a+k by omega] at jv;have eF:=ae2.cu (P:=af) gQ YY;rw[aW YY] at eF;simp only[aj,ak,ad,QM,WP,↓ab,hn,h0,IJ,Kv,bq c1,Pm,uT,g2,g6,hR.out.self,UM.aQ an,bb c2];refine cN.DU 1 (by kernel_rfl) (by kernel_rfl) ?_;simp(disch:=omega)only[aj,ak,ae,QM,WP,↓ab,hn,h0,h1,uT,g6S,hR.out.self,aB,jv,eF,gI an cO rU];refine mO (base:=s2.next) (by rfl) (by rw[bu];omega) (cL _) ?_;intro bs t2 nj sd aR jD _;have dP:=(aw.spare s2 1).trans aR;have iV:=hR.out.keeps dP;simp only[aj,ad,QM,WP,↓ab,hn];refine oN an an (.inl ⟨_,rfl⟩) cO sm rU rfl iV nj.aL.src rfl (by decide) rfl (by omega) (by omega) hR.of (by have:=dP.next;omega) ?_;intro o3 t3 wM Bq bA jE B1;have NM:=(hR.fE.keeps dP).turns jE hR.oj;simp only[aj,QM,WP,↓ab,hn,uT];refine oQ iA NM rfl (by simp) wM.aL.aT ?_;intro s4 ly tw qi;have e1:ofBytes (Gk out a k)++[.int .u8 (((Gk out a k).getD (a+k) 0).toNat:bk)]=ofBytes (Gk out a (k+1)):=by rw[Gk,ct];rfl
   have e2:(Gk out a k).length+1=(Gk out a (k+1)).length:=by rw[sB,sB];omega
   rw[e1,e2] at wM;obtain⟨rO,Rn⟩:=hR.grow dr dP wM Bq jE B1 ly tw qi;simp(disch:=omega)only[aj,QM,WP,↓ab,hn,Kv,aB];refine ar (n-(k+1)) (by omega) ⟨k+1,o3,rfl,by omega,rO,dg.trans Rn,.inr (by omega),by simp only[ag,hn],by simp only[aa,↓ab,WP,h0],by simp only[aa,↓ab,WP,h1],by simp only[aa,↓ab,WP,IJ],by simp only[aa,↓ab];rfl⟩
  obtain rfl:k=n:=by omega
  have c1:¬(k:bk)<(k:bk):=by omega
  simp only[aj,QM,↓ab,hn,IJ,Kv,bb c1];exact hQ _ _ _ (.inl ⟨rfl,by simp only[ag,hn],o1,_,_,hR,dg,.inl ⟨rfl,by omega,rfl,rfl⟩⟩)
 clear hn h0 h1 h2 f;rintro y f s2 (⟨rfl,hn,hP⟩|⟨rfl,hn,h6,hP⟩)
 ·simp only[aj,al,oneOf,QM,↓ab,hn,e6];exact hP
 simp only[aj,al,oneOf,QM,↓ab,hn,h6,e6];exact hP
theorem NN {lib:aD}(hl:lib.at 153=none)(base:av)(s:au)(j:av)(bv rv ov:bl)(b:aC ax)(p:av)(most:bk)(rows:aC (av×av))(last:av×av)(out:aC ax)(c:av)
  (h:nG base s j bv rv ov b p most rows last out) (hb:base<=s.next) (hc:c<256) (ho:out.length<=100000000):
  Runs af lib 153 [xw j,.int .i64 c] s (I0 base s j bv rv ov b p most rows out 1 (out++[dc c])):=by
 refine Runs.enter 35 Tryz.func153 rfl hl rfl rfl ?_;intro f hn hf;have h0:f.get 0=xw j:=hf 0;have h1:f.get 1= .int .i64 c:=hf 1;clear hf;have g6:=h.fE.load (P:=af) gJ (off:=6) (c:=8) rfl (by simp);have g2:=h.fE.load (P:=af) aP (off:=2) (c:=8) rfl (by simp);by_cases c2:most<=(out.length:bk)
 ·simp only[aj,ak,al,oneOf,ad,QM,WP,↓ab,hn,h0,Pm,uT,g2,g6,h.out.self,h.out.aL.aQ an,bq c2,e8];exact⟨ov,_,_,h,fK.refl _ _ _,.inr ⟨rfl,by omega⟩⟩
 simp only[aj,ak,ad,ae,QM,WP,↓ab,hn,h0,Pm,KY,uT,g2,g6,h.out.self,h.out.aL.aQ an,bb c2,KZ];refine lJ gL h.fE rfl rfl rfl rfl (by simp) ?_;intro s1 eJ gZ fL;have nH:nG base s1 j bv rv ov b p most rows (out.length,1) out:=h.put eJ gZ fL;have g6:=nH.fE.load (P:=af) gJ (off:=6) (c:=8) rfl (by simp);have x9:cp.wrap (c:bk)=(((dc c).toNat:av):bk):=by rw[fO,UInt8.toNat_ofNat'];omega
 simp only[aj,ak,ae,QM,WP,↓ab,hn,h0,h1,uT,g6,a9 b4 cx,x9,gI an cO rU];refine cj an cO sm rU rfl nH.out (by simp only[aa,↓ab,WP]) (by decide) (by simp only[ag,hn];decide) (by simp only[ag,hn];decide) (by rfl) (by decide) rfl (by omega) (by omega) nH.of (by omega) ?_;intro bs o2 s2 iV ig aR dK sd;have ajw:=nH.fE.turns dK nH.oj;simp only[aj,QM,WP,↓ab,hn,uT];refine ba iA ajw rfl (by simp) iV.aL.aT ?_;intro s3 jE oX iT;have e1:ofBytes out++[.int .u8 (((dc c).toNat:av):bk)]=ofBytes (out++[dc c]):=by rw[ct];rfl
 have e2:out.length+1=(out++[dc c]).length:=by simp
 rw[e1,e2] at iV;obtain⟨uU,pF⟩:=nH.grow (by omega) (aw.refl _ _) iV ig dK sd jE oX iT;simp only[aj,al,oneOf,QM,↓ab,hn,e8];exact⟨o2,_,_,uU,(fK.put gZ fL).trans pF,.inl ⟨rfl,by omega,rfl,rfl⟩⟩
end Go.Proofs.YtdfjfncifneocaaGreat
namespace Go.Cl.Lz
theorem xy {A B:aC ax}(i:av):(A++B).getD (A.length+i) 0=B.getD i 0:=by
 rw[ao,ao,cv (by omega),ek]
theorem za {A B:aC ax}{i:av}(h:i<A.length):(A++B).getD i 0=A.getD i 0:=by
 rw[ao,ao,b7 h]
theorem lA {A:aC ax}{k:av}(h:k<A.length):A.take (k+1)=A.take k++[A.getD k 0]:=by
 rw[List.take_succ_eq_append_getElem h,ao,cA h];rfl
theorem Eu {out:aC ax}{a:av}:∀n,a+n<=out.length->Gk out a n=out++(out.drop a).take n
 |0,h=>by simp[Gk]
 |n+1,h=>by
  rw[Gk,Eu n (by omega),za (by omega),ea]
  congr 1
  rw[lA (by rw[a0];omega)]
  congr 2
  rw[ao,ao,cB]
theorem Ew {out:aC ax}{a n:av}(h:a+n=out.length)(hn:1<=n):Gk out a (n+1)=out++(out.drop a++(out.drop a).take 1):=by
 have hl:(out.drop a).length=n:=by rw[a0];omega
 rw[Gk,Eu n (by omega),cT (by omega),h];have e:=xy (A:=out) (B:=out.drop a) 0;rw[eo] at e;rw[e,ea]
 congr 2
 rw[lA (by omega),List.take_zero,et]
def uW (out:aC ax)(rows:aC (av×av))(T:aC (aC ax)):Prop:=
 rows.length=T.length/\∀(i:av) (q:av×av),rows[i]?=some q->1<=q.2/\q.1+q.2<=out.length/\T[i]?=some ((out.drop q.1).take q.2)
def sC (out:aC ax)(last:av×av)(L:aC ax):Prop:=
 (last.2=0/\L=[])\/(1<=last.2/\last.1+last.2=out.length/\L=out.drop last.1)
theorem sC.zero {out:aC ax}{last:av×av}{L:aC ax}(h:sC out last L):last.2=0↔L=[]:=by
 rcases h with ⟨h1,h2⟩|⟨h1,h2,h3⟩
 ·exact⟨fun _=>h2,fun _=>h1⟩
 refine⟨fun e=>by omega,fun e=> ?_⟩;have:=gd eX h3;rw[e,a0,cg] at this;omega
theorem sC.next (out x:aC ax)(hx:x≠[]):sC (out++x) (out.length,x.length) x:=
 .inr ⟨dk.mpr hx,by simp,by simp⟩
def rowsOf (rows:aC (av×av))(last:av×av):aC (av×av):=if 0<last.2/\258+rows.length<4096 then rows++[(last.1,last.2+1)] else rows
theorem uW.grow {out x:aC ax}{rows:aC (av×av)}{T:aC (aC ax)}{last:av×av}{L:aC ax}(h:uW out rows T)(hL:sC out last L)(hx:x≠[]):uW (out++x) (rowsOf rows last) (grow T L x):=by
 obtain⟨h1,h2⟩:=h;have xK:=dk.mpr hx;have old:∀(i:av) (q:av×av),rows[i]?=some q->1<=q.2/\q.1+q.2<=(out++x).length/\T[i]?=some (((out++x).drop q.1).take q.2):=fun i q hq=>by
  obtain⟨a,b,c⟩:=h2 i q hq;refine⟨a,by rw[a8];omega,?_⟩;rw[c,cb (by omega),c8 (by rw[a0];omega)]
 unfold rowsOf Lz.grow;by_cases c1:0<last.2/\258+rows.length<4096
 ·rcases hL with ⟨q1,q2⟩|⟨q1,q2,q3⟩
  ·omega
  have hL0:L≠[]:=by intro e;have:=gd eX q3;rw[e,a0,cg] at this;omega
  rw[b8 c1,b8 ⟨hL0,by rw[<-h1];exact c1.2⟩];refine⟨by simp[h1],fun i q hq=> ?_⟩;by_cases hi:i<rows.length
  ·rw[b7 hi] at hq;obtain⟨a,b,c⟩:=old i q hq;exact⟨a,b,by rw[b7 (by omega)];exact c⟩
  rw[cv (by omega)] at hq;cases hj:i-rows.length with
  |succ m=>rw[hj] at hq;simp at hq
  |zero=>
   rw[hj] at hq;simp at hq;subst hq;refine⟨by simp,by simp only[a8];omega,?_⟩;have hLl:L.length=last.2:=by rw[q3,a0];omega
   rw[cv (by omega),show i-T.length=0 by omega];simp only[List.getElem?_cons_zero];have e1:L.take (last.2+1)=L:=cT (by omega);rw[cb (by omega),<-q3,List.take_append,hLl,ek,e1]
 rw[bt c1];have:¬(L≠[]/\258+T.length<4096):=by
  rintro ⟨a,b⟩;have:=hL.zero;exact c1 ⟨by rcases Nat.eq_zero_or_pos last.2 with e|e;exact absurd (this.mp e) a;exact e,by omega⟩
 rw[bt this];exact⟨h1,old⟩
end Go.Cl.Lz
namespace Go.Proofs.YtdfjfncifneocaaGreat
open Go.Cl Go.Cl.Lz Go.Cl.Rw
theorem uX {s s' :au}{i j:av}{cs:aC bl}{v v' :bl}(h:az s i cs)(k:fK j v s v' s')(h1:i≠j)(h2:aI v≠some i):az s' i cs:=by
 obtain⟨low,z,a,b⟩:=h.eE;refine⟨Nat.lt_of_lt_of_le h.lt k.next,low,z,?_,b⟩;simp only[au.bL,k.get i h.lt h1 h2];exact a
theorem uY:b6 af 122=some (.agg #[.int .i64 0,.int .i64 0]):=by kernel_rfl
theorem UN:cr (.agg #[.int .i64 0,.int .i64 0])=true:=rfl
theorem NO:dX af 122=some 16:=by kernel_rfl
theorem NP (a b:bk):bI (.agg #[.int .i64 a,.int .i64 b]) (.agg #[.int .i64 a,.int .i64 b])=true:=by simp[bI,fc,cw]
theorem Ex (s:au)(a b:bk):bp af s 121 1 [(0,.agg #[.int .i64 a,.int .i64 b])]=a6 s [.int .i64 a,.int .i64 b] 1 2:=by
 unfold bp;rw[b5];simp only[gL,uY];rfl
theorem nG.more {base:av}{s s1 s2 s3:au}{j:av}{bv rv ov r2:bl}{b:aC ax}{p:av}{most:bk}{rows UP:aC (av×av)}{last:av×av}{out:aC ax}(h:nG base s j bv rv ov b p most rows last out)(hb:base<=s.next)
  (h1:aw s.next s s1) (h2:Own s2 2 r2 UP.length (nF UP)) (xT:aM base r2) (dK:bG rv s1 s2) (fM:aI r2=aI rv\/∃i,aI r2=some i/\s1.next<=i)
  (ht:az s3 j [bv,.int .i64 p,.int .i64 most,r2,.int .i64 last.1,.int .i64 last.2,ov]) (hn:s3.next=s2.next) (hs:∀i,i≠j->s3.heap.get i=s2.heap.get i):
  nG base s3 j bv r2 ov b p most UP last out/\aw base s s3:=by
 have a7:=h.fE.lt;have hrj:aI r2≠some j:=by
  rcases fM with e|⟨i,e,hi⟩
  ·rw[e];exact h.rj
  rw[e];intro q;injection q with q;have:=h1.next;omega
 have k2:=dK.keeps h.rf (cz hb h1.next);refine⟨⟨ht,((h.b.stay (h1.weaken hb)).stay k2).stay (aw.aK hn hs h.lo),h2.aK hn hs hrj,xT,hrj,((h.out.keeps h1).turns dK (fun i hi=>h.ox i hi)).aK hn hs h.oj,h.of,h.oj,fun k hk=> ?_,h.lo⟩,((h1.weaken hb).trans k2).trans (aw.aK hn hs h.lo)⟩;rcases fM with e|⟨i,e,hi⟩
 ·rw[e];exact h.ox k hk
 rw[e];intro q;injection q with q;have:=h.out.ei _ hk;have:=h1.next;omega
def ou (base:av)(s:au)(j:av)(bv:bl)(b:aC ax)(p:av)(most:bk)(out:aC ax)(T:aC (aC ax))(L:aC ax)(c:av)(v:bl)(s' :au):Prop:=
 aw base s s' /\match rowOf T L c with
 |none=>v= .int .i64 4
 |some x=>(most<((out.length+x.length:av):bk)/\v= .int .i64 7)\/(((out.length+x.length:av):bk)<=most/\v= .int .i64 0/\∃(rv' Wn:bl) (rows' :aC (av×av)),nG base s' j bv rv' Wn b p most rows' (out.length,x.length) (out++x)/\uW (out++x) rows' (grow T L x))
theorem ou.put {base:av}{s s4:au}{j:av}{bv:bl}{b:aC ax}{p:av}{most:bk}{rows:aC (av×av)}{last:av×av}{out:aC ax}{T:aC (aC ax)}{L:aC ax}{c n:av}{X:aC ax}{v:bl}{x:aC ax}
  (hx:rowOf T L c=some x) (JS:x≠[]) (hn:x.length=n) (hX:X=out++x) (hT:uW out rows T) (hL:sC out last L) (aF:aw base s s4)
  {rv' Wn:bl} {last' :av×av} {K3:aC ax} (hR:nG base s4 j bv rv' Wn b p most (rowsOf rows last) last' K3)
  (h:(v= .int .i64 0/\((out.length+n:av):bk)<=most/\last' =(out.length,n)/\K3=X)\/(v= .int .i64 7/\most<((out.length+n:av):bk))):ou base s j bv b p most out T L c v s4:=by
 refine⟨aF,?_⟩;rw[hx];subst hn;subst hX
 rcases h with ⟨rfl,h1,rfl,rfl⟩|⟨rfl,h1⟩
 ·exact .inr ⟨h1,rfl,rv',Wn,_,hR,hT.grow hL JS⟩
 exact .inl ⟨h1,rfl⟩
theorem Ro {lib:aD}(hl:lib.at 107=none)(tI:lib.at 154=none)(Xa:lib.at 153=none)(base:av)(s:au)(j:av)(bv rv ov:bl)(b:aC ax)(p:av)(most:bk)(rows:aC (av×av))(last:av×av)(out:aC ax)(T:aC (aC ax))(L:aC ax)(c:av)
  (h:nG base s j bv rv ov b p most rows last out) (hb:base<=s.next) (hT:uW out rows T) (hL:sC out last L) (hc:c<4096) (XQ:c≠256) (hc7:c≠257) (hr:rows.length<=4096) (ho:out.length<=20000000):
  Runs af lib 107 [xw j,.int .i64 c] s (ou base s j bv b p most out T L c):=by
 refine Runs.enter 96 Tryz.func107 rfl hl rfl rfl ?_;intro f hn hf;have h0:f.get 0=xw j:=hf 0;have h1:f.get 1= .int .i64 c:=hf 1;clear hf;have g3:=h.fE.load (P:=af) Aq (off:=3) (c:=8) rfl (by simp);have g4:aN af s 122 (.pointer (some ⟨j,4,some 8⟩))=some (.agg #[.int .i64 last.1,.int .i64 last.2]):=h.fE.uD Rl gL (off:=4) (c:=8) rfl (by simp);have Zg:=hT.1;have hLz:=hL.zero;have ajx:last.2<=20000000:=by
  rcases hL with ⟨a,_⟩|⟨_,a,_⟩
  ·omega
  omega
 simp(disch:=omega)only[aj,ak,ad,QM,WP,↓ab,hn,h0,rN,KY,g3,g4,h.rows.aL.aQ b5,aB,uY,UN];refine aA ?_;intro sa ae3 TR yS;obtain⟨q,hq⟩:∃q,q=s.next:=⟨_,rfl⟩
 rw[<-hq] at ae3;simp(disch:=omega)only[aj,QM,WP,ed,↓ab,hn,en,cg];rw[<-hq];refine lJ gL ae3 rfl rfl rfl rfl (by simp) ?_;intro s1 xz gZ fL;have xz:az s1 q [.int .i64 last.1,.int .i64 last.2]:=xz;have hjq:=h.fE.lt;have L7:q≠j:=by omega
 have hqo:aI ov≠some q:=fun e=>by have:=h.out.ei _ e;omega
 have Hm:aw s.next s s1:=TR.trans (aw.aK gZ fL (by omega));have aY:aw base s s1:=Hm.weaken hb;have fp:base<=s1.next:=cz hb aY.next;have nH:nG base s1 j bv rv ov b p most rows last out:=⟨h.fE.keeps Hm,h.b.stay aY,h.rows.keeps Hm,h.rf,h.rj,h.out.keeps Hm,h.of,h.oj,h.ox,h.lo⟩;have mA:=h.lo;have hof:=h.of;have w1:=xz.load (P:=af) aP (off:=1) (c:=3) rfl (by simp);have w0:=xz.load (P:=af) aP (off:=0) (c:=3) rfl (by simp);have i0:bK af 122 (.pointer (some ⟨q,0,some 3⟩)) (.int .i64 0)=some (.pointer (some ⟨q,0,some 3⟩)):=Pl cd aV q 0 3 (k:=0) (by omega) .i64;have i1:bK af 122 (.pointer (some ⟨q,0,some 3⟩)) (.int .i64 1)=some (.pointer (some ⟨q,1,some 3⟩)):=Pl cd aV q 0 3 (k:=1) (by omega) .i64;by_cases c1:258+rows.length<c
 ·have wG:(258:bk)+(rows.length:bk)<(c:bk):=by omega
  simp(disch:=omega)only[aj,ak,al,oneOf,QM,WP,↓ab,undef,hn,h1,bq wG,ch];have BX:rowOf T L c=none:=by
   unfold rowOf;rw[bt (by omega)];split
   ·rfl
   rw[bt (by omega),List.getElem?_eq_none (by omega)]
  refine⟨aY,?_⟩;rw[BX]
 have wG:¬(258:bk)+(rows.length:bk)<(c:bk):=by omega
 by_cases c2:c=258+rows.length;have Hw:(c:bk)=(258:bk)+(rows.length:bk):=by omega
 by_cases c3:last.2=0
 ·have Gb:(last.2:bk)=0:=by omega
  simp only[aj,ak,al,oneOf,QM,WP,↓ab,undef,hn,h1,bb wG,bq Hw,bq Gb,i1,w1,ch];have BX:rowOf T L c=none:=by
   unfold rowOf;rw[bt (by omega),b8 (hLz.mp c3)]
  refine⟨aY,?_⟩;rw[BX]
 have Gb:¬(last.2:bk)=0:=by omega
 have Wo:¬(c:bk)<256:=by omega
 rcases id hL with ⟨l1,_⟩|⟨l1,l2,l3⟩
 ·exact absurd l1 c3
 have hX:rowOf T L c=some (L++L.take 1):=by
  unfold rowOf;rw[bt (by omega),bt (fun e=>c3 (hLz.mpr e)),b8 (by omega)]
 have hLl:L.length=last.2:=by rw[l3,a0];omega
 have Sy:(L++L.take 1).length=last.2+1:=by rw[a8,ca];omega
 have NQ:L++L.take 1≠[]:=by intro e;rw[e] at Sy;simp at Sy
 simp(disch:=omega)only[aj,ak,ad,QM,WP,↓ab,undef,hn,h0,h1,bb wG,bq Hw,bb Gb,bb Wo,i0,i1,w0,w1,aB];refine(HC tI base s1 j bv rv ov b p most rows last out last.1 (last.2+1) nH fp (by omega) (by omega) (by omega)).mono ?_;rintro v s2 ⟨ov2,Zi,Rm,iq,zb,hP⟩;refine qx (fun f=>f.n=96/\f.get 0=xw j/\f.get 5= .int .i64 ((258:bk)+(rows.length:bk))/\f.get 6= .pointer (some ⟨q,0,some 3⟩)) ⟨by simp only[ag,hn],by first|simp only[aa,↓ab,WP,h0]|simp only[aa,ag,↓ab,WP],by first|simp only[aa,ag,↓ab,WP,h5]|simp only[aa,↓ab,WP],by first|simp only[aa,ag,↓ab,WP,h6]|simp only[aa,↓ab,WP]⟩ ?_;rintro f ⟨hn,h0,h5,h6⟩;have Z:=fun {s4:au} {rv' Wn:bl} (Ey:aw base s s4) (hR:nG base s4 j bv rv' Wn b p most (rowsOf rows last) Zi Rm)=>ou.put hX NQ Sy (by rw[Ew l2 l1,<-l3]) hT hL Ey hR hP
 rotate_left;have Hw:¬(c:bk)=(258:bk)+(rows.length:bk):=by omega
 by_cases c4:c<256;have Wo:(c:bk)<256:=by omega
 have hX:rowOf T L c=some [dc c]:=by
  unfold rowOf;rw[b8 c4]
 simp only[aj,ak,ad,QM,WP,↓ab,undef,hn,h0,h1,bb wG,bb Hw,bq Wo];refine(NN Xa base s1 j bv rv ov b p most rows last out c nH fp c4 (by omega)).mono ?_;rintro v s2 ⟨ov2,Zi,Rm,iq,zb,hP⟩;refine qx (fun f=>f.n=96/\f.get 0=xw j/\f.get 5= .int .i64 ((258:bk)+(rows.length:bk))/\f.get 6= .pointer (some ⟨q,0,some 3⟩)) ⟨by simp only[ag,hn],by first|simp only[aa,↓ab,WP,h0]|simp only[aa,ag,↓ab,WP],by first|simp only[aa,ag,↓ab,WP,h5]|simp only[aa,↓ab,WP],by first|simp only[aa,ag,↓ab,WP,h6]|simp only[aa,↓ab,WP]⟩ ?_;rintro f ⟨hn,h0,h5,h6⟩;have Z:=fun {s4:au} {rv' Wn:bl} (Ey:aw base s s4) (hR:nG base s4 j bv rv' Wn b p most (rowsOf rows last) Zi Rm)=>ou.put hX (by simp) rfl rfl hT hL Ey hR hP
 rotate_left;have Wo:¬(c:bk)<256:=by omega
 by_cases c3:last.2=0
 ·have Gb:(last.2:bk)=0:=by omega
  simp only[aj,ak,al,oneOf,QM,WP,↓ab,undef,hn,h1,bb wG,bb Hw,bq Gb,bb Wo,i1,w1,ch];have BX:rowOf T L c=none:=by
   unfold rowOf;rw[bt (by omega),b8 (hLz.mp c3)]
  refine⟨aY,?_⟩;rw[BX]
 have Gb:¬(last.2:bk)=0:=by omega
 have hci:c-258<rows.length:=by omega
 obtain⟨y,hy⟩:∃y,rows[c-258]?=some y:=⟨_,cA hci⟩
 obtain⟨y1,y2,y3⟩:=hT.2 _ _ hy;have hX:rowOf T L c=some ((out.drop y.1).take y.2):=by
  unfold rowOf;rw[bt (by omega),bt (fun e=>c3 (hLz.mpr e)),bt (by omega),y3]
 have Sy:((out.drop y.1).take y.2).length=y.2:=by rw[ca,a0];omega
 have NQ:(out.drop y.1).take y.2≠[]:=by intro e;rw[e] at Sy;simp at Sy;omega
 have g3:=nH.fE.load (P:=af) Aq (off:=3) (c:=8) rfl (by simp);have jv:=nH.rows.aL.indexAddr (k:= .i64) (x:=((c:bk)-258)) b5 gL (by omega) (by omega);rw[show((c:bk)-258).toNat=c-258 by omega] at jv;have hj0:bK af 122 (aX (1+1) rv (c-258)) (.int .i64 0)=some (bP (aX (1+1) rv (c-258)) 0):=nH.rows.aL.UI cd aV (k:=0) hci (by omega) .i64;have hj1:bK af 122 (aX (1+1) rv (c-258)) (.int .i64 1)=some (bP (aX (1+1) rv (c-258)) 1):=nH.rows.aL.UI cd aV (k:=1) hci (by omega) .i64;have qN:aN af s1 3 (bP (aX (1+1) rv (c-258)) 0)=some (.int .i64 (y.1:av)):=by
  have:=nH.rows.aL.gp (P:=af) aP (j:=0) hci (by omega);rw[KW hy] at this;exact this
 have nS:aN af s1 3 (bP (aX (1+1) rv (c-258)) 1)=some (.int .i64 (y.2:av)):=by
  have:=nH.rows.aL.gp (P:=af) aP (j:=1) hci (by omega);rw[KX hy] at this;exact this
 simp only[aj,ak,QM,WP,↓ab,undef,hn,h1,bb wG,bb Hw,bb Gb,bb Wo,i1,w1];refine cN.MV (by kernel_rfl) ?_;simp(disch:=omega)only[aj,ak,ad,QM,WP,ed,↓ab,hn,h0,h1,rN,g3,nH.rows.self,aB,jv,hj0,hj1,kl,qN,nS];refine(HC tI base s1 j bv rv ov b p most rows last out y.1 y.2 nH fp (by omega) y1 (by omega)).mono ?_;rintro v s2 ⟨ov2,Zi,Rm,iq,zb,hP⟩;refine FY (fun f=>f.n=96/\f.get 0=xw j/\f.get 5= .int .i64 ((258:bk)+(rows.length:bk))/\f.get 6= .pointer (some ⟨q,0,some 3⟩)) ⟨by simp only[ag,hn],by first|simp only[aa,↓ab,WP,h0]|simp only[aa,ag,↓ab,WP],by first|simp only[aa,ag,↓ab,WP,h5]|simp only[aa,↓ab,WP],by first|simp only[aa,ag,↓ab,WP,h6]|simp only[aa,↓ab,WP]⟩ ?_;rintro f ⟨hn,h0,h5,h6⟩;have Z:=fun {s4:au} {rv' Wn:bl} (Ey:aw base s s4) (hR:nG base s4 j bv rv' Wn b p most (rowsOf rows last) Zi Rm)=>ou.put hX NQ Sy (by rw[Eu _ y2]) hT hL Ey hR hP
 all_goals
  have UQ:bI v v=true:=by rcases hP with ⟨e,_⟩|⟨e,_⟩<;>(rw[e];exact bH _ _)
  have Cg:=uX xz zb L7 hqo;have w1:=Cg.load (P:=af) aP (off:=1) (c:=3) rfl (by simp);have w0:=Cg.load (P:=af) aP (off:=0) (c:=3) rfl (by simp);have dr:=cz fp zb.next;have Ey:=aY.trans (zb.stay mA hof fp);by_cases k1:0<last.2
  ·have Pn:(0:bk)<(last.2:bk):=by omega
   by_cases k2:258+rows.length<4096
   ·have Ql:(258:bk)+(rows.length:bk)<4096:=by omega
    have dI:=aw.spare s2 1;have Zj:=Cg.keeps dI;have w1S:=Zj.load (P:=af) aP (off:=1) (c:=3) rfl (by simp);have w0S:=Zj.load (P:=af) aP (off:=0) (c:=3) rfl (by simp);have g3S:=(iq.fE.keeps dI).load (P:=af) Aq (off:=3) (c:=8) rfl (by simp);simp only[aj,ak,QM,WP,↓ab,hn,h5,h6,UQ,i1,w1,bq Pn,bq Ql];refine cN.DU 1 (by kernel_rfl) (by kernel_rfl) ?_;simp(disch:=omega)only[aj,ak,ae,QM,WP,↓ab,hn,h0,h6,i0,i1,w0S,w1S,rN,g3S,iq.rows.self,KZ,Ex,NP,aB];refine mO (base:=s2.next) (by rfl) (by rw[bu];omega) (cL _) ?_;intro bs t2 nj sd aR jD _;have dP:=(aw.spare s2 1).trans aR;simp(disch:=omega)only[aj,ad,QM,WP,↓ab,hn];refine oN b5 b5 (.inl ⟨_,rfl⟩) gL NO uY rfl (iq.rows.keeps dP) nj.aL.src rfl (by decide) rfl (by omega) (by omega) iq.rf (by have:=dP.next;omega) ?_;intro r3 t3 kP Bq bA jE B1;have NM:=(iq.fE.keeps dP).turns jE iq.rj;simp(disch:=omega)only[aj,QM,WP,↓ab,hn,rN];refine oQ Ap NM rfl (by simp) kP.aL.aT ?_;intro s4 ly tw qi;have e1:nF rows++[.int .i64 (last.1:av),.int .i64 ((last.2:bk)+1)]=nF (rows++[(last.1,last.2+1)]):=by rw[uS];rfl
    have e2:rows.length+1=(rows++[(last.1,last.2+1)]).length:=by simp
    rw[e1,e2] at kP;obtain⟨rO,eP⟩:=iq.more dr dP kP Bq jE B1 ly tw qi;simp only[aj,al,oneOf,QM,WP,↓ab,hn,ch];exact Z (Ey.trans eP) (rv' :=r3) (by unfold rowsOf;rw[b8 ⟨k1,k2⟩];exact rO)
   have Ql:¬(258:bk)+(rows.length:bk)<4096:=by omega
   simp only[aj,ak,al,oneOf,QM,WP,↓ab,hn,h5,h6,UQ,i1,w1,bq Pn,bb Ql,ch];exact Z Ey (rv' :=rv) (by unfold rowsOf;rw[bt (fun q=>k2 q.2)];exact iq)
  have Pn:¬(0:bk)<(last.2:bk):=by omega
  simp only[aj,ak,al,oneOf,QM,WP,↓ab,undef,hn,h6,UQ,i1,w1,bb Pn,ch];exact Z Ey (rv' :=rv) (by unfold rowsOf;rw[bt (fun q=>k1 q.1)];exact iq)
end Go.Proofs.YtdfjfncifneocaaGreat
namespace Go.Proofs.YtdfjfncifneocaaGreat
open Go.Cl
def gK (base:av)(s:au)(i:av)(l:aC ax)(most bad:bk):Prop:=
 ∃B,az s i [B,.int .i64 most,.int .i64 bad]/\Own s 1 B l.length (ofBytes l)/\aM base B/\aI B≠some i/\base<=i
theorem NR (i o c:av):ay af 147 (.pointer (some ⟨i,o,some c⟩)) 0=some (.pointer (some ⟨i,o+0,some c⟩)):=by
 unfold ay;rw[cD];simp[iA]
theorem XR (i o c:av):ay af 147 (.pointer (some ⟨i,o,some c⟩)) 1=some (.pointer (some ⟨i,o+1,some c⟩)):=by
 unfold ay;rw[cD];simp[aV]
theorem pG (i o c:av):ay af 147 (.pointer (some ⟨i,o,some c⟩)) 2=some (.pointer (some ⟨i,o+2,some c⟩)):=by
 unfold ay;rw[cD];simp[aV]
theorem zc (m:bk):da af 147 [(1,.int .i64 m)]=some (.agg #[.slice none 0 0,.int .i64 m,.int .i64 0]):=by
 unfold da;rw[cD]
 have hz:b6 af 147=some (.agg #[.slice none 0 0,.int .i64 0,.int .i64 0]):=by kernel_rfl
 rw[hz];simp[iA,aV,cr,iD,iu,placeOf,setAt,Value.cells]
theorem cy {lib:aD}(hl:lib.at 122=none)(base:av)(s:au)(i:av)(l:aC ax)(most bad e:bk)(hs:gK base s i l most bad):
  Runs af lib 122 [.pointer (some ⟨i,0,some 4⟩),.int .i64 e] s fun v s' =>gK base s' i l most (if bad=0 then e else bad)/\aw base s s' :=by
 obtain⟨B,ho,hB,hF,cE,hi⟩:=hs;refine Runs.enter 13 Tryz.func122 rfl hl rfl rfl ?_;intro f hn hf;have h0:f.get 0= .pointer (some ⟨i,0,some 4⟩):=hf 0;have h1:f.get 1= .int .i64 e:=hf 1;clear hf;have l2:=ho.load (P:=af) aP (off:=2) (c:=4) rfl (by simp);by_cases hb:bad=0
 ·simp only[aj,ak,QM,WP,↓ab,hn,h0,h1,pG,l2,hb];refine ba aV ho rfl (by simp) rfl ?_;intro s' Cj ow aF;simp only[aj,ah,e9];exact⟨⟨B,Cj,hB.aK ow aF cE,hF,cE,hi⟩,aw.aK ow aF hi⟩
 simp only[aj,ak,ah,QM,↓ab,hn,h0,pG,l2,hb,e9];exact⟨⟨B,ho,hB,hF,cE,hi⟩,aw.refl _ _⟩
def mv (base:av)(s:au)(l:aC ax)(bad:bk)(v:bl)(s' :au):Prop:=
 ∃B,v= .tuple #[B,.int .i64 bad]/\Own s' 1 B l.length (ofBytes l)/\aM base B/\aw base s s'
theorem cZ {lib:aD}(hl:lib.at 123=none)(base:av)(s:au)(i:av)(l:aC ax)(most bad:bk)(hs:gK base s i l most bad):
  Runs af lib 123 [.pointer (some ⟨i,0,some 4⟩)] s (mv base s (if bad=0 then l else []) bad):=by
 obtain⟨B,ho,hB,hF,cE,hi⟩:=hs;refine Runs.enter 17 Tryz.func123 rfl hl rfl rfl ?_;intro f hn hf;have h0:f.get 0= .pointer (some ⟨i,0,some 4⟩):=hf 0;clear hf;have l2:=ho.load (P:=af) aP (off:=2) (c:=4) rfl (by simp);have l0:=ho.load (P:=af) gJ (off:=0) (c:=4) rfl (by simp);by_cases hb:bad=0
 ·simp only[aj,ak,al,oneOf,QM,WP,↓ab,hn,h0,pG,l2,NR,l0,hb,fb];exact⟨B,rfl,hB,hF,aw.refl _ _⟩
 simp only[aj,ak,al,oneOf,QM,WP,↓ab,hn,h0,pG,l2,hb,fb];exact⟨_,rfl,.nil,aM.nil _,aw.refl _ _⟩
theorem ji {lib:aD}(hl:lib.at 124=none)(base:av)(s:au)(i:av)(l:aC ax)(most bad:bk)(c:ax)(hs:gK base s i l most bad)(hlen:l.length<4294967296):
  Runs af lib 124 [.pointer (some ⟨i,0,some 4⟩),.int .u8 c.toNat] s fun v s' =>gK base s' i (if bad=0/\(l.length:bk)<most then l++[c] else l) most (if bad=0/\most<=l.length then 7 else bad)/\aw base s s' :=by
 obtain⟨B,ho,hB,hF,cE,hi⟩:=hs;refine Runs.enter 39 Tryz.func124 rfl hl rfl rfl ?_;intro f hn hf;have h0:f.get 0= .pointer (some ⟨i,0,some 4⟩):=hf 0;have h1:f.get 1= .int .u8 c.toNat:=hf 1;clear hf;have l2:=ho.load (P:=af) aP (off:=2) (c:=4) rfl (by simp);have l1:=ho.load (P:=af) aP (off:=1) (c:=4) rfl (by simp);have l0:=ho.load (P:=af) gJ (off:=0) (c:=4) rfl (by simp);have XS:=hB.aL;by_cases hb:bad=0
 ·subst hb;by_cases hm:most<=l.length
  ·have hm2:¬(l.length:bk)<most:=by omega
   simp only[aj,ak,ad,QM,WP,↓ab,hn,h0,pG,l2,XR,l1,NR,l0,XS.aQ an,XS.self,hm];refine ba aV ho rfl (by simp) rfl ?_;intro s' Cj ow aF;have l2' :=Cj.load (P:=af) aP (off:=2) (c:=4) rfl (by simp);simp only[aj,ak,ah,QM,WP,↓ab,hn,h0,pG,l2',hm2,eu,show¬(7:bk)=0 by decide];exact⟨⟨B,Cj,hB.aK ow aF cE,hF,cE,hi⟩,aw.aK ow aF hi⟩
  have hm2:(l.length:bk)<most:=by omega
  simp only[aj,ak,ad,ae,QM,WP,↓ab,hn,h0,h1,pG,l2,XR,l1,NR,l0,XS.aQ an,XS.self,hm,gI an cO rU];refine cj an cO sm rU rfl hB (by simp only[aa,↓ab,WP]) (by decide) (by simp only[ag,hn];decide) (by simp only[ag,hn];decide) (by rfl) (by decide) rfl (by omega) (by omega) (base:=base) hF (by have:=ho.lt;omega) ?_;intro bs B' s2 lK zw fN Sp BP;have iV:=ho.turns Sp cE;simp only[aj,QM,WP,↓ab,hn,NR];have K4:aI B' ≠some i:=by
   rcases BP with e|⟨j,e,hj⟩
   ·rw[e];exact cE
   rw[e];intro q;injection q with q;have:=ho.lt;omega
  refine ba iA iV rfl (by simp) lK.aL.aT ?_;intro s3 wM oX bA;simp only[aj,ah,↓ab,hm2,eu];refine⟨⟨B',wM,?_,zw,K4,hi⟩,fN.trans (aw.aK oX bA hi)⟩;rw[ct,a8];exact lK.aK oX bA K4
 simp only[aj,ak,ah,QM,WP,↓ab,hn,h0,pG,l2,hb,eu];exact⟨⟨B,ho,hB,hF,cE,hi⟩,aw.refl _ _⟩
end Go.Proofs.YtdfjfncifneocaaGreat
namespace Go.Cl.Lz
structure HD (m:av) (T:aC (aC ax)) (L out:aC ax):Prop where
 rows:∀r∈T,r.length<=m
 last:L.length<=m
 out:out.length<=m*m
theorem HD.row {m:av}{T:aC (aC ax)}{L out:aC ax}(h:HD m T L out){c:av}{x:aC ax}(hx:rowOf T L c=some x):HD (m+1) (grow T L x) x (out++x)/\x≠[]\/x=[]:=by
 by_cases JS:x=[]
 ·exact .inr JS
 refine .inl ⟨?_,JS⟩;have xK:x.length<=m+1:=by
  unfold rowOf at hx;split at hx
  ·injection hx with hx;subst hx;simp
  split at hx
  ·cases hx
  split at hx
  ·injection hx with hx;subst hx
   have:=h.last;rw[a8,ca];omega
  have:=h.rows x (List.mem_of_getElem? hx);omega
 have hm:(m+1)*(m+1)=m*m+m+m+1:=by rw[Nat.add_mul,Nat.mul_add];omega
 refine⟨fun r hr=> ?_,xK,by have:=h.out;rw[a8,hm];omega⟩;unfold grow at hr;split at hr
 ·rcases List.mem_append.mp hr with hr|hr
  ·have:=h.rows r hr;omega
  rw[List.mem_singleton] at hr;subst hr
  have:=h.last;rw[a8,ca];omega
 have:=h.rows r hr;omega
theorem Po {T:aC (aC ax)}(h:T.length<=3838)(L x:aC ax):(grow T L x).length<=3838:=by
 unfold grow;split
 ·rename_i q;rw[a8,List.length_singleton];omega
 exact h
theorem UU {out:aC ax}{rows:aC (av×av)}{T:aC (aC ax)}{L x:aC ax}{c:av}(h:uW out rows T)(hr:rowOf T L c=some x):x≠[]:=by
 unfold rowOf at hr;split at hr
 ·injection hr with hr;subst hr;simp
 split at hr
 ·cases hr
 rename_i hL;split at hr
 ·injection hr with hr;subst hr
  intro e;exact hL (List.append_eq_nil_iff.mp e).1
 have hi:c-258<T.length:=(List.getElem?_eq_some_iff.mp hr).1;have xJ:c-258<rows.length:=by rw[h.1];exact hi
 obtain⟨a,b,d⟩:=h.2 _ _ (cA xJ);rw[hr] at d;injection d with d;intro e;have:=gd eX d;rw[e,ca,a0,cg] at this;omega
end Go.Cl.Lz
namespace Go.Proofs.YtdfjfncifneocaaGreat
open Go.Cl Go.Cl.Lz Go.Cl.Rw
theorem NS {x:bl}(hx:aT x=true)(m:bk):da af 124 [(0,x),(2,.int .i64 m)]=some (.agg #[x,.int .i64 0,.int .i64 m,.slice none 0 0,.int .i64 0,.int .i64 0,.slice none 0 0]):=by
 unfold da;rw[bz]
 have hz:b6 af 124=some (.agg #[.slice none 0 0,.int .i64 0,.int .i64 0,.slice none 0 0,.int .i64 0,.int .i64 0,.slice none 0 0]):=by kernel_rfl
 rw[hz];have hc:=KV hx;have j6:x.cells= #[x]:=by rw[<-Array.toList_inj,hc]
 have ci:∀k n,(Value.int k n).cells= #[.int k n]:=fun _ _=>rfl
 simp[iA,aV,Ap,gL,cr,iD,iu,placeOf,bJ,setAt,j6,ci]
theorem Pp (a b:bl):aH (.tuple #[a,b]) 0=some a:=rfl
theorem Pq (a b:bl):aH (.tuple #[a,b]) 1=some b:=rfl
theorem ae8:da af 122 []=some (.agg #[.int .i64 0,.int .i64 0]):=by kernel_rfl
theorem NT {lib:aD}(hl:lib.at 66=none)(yf:lib.at 106=none)(y9:lib.at 152=none)(xN:lib.at 107=none)(tI:lib.at 154=none)(Xa:lib.at 153=none)
  (s:au) (x:bl) (b:aC ax) (most:bk) (hx:aU s 1 x b.length (ofBytes b)) (hb:b.length<=4000000) (YJ:most<=20000000\/b.length<=5000):
  Runs af lib 66 [x,.int .i64 most] s (mv s.next s (y4 b most.toNat).2 (y4 b most.toNat).1):=by
 obtain⟨base,yi⟩:∃base,base=s.next:=⟨_,rfl⟩
 obtain⟨R,hR⟩:∃R,R=y4 b most.toNat:=⟨_,rfl⟩
 rw[<-hR];have JS:ML base s 1 x b.length (ofBytes b):=by rw[yi];exact hx.low
 refine Runs.enter 46 Tryz.func66 rfl hl rfl rfl ?_;intro f hn hf;have h0:f.get 0=x:=hf 0;have h1:f.get 1= .int .i64 most:=hf 1;clear hf;simp only[aj,ae,QM,WP,↓ab,hn,h0,h1,NS hx.aT];refine aA ?_;intro s1 xz aY gG;obtain⟨j,hj⟩:∃j,j=s.next:=⟨_,rfl⟩
 rw[<-hj] at xz;have fp:base<=s1.next:=by omega
 have nH:nG base s1 j x (.slice none 0 0) (.slice none 0 0) b 0 most [] (0,0) []:=⟨xz,JS.stay (by rw[yi];exact aY),.nil,aM.nil _,(fun e=>by cases e),.nil,aM.nil _,(fun e=>by cases e),(fun k e=>by cases e),by omega⟩;simp only[aj,QM,ed,↓ab,hn,en,cg];rw[<-hj];refine Comes.de (fun z f s' =>∃(p m:av) (T:aC (aC ax)) (L out:aC ax) (rows:aC (av×av)) (last:av×av) (rv ov:bl),nG base s' j x rv ov b p most rows last out/\uW out rows T/\sC out last L/\T.length<=3838/\HD m T L out/\9*m<=p/\(out=[]\/(out.length:bk)<=most)/\p<=8*b.length/\8*b.length<p+z/\dec b most.toNat z p T L out=R/\aw base s s' /\f.n=46/\f.get 6=xw j)
  ⟨0,0,[],[],[],[],(0,0),_,_,nH,⟨rfl,fun i q h=>by simp at h⟩,.inl ⟨rfl,rfl⟩,by simp,⟨fun r h=>by simp at h,by simp,by simp⟩,by omega,.inl rfl,by omega,(show 8*b.length<0+(8*b.length+1) by omega),hR.symm,by rw[yi];exact aY,by simp only[aa,ag,↓ab,hn,fr]⟩ ?_
 have B3:j=base:=by omega
 clear hn h0 h1 f nH xz gG;rintro z f s2 ⟨p,m,T,L,out,rows,last,rv,ov,hD,hT,hL,Zg,hS,hm,Sz,hp,hz,ff,aF,hn,h6⟩;obtain⟨z,rfl⟩:∃y,z=y+1:=⟨z-1,by omega⟩
 have dr:base<=s2.next:=cz (by omega) aF.next;have xM:rows.length=T.length:=hT.1;have r8:out.length<=20000000:=by
  rcases YJ with h|h
  ·rcases Sz with e|e
   ·rw[e];simp
   omega
  have h1:=hS.out;have h2:m<=4444:=by omega
  have h3:m*m<=4444*4444:=eD h2 h2;omega
 obtain⟨w,hw⟩:∃w,w=width (258+T.length):=⟨_,rfl⟩
 have Y4:=En (258+T.length);rw[<-hw] at Y4;simp only[aj,ak,ad,QM,↓ab,hn,h6];refine(NJ yf y9 base s2 j x rv ov b p most rows last out hD (by omega) hp (by omega)).mono ?_;rw[xM,<-hw];rintro v s3 (⟨c1,rfl,rfl⟩|⟨c1,rfl,D8,bA⟩)
 ·have fe:=Hy (most:=most.toNat) (k:=z) (last:=L) (out:=out) (by rw[<-hw];exact c1);rw[fe] at ff;have cE:¬(2:bk)=0:=by decide
  simp only[aj,ak,al,oneOf,QM,WP,↓ab,hn,Pp,Pq,bb cE,dw];rw[<-ff];exact⟨_,rfl,.nil,aM.nil _,by rw[B3];exact aF⟩
 obtain⟨c,hc⟩:∃c,c=jN b p w:=⟨_,rfl⟩
 have Gj:c<4096:=by
  rw[hc];have h1:=uQ b p w;have h2:2^w<=2^12:=eI (by omega) Y4.2;omega
 rw[<-hc];have K5:=aF.trans bA;have FJ:=cz dr bA.next;refine qx (fun f=>f.n=46/\f.get 6=xw j) ⟨by simp only[ag,hn],by first|simp only[aa,↓ab,WP,h6]|simp only[aa,ag,↓ab,WP]⟩ ?_;rintro f ⟨hn,h6⟩;by_cases k7:c=257
 ·have Zk:(c:bk)=257:=by omega
  have fe:=yX (most:=most.toNat) (k:=z) (last:=L) (out:=out) (by rw[<-hw];exact c1) (by rw[<-hw,<-hc];exact k7);rw[fe] at ff;have g6:=D8.fE.load (P:=af) gJ (off:=6) (c:=8) rfl (by simp);simp only[aj,ak,al,oneOf,QM,WP,↓ab,hn,h6,Pp,Pq,bq Zk,uT,g6,dw];rw[<-ff];exact⟨ov,rfl,D8.out,by rw[B3];exact D8.of,by rw[B3];exact K5⟩
 have Zk:¬(c:bk)=257:=by omega
 by_cases k6:c=256
 ·have Zl:(c:bk)=256:=by omega
  have fe:=Hz (most:=most.toNat) (k:=z) (last:=L) (out:=out) (by rw[<-hw];exact c1) (by rw[<-hw,<-hc];exact k6);rw[fe,<-hw] at ff;simp only[aj,ak,ae,QM,WP,↓ab,hn,h6,Pp,Pq,bb Zk,bq Zl,ae8,rN];refine ba Ap D8.fE rfl (by simp) rfl ?_;intro s4 ly tw qi;have hD4:nG base s4 j x (.slice none 0 0) ov b (p+w) most [] last out:=⟨ly,D8.b.stay (aw.aK tw qi D8.lo),.nil,aM.nil _,(fun e=>by cases e),D8.out.aK tw qi D8.oj,D8.of,D8.oj,(fun k hk e=>by cases e),D8.lo⟩;simp only[aj,QM,WP,↓ab,hn,KY];refine lJ gL hD4.fE rfl rfl rfl rfl (by simp) ?_;intro s5 py Sw oE;have B4:nG base s5 j x (.slice none 0 0) ov b (p+w) most [] (0,0) out:=hD4.put py Sw oE;simp only[aj,WP,↓ab];refine ar z (by omega) ⟨p+w,m,[],[],out,[],(0,0),_,_,B4,⟨rfl,fun i q h=>by simp at h⟩,.inl ⟨rfl,rfl⟩,by simp,⟨fun r h=>by simp at h,by simp,hS.out⟩,by omega,Sz,by omega,by omega,ff,(K5.trans (aw.aK tw qi D8.lo)).trans (aw.aK Sw oE D8.lo),by simp only[aa,ag,↓ab,WP,hn,h6,fr]⟩
 have Zl:¬(c:bk)=256:=by omega
 have fe:=vD (most:=most.toNat) (k:=z) (last:=L) (out:=out) (by rw[<-hw];exact c1) (by rw[<-hw,<-hc]) k7 k6;rw[fe] at ff;simp only[aj,ak,ad,QM,WP,↓ab,hn,h6,Pp,Pq,bb Zk,bb Zl];refine(Ro xN tI Xa base s3 j x rv ov b (p+w) most rows last out T L c D8 FJ hT hL Gj k6 k7 (by omega) r8).mono ?_;intro v s4 hO;obtain⟨eP,hO⟩:=hO;cases nD:rowOf T L c with
 |none=>
  rw[nD] at hO ff;simp only at hO ff;subst hO;have cE:¬(4:bk)=0:=by decide
  simp only[aj,ak,al,oneOf,QM,WP,↓ab,hn,bb cE,dw];rw[<-ff];exact⟨_,rfl,.nil,aM.nil _,by rw[B3];exact K5.trans eP⟩
 |some r=>
  rw[nD] at hO ff;simp only at hO ff;have Zh:=UU hT nD;have apb:=dk.mpr Zh;rcases hO with ⟨o1,rfl⟩|⟨o1,rfl,rv4,ov4,ae9,hD4,hT4⟩
  ·rw[b8 (by omega)] at ff;have cE:¬(7:bk)=0:=by decide
   simp only[aj,ak,al,oneOf,QM,WP,↓ab,hn,bb cE,dw];rw[<-ff];exact⟨_,rfl,.nil,aM.nil _,by rw[B3];exact K5.trans eP⟩
  rw[bt (by omega),<-hw] at ff;simp only[aj,ak,QM,↓ab,hn];have Wp:=hS.row nD;rcases Wp with ⟨Wp,_⟩|e
  ·refine ar z (by omega) ⟨p+w,m+1,grow T L r,r,out++r,ae9,(out.length,r.length),rv4,ov4,hD4,hT4,sC.next out r Zh,Po Zg L r,Wp,by omega,.inr (by rw[a8];exact o1),by omega,by omega,ff,K5.trans eP,by simp only[aa,ag,↓ab,WP,hn,h6,fr]⟩
  exact absurd e Zh
end Go.Proofs.YtdfjfncifneocaaGreat
namespace Go.Proofs.YtdfjfncifneocaaGreat
open Go.Cl
def lB (base:av)(s:au)(i:av)(l:aC ax)(p:av):Prop:=
 ∃b,az s i [b,.int .i64 p]/\ML base s 1 b l.length (ofBytes l)/\base<=i/\p<=l.length
def K6 (base:av)(s:au)(i:av)(b:bl)(l:aC ax)(p:av):Prop:=
 az s i [b,.int .i64 p]/\ML base s 1 b l.length (ofBytes l)/\base<=i/\p<=l.length
theorem lB.keeps {base:av}{s s' :au}{i:av}{l:aC ax}{p:av}(h:lB base s i l p)(hb:base<=s.next)(k:aw s.next s s'):lB base s' i l p:=by
 obtain⟨b,h1,h2,h3,h4⟩:=h;exact⟨b,h1.keeps k,h2.stay (k.weaken hb),h3,h4⟩
theorem lB.turns {base:av}{s s' :au}{i:av}{l:aC ax}{p:av}(h:lB base s i l p){v:bl}(hb:base<=s.next)(hf:aM base v)(k:bG v s s')(cE:aI v≠some i):lB base s' i l p:=by
 obtain⟨b,h1,h2,h3,h4⟩:=h;exact⟨b,h1.turns k cE,h2.stay (k.keeps hf hb),h3,h4⟩
abbrev iM (i:av):bl:= .pointer (some ⟨i,0,some 3⟩)
theorem dN {base i:av}(h:base<=i):aM base (iM i):=fun j hj=>by
 have:some i=some j:=hj;injection this with this;omega
theorem fv {i j:av}(h:i≠j):aI (iM i)≠some j:=fun e=>by
 have:some i=some j:=e;injection this with this;exact h this
theorem K7 (i o c:av):ay af 173 (.pointer (some ⟨i,o,some c⟩)) 0=some (.pointer (some ⟨i,o+0,some c⟩)):=by
 unfold ay;rw[dT];simp[iA]
theorem HE (i o c:av):ay af 173 (.pointer (some ⟨i,o,some c⟩)) 1=some (.pointer (some ⟨i,o+1,some c⟩)):=by
 unfold ay;rw[dT];simp[aV]
theorem XT {v:bl}(hv:v.cells.toList=[v]):da af 173 [(0,v)]=some (.agg #[v,.int .i64 0]):=by
 unfold da;rw[dT]
 have hz:b6 af 173=some (.agg #[.slice none 0 0,.int .i64 0]):=by kernel_rfl
 rw[hz];simp only[iu,placeOf,hv];simp[iA,aV,cr,iD,bJ,setAt]
theorem I1 {lib:aD}(hl:lib.at 100=none)(base:av)(s:au)(x:bl)(l:aC ax)(hx:ML base s 1 x l.length (ofBytes l))(hb:base<=s.next):
  Runs af lib 100 [x] s fun v s' =>v=iM s.next/\lB base s' s.next l 0/\aw s.next s s' /\s'.next=s.next+1:=by
 refine Runs.enter 11 Tryz.func100 rfl hl rfl rfl ?_;intro f hn hf;have h0:f.get 0=x:=hf 0;clear hf;obtain⟨v',hv,m8⟩:=hx.aL.full an cO .i64 .i64;simp only[aj,ad,ae,ai,QM,WP,↓ab,hn,h0,hx.aL.aQ an,hv,XT (m8 _ hx.aL).sZ];refine aA ?_;intro s1 ht aF vR;simp only[aj,al,oneOf,QM,ed,↓ab,hn,Tryz.results100,en,cg];exact⟨⟨v',ht,fun s' k=>m8 s' (hx s' ((aF.weaken hb).trans k)),hb,by omega⟩,aF,vR⟩
theorem Cr {lib:aD}(hl:lib.at 105=none)(base:av)(s:au)(i:av)(l:aC ax)(p:av)(hc:lB base s i l p):
  Runs af lib 105 [iM i] s fun v s' =>v= .int .i64 p/\s' =s:=by
 obtain⟨b,ht,m3,hi,hp⟩:=hc;refine Runs.enter 9 Tryz.func105 rfl hl rfl rfl ?_;intro f hn hf;have h0:f.get 0=iM i:=hf 0;clear hf;have l1:=ht.load (P:=af) aP (off:=1) (c:=3) rfl (by simp);simp only[aj,ak,al,oneOf,QM,WP,↓ab,hn,h0,gx eQ,HE,l1,Tryz.results105]
theorem XU {lib:aD}(hl:lib.at 209=none)(base:av)(s:au)(i:av)(l:aC ax)(p:av)(hc:lB base s i l p):
  Runs af lib 209 [iM i] s fun v s' =>v= .int .i64 l.length/\s' =s:=by
 obtain⟨b,ht,m3,hi,hp⟩:=hc;refine Runs.enter 10 Tryz.func209 rfl hl rfl rfl ?_;intro f hn hf;have h0:f.get 0=iM i:=hf 0;clear hf;have l0:=ht.load (P:=af) gJ (off:=0) (c:=3) rfl (by simp);simp only[aj,ak,al,oneOf,ad,QM,WP,↓ab,hn,h0,gx eQ,K7,l0,m3.aL.aQ an,Tryz.results209]
theorem Ez {lib:aD}(hl:lib.at 186=none)(nS:lib.at 209=none)(iG:lib.at 105=none)(base:av)(s:au)(i:av)(l:aC ax)(p:av)(hc:lB base s i l p)(hlen:l.length<=4294967296):
  Runs af lib 186 [iM i] s fun v s' =>v= .int .i64 (l.length-p:av)/\s' =s:=by
 refine Runs.enter 8 Tryz.func186 rfl hl rfl rfl ?_;intro f hn hf;have h0:f.get 0=iM i:=hf 0;clear hf;have hp:p<=l.length:=hc.choose_spec.2.2.2;simp only[aj,ak,ad,QM,WP,↓ab,hn,h0];refine(XU nS base s i l p hc).mono ?_;rintro _ s ⟨rfl,rfl⟩;simp only[aj,ak,ad,QM,WP,↓ab,hn,h0];refine(Cr iG base s i l p hc).mono ?_;rintro _ s ⟨rfl,rfl⟩;have e:(l.length:bk)-p=((l.length-p:av):bk):=by omega
 simp(disch:=omega)only[aj,al,oneOf,QM,WP,↓ab,hn,aB,e,Tryz.results186]
def fT (l:aC ax)(k:bk):bk:=if 0<=k/\k<l.length then((l.getD k.toNat 0).toNat:bk) else-1
theorem Rp {lib:aD}(hl:lib.at 192=none)(qN:lib.at 186=none)(nS:lib.at 209=none)(iG:lib.at 105=none)(base:av)(s:au)(i:av)(l:aC ax)(p:av)(k:bk)(hc:lB base s i l p)(hlen:l.length<=4294967296):
  Runs af lib 192 [iM i,.int .i64 k] s fun v s' =>v= .int .i64 (fT l (p+k))/\s' =s:=by
 refine Runs.enter 29 Tryz.func192 rfl hl rfl rfl ?_;intro f hn hf;have h0:f.get 0=iM i:=hf 0;have h1:f.get 1= .int .i64 k:=hf 1;clear hf;have hp:p<=l.length:=hc.choose_spec.2.2.2;simp only[aj,ak,ad,QM,WP,↓ab,hn,h0,h1];refine(Ez qN nS iG base s i l p hc hlen).mono ?_;rintro _ s ⟨rfl,rfl⟩;by_cases c1:((l.length-p:av):bk)<=k
 ·have hb:fT l (p+k)= -1:=by unfold fT;rw[bt (by omega)]
  simp only[aj,ak,al,oneOf,QM,WP,↓ab,hn,c1,hb,ey]
 simp only[aj,ak,ad,QM,WP,↓ab,hn,h0,h1,c1];refine(Cr iG base s i l p hc).mono ?_;rintro _ s ⟨rfl,rfl⟩;by_cases c2:k<0-(p:bk)
 ·have hb:fT l (p+k)= -1:=by unfold fT;rw[bt (by omega)]
  simp(disch:=omega)only[aj,ak,al,oneOf,QM,WP,↓ab,hn,aB,c2,hb,ey]
 have hb:fT l (p+k)=((l.getD ((p:bk)+k).toNat 0).toNat:bk):=by unfold fT;rw[b8 (by omega)]
 obtain⟨b,ht,m3,hi,_⟩:=hc;have l0:=ht.load (P:=af) gJ (off:=0) (c:=3) rfl (by simp);have l1:=ht.load (P:=af) aP (off:=1) (c:=3) rfl (by simp);have OI:=(l.getD ((p:bk)+k).toNat 0).toNat_lt;simp(disch:=omega)only[aj,ak,al,oneOf,QM,WP,↓ab,hn,h0,h1,aB,c2,hb,K7,HE,l0,l1,m3.aL.indexAddr an cO,m3.aL.cu gQ,aW,m3.aL.self,a9 cx b4,b4,ey]
theorem abm {lib:aD}(hl:lib.at 155=none)(tI:lib.at 192=none)(qN:lib.at 186=none)(nS:lib.at 209=none)(iG:lib.at 105=none)(base:av)(s:au)(i:av)(b:bl)(l:aC ax)(p:av)(hc:K6 base s i b l p)(hb:base<=s.next)(hlen:l.length<=4294967296):
  Runs af lib 155 [iM i] s fun v s' =>v= .int .i64 (fT l p)/\K6 base s' i b l (min (p+1) l.length)/\bG (iM i) s s' :=by
 refine Runs.enter 16 Tryz.func155 rfl hl rfl rfl ?_;intro f hn hf;have h0:f.get 0=iM i:=hf 0;clear hf;have hp:p<=l.length:=hc.2.2.2;simp only[aj,ak,ad,QM,WP,↓ab,hn,h0];refine(Rp tI qN nS iG base s i l p 0 ⟨b,hc⟩ hlen).mono ?_;rintro _ s ⟨rfl,rfl⟩;rw[Int.add_zero];by_cases c:p<l.length
 ·have hv:0<=fT l p:=by unfold fT;rw[b8 (by omega)];omega
  obtain⟨ht,m3,hi,_⟩:=hc;have l1:=ht.load (P:=af) aP (off:=1) (c:=3) rfl (by simp);simp(disch:=omega)only[aj,ak,QM,WP,↓ab,hn,h0,hv,HE,l1,aB];refine ba aV ht rfl (by simp) rfl ?_;intro s1 eJ gZ aY;simp(disch:=omega)only[aj,al,oneOf,QM,WP,↓ab,hn,fl];refine⟨⟨?_,m3.stay (aw.aK gZ aY hi),hi,by omega⟩,bG.aK gZ aY⟩;rw[Nat.min_eq_left (by omega)];exact eJ
 have hv:¬0<=fT l p:=by unfold fT;rw[bt (by omega)];omega
 obtain rfl:p=l.length:=by omega
 simp only[aj,al,oneOf,QM,WP,↓ab,hn,hv,fl];rw[Nat.min_eq_right (by omega)];exact⟨hc,cL _,fun _ _ _=>rfl⟩
theorem zd {lib:aD}(hl:lib.at 155=none)(tI:lib.at 192=none)(qN:lib.at 186=none)(nS:lib.at 209=none)(iG:lib.at 105=none)(base:av)(s:au)(i:av)(l:aC ax)(p:av)(hc:lB base s i l p)(hb:base<=s.next)(hlen:l.length<=4294967296):
  Runs af lib 155 [iM i] s fun v s' =>v= .int .i64 (fT l p)/\lB base s' i l (min (p+1) l.length)/\bG (iM i) s s' :=by
 obtain⟨b,hc⟩:=hc;refine(abm hl tI qN nS iG base s i b l p hc hb hlen).mono ?_;rintro v s' ⟨h1,h2,h3⟩;exact⟨h1,⟨b,h2⟩,h3⟩
end Go.Proofs.YtdfjfncifneocaaGreat
namespace Go.Proofs.YtdfjfncifneocaaGreat
open Go.Cl Go.Cl.Hx
def dY (c:bk):Bool:=decide (c=0\/c=9\/c=10\/c=12\/c=13\/c=32)
def digit (c:bk):bk:=if 48<=c/\c<=57 then c-48 else if 97<=c/\c<=102 then c-97+10 else if 65<=c/\c<=70 then c-65+10 else-1
theorem Rq {lib:aD}(hl:lib.at 156=none)(s:au)(c:bk):
  Runs af lib 156 [.int .i64 c] s fun v s' =>v= .bool (dY c)/\s' =s:=by
 refine Runs.enter 25 Tryz.func156 rfl hl rfl rfl ?_;intro f hn hf;have h0:f.get 0= .int .i64 c:=hf 0;clear hf;by_cases c0:c=0
 ·have hw:dY c=true:=by unfold dY;simp[c0]
  simp only[aj,ak,al,oneOf,QM,WP,↓ab,hn,h0,bq c0,hw,ck]
 by_cases c1:c=9
 ·have hw:dY c=true:=by unfold dY;simp[c1]
  simp only[aj,ak,al,oneOf,QM,WP,↓ab,hn,h0,c0,bq c1,hw,ck]
 by_cases c2:c=10
 ·have hw:dY c=true:=by unfold dY;simp[c2]
  simp only[aj,ak,al,oneOf,QM,WP,↓ab,hn,h0,c0,c1,bq c2,hw,ck]
 by_cases c3:c=12
 ·have hw:dY c=true:=by unfold dY;simp[c3]
  simp only[aj,ak,al,oneOf,QM,WP,↓ab,hn,h0,c0,c1,c2,bq c3,hw,ck]
 by_cases c4:c=13
 ·have hw:dY c=true:=by unfold dY;simp[c4]
  simp only[aj,ak,al,oneOf,QM,WP,↓ab,hn,h0,c0,c1,c2,c3,bq c4,hw,ck]
 have hw:dY c=decide (c=32):=by unfold dY;simp[c0,c1,c2,c3,c4]
 simp only[aj,ak,al,oneOf,QM,WP,↓ab,hn,h0,c0,c1,c2,c3,c4,hw,ck]
theorem pH {lib:aD}(hl:lib.at 125=none)(s:au)(c:bk):
  Runs af lib 125 [.int .i64 c] s fun v s' =>v= .bool (dY c)/\s' =s:=by
 refine Runs.enter 25 Tryz.func125 rfl hl rfl rfl ?_;intro f hn hf;have h0:f.get 0= .int .i64 c:=hf 0;clear hf;by_cases c0:c=0
 ·have hw:dY c=true:=by unfold dY;simp[c0]
  simp only[aj,ak,al,oneOf,QM,WP,↓ab,hn,h0,bq c0,hw,cm]
 by_cases c1:c=9
 ·have hw:dY c=true:=by unfold dY;simp[c1]
  simp only[aj,ak,al,oneOf,QM,WP,↓ab,hn,h0,c0,bq c1,hw,cm]
 by_cases c2:c=10
 ·have hw:dY c=true:=by unfold dY;simp[c2]
  simp only[aj,ak,al,oneOf,QM,WP,↓ab,hn,h0,c0,c1,bq c2,hw,cm]
 by_cases c3:c=12
 ·have hw:dY c=true:=by unfold dY;simp[c3]
  simp only[aj,ak,al,oneOf,QM,WP,↓ab,hn,h0,c0,c1,c2,bq c3,hw,cm]
 by_cases c4:c=13
 ·have hw:dY c=true:=by unfold dY;simp[c4]
  simp only[aj,ak,al,oneOf,QM,WP,↓ab,hn,h0,c0,c1,c2,c3,bq c4,hw,cm]
 have hw:dY c=decide (c=32):=by unfold dY;simp[c0,c1,c2,c3,c4]
 simp only[aj,ak,al,oneOf,QM,WP,↓ab,hn,h0,c0,c1,c2,c3,c4,hw,cm]
theorem Rr {lib:aD}(hl:lib.at 110=none)(s:au)(c:bk):
  Runs af lib 110 [.int .i64 c] s fun v s' =>v= .int .i64 (digit c)/\s' =s:=by
 refine Runs.enter 32 Tryz.func110 rfl hl rfl rfl ?_;intro f hn hf;have h0:f.get 0= .int .i64 c:=hf 0;clear hf;unfold digit;by_cases c1:48<=c<;>by_cases c2:c<=57<;>by_cases c3:97<=c<;>by_cases c4:c<=102<;>by_cases c5:65<=c<;>by_cases c6:c<=70<;>first|(exfalso;omega)|(simp(disch:=omega)only[aj,ak,al,oneOf,QM,WP,↓ab,hn,h0,c1,c2,c3,c4,c5,c6,aB,Tryz.results110])
theorem xA {lib:aD}(hl:lib.at 126=none)(s:au)(c:bk):
  Runs af lib 126 [.int .i64 c] s fun v s' =>v= .int .i64 (digit c)/\s' =s:=by
 refine Runs.enter 32 Tryz.func126 rfl hl rfl rfl ?_;intro f hn hf;have h0:f.get 0= .int .i64 c:=hf 0;clear hf;unfold digit;by_cases c1:48<=c<;>by_cases c2:c<=57<;>by_cases c3:97<=c<;>by_cases c4:c<=102<;>by_cases c5:65<=c<;>by_cases c6:c<=70<;>first|(exfalso;omega)|(simp(disch:=omega)only[aj,ak,al,oneOf,QM,WP,↓ab,hn,h0,c1,c2,c3,c4,c5,c6,aB,Tryz.results126])
end Go.Proofs.YtdfjfncifneocaaGreat