/-
 LZW, writing: how many bits at most, where each second byte is one and the same.
-/
import Derived.Test.YtdfjfncifneocaaGreatChE
open _root_ renaming if_neg->ab,if_pos->an,UInt8->ao,List->av,reduceIte->bg,Int->bn,Nat->b5,eq_false->cR,decide_eq_true->c6,eq_true->dc,if_true->dH,of_decide_eq_true->ee,absurd->en,Bool->ew
open List renaming length_append->af,getD_eq_getElem?_getD->aR,append_assoc->a0,length_drop->bk,length_take->bq,getElem?_append_right->bz,append_nil->b4,take_append_of_le_length->b7,dropLast_cons_of_ne_nil->ca,length_singleton->cb,length_pos_iff->cc,drop_of_length_le->cf,take_succ_eq_append_getElem->cg,take_of_length_le->cm,cons_append->cz,mem_cons_of_mem->cA,drop_append_of_le_length->cB,length_nil->c0,mem_cons_self->c4,filter_append->c5,getElem?_append_left->c7,length_cons->dd,mem_map->dt,length_replicate->dx,take_append_drop->dD,mem_range->dE,mem_singleton->dT,take_length->ek,mem_append->eo,map_append->et,nil_append->ev,replicate->ey,map_cons->eB,range->eM
open UInt8 renaming ofNat->bb,toNat_inj->bC,toNat_ofNat'->b8,ofNat_toNat->dX
open Go.Proofs.Tryz renaming prog->bl,results21->cx,underlying68->c8,underlying66->c9,underlying35->eh
open Nat renaming le_refl->bo,mul_le_mul_left->cd,div_div_eq_div_mul->cv,add_zero->c3,mul_mod_left->ds,sub_self->dv,div_mul_le_self->dO,mul_div_cancel->dU,le_trans->eg,div_add_mod->eu,mul_assoc->eA,mul_comm->eC,pow_succ->eE,mul_pos->eK
open Int renaming toNat_natCast->cp
open Nat renaming reduceLT->QS,reduceEqDiff->Qx
set_option maxHeartbeats 4000000
set_option linter.unusedSimpArgs false
set_option linter.unusedVariables false
set_option maxRecDepth 100000
namespace Go.Cl.Lz
theorem M4 {α:Type}[DecidableEq α]:∀{l m:av α},l.Nodup->(∀x∈l,x∈m)->l.length<=m.length
 |[],_,_,_=>by simp
 |a::l,m,h,hs=>by
  have ha:=hs a (c4 ..)
  have hn:=List.nodup_cons.mp h
  have:=M4 (m:=m.erase a) hn.2 fun x hx=>by
   have cH:x≠a:=fun e=>hn.1 (e▸hx)
   exact(List.mem_erase_of_ne cH).mpr (hs x (cA _ hx))
  rw[List.length_erase_of_mem ha] at this
  have:=List.length_pos_of_mem ha
  simp only[dd];omega
def Alt (t:ao)(b:av ao):Prop:=∀i,i+1<b.length->b.getD i 0=t\/b.getD (i+1) 0=t
theorem Alt.drop {t:ao}{b:av ao}(h:Alt t b)(n:b5):Alt t (b.drop n):=fun i hi=>by
 rw[bk] at hi
 have:=h (n+i) (by omega)
 simpa [aR,List.getElem?_drop,Nat.add_assoc] using this
def Yp (t:ao):av (av ao):=(eM 256).map (fun x=>[t,bb x])++(eM 256).map fun x=>[bb x,t]
theorem Yq (t:ao):(Yp t).length=512:=by simp[Yp]
theorem Yr {t x y:ao}(h:x=t\/y=t):[x,y]∈Yp t:=by
 unfold Yp
 rw[eo,dt,dt]
 rcases h with rfl|rfl
 ·exact .inl ⟨y.toNat,dE.2 y.toNat_lt,by rw[dX]⟩
 ·exact .inr ⟨x.toNat,dE.2 x.toNat_lt,by rw[dX]⟩
def tW (T:qD):av (av ao):=(T.filter fun e=>e.1.length==2).map (·.1)
theorem yw:tW []=[]:=rfl
theorem Uj (T:qD)(r:av ao)(x:bn):(tW (T++[(r,x)])).length=(tW T).length+if r.length=2 then 1 else 0:=by
 unfold tW
 rw[c5,et,af]
 by_cases h:r.length=2<;>simp[h]
theorem JW (T:qD):(tW T).length<=T.length:=by
 unfold tW;rw[List.length_map];exact List.length_filter_le _ _
structure Y9 (t:ao) (T:qD):Prop where
 nodup:(tW T).Nodup
 mem:∀r∈tW T,r∈Yp t
theorem Y9.nil (t:ao):Y9 t []:=⟨by rw[yw];exact List.nodup_nil,fun r h=>by rw[yw] at h;cases h⟩
theorem Y9.le {t:ao}{T:qD}(h:Y9 t T):(tW T).length<=512:=by
 rw[<-Yq t];exact M4 h.nodup h.mem
theorem Y9.snoc {t:ao}{T:qD}(h:Y9 t T){b:av ao}(hb:Alt t b){n:b5}(h1:1<=n)(hn:n<b.length)(hs:Go.Cl.me (b.take (n+1)) T=none)(x:bn):Y9 t (T++[(b.take (n+1),x)]):=by
 have hl:(b.take (n+1)).length=n+1:=by rw[bq];omega
 by_cases e:n=1
 ·subst e
  have e2:tW (T++[(b.take 2,x)])=tW T++[b.take 2]:=by
   unfold tW
   rw[c5,et]
   congr 1
   rw[List.filter_cons_of_pos (by simp[hl])]
   rfl
  have dI:b.take 2=[b.getD 0 0,b.getD 1 0]:=by
   match b,hn with
   |a::c::r,_=>rfl
  refine⟨?_,?_⟩
  ·rw[e2,List.nodup_append]
   refine⟨h.nodup,by simp,fun a ha c hc=> ?_⟩
   rw[dT] at hc
   subst hc
   intro q
   unfold tW at ha
   obtain⟨e,he,hx⟩:=dt.1 ha
   exact ud.mp hs e (List.mem_filter.1 he).1 (by rw[<-q,<-hx])
  ·rw[e2]
   intro r hr
   rcases eo.1 hr with hr|hr
   ·exact h.mem r hr
   ·rw[dT] at hr
    subst hr
    rw[dI]
    exact Yr (hb 0 hn)
 ·have e2:tW (T++[(b.take (n+1),x)])=tW T:=by
   unfold tW
   rw[c5,List.filter_cons_of_neg (by rw[hl];simp;omega)]
   simp
  exact⟨by rw[e2];exact h.nodup,by rw[e2];exact h.mem⟩
def rK (t:b5):b5:=if t<=766 then 10*t else 12*t-1532
theorem M5 {t rd:b5}{fst:ew}(h:rd=if fst=true then 258 else 257+t)(h0:fst=true->t=0)(h1:fst=false->1<=t):width rd+rK t<=rK (t+1):=by
 have e:rd<=258+t:=by cases fst<;>simp_all<;>omega
 have e2:t<766->width rd<=10:=fun q=>by
  have:rd<1023:=by cases fst<;>simp_all<;>omega
  unfold width;repeat (first|(split;all_goals try omega)|omega)
 have e3:=(kO rd).2
 unfold rK
 by_cases q:t<766
 ·have:=e2 q
  rw[an (by omega),an (by omega)];omega
 ·by_cases q2:t=766
  ·subst q2;rw[an (by omega),ab (by omega)];omega
  ·rw[ab (by omega),ab (by omega)];omega
theorem zJ {t s:b5}(h1:s<=t)(h2:s<=512):rK t+11*s<=22*t:=by
 unfold rK
 split<;>omega
theorem JX {t:ao}:∀(k:b5) (b:av ao) (T:qD) (rd:b5) (fst:ew),Alt t b->Good T->Y9 t T->(fst=true->T=[])->(fst=false->1<=T.length)->(rd=if fst=true then 258 else 257+T.length)->
  (enc k b T rd fst).length+rK T.length+11*(tW T).length<=11*b.length+22*T.length+24
 |0,b,T,rd,fst,hb,hT,hd,h0,h1,hr=>by
  rw[enc]
  have:=gC 257 rd
  have:=zJ (JW T) hd.le
  omega
 |k+1,b,T,rd,fst,hb,hT,hd,h0,h1,hr=>by
  by_cases hn:b=[]
  ·subst hn
   rw[BC]
   have:=gC 257 rd
   have:=zJ (JW T) hd.le
   omega
  ·obtain⟨p,hp⟩:∃p,p=db b T (1,((b.getD 0 0).toNat:bn)):=⟨_,rfl⟩
   have hF:=hT.found hn
   rw[<-hp] at hF
   have aE:=M5 hr (fun e=>by rw[h0 e];rfl) h1
   have Ny:mf rd fst=258+T.length\/4096<=258+T.length:=by
    have:=hT.len
    unfold mf
    cases fst with
    |true=>left;simp[hr,h0 rfl]
    |false=>left;simp[hr];omega
   by_cases hl:p.1<b.length
   ·by_cases hx:258+T.length=4095
    ·rw[zn hn hp hl hx,af,af,cu]
     have:=gC 256 (mf rd fst)
     have ih:=JX k (b.drop p.1) [] 258 true (hb.drop _) Good.nil (Y9.nil t) (fun _=>rfl) (fun e=>by cases e) (by simp)
     rw[bk] at ih
     simp only[c0,yw] at ih
     have h3:=hF.one
     have h4:=(kO rd).2
     have h5:=hd.le
     have e0:rK 0=0:=rfl
     have e1:rK T.length=12*T.length-1532:=by unfold rK;rw[ab (by omega)]
     omega
    ·rw[DH hn hp hl hx,af,cu]
     have hrr:mf rd fst=258+T.length:=by
      have:=hT.len
      rcases Ny with q|q<;>omega
     have ih:=JX k (b.drop p.1) (T++[(b.take (p.1+1),((258+T.length:b5):bn))]) (mf rd fst) false (hb.drop _) (hF.more hl hx) (hd.snoc hb hF.one hl (hF.me hl) _) (fun e=>by cases e) (fun _=>by simp) (by simp[hrr];omega)
     rw[bk,af,cb,Uj,bq,Nat.min_eq_left (by omega)] at ih
     have h3:=hF.one
     by_cases e:p.1=1
     ·rw[an (by omega)] at ih;omega
     ·rw[ab (by omega)] at ih;omega
   ·rw[Jf hn hp hl,af,cu,cf (by omega),BC]
    have:=gC 257 (mf rd fst)
    have h3:=hF.one
    have h4:=(kO rd).2
    have:=zJ (JW T) hd.le
    have:0<b.length:=cc.mpr hn
    omega
theorem Ys {t:ao}{b:av ao}(h:Alt t b):(lH b).length<=11*b.length+33:=by
 unfold lH
 rw[af,cu]
 have:=JX (b.length+1) b [] 258 true h Good.nil (Y9.nil t) (fun _=>rfl) (fun e=>by cases e) (by simp)
 simp only[c0,yw] at this
 omega
end Go.Cl.Lz
namespace Go.Cl.Pr
def hB (g:ew):b5:=if g=true then 1 else 0
theorem RJ (T:bn)(g:ew)(n i:b5):(J6 T g n i).length=if i%n=0 then hB g else 0:=by
 unfold J6 hB
 by_cases h:i%n=0
 ·cases g<;>simp[h]
 ·cases g<;>simp[h]
theorem Yt {n i:b5}(hn:0<n):((i%n+1<n/\(i+1)/n=i/n/\(i+1)%n=i%n+1)\/(i%n+1=n/\(i+1)/n=i/n+1/\(i+1)%n=0)):=by
 have h1:=eu i n
 have h2:=Nat.mod_lt i hn
 by_cases h:i%n+1<n
 ·left
  have e:i+1=n*(i/n)+(i%n+1):=by omega
  refine⟨h,?_,?_⟩
  ·rw[e,Nat.mul_add_div hn,Nat.div_eq_of_lt h,c3]
  ·rw[e,Nat.mul_add_mod,Nat.mod_eq_of_lt h]
 ·right
  have e:i+1=n*(i/n+1):=by rw[Nat.mul_succ];omega
  refine⟨by omega,?_,?_⟩
  ·rw[e,Nat.mul_div_cancel_left _ hn]
  ·rw[e,Nat.mul_mod_right]
theorem tX (T:bn)(g:ew)(l:av ao)(n c:b5)(hn:0<n):∀i,(im T g l n c i).length=i/n*(hB g+n)+if i%n=0 then 0 else hB g+i%n
 |0=>by simp[im]
 |i+1=>by
  rw[lD,af,af,tX T g l n c hn i,RJ,cb]
  rcases Yt (i:=i) hn with ⟨h1,h2,h3⟩|⟨h1,h2,h3⟩
  ·rw[h2,h3,ab (by omega:¬i%n+1=0)]
   by_cases h:i%n=0
   ·rw[an h,an h];omega
   ·rw[ab h,ab h];omega
  ·rw[h2,h3,an rfl,Nat.succ_mul]
   by_cases h:i%n=0
   ·rw[an h,an h];omega
   ·rw[ab h,ab h];omega
theorem ES (T:bn)(g:ew)(l:av ao)(n c i:b5):∀m,i<=m->∃r,im T g l n c m=im T g l n c i++r
 |0,h=>by obtain rfl:i=0:=by omega
          exact⟨[],by simp⟩
 |m+1,h=>by
  by_cases e:i=m+1
  ·subst e;exact⟨[],by simp⟩
  ·obtain⟨r,hr⟩:=ES T g l n c i m (by omega)
   exact⟨r++J6 T g n m++[hJ ((((l.getD m 0).toNat:b5):bn)-gs T l n c m)],by rw[lD,hr];simp[a0]⟩
theorem Yu (T:bn)(g:ew)(l:av ao)(n c:b5)(hn:0<n){i m:b5}(hi:i<m):L9 (im T g l n c m) (hB g) n i=hJ ((((l.getD i 0).toNat:b5):bn)-gs T l n c i):=by
 obtain⟨r,hr⟩:=ES T g l n c (i+1) m hi
 have hl:=tX T g l n c hn i
 have hh:=RJ T g n i
 have e:i/n*(hB g+n)+hB g+i%n=(im T g l n c i++J6 T g n i).length:=by
  rw[af,hl,hh]
  by_cases h:i%n=0
  ·rw[an h,an h,h];omega
  ·rw[ab h,ab h];omega
 unfold L9
 rw[e,hr,lD,aR,a0,bz (bo _),dv]
 rfl
theorem Yv (T:bn)(l:av ao)(n c:b5)(hn:0<n){r m:b5}(hi:r*n<m):(im T true l n c m).getD (r*(1+n)) 0=hJ T:=by
 obtain⟨q,hr⟩:=ES T true l n c (r*n+1) m hi
 have hl:=tX T true l n c hn (r*n)
 rw[dU _ hn,ds,an rfl,c3] at hl
 have hl:(im T true l n c (r*n)).length=r*(1+n):=hl
 have hh:J6 T true n (r*n)=[hJ T]:=by unfold J6;rw[an ⟨rfl,ds _ _⟩]
 rw[hr,lD,hh,aR,a0,a0,bz (by omega),hl,dv]
 rfl
theorem abw (T:bn)(l:av ao){n c m:b5}(hc:1<=c)(hn:1<=n):gs T (l.take m) n c m=gs T l n c m:=by
 have hg:∀j,j<m->(l.take m).getD j 0=l.getD j 0:=fun j hj=>by rw[aR,List.getElem?_take_of_lt hj,<-aR]
 have pG:m%n<=m:=Nat.mod_le _ _
 have e1:At (l.take m) n c m=At l n c m:=by
  unfold At;split
  ·rw[hg _ (by omega)]
  ·rfl
 have e2:tq (l.take m) n m=tq l n m:=by
  unfold tq;split
  ·rw[hg _ (by omega)]
  ·rfl
 have e3:oS (l.take m) n c m=oS l n c m:=by
  unfold oS;split
  ·rw[hg _ (by omega)]
  ·rfl
 unfold gs;rw[e1,e2,e3]
theorem Uk (x:ao)(g:bn):hJ ((((hJ ((((x.toNat:b5):bn))-g)).toNat:b5):bn)+g)=x:=by
 have hx:=x.toNat_lt
 have h1:=nn (((x.toNat:b5):bn)-g)
 have h2:=nn ((((hJ ((((x.toNat:b5):bn))-g)).toNat:b5):bn)+g)
 rw[h1] at h2
 have h3:(((hJ ((((hJ ((((x.toNat:b5):bn))-g)).toNat:b5):bn)+g)).toNat:b5):bn)=((x.toNat:b5):bn):=by rw[h1,h2];omega
 exact bC.1 (by omega)
theorem M6 {T:bn}{g:ew}{l:av ao}{n c r m:b5}(hn:0<n)(h0:0<=T/\T<=4)(hg:g=false->T=1)(hr:r*n<m):Q9 (im T g l n c m) (hB g) n r=T:=by
 cases g with
 |false=>
  unfold Q9 hB
  rw[ab (by simp)];exact(hg rfl).symm
 |true=>
  unfold Q9 hB
  rw[an (by simp)]
  have e:=Yv T l n c hn hr
  have:(im T true l n c m).getD (r*((if true=true then 1 else 0)+n)) 0=hJ T:=e
  rw[this,nn];omega
theorem yx {T:bn}{g:ew}{l:av ao}{n c:b5}(hn:0<n)(hc:1<=c)(h0:0<=T/\T<=4)(hg:g=false->T=1):∀m,m<=l.length->ir (im T g l n c l.length) (hB g) n c m=l.take m
 |0,_=>rfl
 |m+1,h=>by
  have hr:m/n*n<l.length:=by have:=dO m n;omega
  rw[ir,yx hn hc h0 hg m (by omega),Yu T g l n c hn (by omega:m<l.length),M6 hn h0 hg hr,abw T l hc hn,Uk,cg (by omega),aR,List.getElem?_eq_getElem (by omega)]
  rfl
theorem Ul {p co cl:bn}{l:av ao}(he:(eJ p co cl l).2=0):jF p co cl (eJ p co cl l).1=(l,0):=by
 unfold eJ at he|-
 by_cases hm:oC p co cl
 rotate_left
 ·rw[an hm] at he;cases he
 rw[ab (fun h=>h hm)] at he|-
 by_cases h1:p=1
 ·rw[an h1]
  show jF p co cl l=_
  unfold jF;rw[ab (fun h=>h hm),an h1]
 rw[ab h1] at he|-
 obtain⟨n,uy⟩:∃n,n=co.toNat*cl.toNat:=⟨_,rfl⟩
 rw[<-uy] at he|-
 by_cases hl:l.length%n=0
 rotate_left
 ·rw[an hl] at he;cases he
 rw[ab (fun h=>h hl)]
 have ht:0<=iF p/\iF p<=4:=⟨(D2 hm.1).1,(D2 hm.1).2.2⟩
 obtain⟨hp,iK,kY,jn,g7⟩:=hm
 have hc:1<=co.toNat:=by omega
 have hn:0<n:=by rw[uy];exact eK hc (by omega)
 have EZ:(if 10<=p then 1 else 0)=hB (decide (10<=p)):=by unfold hB;by_cases h:10<=p<;>simp[h]
 have hg:decide (10<=p)=false->iF p=1:=fun h=>by
  have:=of_decide_eq_false h
  unfold iF;rw[ab (by omega),ab this]
 show jF p co cl (im (iF p) (decide (10<=p)) l n co.toNat l.length)=_
 obtain⟨g,hgd⟩:∃g,g=decide (10<=p):=⟨_,rfl⟩
 rw[<-hgd] at EZ hg|-
 have hlen:=tX (iF p) g l n co.toNat hn l.length
 rw[hl,an rfl,c3] at hlen
 have BV:0<hB g+n:=by omega
 have wJ:l.length/n*n=l.length:=Nat.div_mul_cancel (Nat.dvd_of_mod_eq_zero hl)
 unfold jF
 rw[ab (fun h=>h ⟨hp,iK,kY,jn,g7⟩),ab h1,EZ,<-uy,hlen,ds,ab (fun h=>h rfl),dU _ BV,wJ,yx hn hc ht hg l.length (bo _),ek]
 rw[ab]
 intro hb
 unfold Jy at hb
 rw[List.any_eq_true] at hb
 obtain⟨r,hr,gx⟩:=hb
 have hr:=dE.1 hr
 have hrn:r*n<l.length:=by
  have:r*n<l.length/n*n:=Nat.mul_lt_mul_of_pos_right hr hn
  omega
 rw[M6 hn ht hg hrn] at gx
 have:=ee gx
 omega
end Go.Cl.Pr
namespace Go.Cl.Ch
open Go.Cl.Pr Go.Cl.Hx Go.Cl.B85 Go.Cl.Lz
theorem Yw {t x:ao}{a:av ao}(h:Alt t a):Alt t (a++[t]++[x]):=by
 intro i hi
 simp only[af,cb] at hi
 simp only[a0,List.singleton_append,aR]
 by_cases h1:i+1<a.length
 ·rw[c7 (by omega),c7 h1]
  have:=h i h1
  simpa only[aR] using this
 ·by_cases h2:i+1=a.length
  ·right
   rw[h2,bz (bo _),dv];rfl
  ·left
   obtain rfl:i=a.length:=by omega
   rw[bz (bo _),dv];rfl
theorem M7 (T:bn)(l:av ao)(c:b5):∀m,Alt (hJ T) (im T true l 1 c m)
 |0=>fun i hi=>by simp[im] at hi
 |m+1=>by
  rw[lD]
  have:J6 T true 1 m=[hJ T]:=by unfold J6;rw[an ⟨rfl,Nat.mod_one m⟩]
  rw[this]
  exact Yw (M7 T l c m)
theorem Yx {p co cl:bn}{b:av ao}(he:(eJ p co cl b).2=0):8*(Lz.E5 (eJ p co cl b).1).length<=22*b.length+41:=by
 unfold eJ at he|-
 by_cases hm:oC p co cl
 rotate_left
 ·rw[an hm] at he;cases he
 rw[ab (fun h=>h hm)] at he|-
 by_cases h1:p=1
 ·rw[an h1]
  have:=JU b
  show 8*(Lz.E5 b).length<=_
  omega
 rw[ab h1] at he|-
 obtain⟨n,uy⟩:∃n,n=co.toNat*cl.toNat:=⟨_,rfl⟩
 rw[<-uy] at he|-
 by_cases hl:b.length%n=0
 rotate_left
 ·rw[an hl] at he;cases he
 rw[ab (fun h=>h hl)]
 obtain⟨hp,iK,kY,jn,g7⟩:=hm
 have hn:0<n:=by rw[uy];exact eK (by omega) (by omega)
 show 8*(Lz.E5 (im _ _ b n co.toNat b.length)).length<=_
 have h0:=tX (iF p) (decide (10<=p)) b n co.toNat hn b.length
 rw[an hl,c3] at h0
 have hd:=eu b.length n
 rw[hl,c3,eC] at hd
 cases hg:decide (10<=p) with
 |false=>
  rw[hg] at h0
  have e:b.length/n*(hB false+n)=b.length:=by simpa [hB] using hd
  have:=JU (im (iF p) false b n co.toNat b.length)
  omega
 |true=>
  rw[hg] at h0
  by_cases h2:n=1
  ·subst h2
   have h3:=Ys (M7 (iF p) b co.toNat b.length)
   have h4:=Lz.oY _ (lH (im (iF p) true b 1 co.toNat b.length)) (bo _)
   have h5:(Lz.E5 (im (iF p) true b 1 co.toNat b.length)).length=((lH (im (iF p) true b 1 co.toNat b.length)).length+7)/8:=h4
   simp only[Nat.div_one,hB,dH] at h0
   omega
  ·have h3:=JU (im (iF p) true b n co.toNat b.length)
   have h4:b.length/n*2<=b.length:=eg (cd _ (by omega)) (dO b.length n)
   rw[Nat.mul_add,hd] at h0
   simp only[hB,dH,Nat.mul_one] at h0
   omega
theorem Yy (l:Lk)(b:av ao):4*((pN l b).1.length+14)<=11*(b.length+14):=by
 have hp:=xA l.p l.co l.cl b
 unfold pN
 split
 ·have:=tE b
  simp only[hex,af,cb];omega
 split
 ·have:=Yk b.length b (bo _);simp only;omega
 split
 ·have:=Runs.xS b.length b (bo _);simp only;omega
 split
 ·simp only[c0];omega
 ·rename_i he
  have hw:=Yx (Decidable.not_not.1 he)
  split
  ·have:=Yl (eJ l.p l.co l.cl b).1;simp only;omega
  ·simp only;omega
theorem Ie:∀(L:av Lk) (b:av ao),4^L.length*((cy L b).1.length+14)<=11^L.length*(b.length+14)
 |[],b=>by simp[cy]
 |l::L,b=>by
  have ih:=Ie L b
  rw[dd,eE,eE]
  simp only[cy]
  split
  ·simp only[c0,Nat.zero_add]
   have h4:4^L.length<=11^L.length:=Nat.pow_le_pow_left (by decide) _
   exact eg (Nat.mul_le_mul_right _ (Nat.mul_le_mul h4 (by decide))) (cd _ (by omega))
  ·have h:=Yy l (cy L b).1
   have e1:4^L.length*4*((pN l (cy L b).1).1.length+14)=4^L.length*(4*((pN l (cy L b).1).1.length+14)):=eA _ _ _
   have e2:4^L.length*(11*((cy L b).1.length+14))=11*(4^L.length*((cy L b).1.length+14)):=Nat.mul_left_comm _ _ _
   have e3:11^L.length*11*(b.length+14)=11*(11^L.length*(b.length+14)):=by rw[eC (11^L.length) 11,eA]
   rw[e1,e3]
   exact eg (cd _ h) (by rw[e2];exact cd _ ih)
theorem M8 {L:av Lk}{b:av ao}(hL:L.length<=8)(hb:b.length<=400):(cy L b).1.length<=1360000/\(L.length<=7->2*(cy L b).1.length<=1048576):=by
 have h:=Ie L b
 obtain⟨n,hn⟩:∃n,n=L.length:=⟨_,rfl⟩
 rw[<-hn] at h hL|-
 have:n=0\/n=1\/n=2\/n=3\/n=4\/n=5\/n=6\/n=7\/n=8:=by omega
 rcases this with rfl|rfl|rfl|rfl|rfl|rfl|rfl|rfl|rfl<;>simp at h<;>omega
end Go.Cl.Ch
namespace Go.Cl.Nf
open Go.Cl.Sto Go.Cl.Fx
theorem Um (N:b5)(l:av ao)(hN:l.length+1<=N):∃q,(q+7)/8=(kh l).length/\∀(T:av ao) (M:b5),l.length<=M->vl N (kh l++T) M= .ok (q,l):=by
 unfold kh
 split
 ·exact⟨8*(uB l).length,by omega,fun T M hM=>X9 N l T hM (by omega)⟩
 ·exact⟨(sm l).2,PJ l,fun T M hM=>PK N l T hM hN⟩
theorem PS (l T:av ao):(DF l++T).drop 2=kh l++(be 4 (Bg l)++T):=by
 unfold DF
 simp[a0]
theorem aoF (l:av ao):(DF l).length=2+(kh l).length+4:=by
 unfold DF
 rw[af,af,qm]
 simp;omega
theorem ac0 (l T:av ao):(DF l++T).getD 0 0=120/\(DF l++T).getD 1 0=1:=⟨rfl,rfl⟩
theorem ajK:¬MN (120:ao).toNat (1:ao).toNat:=by decide
theorem Un (N:b5)(l T:av ao){M:b5}(hM:l.length<=M)(hN:l.length+1<=N):vn N (DF l++T) M= .ok ((DF l).length,l):=by
 obtain⟨q,hq,hr⟩:=Um N l hN
 have hl:=aoF l
 unfold vn
 rw[ab (by rw[af];omega),(ac0 l T).1,(ac0 l T).2,ab ajK,PS,hr _ M hM]
 dsimp only
 rw[hq,ab (by rw[af];omega)]
 have e:((DF l++T).drop (2+(kh l).length)).take 4=be 4 (Bg l):=by
  rw[<-List.drop_drop,PS,List.drop_left,b7 (by rw[qm];exact bo _),cm (by rw[qm];exact bo _)]
 have Vh:=Wb l
 rw[e,Wa (by exact Vh),an rfl,hl]
end Go.Cl.Nf
namespace Go.Cl.Runs
theorem nF {n:b5}(h1:3<=n)(h2:n<=128):(bb (257-n)).toNat=257-n:=by rw[b8];omega
theorem km {n:b5}(h1:1<=n)(h2:n<=128):(bb (n-1)).toNat=n-1:=by rw[b8];omega
theorem vq (l:av ao):ey (rowOf l) (l.getD 0 0)=l.take (rowOf l):=by
 apply List.ext_getElem
 ·rw[dx,bq];have:=qp l;omega
 ·intro i h1 h2
  rw[List.getElem_replicate,List.getElem_take]
  rw[dx] at h1
  have:=Ta l i h1
  have hl:i<l.length:=by have:=qp l;omega
  rw[QW hl] at this
  exact this.symm
theorem pa {most:bn}{P Q:av ao}(h:Q.length<=room most P):room most (P++Q)=room most P-Q.length:=by
 unfold room at*;rw[af];omega
theorem Ig (l:av ao):encode l≠[]:=by
 by_cases h:l=[]
 ·subst h;rw[lJ];simp
 ·by_cases h3:3<=rowOf l
  ·rw[nV h h3];simp
  ·rw[nW h (by omega)];simp
theorem Ih {motive:av ao->Prop}(nil:motive [])
  (row:∀l,l≠[]->3<=rowOf l->motive (l.drop (rowOf l))->motive l)
  (lit:∀l,l≠[]->rowOf l<3->motive (l.drop (dm l))->motive l):∀l,motive l:=by
 intro l
 generalize hn:l.length=n
 induction n using Nat.strongRecOn generalizing l with
 |_ n ih=>
  by_cases h:l=[]
  ·subst h;exact nil
  ·have hp:0<l.length:=cc.mpr h
   by_cases h3:3<=rowOf l
   ·exact row l h h3 (ih _ (by rw[<-hn];rw[bk];omega) _ rfl|>fun q=>q)
   ·have:=lI l
    exact lit l h (by omega) (ih (l.drop (dm l)).length (by rw[bk];omega) _ rfl)
theorem PT (most:bn)(more:av ao):∀(l P:av ao),l.length<=room most P->dec most (encode l++more) P=(P++l,0):=by
 intro l
 refine Ih (motive:=fun l=>∀P,l.length<=room most P->dec most (encode l++more) P=(P++l,0)) ?_ ?_ ?_ l
 ·intro P _
  rw[lJ,cz,xR (by decide)];simp
 ·intro l h h3 ih P hr
  have h1:=oW l
  have h2:=qp l
  rw[nV h h3,cz,cz,uh (by rw[nF h3 h1];omega) (by rw[nF h3 h1];omega),nF h3 h1,show 257-(257-rowOf l)=rowOf l by omega,vq]
  have hl:(l.take (rowOf l)).length=rowOf l:=by rw[bq];omega
  rw[ih _ (by rw[pa (by omega),hl,bk];omega),a0,dD]
 ·intro l h h3 ih P hr
  have hp:0<l.length:=cc.mpr h
  have h1:=rk l
  have h2:=ug hp
  have h0:=lI l
  have hl:(l.take (dm l)).length=dm l:=by rw[bq];omega
  have e1:dm l-1+1=dm l:=by omega
  rw[nW h h3,cz,Jh (by rw[km h0 h1];omega) (by rw[km h0 h1,a0,af,hl];omega) (by rw[km h0 h1];omega),km h0 h1,e1,a0]
  rw[show(l.take (dm l)++(encode (l.drop (dm l))++more)).drop (dm l)=encode (l.drop (dm l))++more by
   rw[cB (by omega),cf (by omega),ev]]
  rw[show(l.take (dm l)++(encode (l.drop (dm l))++more)).take (dm l)=l.take (dm l) by
   rw[b7 (by omega),cm (by omega)]]
  rw[ih _ (by rw[pa (by omega),hl,bk];omega),a0,dD]
theorem nA (most:bn):∀(l P:av ao),l.length<=room most P->dec most (encode l).dropLast P=([],2):=by
 intro l
 refine Ih (motive:=fun l=>∀P,l.length<=room most P->dec most (encode l).dropLast P=([],2)) ?_ ?_ ?_ l
 ·intro P _
  rw[lJ];exact QX _ _
 ·intro l h h3 ih P hr
  have h1:=oW l
  have h2:=qp l
  have cH:=Ig (l.drop (rowOf l))
  rw[nV h h3,ca (by simp),ca cH,uh (by rw[nF h3 h1];omega) (by rw[nF h3 h1];omega),nF h3 h1,show 257-(257-rowOf l)=rowOf l by omega,vq]
  have hl:(l.take (rowOf l)).length=rowOf l:=by rw[bq];omega
  exact ih _ (by rw[pa (by omega),hl,bk];omega)
 ·intro l h h3 ih P hr
  have hp:0<l.length:=cc.mpr h
  have h1:=rk l
  have h2:=ug hp
  have h0:=lI l
  have hl:(l.take (dm l)).length=dm l:=by rw[bq];omega
  have e1:dm l-1+1=dm l:=by omega
  have cH:=Ig (l.drop (dm l))
  rw[nW h h3,ca (by simp[cH]),List.dropLast_append_of_ne_nil cH,Jh (by rw[km h0 h1];omega) (by rw[km h0 h1,af,hl];omega) (by rw[km h0 h1];omega),km h0 h1,e1]
  rw[cB (by omega),cf (by omega),ev,b7 (by omega),cm (by omega)]
  exact ih _ (by rw[pa (by omega),hl,bk];omega)
end Go.Cl.Runs
namespace Go.Proofs.YtdfjfncifneocaaGreat
open Go.Cl Go.Cl.Uh Go.Cl.Hx Go.Cl.B85
def up (x:ao):ao:=if 97<=x.toNat then x-32 else x
def nw (c:ao):ew:= !fZ c.toNat
theorem M9:∀k,k<16->fZ ((digits.getD k 0).toNat:bn)=false/\((digits.getD k 0).toNat:bn)≠62/\digit ((digits.getD k 0).toNat:bn)=(k:bn):=by decide
theorem Na (M:bn)(rest:av ao):∀(l P:av ao),((P.length:b5):bn)<=M->Ga M (zo l++62::rest) (-1) P=if(l.length:bn)<=M-P.length then(P++l,0) else([],7)
 |[],P,h=>by
  rw[an (by simp;omega)]
  simp[zo,Ga,show fZ 62=false by decide]
 |c::l,P,h=>by
  have hc8:=c.toNat_lt
  obtain⟨a1,a2,a3⟩:=M9 (c.toNat/16) (by omega)
  obtain⟨b1,b2,b3⟩:=M9 (c.toNat%16) (by omega)
  have e:zo (c::l)++62::rest=digits.getD (c.toNat/16) 0::digits.getD (c.toNat%16) 0::(zo l++62::rest):=by simp[zo,two]
  have hb:AU (c.toNat/16*16+c.toNat%16)=c:=by
   apply bC.mp
   unfold AU;rw[b8];omega
  simp only[dd]
  rw[e,Ga,a1,ab (by decide),ab a2,a3,ab (by omega),an (by decide),Ga,b1,ab (by decide),ab b2,b3,ab (by omega),ab (by omega),cp,cp,hb]
  by_cases hf:M-(P.length:bn)<1
  ·rw[an hf,ab (by omega)]
  ·rw[ab hf,Na M rest l (P++[c]) (by simp;omega)]
   have e2:((P++[c]).length:bn)=P.length+1:=by simp
   rw[e2]
   by_cases hl:(l.length:bn)<=M-(P.length+1)
   ·rw[an hl,an (by omega)];simp
   ·rw[ab hl,ab (by omega)]
theorem PU {n:b5}(h:33<=n):fZ (n:bn)=false:=by
 unfold fZ;rw[decide_eq_false_iff_not];omega
def sg (d:b5):ao:=bb (33+d)
theorem afo {d:b5}(h:d<85):(sg d).toNat=33+d:=by unfold sg;rw[b8];omega
theorem ij (M:bn)(r:av ao)(g:av b5)(P:av ao){d:b5}(hd:d<85):sy M (sg d::r) g P=if g.length=4 then(if(ur M (g++[d]) 4 P).2=0 then sy M r [] (ur M (g++[d]) 4 P).1 else([],(ur M (g++[d]) 4 P).2)) else sy M r (g++[d]) P:=by
 have e:=afo hd
 rw[sy,e,PU (by omega),ab (by decide),ab (by omega),ab (by omega),ab (by omega),Nat.add_sub_cancel_left]
theorem qB (M:bn)(r:av ao)(g:av b5)(P:av ao):sy M (126::r) g P=rE M r g P:=by
 rw[sy,ab (by decide),an (by decide)]
theorem ajL (M:bn)(r:av ao)(P:av ao):sy M (122::r) [] P=if M-P.length<4 then([],7) else sy M r [] (P++[0,0,0,0]):=by
 rw[sy,ab (by decide),ab (by decide),an ⟨by decide,rfl⟩]
theorem zK (M:bn)(r:av ao)(g:av b5)(P:av ao)(h:1<g.length):rE M (62::r) g P=if(ur M g (g.length-1) P).2=0 then((ur M g (g.length-1) P).1,0) else([],(ur M g (g.length-1) P).2):=by
 have hs:(sign (62::r)).1=62:=by simp only[sign];rw[ab (by decide)];rfl
 unfold rE
 by_cases hb:(ur M g (g.length-1) P).2=0
 ·rw[ab (by omega),ab (by simp[hb]),hs,ab (by decide),an rfl,an h,an hb]
 ·rw[ab (by omega),an ⟨h,hb⟩,ab hb]
theorem afp (x k:b5):YT x k=sg (x/85^(4-k)%85):=rfl
theorem BI (x:b5):xT x=[sg (x/52200625%85),sg (x/614125%85),sg (x/7225%85),sg (x/85%85),sg (x%85)]:=by
 simp[xT,afp]
theorem aoG (a b c d e:b5):fC [a,b,c,d,e] 5=(((a*85+b)*85+c)*85+d)*85+e:=by simp[fC]
theorem aoH (a b c d:b5):fC [a,b,c,d] 5=(((a*85+b)*85+c)*85+d)*85+84:=by simp[fC]
theorem aoI (a b c:b5):fC [a,b,c] 5=(((a*85+b)*85+c)*85+84)*85+84:=by simp[fC]
theorem aoJ (a b:b5):fC [a,b] 5=(((a*85+b)*85+84)*85+84)*85+84:=by simp[fC]
theorem abx (x:b5)(h:x<4294967296):∃q1 q2 q3 q4,x/85=q1/\x/7225=q2/\x/614125=q3/\x/52200625=q4/\x=q1*85+x%85/\q1=q2*85+x/85%85/\q2=q3*85+x/7225%85/\q3=q4*85+x/614125%85/\q4=x/52200625%85:=by
 refine⟨x/85,x/7225,x/614125,x/52200625,rfl,rfl,rfl,rfl,by omega,?_,?_,?_,by omega⟩
 ·have:x/7225=x/85/85:=by rw[cv]
  omega
 ·have:x/614125=x/7225/85:=by rw[cv]
  omega
 ·have:x/52200625=x/614125/85:=by rw[cv]
  omega
theorem yz (M:bn)(g:av b5)(n:b5)(P l:av ao)(h1:fC g 5<=4294967295)(h2:(zF (fC g 5)).take n=l)(h3:l.length=n):ur M g n P=if(l.length:bn)<=M-P.length then(P++l,0) else(P,7):=by
 unfold ur
 rw[ab (by omega),h2,h3]
 by_cases hf:(n:bn)<=M-P.length
 ·rw[ab (by omega),an hf]
 ·rw[an (by omega),ab hf]
theorem lX {n:b5}{a:ao}(h:n%256=a.toNat):bb n=a:=by
 apply bC.mp;rw[b8];exact h
theorem aoK {x N a:b5}(ha:a<256)(h:x=a*16777216)(h1:x<=N)(h2:N<=x+614124):N<=4294967295/\N/16777216%256=a:=by omega
theorem aoL {x N a b:b5}(ha:a<256)(hb:b<256)(h:x=a*16777216+b*65536)(h1:x<=N)(h2:N<=x+7224):N<=4294967295/\N/16777216%256=a/\N/65536%256=b:=by omega
theorem aoM {x N a b c:b5}(ha:a<256)(hb:b<256)(hc:c<256)(h:x=a*16777216+b*65536+c*256)(h1:x<=N)(h2:N<=x+84):N<=4294967295/\N/16777216%256=a/\N/65536%256=b/\N/256%256=c:=by omega
theorem aoN {x a b c d:b5}(ha:a<256)(hb:b<256)(hc:c<256)(hd:d<256)(h:x=((a*256+b)*256+c)*256+d):x<=4294967295/\x/16777216%256=a/\x/65536%256=b/\x/256%256=c/\x%256=d:=by omega
theorem afq (x:b5):x<=x/614125*614125+614124/\x/614125*614125+614124<=x+614124/\x<=x/7225*7225+7224/\x/7225*7225+7224<=x+7224/\x<=x/85*85+84/\x/85*85+84<=x+84:=by omega
theorem aoO (a b c d:ao)(l:av ao):val (a::b::c::d::l) 4=((a.toNat*256+b.toNat)*256+c.toNat)*256+d.toNat:=by
 have:min 4 (a::b::c::d::l).length=4:=by simp
 simp only[val,this];simp
theorem Yz (M:bn)(rest:av ao):∀(n:b5) (l P:av ao),l.length<=n->((P.length:b5):bn)<=M->sy M (F1 l++rest) [] P=if(l.length:bn)<=M-P.length then(P++l,0) else([],7):=by
 intro n
 induction n with
 |zero=>
  intro l P hl h
  obtain rfl:l=[]:=List.eq_nil_of_length_eq_zero (by omega)
  rw[oX,an (by simp;omega)]
  show sy M (126::62::rest) [] P=_
  have hs:(sign (62::rest)).1=62:=by simp only[sign];rw[ab (by decide)];rfl
  rw[qB,rE,ab (by decide),ab (by simp),hs,ab (by decide),an rfl,ab (by simp),b4]
 |succ n ih=>
  intro l P hl h
  match l,hl with
  |[],_=>
   rw[oX,an (by simp;omega)]
   show sy M (126::62::rest) [] P=_
   have hs:(sign (62::rest)).1=62:=by simp only[sign];rw[ab (by decide)];rfl
   rw[qB,rE,ab (by decide),ab (by simp),hs,ab (by decide),an rfl,ab (by simp),b4]
  |[a],_=>
   obtain⟨x,hx⟩:∃x,x=val [a] 4:=⟨_,rfl⟩
   have hv:x=a.toNat*16777216:=by rw[hx];simp[val];omega
   have ha:=a.toNat_lt
   obtain⟨q1,q2,q3,q4,e01,e02,e03,e04,e1,e2,e3,e4,e5⟩:=abx x (by omega)
   rw[nX (by simp) (by simp),<-hx,BI]
   have ed:[a].drop (min 4 [a].length)=[]:=by simp
   rw[ed,oX]
   show sy M (sg (x/52200625%85)::sg (x/614125%85)::126::62::rest) [] P=_
   rw[ij M _ _ _ (by omega),ab (by simp),ij M _ _ _ (by omega),ab (by simp),qB,zK _ _ _ _ (by simp)]
   have hn:fC [x/52200625%85,x/614125%85] 5=q3*614125+614124:=by rw[aoJ];omega
   obtain⟨n1,n2,_⟩:=afq x
   rw[e03] at n1 n2
   obtain⟨t0,t1⟩:=aoK ha hv n1 n2
   show(if(ur M [x/52200625%85,x/614125%85] 1 P).2=0 then((ur M [x/52200625%85,x/614125%85] 1 P).1,0) else([],(ur M [x/52200625%85,x/614125%85] 1 P).2))=_
   rw[yz M _ 1 P [a] (by rw[hn];exact t0) (by rw[hn];show [bb _]=[a];rw[lX t1]) rfl]
   by_cases hf:(([a]:av ao).length:bn)<=M-P.length
   ·simp only[an hf,dH]
   ·simp only[ab hf];rfl
  |[a,b],_=>
   obtain⟨x,hx⟩:∃x,x=val [a,b] 4:=⟨_,rfl⟩
   have hv:x=a.toNat*16777216+b.toNat*65536:=by rw[hx];simp[val];omega
   have ha:=a.toNat_lt
   have hb:=b.toNat_lt
   obtain⟨q1,q2,q3,q4,e01,e02,e03,e04,e1,e2,e3,e4,e5⟩:=abx x (by omega)
   rw[nX (by simp) (by simp),<-hx,BI]
   have ed:[a,b].drop (min 4 [a,b].length)=[]:=by simp
   rw[ed,oX]
   show sy M (sg (x/52200625%85)::sg (x/614125%85)::sg (x/7225%85)::126::62::rest) [] P=_
   rw[ij M _ _ _ (by omega),ab (by simp),ij M _ _ _ (by omega),ab (by simp),ij M _ _ _ (by omega),ab (by simp),qB,zK _ _ _ _ (by simp)]
   have hn:fC [x/52200625%85,x/614125%85,x/7225%85] 5=q2*7225+7224:=by rw[aoI];omega
   obtain⟨_,_,n1,n2,_⟩:=afq x
   rw[e02] at n1 n2
   obtain⟨t0,t1,t2⟩:=aoL ha hb hv n1 n2
   show(if(ur M [x/52200625%85,x/614125%85,x/7225%85] 2 P).2=0 then((ur M [x/52200625%85,x/614125%85,x/7225%85] 2 P).1,0) else([],(ur M [x/52200625%85,x/614125%85,x/7225%85] 2 P).2))=_
   rw[yz M _ 2 P [a,b] (by rw[hn];exact t0) (by rw[hn];show [bb _,bb _]=[a,b];rw[lX t1,lX t2]) rfl]
   by_cases hf:(([a,b]:av ao).length:bn)<=M-P.length
   ·simp only[an hf,dH]
   ·simp only[ab hf];rfl
  |[a,b,c],_=>
   obtain⟨x,hx⟩:∃x,x=val [a,b,c] 4:=⟨_,rfl⟩
   have hv:x=a.toNat*16777216+b.toNat*65536+c.toNat*256:=by rw[hx];simp[val];omega
   have ha:=a.toNat_lt
   have hb:=b.toNat_lt
   have hc:=c.toNat_lt
   obtain⟨q1,q2,q3,q4,e01,e02,e03,e04,e1,e2,e3,e4,e5⟩:=abx x (by omega)
   rw[nX (by simp) (by simp),<-hx,BI]
   have ed:[a,b,c].drop (min 4 [a,b,c].length)=[]:=by simp
   rw[ed,oX]
   show sy M (sg (x/52200625%85)::sg (x/614125%85)::sg (x/7225%85)::sg (x/85%85)::126::62::rest) [] P=_
   rw[ij M _ _ _ (by omega),ab (by simp),ij M _ _ _ (by omega),ab (by simp),ij M _ _ _ (by omega),ab (by simp),ij M _ _ _ (by omega),ab (by simp),qB,zK _ _ _ _ (by simp)]
   have hn:fC [x/52200625%85,x/614125%85,x/7225%85,x/85%85] 5=q1*85+84:=by rw[aoH];omega
   obtain⟨_,_,_,_,n1,n2⟩:=afq x
   rw[e01] at n1 n2
   obtain⟨t0,t1,t2,t3⟩:=aoM ha hb hc hv n1 n2
   show(if(ur M [x/52200625%85,x/614125%85,x/7225%85,x/85%85] 3 P).2=0 then((ur M [x/52200625%85,x/614125%85,x/7225%85,x/85%85] 3 P).1,0) else([],(ur M [x/52200625%85,x/614125%85,x/7225%85,x/85%85] 3 P).2))=_
   rw[yz M _ 3 P [a,b,c] (by rw[hn];exact t0) (by rw[hn];show [bb _,bb _,bb _]=[a,b,c];rw[lX t1,lX t2,lX t3]) rfl]
   by_cases hf:(([a,b,c]:av ao).length:bn)<=M-P.length
   ·simp only[an hf,dH]
   ·simp only[ab hf];rfl
  |a::b::c::d::l,hl=>
   have Cf:min 4 (a::b::c::d::l).length=4:=by simp
   obtain⟨x,hx⟩:∃x,x=val (a::b::c::d::l) 4:=⟨_,rfl⟩
   have hv:=aoO a b c d l
   rw[<-hx] at hv
   have ha:=a.toNat_lt
   have hb:=b.toNat_lt
   have hc:=c.toNat_lt
   have hd:=d.toNat_lt
   have wJ:((a::b::c::d::l).length:bn)=l.length+4:=by have:(a::b::c::d::l).length=l.length+4:=rfl;omega
   have ih' :=fun(Q:av ao) (hQ:Q.length=4) (hM:¬M-(P.length:bn)<4)=>ih l (P++Q) (by simp at hl;omega) (by rw[af];omega)
   by_cases hz:x=0
   ·have ea:a=0:=bC.mp (by show _=0;omega)
    have eb:b=0:=bC.mp (by show _=0;omega)
    have ec:c=0:=bC.mp (by show _=0;omega)
    have ed:d=0:=bC.mp (by show _=0;omega)
    rw[Wp (by simp) ⟨Cf,by rw[<-hx];exact hz⟩,Cf]
    show sy M (122::(F1 l++rest)) [] P=_
    rw[ajL,wJ]
    by_cases hf:M-(P.length:bn)<4
    ·rw[an hf,ab (by omega)]
    ·rw[ab hf,ih' _ rfl hf,af]
     subst ea eb ec ed
     have e4:((P.length+([0,0,0,0]:av ao).length:b5):bn)=P.length+4:=by simp
     rw[e4]
     by_cases g7:(l.length:bn)<=M-(P.length+4)
     ·rw[an g7,an (by omega)];simp
     ·rw[ab g7,ab (by omega)]
   ·obtain⟨q1,q2,q3,q4,e01,e02,e03,e04,e1,e2,e3,e4,e5⟩:=abx x (by omega)
    rw[nX (by simp) (by rw[<-hx];exact fun e=>hz e.2),<-hx,BI,Cf]
    show sy M (sg (x/52200625%85)::sg (x/614125%85)::sg (x/7225%85)::sg (x/85%85)::sg (x%85)::(F1 l++rest)) [] P=_
    rw[ij M _ _ _ (by omega),ab (by simp),ij M _ _ _ (by omega),ab (by simp),ij M _ _ _ (by omega),ab (by simp),ij M _ _ _ (by omega),ab (by simp),ij M _ _ _ (by omega),an (by simp)]
    have hn:fC [x/52200625%85,x/614125%85,x/7225%85,x/85%85,x%85] 5=x:=by rw[aoG];omega
    obtain⟨t0,t1,t2,t3,t4⟩:=aoN ha hb hc hd hv
    have hfv:=yz M [x/52200625%85,x/614125%85,x/7225%85,x/85%85,x%85] 4 P [a,b,c,d] (by rw[hn];exact t0) (by rw[hn];show [bb _,bb _,bb _,bb _]=[a,b,c,d];rw[lX t1,lX t2,lX t3,lX t4]) rfl
    show(if(ur M [x/52200625%85,x/614125%85,x/7225%85,x/85%85,x%85] 4 P).2=0 then sy M (F1 l++rest) [] (ur M [x/52200625%85,x/614125%85,x/7225%85,x/85%85,x%85] 4 P).1 else([],(ur M [x/52200625%85,x/614125%85,x/7225%85,x/85%85,x%85] 4 P).2))=_
    rw[hfv,wJ]
    have e4:((([a,b,c,d]:av ao).length:b5):bn)=4:=rfl
    rw[e4]
    by_cases hf:(4:bn)<=M-(P.length:bn)
    ·simp only[an hf,dH]
     rw[ih' _ rfl (by omega),af]
     have e5:((P.length+([a,b,c,d]:av ao).length:b5):bn)=P.length+4:=by simp
     rw[e5]
     by_cases g7:(l.length:bn)<=M-(P.length+4)
     ·rw[an g7,an (by omega)];simp
     ·rw[ab g7,ab (by omega)]
    ·simp only[ab hf]
     rw[ab (by decide),ab (by omega)]
end Go.Proofs.YtdfjfncifneocaaGreat
namespace Go.Cl.Ch
open Go.Cl.Pr
theorem ajM:oC 1 1 1:=by decide
theorem afr (b:av ao):jF 1 1 1 b=(b,0):=by unfold jF;rw[ab (fun h=>h ajM),an rfl]
theorem YA:DZ≠iI/\ss≠iI/\ss≠DZ/\Kc≠iI/\Kc≠DZ/\Kc≠ss/\x5≠iI/\x5≠DZ/\x5≠ss/\x5≠Kc:=by decide
def gn (l:Lk):Lk:=if l.p=1 then⟨1,1,1,l.name,1⟩ else {l with early:=1}
theorem ET (l:Lk):(gn l).name=l.name:=by unfold gn;split<;>rfl
theorem RK {l:Lk}(hp:l.p≠1):eO l= .mk 7 0 [] [] (uG l):=by unfold eO;rw[ab hp];rfl
theorem Uo {l:Lk}(h:Nx l):o8 (mu l.name) (eO l)=(gn l,true):=by
 by_cases hp:l.p=1
 ·have e:eO l=O.none:=by unfold eO;rw[an hp]
  have eb:gn l=⟨1,1,1,l.name,1⟩:=by unfold gn;rw[an hp]
  rw[e,eb]
  have e:se (mu l.name) O.none=⟨1,1,1,l.name,1⟩:=rfl
  have u:A4 (mu l.name) O.none=true:=by
   unfold A4;rw[e]
   have:decide (oC 1 1 1)=true:=c6 ajM
   rw[this];rfl
  unfold o8
  rw[ab (fun h=>h.elim (fun h=>h rfl) (fun h=>h.1 rfl)),e,u]
 ·rw[RK hp]
  have w1:ez (.mk 7 0 [] [] (uG l)) sd 1=(l.p,true):=rfl
  have w2:ez (.mk 7 0 [] [] (uG l)) jQ 1=(l.co,true):=rfl
  have w3:ez (.mk 7 0 [] [] (uG l)) gO 1=(l.cl,true):=rfl
  have w4:ez (.mk 7 0 [] [] (uG l)) EO 1=(1,true):=rfl
  have w5:ez (.mk 7 0 [] [] (uG l)) r9 8=(8,true):=rfl
  have eb:gn l={l with early:=1}:=by unfold gn;rw[ab hp]
  have e:se (mu l.name) (.mk 7 0 [] [] (uG l))=gn l:=by unfold se;rw[w1,w2,w3,w4,eb];rfl
  have eT:RH (.mk 7 0 [] [] (uG l))=true:=by unfold RH;rw[w1,w2,w3,w4];rfl
  have u:A4 (mu l.name) (.mk 7 0 [] [] (uG l))=true:=by
   unfold A4;rw[e,eT,w5,eb]
   have:decide (oC l.p l.co l.cl)=true:=c6 h.2
   simp[this]
  unfold o8
  rw[ab (fun h=>h.elim (fun h=>h rfl) (fun h=>h.2 rfl)),e,u]
theorem A5:∀M:av Lk,(∀l∈M,Nx l)->mL (dB M) (gD M)=some (M.map gn)
 |[],_=>rfl
 |l::r,h=>by
  have ih:=A5 r (fun a ha=>h a (cA _ ha))
  show mL (mu l.name::dB r) (eO l::gD r)=_
  simp only[mL,Uo (h l (c4 ..)),dH,ih,Option.map_some,eB]
theorem Ii:∀{M:av Lk},wv M=false->gD M=ey M.length O.none
 |[],_=>rfl
 |l::r,h=>by
  unfold wv at h
  rw[List.any_cons,Bool.or_eq_false_iff] at h
  have e:eO l=O.none:=by unfold eO;rw[an (by simpa using h.1)]
  show eO l::gD r=_
  rw[e,Ii (by unfold wv;exact h.2)];rfl
theorem RL (v:O)(k:av ao):mS [(bh,v)] k=if bh=k then v else O.none:=by
 unfold mS
 by_cases h:bh=k
 ·rw[an h];simp[h]
 ·rw[ab h];simp[h]
theorem RM (u v:O)(k:av ao):mS [(cG,u),(bh,v)] k=if cG=k then u else if bh=k then v else O.none:=by
 unfold mS
 by_cases h:cG=k
 ·rw[an h];simp[h]
 ·rw[ab h]
  by_cases h2:bh=k
  ·rw[an h2];simp[h,h2]
  ·rw[ab h2];simp[h,h2]
theorem EU (M:av Lk)(hM:∀l∈M,Nx l)(h8:M.length<=8)(b:av ao):gU (.mk 8 0 b [] (cV [] (kV M)))=(M.map gn,0):=by
 have hl:=A5 M hM
 have one:∀(v:O),fV (.mk 8 0 b [] [(bh,v)]) bh=v/\fV (.mk 8 0 b [] [(bh,v)]) cG=O.none:=fun v=>
  ⟨by unfold fV;rw[an (show O.has _=true from rfl)];show mS [(bh,_)] _=_;rw[RL,an rfl],by unfold fV;rw[an (show O.has _=true from rfl)];show mS [(bh,_)] _=_;rw[RL,ab (by decide)]⟩
 have two:∀(u v:O),fV (.mk 8 0 b [] [(cG,u),(bh,v)]) bh=v/\fV (.mk 8 0 b [] [(cG,u),(bh,v)]) cG=u:=fun u v=>
  ⟨by unfold fV;rw[an (show O.has _=true from rfl)];show mS [(cG,_),(bh,_)] _=_;rw[RM,ab (by decide),an rfl],by unfold fV;rw[an (show O.has _=true from rfl)];show mS [(cG,_),(bh,_)] _=_;rw[RM,an rfl]⟩
 have fin:∀o:O,o.kind=8->fX o=(dB M,gD M,true)->gU o=(M.map gn,0):=fun o h1 h2=>by
  unfold gU
  rw[ab (fun h=>h h1),h2,ab (by simp only[not_or];exact⟨by simp,by simp[dB];omega⟩),hl]
 refine fin _ rfl ?_
 match M,hM,h8 with
 |[],_,_=>rfl
 |[l],hM,h8=>
  by_cases hp:l.p=1
  ·have ep:eO l=O.none:=by unfold eO;rw[an hp]
   have e1:cV [] (kV [l])=[(bh,mu l.name)]:=by show cV [] [(bh,mu l.name),(cG,eO l)]=_;rw[ep];rfl
   rw[e1]
   unfold fX
   rw[(one _).1,(one _).2]
   show(if(5:bn)=0 then _ else if(5:bn)=5 then _ else _)=_
   rw[ab (by decide),an rfl]
   show _=([mu l.name],[eO l],true)
   rw[ep]
  ·have ep:=RK hp
   have e1:cV [] (kV [l])=[(cG,eO l),(bh,mu l.name)]:=by show cV [] [(bh,mu l.name),(cG,eO l)]=_;rw[ep];rfl
   rw[e1]
   unfold fX
   rw[(two _ _).1,(two _ _).2]
   show(if(5:bn)=0 then _ else if(5:bn)=5 then _ else _)=_
   rw[ab (by decide),an rfl]
   rfl
 |x::y::r,hM,h8=>
  have hKl:(dB (x::y::r)).length=(x::y::r).length:=by simp[dB]
  have hQl:(gD (x::y::r)).length=(x::y::r).length:=by simp[gD]
  cases ha:wv (x::y::r) with
  |false=>
   have e0:kV (x::y::r)=[(bh,rH (dB (x::y::r)))]:=by show(if wv (x::y::r) then _ else _)=_;rw[ha];rfl
   rw[e0,Ii ha,<-hKl]
   generalize dB (x::y::r)=K
   have e1:cV [] [(bh,rH K)]=[(bh,rH K)]:=rfl
   rw[e1]
   unfold fX
   rw[(one _).1,(one _).2]
   show(if(6:bn)=0 then _ else if(6:bn)=5 then _ else if(6:bn)=6 then(if(0:bn)=0 then _ else _) else _)=_
   rw[ab (by decide),ab (by decide),an rfl,an rfl]
   rfl
  |true=>
   have e0:kV (x::y::r)=[(bh,rH (dB (x::y::r))),(cG,rH (gD (x::y::r)))]:=by show(if wv (x::y::r) then _ else _)=_;rw[ha];rfl
   rw[e0]
   have hq:(gD (x::y::r)).length=(dB (x::y::r)).length:=by rw[hKl,hQl]
   generalize dB (x::y::r)=K at hq|-
   generalize gD (x::y::r)=Q at hq|-
   have e1:cV [] [(bh,rH K),(cG,rH Q)]=[(cG,rH Q),(bh,rH K)]:=rfl
   rw[e1]
   unfold fX
   rw[(two _ _).1,(two _ _).2]
   show(if(6:bn)=0 then _ else if(6:bn)=5 then _ else if(6:bn)=6 then(if(6:bn)=0 then _ else(K,Q,decide ((6:bn)=6)&&decide (Q.length=K.length))) else _)=_
   rw[ab (by decide),ab (by decide),an rfl,ab (by decide),c6 hq]
   rfl
theorem Ij {l:Lk}{r:av Lk}{b:av ao}(h:(cy (l::r) b).2=0):(cy r b).2=0/\cy (l::r) b=pN l (cy r b).1/\(pN l (cy r b).1).2=0:=by
 by_cases c:(cy r b).2=0
 ·have e:cy (l::r) b=pN l (cy r b).1:=by simp only[cy];rw[ab (fun h=>h c)]
  exact⟨c,e,by rw[<-e];exact h⟩
 ·simp only[cy] at h;rw[an c] at h;exact en h c
theorem Ik {b:av ao}:∀{M:av Lk},(cy M b).2=0->∀k,(cy (M.drop k) b).2=0
 |_,h,0=>h
 |[],_,_+1=>rfl
 |_::_,h,k+1=>Ik (Ij h).1 k
theorem Nb {C:av Lk}{b:av ao}(h:(cy C b).2=0):∀A:av Lk,cy (A++C) b=cy A (cy C b).1
 |[]=>by show cy C b=((cy C b).1,0);rw[<-h]
 |l::A=>by
  have ih:=Nb h A
  show(if(cy (A++C) b).2≠0 then([],(cy (A++C) b).2) else pN l (cy (A++C) b).1)=_
  rw[ih];rfl
theorem EV {l:Lk}{c:av ao}(he:(eJ l.p l.co l.cl c).2=0):jF (gn l).p (gn l).co (gn l).cl (eJ l.p l.co l.cl c).1=(c,0):=by
 unfold gn
 by_cases hp:l.p=1
 ·rw[an hp]
  have:(eJ l.p l.co l.cl c).1=c:=by
   unfold eJ at he|-
   by_cases hm:oC l.p l.co l.cl
   ·rw[ab (fun h=>h hm),an hp]
   ·rw[an hm] at he;cases he
  rw[this];exact afr c
 ·rw[ab hp];exact Ul he
end Go.Cl.Ch
namespace Go.Proofs.YtdfjfncifneocaaGreat
open Go.Cl Go.Cl.Pr Go.Cl.Ch Go.Cl.Hx Go.Cl.B85 Go.Cl.Uh
theorem Up {l:Lk}{y c:av ao}(hd:jF l.p l.co l.cl y=(c,0)){m:bn}(hm:(y.length:bn)<=m)(hc:y.length<=1900000):lg l (UI (Fx.DF y) m)=(c,0):=by
 obtain⟨N,hN⟩:∃N,N=8*(Fx.DF y).length+fuelZ:=⟨_,rfl⟩
 have hN2:y.length+1<=N:=by rw[hN,MP];omega
 have z:=Nf.Un N y [] (M:=m.toNat) (by omega) hN2
 rw[b4,hN] at z
 have e:UI (Fx.DF y) m=(y,0):=by unfold UI;rw[z];rfl
 rw[e]
 unfold lg;rw[ab (fun h=>h rfl),hd]
theorem aby {l:Lk}{y c:av ao}(hd:jF l.p l.co l.cl y=(c,0)){m:bn}(hm:(y.length:bn)<=m):lg l (Y6 (Lz.E5 y) m)=(c,0):=by
 have z:=Lz.O6 y [] (most:=m.toNat) (by omega)
 rw[b4] at z
 have e:Y6 (Lz.E5 y) m=(y,0):=by unfold Y6;rw[z];rfl
 rw[e]
 unfold lg;rw[ab (fun h=>h rfl),hd]
theorem afs (c:av ao)(m:bn)(hm:0<=m):Ga m (hex c) (-1) []=if(c.length:bn)<=m then(c,0) else([],7):=by
 have e3:hex c=zo c++62::[]:=by simp[hex]
 rw[e3,Na m [] c [] (by simpa using hm)]
 simp
theorem ajN (c:av ao)(m:bn)(hm:0<=m):sy m (F1 c) [] []=if(c.length:bn)<=m then(c,0) else([],7):=by
 have z:=Yz m [] c.length c [] (bo _) (by simpa using hm)
 rw[b4] at z
 rw[z]
 simp
theorem YB (c:av ao){m:bn}(hm:(c.length:bn)<=m):Runs.dec m (Runs.encode c) []=(c,0):=by
 have hr:Runs.room m []=m.toNat:=by simp[Runs.room]
 have z:=Runs.PT m [] c [] (by rw[hr];omega)
 rw[b4] at z
 rw[z];rfl
theorem Uq {l:Lk}(hn:l.name∈v8){c:av ao}(he:(pN l c).2=0){m:bn}(hm:2*(c.length:bn)<=m)(hM:m<=1048576):fM (gn l) (pN l c).1 m=(c,0)/\NoD (gn l) (pN l c).1 m:=by
 obtain⟨a1,a2,a3,a4,a5,a6,a7,a8,a9,a10⟩:=YA
 have R6:pK m=m:=by unfold pK;rw[ab (by omega)]
 have nb:=ET l
 have hy:=xA l.p l.co l.cl c
 simp only[v8,List.mem_cons,List.not_mem_nil,or_false] at hn
 have hp:l.name≠ss->l.name≠Kc->l.name≠x5->(eJ l.p l.co l.cl c).2=0:=fun h1 h2 h3=>by
  unfold pN at he
  rw[ab h1,ab h2,ab h3] at he
  by_cases q:(eJ l.p l.co l.cl c).2=0
  ·exact q
  ·rw[an q] at he;exact en he q
 rcases hn with hn|hn|hn|hn|hn
 ·have h1:l.name≠ss:=by rw[hn];exact Ne.symm a2
  have h2:l.name≠Kc:=by rw[hn];exact Ne.symm a4
  have h3:l.name≠x5:=by rw[hn];exact Ne.symm a7
  have q:=hp h1 h2 h3
  have e:(pN l c).1=Fx.DF (eJ l.p l.co l.cl c).1:=by unfold pN;rw[ab h1,ab h2,ab h3,ab (fun h=>h q),an hn]
  have e2:∀b,fM (gn l) b m=lg (gn l) (UI b m):=fun b=>by unfold fM;rw[an (nb.trans hn)]
  rw[e,e2]
  refine⟨Up (EV q) (by omega) (by omega),fun _=> ?_⟩
  have z:=Nf.PS (eJ l.p l.co l.cl c).1 []
  rw[b4] at z
  rw[z]
  exact Nf.MV _ _ _ (by omega)
 ·have h1:l.name≠ss:=by rw[hn];exact Ne.symm a3
  have h2:l.name≠Kc:=by rw[hn];exact Ne.symm a5
  have h3:l.name≠x5:=by rw[hn];exact Ne.symm a8
  have h4:l.name≠iI:=by rw[hn];exact a1
  have q:=hp h1 h2 h3
  have e:(pN l c).1=Lz.E5 (eJ l.p l.co l.cl c).1:=by unfold pN;rw[ab h1,ab h2,ab h3,ab (fun h=>h q),ab h4]
  have e2:∀b,fM (gn l) b m=lg (gn l) (Y6 b m):=fun b=>by unfold fM;rw[nb,ab h4,an hn]
  rw[e,e2]
  exact⟨aby (EV q) (by omega),fun h=>en (nb.symm.trans h) h4⟩
 ·have e:(pN l c).1=hex c:=by unfold pN;rw[an hn]
  have e2:∀b,fM (gn l) b m=Ga (pK m) b (-1) []:=fun b=>by unfold fM;rw[nb,ab (by rw[hn];exact a2),ab (by rw[hn];exact a3),an hn]
  rw[e,e2,R6,afs c m (by omega),an (by omega)]
  exact⟨rfl,fun h=>en (hn.symm.trans (nb.symm.trans h)) a2⟩
 ·have e:(pN l c).1=F1 c:=by unfold pN;rw[ab (by rw[hn];exact a6),an hn]
  have e2:∀b,fM (gn l) b m=sy (pK m) b [] []:=fun b=>by unfold fM;rw[nb,ab (by rw[hn];exact a4),ab (by rw[hn];exact a5),ab (by rw[hn];exact a6),an hn]
  rw[e,e2,R6,ajN c m (by omega),an (by omega)]
  exact⟨rfl,fun h=>en (hn.symm.trans (nb.symm.trans h)) a4⟩
 ·have e:(pN l c).1=Runs.encode c:=by unfold pN;rw[ab (by rw[hn];exact a9),ab (by rw[hn];exact a10),an hn]
  have e2:∀b,fM (gn l) b m=Runs.dec m b []:=fun b=>by unfold fM;rw[nb,ab (by rw[hn];exact a7),ab (by rw[hn];exact a8),ab (by rw[hn];exact a9),ab (by rw[hn];exact a10)]
  rw[e,e2,YB c (by omega)]
  exact⟨rfl,fun h=>en (hn.symm.trans (nb.symm.trans h)) a7⟩
theorem EW {m:bn}(hM:m<=1048576){b:av ao}:∀(M:av Lk),(∀l∈M,l.name∈v8)->(cy M b).2=0->(∀j,(cy (M.drop j) b).1.length<=4000000)->(∀j,j<M.length->2*((cy (M.drop (j+1)) b).1.length:bn)<=m)->
  om (M.map gn) (cy M b).1 m=(b,0)/\Ia (M.map gn) (cy M b).1 m
 |[],_,_,_,_=>⟨rfl,trivial⟩
 |l::r,h,h0,h4,hj=>by
  obtain⟨d1,d2,d3⟩:=Ij h0
  obtain⟨i1,i2⟩:=EW hM r (fun a ha=>h a (cA _ ha)) d1 (fun j=>h4 (j+1)) (fun j q=>hj (j+1) (by simpa using q))
  have q0:=h4 0
  have q1:=hj 0 (by simp)
  simp only[List.drop_zero,List.drop_succ_cons] at q0 q1
  obtain⟨u1,u2⟩:=Uq (h l (c4 ..)) d3 q1 hM
  rw[<-d2] at u1 u2
  simp only[eB,om,Ia]
  rw[u1]
  exact⟨by rw[ab (fun h=>h rfl)];exact i1,q0,u2,fun _=>i2⟩
theorem yx {M:av Lk}(hM:∀l∈M,Nx l)(h8:M.length<=8)(B:av ao)(m:bn):PO (.mk 8 0 B [] (cV [] (kV M))) m=om (M.map gn) B m:=by
 unfold PO
 rw[EU M hM h8 B,ab (fun h=>h rfl),ab (fun h=>h (fun l hl=>by obtain⟨a,ha,rfl⟩:=dt.1 hl;rw[ET];exact(hM a ha).1))]
 rfl
end Go.Proofs.YtdfjfncifneocaaGreat
namespace Go.Proofs.YtdfjfncifneocaaGreat
open Go.Cl Go.Cl.Pr Go.Cl.Ch
theorem RN:aX bl 68=some 5:=by kernel_rfl
theorem ajO {s:aq}{v:Value}{n:b5}{l:av Value}(h:aN s 5 v n l){k:b5}(hk:k<n):au bl 68 (bc 5 v k) 0=some (b6 (bc 5 v k) 0)/\au bl 68 (bc 5 v k) 1=some (b6 (bc 5 v k) 3)/\au bl 66 (b6 (bc 5 v k) 0) 0=some (b6 (bc 5 v k) 0):=by
 obtain⟨i,off,c,e1,_⟩:=h.cells hk
 rw[e1]
 refine⟨?_,?_,?_⟩
 ·unfold au;rw[c8];simp[b6,ahd]
 ·unfold au;rw[c8];simp[b6,I2]
 ·unfold au;rw[c9];simp[b6,bA]
end Go.Proofs.YtdfjfncifneocaaGreat
namespace Go.Proofs.YtdfjfncifneocaaGreat
open Go.Cl
def tl (l:av ao)(p:b5)(t:av ao):Prop:=p+t.length<=l.length/\(l.drop p).take t.length=t
instance (l:av ao) (p:b5) (t:av ao):Decidable (tl l p t):=by unfold tl;infer_instance
end Go.Proofs.YtdfjfncifneocaaGreat
namespace Go.Proofs.YtdfjfncifneocaaGreat
open Go.Cl Go.Cl.Pr Go.Cl.Ch
theorem Il {P:Program}{eS eI:TypeId}(hS:bX P eS=some false)(hI:bX P eI=some false){s:aq}{v:Value}{L:av Lk}(h:aN s 5 v L.length (ki L)){i:b5}(hi:i<L.length):
  aJ P s eI (b6 (bc 5 v i) 0)=some (.int .i64 L[i].p)/\aJ P s eI (b6 (bc 5 v i) 1)=some (.int .i64 L[i].co)/\aJ P s eI (b6 (bc 5 v i) 2)=some (.int .i64 L[i].cl)/\aJ P s eS (b6 (bc 5 v i) 3)=some (.string ⟨L[i].name.toArray⟩)/\aJ P s eI (b6 (bc 5 v i) 4)=some (.int .i64 L[i].early):=by
 refine⟨?_,?_,?_,?_,?_⟩
 ·rw[h.lB (P:=P) hI hi (j:=0) (by omega),tI hi 0 (by decide)];rfl
 ·rw[h.lB (P:=P) hI hi (j:=1) (by omega),tI hi 1 (by decide)];rfl
 ·rw[h.lB (P:=P) hI hi (j:=2) (by omega),tI hi 2 (by decide)];rfl
 ·rw[h.lB (P:=P) hS hi (j:=3) (by omega),tI hi 3 (by decide)];rfl
 ·rw[h.lB (P:=P) hI hi (j:=4) (by omega),tI hi 4 (by decide)];rfl
theorem ac1 {s:aq}{v:Value}{n:b5}{l:av Value}(h:aN s 5 v n l){k:b5}(hk:k<n):au bl 68 (bc 5 v k) 2=some (b6 (bc 5 v k) 4)/\au bl 66 (b6 (bc 5 v k) 0) 1=some (b6 (bc 5 v k) 1)/\au bl 66 (b6 (bc 5 v k) 0) 2=some (b6 (bc 5 v k) 2):=by
 obtain⟨i,off,c,e1,_⟩:=h.cells hk
 rw[e1]
 refine⟨?_,?_,?_⟩
 ·unfold au;rw[c8];simp[b6,bA]
 ·unfold au;rw[c9];simp[b6,bA]
 ·unfold au;rw[c9];simp[b6,bA]
theorem bLk (a b c:bn):cC bl 56 [(0,.int .i64 a),(1,.int .i64 b),(2,.int .i64 c)]=some (i3 a b c):=by kernel_rfl
theorem aoQ (l:Lk):cC bl 58 [(0,i3 l.p l.co l.cl),(1,.string ⟨l.name.toArray⟩),(2,.int .i64 l.early)]=some (fE l):=by kernel_rfl
theorem aft (l:Lk):bZ (fE l) (fE l)=true:=by simp[bZ,fp,cN,Lk.cells]
theorem rL (s:aq)(v:Value)(L:av Lk)(hv:aN s 5 v L.length (ki L))(hT:L.length<=1000):
  Runs bl df 23 [v] s fun y s' =>Own s' 5 y L.length (ki L)/\aF s.next y/\ar s.next s s' :=by
 refine Runs.enter 45 Tryz.func23 rfl rfl rfl rfl ?_
 intro f hn hf
 have h0:f.get 0=v:=hf 0
 clear hf
 have UK:=Tryz.underlying31
 have UR:=eh
 have MX:bV bl 58=some (fE ⟨0,0,0,[],0⟩):=by kernel_rfl
 have yp:bN (fE ⟨0,0,0,[],0⟩)=true:=by kernel_rfl
 have Yj:eY bl 58=some 48:=by kernel_rfl
 simp only[aj,QS,↓bg,hn]
 refine Comes.eZ (fun z f s6=>∃(i:b5) (y:Value),z=L.length-i/\i<=L.length/\Own s6 5 y i (ki (L.take i))/\aF s.next y/\ar s.next s s6/\f.n=45/\f.get 0=v/\f.get 3=y/\f.get 4= .int .i64 (i:b5))
  ⟨0,.slice none 0 0,rfl,by omega,by rw[List.take_zero];exact .nil,aF.nil _,ar.refl _ _,by simp only[ad,ag,↓bg,Qx,hn,h0,true_and];rfl⟩ ?_
 clear hn h0 f
 rintro z f s6 ⟨i,y,rfl,hi,hy,kN,dY,hn,h0,h3,h4⟩
 have hv6:=hv.keeps dY
 have YU:=dY.next
 by_cases bd:i<L.length
 ·have d1:(i:bn)<(L.length:bn):=by omega
  simp only[aj,aa,QS,Qx,↓bg,hn,h0,h4,hv6.bm UR,dc d1]
  obtain⟨A,hA⟩:∃A:b5->ew,A=fun j=>decide (j<s6.next):=⟨_,rfl⟩
  have iU:∀j,A j=true->j<s6.next:=by
   intro j h
   rw[hA] at h
   exact ee h
  have vM:∀j,j<s6.next->A j=true:=fun j h=>by rw[hA];exact c6 h
  refine LB.cX.fi A iU 0 1 (by kernel_rfl) (by kernel_rfl) ?_
  have dC:=ar.spare s6 1
  have UD:(spare s6 1).next=s6.next+1:=bU _ _
  have hv7:=hv6.keeps dC
  have mY:=hv7.indexAddr (P:=bl) (k:= .i64) (x:=(i:bn)) UR RN (by omega) (by omega)
  rw[cp] at mY
  obtain⟨q0,q1,q2⟩:=ajO hv7 bd
  obtain⟨q3,q4,q5⟩:=ac1 hv7 bd
  obtain⟨kW,jn,g7,Kb,hl4⟩:=Il (P:=bl) tp bu hv7 bd
  simp only[aj,bH,bI,ae,QS,Qx,↓bg,hn,h0,h3,h4,hv.self,hy.self,vH,mY,q0,q1,q2,q3,q4,q5,LA.SY hv6 vM bd,kW,jn,g7,Kb,hl4,bLk,aoQ,ZR,aft,gi (cs:=L[i].cells.toArray) UK dp MX yp rfl rfl (by decide)]
  refine LB.cZ (base:=s6.next) (by rfl) (by omega) (bo _) ?_
  intro bs s7 oA gz jX rp vX
  have YC:ar s6.next s6 s7:=dC.trans ⟨jX.next,fun j hj=>jX.get j (by omega)⟩
  have aui:=YC.next
  simp only[aj,bI,aa,QS,Qx,↓bg,hn]
  refine LB.iT UK UK (.inl ⟨_,rfl⟩) dp Yj MX rfl (hy.keeps YC) oA.aG.src rfl (by decide) rfl (by omega) (by omega) (base:=s.next) kN (by omega) (fun h=>en rfl h) (fun j hj=>by have:=iU j hj;omega) ?_
  intro y' s8 hy8 hF8 aoR ra
  have e8:ki (L.take (i+1))=ki (L.take i)++L[i].cells:=by
   rw[cg bd,vZ];simp[ki]
  simp(disch:=omega)only[aj,bH,bI,Nat.reduceSub,QS,Qx,↓bg,hn,h4,hy8.self,aD]
  refine ay (L.length-(i+1)) (by omega) ⟨i+1,y',rfl,by omega,by rw[e8];exact hy8,hF8,(dY.trans (YC.weaken YU)).trans (aoR.keeps kN (by omega)),by simp only[ag,hn],by simp only[ad,↓bg,Qx,h0],by simp only[ad,↓bg,Qx],by simp only[ad,↓bg];rfl⟩
 ·obtain rfl:i=L.length:=by omega
  rw[ek] at hy
  have d1:¬((L.length:b5):bn)<((L.length:b5):bn):=by omega
  simp only[aj,al,oneOf,aa,QS,Qx,↓bg,hn,h0,h3,h4,hv6.bm UR,cR d1,Tryz.results23]
  exact⟨hy,kN,dY⟩
def YD (s:aq)(p:Prop)(v:Value)(s' :aq):Prop:=s' =s/\∃t:ew,v= .bool t/\(t=true->p)
theorem JY (s:aq)(v:Value)(L:av Lk)(hv:aN s 5 v L.length (ki L))(hN:∀l∈L,l.name.length<9223372036854775808):
  Runs bl df 21 [v] s (YD s (L.length<=12)):=by
 obtain⟨QQ,fw⟩:∃QQ:Value->aq->Prop,QQ=YD s (L.length<=12):=⟨_,rfl⟩
 rw[<-fw]
 refine Runs.enter 38 Tryz.func21 rfl rfl rfl rfl ?_
 intro f hn hf
 have h0:f.get 0=v:=hf 0
 clear hf
 have UR:=eh
 by_cases c12:L.length<=12
 rotate_left
 ·have d1:((L.length:b5):bn)>12:=by omega
  simp only[aj,al,oneOf,aa,QS,Qx,↓bg,hn,h0,hv.bm UR,dc d1,cx]
  rw[fw];exact⟨rfl,false,rfl,fun h=>by cases h⟩
 have d1:¬((L.length:b5):bn)>12:=by omega
 have no:QQ (.bool false) s:=by rw[fw];exact⟨rfl,false,rfl,fun h=>by cases h⟩
 have yes:QQ (.bool true) s:=by rw[fw];exact⟨rfl,true,rfl,fun _=>c12⟩
 simp only[aj,aa,QS,Qx,↓bg,hn,h0,hv.bm UR,cR d1]
 refine Comes.eZ (fun z f t=>∃(i:b5),z=L.length-i/\i<=L.length/\t=s/\f.n=38/\f.get 0=v/\f.get 3= .int .i64 (i:b5))
  ⟨0,rfl,by omega,rfl,by simp only[ad,ag,↓bg,Qx,hn,h0,true_and];rfl⟩ ?_
 clear hn h0 f
 rintro z f t ⟨i,rfl,hi,rfl,hn,h0,h3⟩
 by_cases bd:i<L.length
 rotate_left
 ·obtain rfl:i=L.length:=by omega
  have d2:¬((L.length:b5):bn)<((L.length:b5):bn):=by omega
  simp only[aj,al,oneOf,aa,QS,Qx,↓bg,hn,h0,h3,hv.bm UR,cR d2,cx]
  exact yes
 have d2:(i:bn)<(L.length:bn):=by omega
 have mY:=hv.indexAddr (P:=bl) (k:= .i64) (x:=(i:bn)) UR RN (by omega) (by omega)
 rw[cp] at mY
 obtain⟨q0,q1,q2⟩:=ajO hv bd
 obtain⟨q3,q4,q5⟩:=ac1 hv bd
 obtain⟨kW,jn,g7,Kb,hl4⟩:=Il (P:=bl) tp bu hv bd
 have J1:=hN _ (List.getElem_mem bd)
 have pE:=ZM (P:=bl) (s:=t) Tryz.underlying9 (a:=L[i].name)
 by_cases e1:((L[i].name.length:b5):bn)>100
 ·simp only[aj,ak,al,oneOf,aa,QS,Qx,↓bg,undef,hn,h0,h3,hv.bm UR,dc d2,mY,q1,Kb,pE,dc e1,cx]
  exact no
 by_cases e2:L[i].co>100
 ·simp only[aj,ak,al,oneOf,aa,QS,Qx,↓bg,undef,hn,h0,h3,hv.bm UR,dc d2,mY,q0,q1,q4,jn,Kb,pE,cR e1,dc e2,cx]
  exact no
 by_cases e3:L[i].cl>5000
 ·simp only[aj,ak,al,oneOf,aa,QS,Qx,↓bg,hn,h0,h3,hv.bm UR,dc d2,mY,q0,q1,q4,q5,jn,g7,Kb,pE,cR e1,cR e2,dc e3,cx]
  exact no
 simp(disch:=omega)only[aj,ak,aa,QS,Qx,↓bg,hn,h0,h3,hv.bm UR,dc d2,mY,q0,q1,q4,q5,jn,g7,Kb,pE,cR e1,cR e2,cR e3,aD]
 exact ay (L.length-(i+1)) (by omega) ⟨i+1,rfl,by omega,rfl,by simp only[ag,hn],by simp only[ad,↓bg,Qx,h0],by simp only[ad,↓bg];rfl⟩
end Go.Proofs.YtdfjfncifneocaaGreat
