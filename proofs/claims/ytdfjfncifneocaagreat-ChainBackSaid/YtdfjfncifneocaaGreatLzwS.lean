import Derived.Test.YtdfjfncifneocaaGreatPrD
import Derived.Test.YtdfjfncifneocaaGreatRuns2
open _root_ renaming reduceIte->ab,Nat->ao,UInt8->a0,List->a4,if_neg->a5,Int->a8,decide_eq_false->bb,decide_eq_true->bg,if_pos->bo,eq_false->b5,eq_true->cb
open Go.Proofs.Tryz renaming prog->af,underlying22->an,underlying124->a9,results47->bq,underlying3->b4,results70->ca,underlying5->cc,underlying137->dc,results106->dU,results154->dX,results153->dY
open List renaming getD_eq_getElem?_getD->av,length_drop->bk,replicate->b8,length_append->cm,getElem?_drop->cp,getElem?_take_of_lt->cH,length_replicate->c8,nil_append->dO,mem_range->ea
open Int renaming toNat_natCast->a6,ofNat->eo
open Go renaming Value->a7,Program->c7,TypeId->dd,IntKind->eg
open BitVec renaming ofInt->bl,ofInt_natCast->cd,toNat_ofNat->cx
open Go.IntKind renaming u8->bz,i64->b7
open Nat renaming succ_mul->cg,add_sub_cancel->cv,le_refl->cz,mul_one->cA,le_mul_of_pos_right->c0,mod_eq_of_lt->c6,mul_le_mul_right->c9,mul_comm->ds,add_zero->dt,div_eq_of_lt->dv,mul_add_div->dT,mul_le_mul->eb,add_assoc->ec,sub_self->ed,zero_mul->ee,le_trans->ek,blt_eq->en
open UInt8 renaming ofNat->cB
open Nat renaming reduceLT->QS,reduceEqDiff->Qx
set_option maxHeartbeats 8000000
set_option linter.unusedSimpArgs false
set_option linter.unusedVariables false
set_option maxRecDepth 100000
namespace Go.Proofs.YtdfjfncifneocaaGreat
open Go.Cl Go.Cl.Pr Go.Cl.Ch Go.Cl.Hx Go.Cl.B85
theorem cM.behind {s s1 s' :aq}{w:a7}{l:a4 a0}(h:cM s1 w s' l)(k:ar s.next s s1):cM s w s' l:=cM.after h k rfl
theorem aey:Dt df:=⟨rfl,rfl,rfl,rfl,rfl,rfl,rfl,rfl,rfl,rfl⟩
theorem aez (s:aq)(l:Lk)(x:a7)(b:a4 a0)(hx:aN s 1 x b.length (ofBytes b))(hb:b.length<=2000000):
  Runs af df 47 [fE l,x] s (vg s (pN l b)):=by
 obtain⟨QQ,fw⟩:∃QQ:a7->aq->Prop,QQ=vg s (pN l b):=⟨_,rfl⟩
 rw[<-fw]
 refine Runs.enter 40 Tryz.func47 rfl rfl rfl rfl ?_
 intro f hn hf
 have h0:f.get 0=fE l:=hf 0
 have h1:f.get 1=x:=hf 1
 clear hf
 simp only[aj,QS,↓ab,hn,h0]
 refine aw ?_
 intro s1 ht aE xG
 have ht:ax s1 s.next l.cells:=ht
 have hd:l.cells.length+1=6:=rfl
 have nk:=hx.keeps aE
 have p3:aJ af s1 9 (.pointer (some ⟨s.next,3,some 6⟩))=some (.string ⟨l.name.toArray⟩):=ht.load tp (off:=3) (c:=6) rfl (by simp[Lk.cells])
 have e1:=kJ (P:=af) (t:=9) l.name ss
 have e2:=kJ (P:=af) (t:=9) l.name Kc
 have e3:=kJ (P:=af) (t:=9) l.name x5
 have e4:=kJ (P:=af) (t:=9) l.name iI
 rw[show ss.toArray= #[65,83,67,73,73,72,101,120,68,101,99,111,100,101] from rfl] at e1
 rw[show Kc.toArray= #[65,83,67,73,73,56,53,68,101,99,111,100,101] from rfl] at e2
 rw[show x5.toArray= #[82,117,110,76,101,110,103,116,104,68,101,99,111,100,101] from rfl] at e3
 rw[show iI.toArray= #[70,108,97,116,101,68,101,99,111,100,101] from rfl] at e4
 by_cases c1:l.name=ss
 ·rw[bg c1] at e1
  simp only[aj,ak,aa,QS,Qx,↓ab,hn,h1,hd,zu,p3,e1]
  refine(aaL (lib:=df) rfl s1 x b nk (by omega)).mono ?_
  intro w s2 hw
  simp only[aj,al,oneOf,QS,Qx,↓ab,hn,bq]
  rw[fw]
  exact⟨w,by unfold pN;rw[bo c1],by unfold pN;rw[bo c1];exact cM.behind hw aE⟩
 rw[bb c1] at e1
 by_cases c2:l.name=Kc
 ·rw[bg c2] at e2
  simp only[aj,ak,aa,QS,Qx,↓ab,hn,h1,hd,zu,p3,e1,e2]
  refine(O9 (lib:=df) rfl s1 x b nk (by omega)).mono ?_
  intro w s2 hw
  simp only[aj,al,oneOf,QS,Qx,↓ab,hn,bq]
  rw[fw]
  exact⟨w,by unfold pN;rw[a5 c1,bo c2],by unfold pN;rw[a5 c1,bo c2];exact cM.behind hw aE⟩
 rw[bb c2] at e2
 by_cases c3:l.name=x5
 ·rw[bg c3] at e3
  simp only[aj,ak,aa,QS,Qx,↓ab,hn,h1,hd,zu,p3,e1,e2,e3]
  refine(L8 (lib:=df) rfl rfl rfl s1 x b nk (by omega)).mono ?_
  intro w s2 hw
  simp only[aj,al,oneOf,QS,Qx,↓ab,hn,bq]
  rw[fw]
  exact⟨w,by unfold pN;rw[a5 c1,a5 c2,bo c3],by unfold pN;rw[a5 c1,a5 c2,bo c3];exact cM.behind hw aE⟩
 rw[bb c3] at e3
 have la:aJ af s1 56 (.pointer (some ⟨s.next,0,some 6⟩))=some (i3 l.p l.co l.cl):=by
  have:=ax.uj (P:=af) Ay rW ht (off:=0) (c:=6) rfl (by simp[Lk.cells])
  rw[this];rfl
 simp only[aj,ak,aa,QS,Qx,↓ab,hn,h1,hd,tJ,zu,p3,e1,e2,e3,la]
 refine(L0 (lib:=df) aey rfl s1 l.p l.co l.cl x b nk (by omega)).mono ?_
 rintro _ s2 ⟨w,rfl,hw⟩
 have hk:ar s.next s s2:=aE.trans (hw.stay.weaken aE.next)
 have ph:=xA l.p l.co l.cl b
 have x0:∀z,ba (.tuple #[w,z]) 0=some w:=fun _=>rfl
 have x1:∀z,ba (.tuple #[w,z]) 1=some z:=fun _=>rfl
 by_cases c4:(eJ l.p l.co l.cl b).2=0
 rotate_left
 ·have hD:pN l b=([],(eJ l.p l.co l.cl b).2):=by unfold pN;rw[a5 c1,a5 c2,a5 c3,bo c4]
  simp only[aj,ak,al,oneOf,QS,Qx,↓ab,hn,x0,x1,decide_not,bb c4,bq]
  rw[fw,hD]
  exact⟨_,rfl,⟨.nil,aF.nil _,hk⟩⟩
 have dD:=ht.keeps hw.stay
 have p4:aJ af s2 9 (.pointer (some ⟨s.next,3,some 6⟩))=some (.string ⟨l.name.toArray⟩):=dD.load tp (off:=3) (c:=6) rfl (by simp[Lk.cells])
 rw[c4]
 by_cases c5:l.name=iI
 ·rw[bg c5] at e4
  have hD:pN l b=(Fx.DF (eJ l.p l.co l.cl b).1,0):=by unfold pN;rw[a5 c1,a5 c2,a5 c3,a5 (fun h=>h c4),bo c5]
  simp only[aj,ak,aa,QS,Qx,↓ab,hn,x0,x1,zu,p4,e4]
  refine(Wg (lib:=df) rfl rfl rfl rfl rfl rfl rfl rfl rfl rfl rfl rfl rfl rfl rfl rfl rfl s2 w _ hw.own.aG (by omega)).mono ?_
  intro y s3 hy
  simp only[aj,al,oneOf,QS,Qx,↓ab,hn,bq]
  rw[fw,hD]
  exact⟨y,rfl,hy.behind hk⟩
 rw[bb c5] at e4
 have hD:pN l b=(Lz.E5 (eJ l.p l.co l.cl b).1,0):=by unfold pN;rw[a5 c1,a5 c2,a5 c3,a5 (fun h=>h c4),a5 c5]
 simp only[aj,ak,aa,QS,Qx,↓ab,hn,x0,x1,zu,p4,e4]
 refine(O7 (lib:=df) rfl rfl rfl rfl rfl rfl rfl rfl s2 w _ hw.own.aG (by omega)).mono ?_
 intro y s3 hy
 simp only[aj,al,oneOf,QS,Qx,↓ab,hn,bq]
 rw[fw,hD]
 exact⟨y,rfl,hy.behind hk⟩
end Go.Proofs.YtdfjfncifneocaaGreat
namespace Go.Cl.Pr
def L9 (l:a4 a0)(h n i:ao):a0:=l.getD (i/n*(h+n)+h+i%n) 0
def Q9 (l:a4 a0)(h n r:ao):a8:=if h=1 then(((l.getD (r*(h+n)) 0).toNat:ao):a8) else 1
def ir (l:a4 a0)(h n c:ao):ao->a4 a0
 |0=>[]
 |m+1=>ir l h n c m++[hJ ((((L9 l h n m).toNat:ao):a8)+gs (Q9 l h n (m/n)) (ir l h n c m) n c m)]
theorem iJ (l:a4 a0)(h n c:ao):∀m,(ir l h n c m).length=m
 |0=>rfl
 |m+1=>by rw[ir,cm,iJ l h n c m];rfl
theorem zA (l:a4 a0)(h n c:ao):∀m k,k<=m->(ir l h n c m).take k=ir l h n c k
 |0,k,hk=>by obtain rfl:k=0:=by omega
             rfl
 |m+1,k,hk=>by
  by_cases e:k=m+1
  ·subst e;exact List.take_of_length_le (by rw[iJ];exact cz _)
  ·rw[ir,List.take_append_of_le_length (by rw[iJ];omega)]
   exact zA l h n c m k (by omega)
theorem Xg (l:a4 a0)(h n c:ao){m k j:ao}(hk:k<=m)(hj:j<k):(ir l h n c m).getD j 0=(ir l h n c k).getD j 0:=by
 rw[<-zA l h n c m k hk,av,av,cH hj]
def Jy (l:a4 a0)(h n q:ao):Bool:=(List.range q).any fun r=>decide (4<Q9 l h n r)
def jF (p co cl:a8)(l:a4 a0):a4 a0×a8:=
 if¬oC p co cl then([],1) else if p=1 then(l,0)
 else if l.length%((if 10<=p then 1 else 0)+co.toNat*cl.toNat)≠0 then([],4)
 else if Jy l (if 10<=p then 1 else 0) (co.toNat*cl.toNat) (l.length/((if 10<=p then 1 else 0)+co.toNat*cl.toNat))=true then([],4)
 else(ir l (if 10<=p then 1 else 0) (co.toNat*cl.toNat) co.toNat (l.length/((if 10<=p then 1 else 0)+co.toNat*cl.toNat)*(co.toNat*cl.toNat)),0)
theorem Xh {l:a4 a0}{h n q r:ao}(hr:r<q)(hc:4<Q9 l h n r):Jy l h n q=true:=by
 unfold Jy
 rw[List.any_eq_true]
 exact⟨r,ea.2 hr,bg hc⟩
theorem aeA (l:a4 a0)(h n r:ao):0<=Q9 l h n r/\Q9 l h n r<=255:=by
 unfold Q9;split
 ·exact u6 _
 ·omega
def mm (l:a4 a0)(h n c r k:ao):a4 a0:=(ir l h n c (r*n+k)).drop (r*n)++b8 (n-k) 0
theorem Ma {l:a4 a0}{h n c r k:ao}(hk:k<=n):(mm l h n c r k).length=n:=by
 unfold mm;rw[cm,bk,iJ,c8];omega
theorem Tz (l:a4 a0)(h n c r:ao):mm l h n c r 0=b8 n 0:=by
 unfold mm
 rw[List.drop_of_length_le (by rw[iJ];omega),dO,Nat.sub_zero]
theorem Mb (l:a4 a0)(h n c r:ao):mm l h n c r n=(ir l h n c ((r+1)*n)).drop (r*n):=by
 unfold mm
 rw[ed,List.replicate_zero,List.append_nil,cg]
theorem TA {l:a4 a0}{h n c r k j:ao}(hj:j<k):(mm l h n c r k).getD j 0=(ir l h n c (r*n+k)).getD (r*n+j) 0:=by
 unfold mm
 rw[av,List.getElem?_append_left (by rw[bk,iJ];omega),cp,<-av]
theorem Xi {l:a4 a0}{h n c r k:ao}(hk:k<n):(mm l h n c r k).set k (hJ ((((L9 l h n (r*n+k)).toNat:ao):a8)+gs (Q9 l h n ((r*n+k)/n)) (ir l h n c (r*n+k)) n c (r*n+k)))=mm l h n c r (k+1):=by
 unfold mm
 have e1:((ir l h n c (r*n+k)).drop (r*n)).length=k:=by rw[bk,iJ];omega
 rw[List.set_append_right _ _ (by omega),e1,ed,<-ec]
 have e2:n-k=(n-(k+1))+1:=by omega
 rw[e2,List.replicate_succ,List.set_cons_zero,ir,List.drop_append_of_le_length (by rw[iJ];omega),List.append_assoc]
 rfl
theorem aeB {T:a8}{l:a4 a0}{h n c r k:ao}(hn:0<n)(hk:k<n)(W:a4 a0)(hW:W=if r=0 then [] else(ir l h n c (r*n)).drop ((r-1)*n)):pD T (if c<=k then((((mm l h n c r k).getD (k-c) 0).toNat:ao):a8) else 0) (if 0<W.length then(((W.getD k 0).toNat:ao):a8) else 0) (if 0<W.length/\c<=k then(((W.getD (k-c) 0).toNat:ao):a8) else 0)=gs T (ir l h n c (r*n+k)) n c (r*n+k)\/c=0:=by
 by_cases hc:c=0
 ·exact .inr hc
 left
 have hm:(r*n+k)%n=k:=I3 hk
 have e1:(if c<=k then((((mm l h n c r k).getD (k-c) 0).toNat:ao):a8) else 0)=At (ir l h n c (r*n+k)) n c (r*n+k):=by
  unfold At
  rw[hm]
  split
  ·rw[TA (by omega),show r*n+k-c=r*n+(k-c) by omega]
  ·rfl
 have e2:(if 0<W.length then(((W.getD k 0).toNat:ao):a8) else 0)=tq (ir l h n c (r*n+k)) n (r*n+k)/\(if 0<W.length/\c<=k then(((W.getD (k-c) 0).toNat:ao):a8) else 0)=oS (ir l h n c (r*n+k)) n c (r*n+k):=by
  unfold tq oS
  rw[hm]
  cases r with
  |zero=>
   rw[bo rfl] at hW
   subst hW
   rw[ee,a5 (by simp),a5 (by omega),a5 (by simp),a5 (by omega)]
   exact⟨rfl,rfl⟩
  |succ r=>
   rw[a5 (by omega),cv] at hW
   have hs:(r+1)*n=r*n+n:=cg r n
   have hwl:W.length=n:=by rw[hW,bk,iJ];omega
   have hg:∀j,j<n->W.getD j 0=(ir l h n c ((r+1)*n+k)).getD (r*n+j) 0:=fun j hj=>by
    rw[hW,av,cp,<-av]
    exact(Xg l h n c (k:=(r+1)*n) (by omega) (by omega)).symm
   rw[bo (by omega),bo (by omega)]
   refine⟨by rw[hg k hk,show(r+1)*n+k-n=r*n+k by omega],?_⟩
   by_cases h' :c<=k
   ·rw[bo ⟨by omega,h'⟩,bo ⟨by omega,h'⟩,hg _ (by omega),show(r+1)*n+k-n-c=r*n+(k-c) by omega]
   ·rw[a5 (fun q=>h' q.2),a5 (fun q=>h' q.2)]
 unfold gs
 rw[e1,e2.1,e2.2]
end Go.Cl.Pr
namespace Go.Proofs.YtdfjfncifneocaaGreat
open Go.Cl Go.Cl.Pr
theorem QT (n:ao):b8 n (.int .u8 0)=ofBytes (b8 n 0):=by simp[ofBytes]
theorem Jz (l:a4 a0)(k:ao)(c:a0):(ofBytes l).set k (.int .u8 (c.toNat:a8))=ofBytes (l.set k c):=by
 simp[ofBytes,List.map_set]
theorem aaM {s:aq}{z:ao}{v:a7}{n:ao}{l:a4 a7}(h:aN s z v n l)(hn:0<n){lo hi j:ao}(e:aI (dJ z v lo hi)=some j):j<s.next:=by
 cases h with
 |nil=>omega
 |bare=>omega
 |of i off n c b l wB hb hz hl hc hlen fy ht=>
  have:j=i:=by
   have e:some i=some j:=e
   injection e with e;exact e.symm
  omega
theorem AP {lib:aA}(L:Dt lib)(hl:lib.at 70=none)(s:aq)(p co cl:a8)(x:a7)(l:a4 a0)(hx:aN s 1 x l.length (ofBytes l))(hlen:l.length<=100000000):
  Runs af lib 70 [i3 p co cl,x] s (vg s (jF p co cl l)):=by
 obtain⟨QQ,fw⟩:∃QQ:a7->aq->Prop,QQ=vg s (jF p co cl l):=⟨_,rfl⟩
 rw[<-fw]
 refine Runs.enter 90 Tryz.func70 rfl hl rfl rfl ?_
 intro f hn hf
 have h0:f.get 0=i3 p co cl:=hf 0
 have h1:f.get 1=x:=hf 1
 clear hf
 have Dr:[Value.int .i64 p,.int .i64 co,.int .i64 cl].length+1=4:=rfl
 simp(disch:=omega)only[aj,QS,↓ab,hn,h0]
 refine aw ?_
 intro s1 ht aE xG
 have ht:ax s1 s.next (l3 p co cl):=ht
 have la:aJ af s1 56 (.pointer (some ⟨s.next,0,some 4⟩))=some (i3 p co cl):=ax.bF (P:=af) (cs:=l3 p co cl) Ay rW ht (c:=4) rfl
 simp(disch:=omega)only[aj,ak,aa,QS,Qx,↓ab,hn,Dr,la]
 refine(xF L.may s1 p co cl).mono ?_
 rintro _ s2 ⟨rfl,cR⟩
 have Uu:=aE.trans (cR.weaken aE.next)
 have dD:=ht.keeps cR
 have n1:=aE.next
 have n2:=cR.next
 by_cases hm:oC p co cl
 rotate_left
 ·rw[bb hm]
  simp(disch:=omega)only[aj,al,oneOf,QS,Qx,↓ab,hn,ca]
  have e:jF p co cl l=([],1):=by unfold jF;rw[bo hm]
  rw[fw,e]
  exact⟨_,rfl,⟨.nil,aF.nil _,Uu⟩⟩
 rw[bg hm]
 have q0:∀t,ar s2.next s2 t->aJ af t 3 (.pointer (some ⟨s.next,0,some 4⟩))=some (.int .i64 p):=fun t h=>(dD.keeps h).load bu (off:=0) (c:=4) rfl (by simp)
 have q1:∀t,ar s2.next s2 t->aJ af t 3 (.pointer (some ⟨s.next,1,some 4⟩))=some (.int .i64 co):=fun t h=>(dD.keeps h).load bu (off:=1) (c:=4) rfl (by simp)
 have q2:∀t,ar s2.next s2 t->aJ af t 3 (.pointer (some ⟨s.next,2,some 4⟩))=some (.int .i64 cl):=fun t h=>(dD.keeps h).load bu (off:=2) (c:=4) rfl (by simp)
 have ko:=hx.keeps Uu
 have k2:=ar.refl s2.next s2
 by_cases qJ:p=1
 ·have e:jF p co cl l=(l,0):=by unfold jF;rw[a5 (fun h=>h hm),bo qJ]
  simp(disch:=omega)only[aj,aa,QS,Qx,↓ab,hn,h1,mZ,q0 _ k2,cb qJ]
  refine bY an an (.inl ⟨_,rfl⟩) bK jW ks rfl (Own.nil:Own s2 1 (.slice none 0 0) 0 []) ko.src (by rw[bM,cA]) (by decide) (dh _) (by omega) (by omega) (aF.nil s2.next) (cz _) ?_
  intro w s3 hw hF fB _ _
  simp(disch:=omega)only[aj,al,oneOf,QS,Qx,↓ab,hn,ca]
  rw[fw,e]
  exact⟨w,rfl,⟨by rw[dO,Nat.zero_add] at hw;exact hw,fun j hj=>by have:=hF j hj;omega,Uu.trans (fB.weaken (by omega))⟩⟩
 obtain⟨hpk,iK,kY,jn,g7⟩:=id hm
 obtain⟨c,rfl⟩:∃c:ao,co=c:=⟨co.toNat,by omega⟩
 obtain⟨m,rfl⟩:∃m:ao,cl=m:=⟨cl.toNat,by omega⟩
 obtain⟨n,uy⟩:∃n:ao,n=c*m:=⟨_,rfl⟩
 have g8:1<=n:=by rw[uy];exact eb (show 1<=c by omega) (show 1<=m by omega)
 have g9:n<=16384:=by rw[uy];exact eb (show c<=4 by omega) (show m<=4096 by omega)
 have S5:c<=n:=by rw[uy];exact c0 c (by omega)
 obtain⟨h,hh⟩:∃h:ao,h=if 10<=p then 1 else 0:=⟨_,rfl⟩
 have hh1:h<=1:=by rw[hh];split<;>omega
 have ep:jF p (c:a8) (m:a8) l=if l.length%(h+n)≠0 then([],4) else if Jy l h n (l.length/(h+n))=true then([],4) else(ir l h n c (l.length/(h+n)*n),0):=by
  unfold jF
  rw[a5 (fun h=>h hm),a5 qJ,a6,a6,<-uy,<-hh]
 have hmul:b7.wrap ((c:a8)*(m:a8))=(n:a8):=by
  have e:(c:a8)*(m:a8)=(n:a8):=by rw[uy];exact(Int.natCast_mul c m).symm
  rw[e,aD (by omega)]
 simp(disch:=omega)only[aj,QS,Qx,↓ab,hn,mZ,Bb,FK,q0 _ k2,q1 _ k2,q2 _ k2,b5 qJ,hmul]
 generalize hK:rP af lib (Code.seq (Code.region _ _ _) (Code.seq _ _)) _=K
 have go:∀f,f.n=90->f.get 1=x->f.get 2= .pointer (some ⟨s.next,0,some 4⟩)->f.get 6= .int .i64 (n:ao)->f.get 7= .int .i64 (h:ao)->K .normal f s2:=by
  clear hn h0 h1 f
  subst hK
  intro f hn h1 h2 h6 h7
  simp(disch:=omega)only[aj,ak,aa,QS,Qx,↓ab,hn,h1,h6,h7,aD]
  have am5:(h:a8)+(n:a8)=((h+n:ao):a8):=by omega
  rw[am5]
  refine(D0 L s2 x l ko hlen (h+n) (by omega) (by omega)).mono ?_
  rintro _ s3 ⟨w,vs,rfl,hw,hb,fB⟩
  have x0:∀b,ba (.tuple #[w,.bool b]) 0=some w:=fun _=>rfl
  have x1:∀b,ba (.tuple #[w,.bool b]) 1=some (.bool b):=fun _=>rfl
  have W5:=Uu.trans (fB.weaken Uu.next)
  by_cases pG:l.length%(h+n)=0
  rotate_left
  ·rw[bo pG] at ep
   rw[bb pG]
   simp(disch:=omega)only[aj,al,oneOf,QS,Qx,↓ab,hn,x0,x1,ca]
   rw[fw,ep]
   exact⟨_,rfl,⟨.nil,aF.nil _,W5⟩⟩
  rw[a5 (fun h=>h pG)] at ep
  rw[bg pG]
  obtain⟨q,hq⟩:∃q,q=l.length/(h+n):=⟨_,rfl⟩
  have hqn:q*(h+n)=l.length:=by
   have:=Nat.div_add_mod l.length (h+n)
   rw[pG,ds,<-hq] at this;omega
  rw[<-hq] at hw hb ep
  have Y0:q<=l.length:=by rw[<-hqn];exact c0 q (by omega)
  have asH:q*n<=l.length:=by rw[<-hqn];exact Nat.mul_le_mul_left q (by omega)
  have n3:=fB.next
  simp(disch:=omega)only[aj,aa,QS,Qx,↓ab,hn,x0,x1,hw.bm dc]
  refine Comes.bQ (fun z f t=>∃(r:ao) (o y:a7) (W:a4 a0),z=q-r/\r<=q/\(∀j,j<r->¬4<Q9 l h n j)/\Own t 1 o (r*n) (ofBytes (ir l h n c (r*n)))/\W=(if r=0 then [] else(ir l h n c (r*n)).drop ((r-1)*n))/\aN t 1 y W.length (ofBytes W)/\(∀j,aI y=some j->aI o≠some j)/\aF s3.next o/\(∀j,aI y=some j->j<t.next)/\ar s3.next s3 t/\f.n=90/\f.get 2= .pointer (some ⟨s.next,0,some 4⟩)/\f.get 6= .int .i64 (n:ao)/\f.get 7= .int .i64 (h:ao)/\f.get 10=o/\f.get 11=y/\f.get 44=w/\f.get 45= .int .i64 (q:ao)/\f.get 46= .int .i64 (r:ao))
   (fun z f t=>(z= .ret/\Jy l h n q=true/\ar s3.next s3 t/\f.n=90/\f.get 4= .slice none 0 0/\f.get 5= .int .i64 4)\/(z= .exit 0/\Jy l h n q=false/\∃o,Own t 1 o (q*n) (ofBytes (ir l h n c (q*n)))/\aF s3.next o/\ar s3.next s3 t/\f.n=90/\f.get 10=o))
   ⟨0,.slice none 0 0,.slice none 0 0,[],rfl,by omega,fun j hj=>by omega,by rw[ee];exact .nil,rfl,.nil,(fun j e=>by cases e),aF.nil _,(fun j e=>by cases e),ar.refl _ _,by simp only[ag,hn],by simp only[ad,↓ab,Qx,h2],by simp only[ad,↓ab,Qx,h6],by simp only[ad,↓ab,Qx,h7],by simp only[ad,↓ab,Qx],by simp only[ad,↓ab,Qx],by simp only[ad,↓ab,Qx],by simp only[ad,↓ab,Qx],by simp only[ad,↓ab];rfl⟩ ?_ ?_
  ·clear hn h1 h2 h6 h7 f
   rintro Q hQ z f t ⟨r,o,y,W,rfl,hr,Gy,ho,hW,hy,Nw,hF,Iv,aE,hn,h2,h6,h7,eX,sq,BA,F8,rz⟩
   by_cases bd:r<q
   rotate_left
   ·obtain rfl:r=q:=by omega
    have d1:¬((r:ao):a8)<((r:ao):a8):=by omega
    have SX:Jy l h n r=false:=by
     unfold Jy
     rw[List.any_eq_false]
     intro j hj
     have:=Gy j (ea.1 hj)
     simpa using this
    simp(disch:=omega)only[aj,ak,QS,↓ab,hn,F8,rz,b5 d1]
    exact hQ _ _ _ (.inr ⟨rfl,SX,o,ho,hF,aE,by simp only[ag,hn],by simp only[ad,↓ab,Qx,eX]⟩)
   have d1:((r:ao):a8)<((q:ao):a8):=by omega
   have hrn:(r+1)*(h+n)<=l.length:=by rw[<-hqn];exact c9 (h+n) bd
   have hrs:(r+1)*(h+n)=r*(h+n)+(h+n):=cg r (h+n)
   have am6:(r+1)*n=r*n+n:=cg r n
   have asI:(r+1)*n<=q*n:=c9 n bd
   have mO:(qf l (h+n) r).length=h+n:=oT hrn
   have hwt:=hw.keeps aE
   have gB:=hwt.indexAddr (P:=af) (k:= .i64) (x:=(r:a8)) dc fT (by omega) (by omega)
   rw[a6] at gB
   have fz:=hwt.di (P:=af) fU bd
   have kp:=hb.aG r (by rw[xB];exact bd)
   rw[G3] at kp
   obtain⟨R,hR⟩:∃R,R=vs.getD r undef:=⟨_,rfl⟩
   rw[<-hR] at fz kp
   obtain⟨T,hT⟩:∃T,T=Q9 l h n r:=⟨_,rfl⟩
   have ZI:=aeA l h n r
   rw[<-hT] at ZI
   have nt:=aE.next
   simp(disch:=omega)only[aj,ak,QS,Qx,↓ab,hn,h7,BA,F8,rz,cb d1,gB,fz]
   generalize hK2:rP af lib (Code.seq (Code.seq (Code.region _ _ _) (Code.cond _ _ _)) (Code.seq _ _)) _=K2
   have go2:∀f,f.n=90->f.get 2= .pointer (some ⟨s.next,0,some 4⟩)->f.get 6= .int .i64 (n:ao)->f.get 7= .int .i64 (h:ao)->f.get 10=o->f.get 11=y->f.get 13=R->f.get 14= .int .i64 T->f.get 44=w->f.get 45= .int .i64 (q:ao)->f.get 46= .int .i64 (r:ao)->K2 .normal f t:=by
    clear hn h2 h6 h7 eX sq BA F8 rz f
    subst hK2
    intro f hn h2 h6 h7 eX sq Kg nY BA F8 rz
    by_cases c4:T>4
    ·simp(disch:=omega)only[aj,QS,↓ab,hn,nY,cb c4]
     exact hQ _ _ _ (.inl ⟨rfl,Xh bd (by rw[<-hT];exact c4),aE,by simp only[ag,hn],by simp only[ad,↓ab,Qx],by simp only[ad,↓ab]⟩)
    have Ts:=kp.keeps aE
    have mk:ef af t 22 (.int .i64 (n:ao)) (.int .i64 (n:ao))=aZ t (b8 n (.int .u8 0)) n 1:=VJ an bK ks jW (by omega) (by omega)
    simp(disch:=omega)only[aj,QS,Qx,↓ab,hn,h6,nY,b5 c4,mk]
    refine aQ (by rw[c8,cA]) ?_
    intro v t1 hv J9 bn
    rw[QT,<-Tz l h n c r] at hv
    have nt1:=bn.next
    have Gg:=hv.iD
    have Bp:=ho.iD
    have aaN:=Ts.keeps bn
    have pE:dj af t1 22 R (some (.int .i64 (h:ao))) none none=some (dJ 1 R h (h+n)):=by
     have:=aaN.ff (P:=af) an bK (k:= .i64) (x:=(h:a8)) (by omega) (by omega)
     rw[a6,mO] at this;exact this
    have dx:=aaN.p9 (lo:=h) (hi:=h+n) (by omega) (by omega)
    obtain⟨Z,hZ⟩:∃Z,Z=dJ 1 R h (h+n):=⟨_,rfl⟩
    obtain⟨ZL,hZL⟩:∃ZL,ZL=((qf l (h+n) r).drop h).take (h+n-h):=⟨_,rfl⟩
    rw[<-hZ,<-hZL] at dx
    rw[<-hZ] at pE
    have hZl:ZL.length=n:=by rw[hZL,List.length_take,bk];omega
    have hZg:∀k,k<n->ZL.getD k 0=L9 l h n (r*n+k):=fun k hk=>by
     rw[hZL,av,cH (by omega),cp,<-av,np (by omega)]
     unfold L9
     rw[I3 hk,show(r*n+k)/n=r by rw[ds,dT (by omega),dv hk,dt],ec]
    rw[hZl] at dx
    simp(disch:=omega)only[aj,aa,ai,QS,Qx,↓ab,hn,h7,Kg,pE,dx.bm an]
    refine Comes.bQ (fun z f u=>∃(k:ao),z=n-k/\k<=n/\Own u 1 v n (ofBytes (mm l h n c r k))/\Own u 1 o (r*n) (ofBytes (ir l h n c (r*n)))/\aN u 1 y W.length (ofBytes W)/\aN u 1 Z n (ofBytes ZL)/\ar t.next t u/\f.n=90/\f.get 2= .pointer (some ⟨s.next,0,some 4⟩)/\f.get 6= .int .i64 (n:ao)/\f.get 7= .int .i64 (h:ao)/\f.get 10=o/\f.get 11=y/\f.get 14= .int .i64 T/\f.get 15=v/\f.get 44=w/\f.get 45= .int .i64 (q:ao)/\f.get 46= .int .i64 (r:ao)/\f.get 62=Z/\f.get 63= .int .i64 (n:ao)/\f.get 64= .int .i64 (k:ao))
     (fun z f u=>z= .exit 2/\Own u 1 v n (ofBytes (mm l h n c r n))/\Own u 1 o (r*n) (ofBytes (ir l h n c (r*n)))/\ar t.next t u/\f.n=90/\f.get 2= .pointer (some ⟨s.next,0,some 4⟩)/\f.get 6= .int .i64 (n:ao)/\f.get 7= .int .i64 (h:ao)/\f.get 10=o/\f.get 15=v/\f.get 44=w/\f.get 45= .int .i64 (q:ao)/\f.get 46= .int .i64 (r:ao))
     ⟨0,rfl,by omega,hv,ho.keeps bn,hy.keeps bn,dx,bn,by simp only[ag,hn],by simp only[ad,↓ab,Qx,h2],by simp only[ad,↓ab,Qx,h6],by simp only[ad,↓ab,Qx,h7],by simp only[ad,↓ab,Qx,eX],by simp only[ad,↓ab,Qx,sq],by simp only[ad,↓ab,Qx,nY],by simp only[ad,↓ab,Qx],by simp only[ad,↓ab,Qx,BA],by simp only[ad,↓ab,Qx,F8],by simp only[ad,↓ab,Qx,rz],by simp only[ad,↓ab,Qx],by simp only[ad,↓ab,Qx],by simp only[ad,↓ab];rfl⟩ ?_ ?_
    ·clear hn h2 h6 h7 eX sq Kg nY BA F8 rz hv ho hy dx pE aaN f
     rintro Q hQ z f u ⟨k,rfl,hk,hv,ho,hy,dx,hu,hn,h2,h6,h7,eX,sq,nY,my,BA,F8,rz,UG,Zm,h64⟩
     by_cases Lu:k<n
     rotate_left
     ·obtain rfl:k=n:=by omega
      have d1:¬((k:ao):a8)<((k:ao):a8):=by omega
      simp(disch:=omega)only[aj,QS,↓ab,hn,Zm,h64,b5 d1]
      exact hQ _ _ _ ⟨rfl,hv,ho,hu,by simp only[ag,hn],by simp only[ad,↓ab,Qx,h2],by simp only[ad,↓ab,Qx,h6],by simp only[ad,↓ab,Qx,h7],by simp only[ad,↓ab,Qx,eX],by simp only[ad,↓ab,Qx,my],by simp only[ad,↓ab,Qx,BA],by simp only[ad,↓ab,Qx,F8],by simp only[ad,↓ab,Qx,rz]⟩
     have d1:((k:ao):a8)<((n:ao):a8):=by omega
     have nu:=hu.next
     have gB:=dx.indexAddr (P:=af) (k:= .i64) (x:=(k:a8)) an bK (by omega) (by omega)
     rw[a6] at gB
     have fz:=dx.di (P:=af) kI Lu
     rw[bw (by omega),hZg k Lu] at fz
     have aiA:=hv.aG.indexAddr (P:=af) (k:= .i64) (x:=(k:a8)) an bK (by omega) (by omega)
     rw[a6] at aiA
     have hrU:(mm l h n c r k).length=n:=Ma (by omega)
     have k2u:ar s2.next s2 u:=(fB.trans (aE.weaken n3)).trans (hu.weaken (by omega))
     simp(disch:=omega)only[aj,ak,aa,QS,Qx,↓ab,hn,h2,sq,my,UG,Zm,h64,cb d1,gB,fz,Bb,q1 _ k2u]
     have hWl:W.length=0\/W.length=(mm l h n c r k).length:=by
      rw[hW]
      split
      ·exact .inl rfl
      ·rename_i hr0
       refine .inr ?_
       rw[hrU,bk,iJ]
       obtain⟨r',rfl⟩:∃r',r=r' +1:=⟨r-1,by omega⟩
       rw[cv,cg];omega
     refine(QD L u v y (mm l h n c r k) W (by rw[hrU];exact hv.aG) hy (by omega) k c (by omega) (by omega) hWl).mono ?_
     rintro _ u2 ⟨rfl,aR⟩
     have hga:=(aeB (T:=T) (l:=l) (h:=h) (c:=c) (r:=r) (by omega) Lu W hW).resolve_right (by omega)
     have a1:0<=J7 (mm l h n c r k) k c/\J7 (mm l h n c r k) k c<=255:=by
      unfold J7;split
      ·exact u6 _
      ·omega
     have a2:0<=Oj W k/\Oj W k<=255:=by
      unfold Oj;split
      ·exact u6 _
      ·omega
     have a3:0<=Ol W k c/\Ol W k c<=255:=by
      unfold Ol;split
      ·exact u6 _
      ·omega
     simp(disch:=omega)only[aj,ak,aa,QS,Qx,↓ab,hn,nY]
     refine(Dv L u2 T _ _ _ (by omega) a1 a2 a3).mono ?_
     have hga:pD T (J7 (mm l h n c r k) k c) (Oj W k) (Ol W k c)=gs T (ir l h n c (r*n+k)) n c (r*n+k):=hga
     rw[hga]
     rintro _ u3 ⟨rfl,bC⟩
     have Ef:ar u.next u u3:=aR.trans (bC.weaken aR.next)
     have hdv:(r*n+k)/n=r:=by rw[ds,dT (by omega),dv Lu,dt]
     have ew:bz.wrap ((((L9 l h n (r*n+k)).toNat:ao):a8)+bz.wrap (gs T (ir l h n c (r*n+k)) n c (r*n+k)))=((hJ ((((L9 l h n (r*n+k)).toNat:ao):a8)+gs T (ir l h n c (r*n+k)) n c (r*n+k))).toNat:a8):=by
      rw[nn,fu,fu];omega
     have UH:=hv.keeps Ef
     simp(disch:=omega)only[aj,QS,Qx,↓ab,hn,bL b4 cc,ew,aiA]
     refine mD bK UH Lu rfl ?_
     intro u4 hv4 gv
     have hv4:Own u4 1 v n (ofBytes (mm l h n c r (k+1))):=by
      rw[Jz] at hv4
      have:=Xi (l:=l) (h:=h) (c:=c) (r:=r) Lu
      rw[hdv,<-hT] at this
      rw[this] at hv4;exact hv4
     have TB:∀j,aI v=some j->t.next<=j:=J9
     have wz:=(ho.keeps Ef).turns gv (fun j e e2=>by have:=Bp j e;have:=TB j e2;omega)
     have hy4:=(hy.keeps Ef).turns gv (fun j _ e e2=>by have:=Iv j e;have:=TB j e2;omega)
     have am8:∀j,j<u3.next->aI Z=some j->aI v≠some j:=fun j _ e e2=>by
      have h1:=TB j e2
      rw[hZ] at e
      have h2:=aaM Ts (by omega) e
      omega
     have TC:=(dx.keeps Ef).turns gv am8
     have n34:=gv.next
     have hk4:ar t.next t u4:=(hu.trans (Ef.weaken nu)).trans (gv.keeps J9 (by have:=Ef.next;omega))
     simp(disch:=omega)only[aj,QS,Qx,↓ab,hn,h64,aD]
     exact ay (n-(k+1)) (by omega) ⟨k+1,rfl,by omega,hv4,wz,hy4,TC,hk4,by simp only[ag,hn],by simp only[ad,↓ab,Qx,h2],by simp only[ad,↓ab,Qx,h6],by simp only[ad,↓ab,Qx,h7],by simp only[ad,↓ab,Qx,eX],by simp only[ad,↓ab,Qx,sq],by simp only[ad,↓ab,Qx,nY],by simp only[ad,↓ab,Qx,my],by simp only[ad,↓ab,Qx,BA],by simp only[ad,↓ab,Qx,F8],by simp only[ad,↓ab,Qx,rz],by simp only[ad,↓ab,Qx,UG],by simp only[ad,↓ab,Qx,Zm],by simp only[ad,↓ab];rfl⟩
    clear hn h2 h6 h7 eX sq Kg nY BA F8 rz hv ho hy dx pE aaN f
    rintro z f u ⟨rfl,hv,ho,hu,hn,h2,h6,h7,eX,my,BA,F8,rz⟩
    have nu:=hu.next
    have hrU:(mm l h n c r n).length=n:=Ma (by omega)
    simp(disch:=omega)only[aj,aa,QS,Qx,↓ab,hn,eX,my]
    refine bY an an (.inl ⟨_,rfl⟩) bK jW ks rfl ho hv.aG.src (by rw[bM,hrU,cA]) (by decide) (dh _) (by omega) (by omega) hF (by omega) ?_
    intro o' u2 pM ze aR fk ra
    have nu2:=aR.next
    have ev:ofBytes (ir l h n c (r*n))++ofBytes (mm l h n c r n)=ofBytes (ir l h n c ((r+1)*n)):=by
     rw[<-br,Mb,<-zA l h n c ((r+1)*n) (r*n) (by omega),List.take_append_drop]
    rw[ev,<-am6] at pM
    have TB:∀j,aI v=some j->t.next<=j:=J9
    have Ke:=hv.turns fk (fun j e e2=>by have:=Bp j e2;have:=TB j e;omega)
    have hwl:(mm l h n c r n)=(ir l h n c ((r+1)*n)).drop (r*n):=Mb l h n c r
    simp(disch:=omega)only[aj,QS,Qx,↓ab,hn,my,rz,aD]
    refine ay (q-(r+1)) (by omega) ⟨r+1,o',v,mm l h n c r n,rfl,by omega,fun j hj=> ?_,pM,by rw[a5 (by omega),cv];exact hwl,by rw[hrU];exact Ke.aG,fun j e e2=> ?_,ze,fun j e=>Ke.iD j e,(aE.trans (hu.weaken nt)).trans aR,by simp only[ag,hn],by simp only[ad,↓ab,Qx,h2],by simp only[ad,↓ab,Qx,h6],by simp only[ad,↓ab,Qx,h7],by simp only[ad,↓ab,Qx],by simp only[ad,↓ab,Qx],by simp only[ad,↓ab,Qx,BA],by simp only[ad,↓ab,Qx,F8],by simp only[ad,↓ab];rfl⟩
    ·by_cases e:j=r
     ·rw[e,<-hT];exact c4
     ·exact Gy j (by omega)
    ·rcases ra with e3|⟨k,e3,hk⟩
     ·rw[e3] at e2;have:=Bp j e2;have:=TB j e;omega
     ·rw[e3] at e2;injection e2 with e2
      have asQ:=hv.iD j e
      omega
   by_cases eh:h=1
   ·have d1:(h:a8)=1:=by omega
    have Ts:=kp.keeps aE
    have Qw:bT af 22 R (.int .i64 0)=some (bc 1 R 0):=Ts.indexAddr (P:=af) (k:= .i64) (x:=0) an bK (by omega) (by omega)
    have kW:=Ts.di (P:=af) kI (k:=0) (by omega)
    rw[bw (by omega),np (by omega),dt] at kW
    have hTe:T=(((l.getD (r*(h+n)) 0).toNat:ao):a8):=by rw[hT];unfold Q9;rw[bo eh]
    rw[<-hTe] at kW
    simp(disch:=omega)only[aj,QS,Qx,↓ab,hn,cb d1,Qw,kW,bL cc b4,aD]
    exact go2 _ (by simp only[ag,hn]) (by simp only[ad,↓ab,Qx,h2]) (by simp only[ad,↓ab,Qx,h6]) (by simp only[ad,↓ab,Qx,h7]) (by simp only[ad,↓ab,Qx,eX]) (by simp only[ad,↓ab,Qx,sq]) (by simp only[ad,↓ab,Qx]) (by simp only[ad,↓ab]) (by simp only[ad,↓ab,Qx,BA]) (by simp only[ad,↓ab,Qx,F8]) (by simp only[ad,↓ab,Qx,rz])
   ·have d1:¬(h:a8)=1:=by omega
    have hTe:T=1:=by rw[hT];unfold Q9;rw[a5 eh]
    simp(disch:=omega)only[aj,b5 d1]
    exact go2 _ (by simp only[ag,hn]) (by simp only[ad,↓ab,Qx,h2]) (by simp only[ad,↓ab,Qx,h6]) (by simp only[ad,↓ab,Qx,h7]) (by simp only[ad,↓ab,Qx,eX]) (by simp only[ad,↓ab,Qx,sq]) (by simp only[ad,↓ab,Qx]) (by simp only[ad,↓ab,Qx,hTe]) (by simp only[ad,↓ab,Qx,BA]) (by simp only[ad,↓ab,Qx,F8]) (by simp only[ad,↓ab,Qx,rz])
  clear hn h1 h2 h6 h7 f
  rintro z f t (⟨rfl,kF,aE,hn,h4,h5⟩|⟨rfl,kF,o,ho,hF,aE,hn,eX⟩)
  ·rw[bo kF] at ep
   simp(disch:=omega)only[aj,al,oneOf,QS,↓ab,hn,h4,h5,ca]
   rw[fw,ep]
   exact⟨_,rfl,⟨.nil,aF.nil _,W5.trans (aE.weaken W5.next)⟩⟩
  ·rw[a5 (by rw[kF];simp)] at ep
   simp(disch:=omega)only[aj,al,oneOf,QS,Qx,↓ab,hn,eX,ca]
   rw[fw,ep]
   exact⟨o,rfl,⟨by rw[iJ];exact ho,fun j hj=>by have:=hF j hj;have:=W5.next;omega,W5.trans (aE.weaken W5.next)⟩⟩
 by_cases Q6:10<=p
 ·have eh:h=1:=by rw[hh,bo Q6]
  simp(disch:=omega)only[aj,QS,↓ab,hn,cb Q6]
  exact go _ (by simp only[ag,hn]) (by simp only[ad,↓ab,Qx,h1]) (by simp only[ad,↓ab,Qx]) (by simp only[ad,↓ab,Qx]) (by simp only[ad,↓ab,eh];rfl)
 ·have eh:h=0:=by rw[hh,a5 Q6]
  simp(disch:=omega)only[aj,b5 Q6]
  exact go _ (by simp only[ag,hn]) (by simp only[ad,↓ab,Qx,h1]) (by simp only[ad,↓ab,Qx]) (by simp only[ad,↓ab,Qx]) (by simp only[ad,↓ab,Qx,eh];rfl)
end Go.Proofs.YtdfjfncifneocaaGreat
namespace Go.Cl
section
variable {P:c7} {lib:aA} {all r:a4 Oper} {f:aW} {s:aq} {d:Option Tmp} {Q:aW->aq->Prop}
end
end Go.Cl
namespace Go.Cl.Lz
theorem ZY (P:c7)(t:dd)(k' :eg)(x:ao){k:ao}(h:k<8):cQ P .shr t (.int .u8 (x:ao)) (.int k' (k:ao))=some (.int .u8 ((x/2^k:ao):a8)):=by
 rw[lS P t .u8 _ _ k' (by omega)]
 have e:min ((k:ao):a8).toNat bz.bits=k:=by
  have:bz.bits=8:=rfl
  rw[this,a6];omega
 rw[e,Int.fdiv_eq_ediv_of_nonneg _ (by exact Int.pow_nonneg (by omega))]
 norm_cast
theorem aeC (x:ao)(h:x<256):bz.wrap (((bl bz.bits (x:a8)&&&bl bz.bits 1).toNat:ao):a8)=((x%2:ao):a8):=by
 have e1:bz.bits=8:=rfl
 rw[e1]
 have:(bl 8 (x:a8)&&&bl 8 1).toNat=x%2:=by
  rw[BitVec.toNat_and,cd,cx,c6 (by omega)]
  show x&&&1=_
  exact Nat.and_one_is_mod _
 rw[this,fu]
 omega
theorem ane (P:c7)(t:dd)(k' :eg)(a:a8):cQ P .shl t (.int .i64 a) (.int k' 1)=some (.int .i64 (b7.wrap (a*2))):=by
 rw[mW P t .i64 a 1 k' (by decide)];rfl
theorem aeD {n d:ao}(hn:n<1099511627776)(hd:d<2):b7.wrap (((bl b7.bits ((n:a8)*2)|||bl b7.bits (d:a8)).toNat:ao):a8)=((n*2+d:ao):a8):=by
 have e1:b7.bits=64:=rfl
 rw[e1]
 have:(bl 64 ((n:a8)*2)|||bl 64 (d:a8)).toNat=n*2+d:=by
  have e2:((n:a8)*2)=((n*2:ao):a8):=by omega
  rw[e2,BitVec.toNat_or,cd,cd,cx,cx,c6 (by omega),c6 (by omega)]
  have:=Nat.shiftLeft_add_eq_or_of_lt (i:=1) (b:=d) hd n
  rw[Nat.shiftLeft_eq] at this
  exact this.symm
 rw[this,aD (by omega)]
end Go.Cl.Lz
namespace Go.Cl
theorem Mc {v:a7}(h:aL v=true):v.cells.toList=[v]:=by cases v<;>first|rfl|cases h
theorem ax.xU {P:c7}{e:dd}{n:ao}(ow:bX P e=some true)(cf:aX P e=some n){s:aq}{i:ao}{cs:a4 a7}(h:ax s i cs){off c:ao}(hc:c=cs.length+1)(ho:off+n<=cs.length):
  aJ P s e (.pointer (some ⟨i,off,some c⟩))=some (.agg ((cs.drop off).take n).toArray):=by
 obtain⟨low,z,h1,h2⟩:=h.dZ
 subst hc
 unfold aJ
 simp only[ow,cf]
 rw[gF h1 h2 (cz _) (by omega)]
theorem ax.TD {P:c7}{e:dd}{n:ao}(cf:aX P e=some (n+1)){s:aq}{i:ao}{cs:a4 a7}(h:ax s i cs){off c:ao}(hc:c=cs.length+1){v:a7}{vs:a4 a7}(hv:v.cells.toList=vs)(hl:vs.length=n+1)(dH:vs.all aL=true)(ho:off+(n+1)<=cs.length):
  ∃s',dR P s e (.pointer (some ⟨i,off,some c⟩)) v=some s' /\ax s' i (cs.take off++vs++cs.drop (off+(n+1)))/\(s'.next=s.next/\∀j,j≠i->s'.heap.get j=s.heap.get j):=by
 obtain⟨low,z,h1,h2⟩:=h.dZ
 subst hc
 have hlen:(cs.take off++vs++cs.drop (off+(n+1))).length=cs.length:=by simp;omega
 refine⟨s.put i (.dZ ⟨cs.take off++vs++cs.drop (off+(n+1)),cs.length+1,true,z⟩),?_,⟨h.lt,cs.length+1,z,?_,by rw[hlen];exact cz _⟩,rfl,fun j hj=>aq.bP _ _ _ _ (Ne.symm hj)⟩
 ·unfold dR
  simp only[cf,hv,hl]
  unfold aq.storeAt
  have zf:setAt cs off vs=some (cs.take off++vs++cs.drop (off+(n+1))):=by
   rw[jy _ _ _ (by rw[hl];omega),hl]
  have iy:(true&&Nat.ble low (cs.length+1)&&Nat.beq (cs.length+1) (cs.length+1)&&vs.all aL)=true:=by
   simp only[Bool.true_and,Bool.and_eq_true,Nat.ble_eq];exact⟨⟨h2,Nat.beq_refl _⟩,dH⟩
  simp only[h1,iy,if_true,zf]
  cases vs with
  |nil=>simp at hl
  |cons a r=>simp
 ·rw[aq.ck _ _ _ (by omega)]
section
variable {P:c7} {lib:aA} {all r:a4 Oper} {f:aW} {s:aq} {d:Option Tmp} {Q:aW->aq->Prop}
theorem jO {e:dd}{n:ao}(cf:aX P e=some (n+1)){i:ao}{cs:a4 a7}(h:ax s i cs){off c:ao}(hc:c=cs.length+1){v:a7}{vs:a4 a7}(hv:v.cells.toList=vs)(hl:vs.length=n+1)(dH:vs.all aL=true)(ho:off+(n+1)<=cs.length)
  (K:∀s',ax s' i (cs.take off++vs++cs.drop (off+(n+1)))->s'.next=s.next->(∀j,j≠i->s'.heap.get j=s.heap.get j)->dW P lib all r f s d Q (some (.val undef s'))):dW P lib all r f s d Q (BN (dR P s e (.pointer (some ⟨i,off,some c⟩)) v)):=by
 obtain⟨s',h1,h2,h3,h4⟩:=h.TD cf hc hv hl dH ho
 rw[h1,iC]
 exact K s' h2 h3 h4
theorem nh {id:ao}{e:dd}(cf:aX P e=some 1){i:ao}{cs:a4 a7}(h:ax s i cs){off c:ao}(hc:c=cs.length+1)(ho:off<cs.length){v:a7}(hv:aL v=true)
  (K:∀s',ax s' i (cs.set off v)->s'.next=s.next->(∀j,j≠i->s'.heap.get j=s.heap.get j)->tm P lib all r id f d Q undef s'):qa P lib all r id f d s Q (BN (dR P s e (.pointer (some ⟨i,off,some c⟩)) v)):=by
 obtain⟨s',h1,h2,h3,h4⟩:=h.store cf hc ho hv
 rw[h1,iC]
 exact K s' h2 h3 h4
end
def Ra (p:ao×ao):a4 a7:=[.int .i64 (p.1:ao),.int .i64 (p.2:ao)]
def lM (l:a4 (ao×ao)):a4 a7:=l.flatMap Ra
theorem tL (l:a4 (ao×ao))(p:ao×ao):lM (l++[p])=lM l++[.int .i64 (p.1:ao),.int .i64 (p.2:ao)]:=by simp[lM,Ra]
theorem Md {l:a4 (ao×ao)}{i:ao}{p:ao×ao}(h:l[i]?=some p):(lM l).getD (i*2+0) undef= .int .i64 (p.1:ao):=C7 (f:=Ra) (z:=2) (fun _=>rfl) (by omega) l i p h
theorem Me {l:a4 (ao×ao)}{i:ao}{p:ao×ao}(h:l[i]?=some p):(lM l).getD (i*2+1) undef= .int .i64 (p.2:ao):=C7 (f:=Ra) (z:=2) (fun _=>rfl) (by omega) l i p h
theorem aN.Xj {P:c7}{t e:dd}{m z:ao}(hu:P.underlying t=some (.array m e))(cf:aX P e=some 1){s:aq}{v:a7}{n:ao}{l:a4 a7}(h:aN s z v n l){i k:ao}(hi:i<n)(hk:k<m)(kk:eg):
  bT P t (bc z v i) (.int kk (k:ao))=some (b6 (bc z v i) k):=by
 have hb:Nat.blt k m=true:=by simpa [en] using hk
 show bT P t (bc z v i) (.int kk (eo k))=_
 cases h with
 |nil=>omega
 |bare=>omega
 |of j off n c b l hj hbk hz hl hc hlen fy ht=>
  unfold bT
  rw[hu]
  simp only[bc,cf,hb,if_true,cA,b6]
theorem Rb {P:c7}{t e:dd}{m:ao}(hu:P.underlying t=some (.array m e))(cf:aX P e=some 1)(i o c:ao){k:ao}(hk:k<m)(kk:eg):
  bT P t (.pointer (some ⟨i,o,some c⟩)) (.int kk (k:ao))=some (.pointer (some ⟨i,o+k,some c⟩)):=by
 have hb:Nat.blt k m=true:=by simpa [en] using hk
 show bT P t _ (.int kk (eo k))=_
 unfold bT
 rw[hu]
 simp only[cf,hb,if_true,cA]
end Go.Cl
namespace Go.Proofs.YtdfjfncifneocaaGreat
open Go.Cl Go.Cl.Lz Go.Cl.Rw
theorem fF:aX af 122=some (1+1):=by kernel_rfl
theorem TE:bX af 122=some true:=by kernel_rfl
theorem zC:aX af 121=some 1:=by kernel_rfl
theorem zD:bX af 121=some false:=by kernel_rfl
theorem Xk (i o c:ao):au af 124 (.pointer (some ⟨i,o,some c⟩)) 0=some (.pointer (some ⟨i,o+0,some c⟩)):=by
 unfold au;rw[a9];simp[fT]
theorem Xl (i o c:ao):au af 124 (.pointer (some ⟨i,o,some c⟩)) 1=some (.pointer (some ⟨i,o+1,some c⟩)):=by
 unfold au;rw[a9];simp[bA]
theorem Rc (i o c:ao):au af 124 (.pointer (some ⟨i,o,some c⟩)) 2=some (.pointer (some ⟨i,o+2,some c⟩)):=by
 unfold au;rw[a9];simp[bA]
theorem qv (i o c:ao):au af 124 (.pointer (some ⟨i,o,some c⟩)) 3=some (.pointer (some ⟨i,o+3,some c⟩)):=by
 unfold au;rw[a9];simp[zC]
theorem Mf (i o c:ao):au af 124 (.pointer (some ⟨i,o,some c⟩)) 4=some (.pointer (some ⟨i,o+4,some c⟩)):=by
 unfold au;rw[a9];simp[fF]
theorem tM (i o c:ao):au af 124 (.pointer (some ⟨i,o,some c⟩)) 5=some (.pointer (some ⟨i,o+6,some c⟩)):=by
 unfold au;rw[a9];simp[fT]
structure lN (base:ao) (s:aq) (j:ao) (bv rv ov:a7) (b:a4 a0) (p:ao) (most:a8) (rows:a4 (ao×ao)) (last:ao×ao) (out:a4 a0):Prop where
 cJ:ax s j [bv,.int .i64 p,.int .i64 most,rv,.int .i64 last.1,.int .i64 last.2,ov]
 b:Br base s 1 bv b.length (ofBytes b)
 rows:Own s 2 rv rows.length (lM rows)
 rf:aF base rv
 rj:aI rv≠some j
 out:Own s 1 ov out.length (ofBytes out)
 of:aF base ov
 oj:aI ov≠some j
 ox:∀k,aI ov=some k->aI rv≠some k
 lo:base<=j
abbrev wg (j:ao):a7:= .pointer (some ⟨j,0,some 8⟩)
theorem lN.put {base:ao}{s s' :aq}{j:ao}{bv rv ov:a7}{b:a4 a0}{p p' :ao}{most:a8}{rows:a4 (ao×ao)}{last last' :ao×ao}{out:a4 a0}(h:lN base s j bv rv ov b p most rows last out)
  (ht:ax s' j [bv,.int .i64 p',.int .i64 most,rv,.int .i64 last'.1,.int .i64 last'.2,ov]) (hn:s'.next=s.next) (hs:∀i,i≠j->s'.heap.get i=s.heap.get i):lN base s' j bv rv ov b p' most rows last' out:=
 ⟨ht,h.b.stay (ar.aK hn hs h.lo),h.rows.aK hn hs h.rj,h.rf,h.rj,h.out.aK hn hs h.oj,h.of,h.oj,h.ox,h.lo⟩
def aaP (base:ao)(s:aq)(j:ao)(bv rv ov:a7)(b:a4 a0)(p:ao)(most:a8)(rows:a4 (ao×ao))(last:ao×ao)(out:a4 a0)(w:ao)(v:a7)(s' :aq):Prop:=
 (8*b.length<p+w/\v= .tuple #[.int .i64 0,.int .i64 2]/\s' =s)\/
 (¬8*b.length<p+w/\v= .tuple #[.int .i64 (jE b p w:ao),.int .i64 0]/\lN base s' j bv rv ov b (p+w) most rows last out/\ar base s s')
theorem Pb {lib:aA}(hl:lib.at 106=none)(Kf:lib.at 152=none)(base:ao)(s:aq)(j:ao)(bv rv ov:a7)(b:a4 a0)(p:ao)(most:a8)(rows:a4 (ao×ao))(last:ao×ao)(out:a4 a0)
  (h:lN base s j bv rv ov b p most rows last out) (hb:b.length<=4000000) (hp:p<=8*b.length) (hr:rows.length<=1000000):
  Runs af lib 106 [wg j] s (aaP base s j bv rv ov b p most rows last out (width (258+rows.length))):=by
 refine Runs.enter 61 Tryz.func106 rfl hl rfl rfl ?_
 intro f hn hf
 have h0:f.get 0=wg j:=hf 0
 clear hf
 have g0:=h.cJ.load (P:=af) fU (off:=0) (c:=8) rfl (by simp)
 have g1:=h.cJ.load (P:=af) bu (off:=1) (c:=8) rfl (by simp)
 have g3:=h.cJ.load (P:=af) zD (off:=3) (c:=8) rfl (by simp)
 obtain⟨w,hw⟩:∃w,w=width (258+rows.length):=⟨_,rfl⟩
 have Tj:=kO (258+rows.length)
 have anf:(258:a8)+(rows.length:a8)=((258+rows.length:ao):a8):=by omega
 rw[<-hw] at Tj|-
 have oA:=h.b.aG
 simp(disch:=omega)only[aj,ak,aa,QS,Qx,↓ab,hn,h0,qv,g3,h.rows.aG.bm Tryz.underlying121,aD]
 rw[anf]
 refine(HC Kf s (258+rows.length)).mono ?_
 rintro _ s1 ⟨rfl,kC⟩
 subst kC
 rw[<-hw]
 by_cases c1:8*b.length<p+w
 ·have uE:8*(b.length:a8)-(p:a8)<(w:a8):=by omega
  simp(disch:=omega)only[aj,ak,al,oneOf,aa,QS,Qx,↓ab,hn,h0,Xk,Xl,g0,g1,oA.self,oA.bm an,aD,cb uE,dU]
  exact .inl ⟨c1,rfl,rfl⟩
 ·have uE:¬8*(b.length:a8)-(p:a8)<(w:a8):=by omega
  simp(disch:=omega)only[aj,ak,aa,QS,Qx,↓ab,hn,h0,Xk,Xl,g0,g1,oA.self,oA.bm an,aD,b5 uE]
  refine Comes.bQ (fun z f s' =>∃(k:ao),z=w-k/\k<=w/\lN base s' j bv rv ov b (p+k) most rows last out/\ar base s1 s' /\f.n=61/\f.get 0=wg j/\f.get 5= .int .i64 (jE b p k:ao)/\f.get 26= .int .i64 w/\f.get 27= .int .i64 k)
   (fun y f s' =>y= .exit 0/\lN base s' j bv rv ov b (p+w) most rows last out/\ar base s1 s' /\f.n=61/\f.get 5= .int .i64 (jE b p w:ao))
   ⟨0,rfl,by omega,h,ar.refl _ _,by simp only[ag,hn],by simp only[ad,↓ab,Qx,h0],by simp only[ad,↓ab,Qx];rfl,by simp only[ad,↓ab,Qx],by simp only[ad,↓ab];rfl⟩ ?_ ?_
  ·clear hn h0 f g0 g1 g3 oA
   rintro Q hQ z f s2 ⟨k,rfl,hk,hR,aE,hn,h0,h5,h26,h27⟩
   have g0:=hR.cJ.load (P:=af) fU (off:=0) (c:=8) rfl (by simp)
   have g1:=hR.cJ.load (P:=af) bu (off:=1) (c:=8) rfl (by simp)
   have oA:=hR.b.aG
   by_cases hkw:k<w
   ·have c2:(k:a8)<(w:a8):=by omega
    have hi:(p+k)/8<b.length:=by omega
    have mY:=oA.indexAddr (k:= .i64) (x:=(((p+k)/8:ao):a8)) an bK (by omega) (by omega)
    rw[a6] at mY
    have fz:=oA.di (P:=af) kI hi
    rw[bw hi] at fz
    have hm:(p+k)%8<8:=Nat.mod_lt _ (by omega)
    have e7:(7:a8)-(((p+k)%8:ao):a8)=((7-(p+k)%8:ao):a8):=by omega
    have h7:7-(p+k)%8<8:=by omega
    obtain⟨y,hy⟩:∃y,y=(b.getD ((p+k)/8) 0).toNat:=⟨_,rfl⟩
    have wQ:y<256:=by rw[hy];exact(b.getD ((p+k)/8) 0).toNat_lt
    rw[<-hy] at fz
    have hdiv:y/2^(7-(p+k)%8)<256:=Nat.lt_of_le_of_lt (Nat.div_le_self _ _) wQ
    have aep:y/2^(7-(p+k)%8)%2=mj b (p+k):=by rw[hy];rfl
    have oH:=L4 b (p+k)
    have hhl:=D8 b p k
    have asS:2^k<=2^12:=Nat.pow_le_pow_right (by omega) (by omega)
    have ra:=aeD (n:=jE b p k) (d:=mj b (p+k)) (by omega) oH
    have hand:=aeC _ hdiv
    rw[aep] at hand
    have zS:b7.wrap ((mj b (p+k):ao):a8)=((mj b (p+k):ao):a8):=aD (by omega)
    have JA:jE b p k*2+mj b (p+k)=jE b p (k+1):=rfl
    rw[JA] at ra
    simp(disch:=omega)only[aj,ak,QS,Qx,↓ab,hn,h0,h5,h26,h27,cb c2,Xk,Xl,g0,g1,oA.self,SL,I7,iQ,fg,ane,mY,fz,e7,ZY,fh,hand,b4,bL cc b4,zS,jV,ra,aD]
    refine aY bA hR.cJ rfl (by simp) rfl ?_
    intro s3 jM mQ fB
    simp(disch:=omega)only[aj,QS,Qx,↓ab,hn,h27,aD]
    refine ay (w-(k+1)) (by omega) ⟨k+1,rfl,by omega,?_,aE.trans (ar.aK mQ fB hR.lo),by simp only[ad,ag,↓ab,Qx,hn,h0,h26,true_and];rfl⟩
    exact hR.put (p' :=p+(k+1)) (last' :=last) jM mQ fB
   ·obtain rfl:k=w:=by omega
    have c2:¬(k:a8)<(k:a8):=by omega
    simp(disch:=omega)only[aj,QS,↓ab,hn,h26,h27,b5 c2]
    exact hQ _ _ _ ⟨rfl,hR,aE,by simp only[ad,ag,↓ab,Qx,hn,h5,and_self]⟩
  ·clear hn h0 f
   rintro _ f s2 ⟨rfl,hR,aE,hn,h5⟩
   simp(disch:=omega)only[aj,al,oneOf,QS,Qx,↓ab,hn,h5,dU]
   exact .inr ⟨c1,rfl,hR,aE⟩
end Go.Proofs.YtdfjfncifneocaaGreat
namespace Go.Cl.Lz
def F9 (out:a4 a0)(a:ao):ao->a4 a0
 |0=>out
 |n+1=>F9 out a n++[(F9 out a n).getD (a+n) 0]
theorem rC (out:a4 a0)(a:ao):∀n,(F9 out a n).length=out.length+n
 |0=>rfl
 |n+1=>by rw[F9,cm,rC out a n];rfl
end Go.Cl.Lz
namespace Go.Proofs.YtdfjfncifneocaaGreat
open Go.Cl Go.Cl.Lz Go.Cl.Rw
theorem Mg (a b:a8):cC af 122 [(0,.int .i64 a),(1,.int .i64 b)]=some (.agg #[.int .i64 a,.int .i64 b]):=by
 unfold cC;rw[Tryz.underlying122]
 have hz:bV af 122=some (.agg #[.int .i64 0,.int .i64 0]):=by kernel_rfl
 rw[hz]
 simp[bA,bN,gQ,fG,setAt,Value.cells]
theorem Pc {j:ao}{v:a7}{s s' :aq}(h:ar s.next s s'):du j v s v s' :=⟨h.next,fun i hi _ _=>h.get i hi,.inl rfl⟩
def JB (base:ao)(s:aq)(j:ao)(bv rv ov:a7)(b:a4 a0)(p:ao)(most:a8)(rows:a4 (ao×ao))(out:a4 a0)(n:ao)(X:a4 a0)(v:a7)(s' :aq):Prop:=
 ∃(Y3:a7) (last' :ao×ao) (Xm:a4 a0),lN base s' j bv rv Y3 b p most rows last' Xm/\du j ov s Y3 s' /\
  ((v= .int .i64 0/\((out.length+n:ao):a8)<=most/\last' =(out.length,n)/\Xm=X)\/(v= .int .i64 7/\most<((out.length+n:ao):a8)))
theorem lN.grow {base:ao}{s s1 s2 s3:aq}{j:ao}{bv rv ov o2:a7}{b:a4 a0}{p:ao}{most:a8}{rows:a4 (ao×ao)}{last:ao×ao}{out TF:a4 a0}(h:lN base s j bv rv ov b p most rows last out)(hb:base<=s.next)
  (h1:ar s.next s s1) (h2:Own s2 1 o2 TF.length (ofBytes TF)) (Ir:aF base o2) (dD:bt ov s1 s2) (gz:aI o2=aI ov\/∃i,aI o2=some i/\s1.next<=i)
  (ht:ax s3 j [bv,.int .i64 p,.int .i64 most,rv,.int .i64 last.1,.int .i64 last.2,o2]) (hn:s3.next=s2.next) (hs:∀i,i≠j->s3.heap.get i=s2.heap.get i):
  lN base s3 j bv rv o2 b p most rows last TF/\du j ov s o2 s3:=by
 have bd:=h.cJ.lt
 have hoj:aI o2≠some j:=by
  rcases gz with e|⟨i,e,hi⟩
  ·rw[e];exact h.oj
  ·rw[e];intro q;injection q with q;have:=h1.next;omega
 refine⟨⟨ht,((h.b.stay (h1.weaken hb)).stay (dD.keeps h.of (ek hb h1.next))).stay (ar.aK hn hs h.lo),((h.rows.keeps h1).turns dD (fun i hi e=>h.ox i e hi)).aK hn hs h.rj,h.rf,h.rj,h2.aK hn hs hoj,Ir,hoj,fun k hk=> ?_,h.lo⟩,
  ((Pc h1).trans (du.turns dD gz)).trans (du.put hn hs)⟩
 rcases gz with e|⟨i,e,hi⟩
 ·rw[e] at hk;exact h.ox k hk
 ·rw[e] at hk;injection hk with hk;subst hk
  intro q;have:=h.rows.iD _ q;have:=h1.next;omega
theorem HH {lib:aA}(hl:lib.at 154=none)(base:ao)(s:aq)(j:ao)(bv rv ov:a7)(b:a4 a0)(p:ao)(most:a8)(rows:a4 (ao×ao))(last:ao×ao)(out:a4 a0)(a n:ao)
  (h:lN base s j bv rv ov b p most rows last out) (hb:base<=s.next) (ha:a<out.length) (hn0:1<=n) (ho:out.length+n<=100000000):
  Runs af lib 154 [wg j,.int .i64 a,.int .i64 n] s (JB base s j bv rv ov b p most rows out n (F9 out a n)):=by
 refine Runs.enter 51 Tryz.func154 rfl hl rfl rfl ?_
 intro f hn hf
 have h0:f.get 0=wg j:=hf 0
 have h1:f.get 1= .int .i64 a:=hf 1
 have h2:f.get 2= .int .i64 n:=hf 2
 clear hf
 have g6:=h.cJ.load (P:=af) fU (off:=6) (c:=8) rfl (by simp)
 simp only[aj,ak,aa,ae,QS,Qx,↓ab,hn,h0,h2,Mf,tM,g6,h.out.aG.bm an,Mg]
 refine jO fF h.cJ rfl rfl rfl rfl (by simp) ?_
 intro s1 eK g8 kC
 have pH:lN base s1 j bv rv ov b p most rows (out.length,n) out:=h.put eK g8 kC
 have Xn:du j ov s ov s1:=du.put g8 kC
 simp only[aj,QS,Qx,↓ab,hn,h2]
 refine Comes.bQ (fun z f s' =>∃(k:ao) (Y3:a7),z=n-k/\k<=n/\lN base s' j bv rv Y3 b p most rows (out.length,n) (F9 out a k)/\du j ov s Y3 s' /\(k=0\/((out.length+k:ao):a8)<=most)/\f.n=51/\f.get 0=wg j/\f.get 1= .int .i64 a/\f.get 18= .int .i64 n/\f.get 19= .int .i64 k)
  (fun y f s' =>(y= .exit 0/\f.n=51/\JB base s j bv rv ov b p most rows out n (F9 out a n) (.int .i64 0) s')\/(y= .ret/\f.n=51/\f.get 6= .int .i64 7/\JB base s j bv rv ov b p most rows out n (F9 out a n) (.int .i64 7) s'))
  ⟨0,ov,rfl,by omega,pH,Xn,.inl rfl,by simp only[ad,ag,↓ab,Qx,hn,h0,h1,true_and];rfl⟩ ?_ ?_
 ·clear hn h0 h1 h2 f g6 pH Xn eK g8 kC s1
  rintro Q hQ z f s2 ⟨k,o1,rfl,hk,hR,fk,hmk,hn,h0,h1,zh,LN⟩
  have dI:=ek hb fk.next
  have g6:=hR.cJ.load (P:=af) fU (off:=6) (c:=8) rfl (by simp)
  have g2:=hR.cJ.load (P:=af) bu (off:=2) (c:=8) rfl (by simp)
  have hlen:=rC out a k
  have Q4:=hR.out.aG
  by_cases Lu:k<n
  ·have c1:(k:a8)<(n:a8):=by omega
   by_cases c2:most<=((F9 out a k).length:a8)
   ·simp only[aj,ak,aa,QS,Qx,↓ab,hn,h0,zh,LN,cb c1,Rc,tM,g2,g6,hR.out.self,Q4.bm an,cb c2]
    refine hQ _ _ _ (.inr ⟨rfl,by simp only[ag,hn],by simp only[ad,↓ab],o1,_,_,hR,fk,.inr ⟨rfl,by omega⟩⟩)
   ·have hik:a+k<(F9 out a k).length:=by omega
    have dC:=ar.spare s2 1
    have aiD:=(hR.out.keeps dC).aG
    have g6S:=(hR.cJ.keeps dC).load (P:=af) fU (off:=6) (c:=8) rfl (by simp)
    have mY:=aiD.indexAddr (k:= .i64) (x:=((a:a8)+(k:a8))) an bK (by omega) (by omega)
    rw[show((a:a8)+(k:a8)).toNat=a+k by omega] at mY
    have fz:=aiD.di (P:=af) kI hik
    rw[bw hik] at fz
    simp only[aj,ak,aa,QS,Qx,↓ab,hn,h0,zh,LN,cb c1,Rc,tM,g2,g6,hR.out.self,Q4.bm an,b5 c2]
    refine cX.zd 1 (by kernel_rfl) (by kernel_rfl) ?_
    simp(disch:=omega)only[aj,ak,ae,QS,Qx,↓ab,hn,h0,h1,tM,g6S,hR.out.self,aD,mY,fz,gG an bK ks]
    refine iE (base:=s2.next) (by rfl) (by rw[bU];omega) (cz _) ?_
    intro bs t2 oA qN aR m8 _
    have dE:=(ar.spare s2 1).trans aR
    have fN:=hR.out.keeps dE
    simp only[aj,aa,QS,Qx,↓ab,hn]
    refine kH an an (.inl ⟨_,rfl⟩) bK jW ks rfl fN oA.aG.src rfl (by decide) rfl (by omega) (by omega) hR.of (by have:=dE.next;omega) ?_
    intro o3 t3 ou hF3 bC jM JC
    have F5:=(hR.cJ.keeps dE).turns jM hR.oj
    simp only[aj,QS,Qx,↓ab,hn,tM]
    refine nh fT F5 rfl (by simp) ou.aG.aL ?_
    intro s4 gv vY vh
    have e1:ofBytes (F9 out a k)++[.int .u8 (((F9 out a k).getD (a+k) 0).toNat:a8)]=ofBytes (F9 out a (k+1)):=by rw[F9,br];rfl
    have e2:(F9 out a k).length+1=(F9 out a (k+1)).length:=by rw[rC,rC];omega
    rw[e1,e2] at ou
    obtain⟨yE,aeq⟩:=hR.grow dI dE ou hF3 jM JC gv vY vh
    simp(disch:=omega)only[aj,QS,Qx,↓ab,hn,LN,aD]
    refine ay (n-(k+1)) (by omega) ⟨k+1,o3,rfl,by omega,yE,fk.trans aeq,.inr (by omega),by simp only[ag,hn],by simp only[ad,↓ab,Qx,h0],by simp only[ad,↓ab,Qx,h1],by simp only[ad,↓ab,Qx,zh],by simp only[ad,↓ab];rfl⟩
  ·obtain rfl:k=n:=by omega
   have c1:¬(k:a8)<(k:a8):=by omega
   simp only[aj,QS,↓ab,hn,zh,LN,b5 c1]
   exact hQ _ _ _ (.inl ⟨rfl,by simp only[ag,hn],o1,_,_,hR,fk,.inl ⟨rfl,by omega,rfl,rfl⟩⟩)
 ·clear hn h0 h1 h2 f
  rintro y f s2 (⟨rfl,hn,hP⟩|⟨rfl,hn,h6,hP⟩)
  ·simp only[aj,al,oneOf,QS,↓ab,hn,dX]
   exact hP
  ·simp only[aj,al,oneOf,QS,↓ab,hn,h6,dX]
   exact hP
theorem Pd {lib:aA}(hl:lib.at 153=none)(base:ao)(s:aq)(j:ao)(bv rv ov:a7)(b:a4 a0)(p:ao)(most:a8)(rows:a4 (ao×ao))(last:ao×ao)(out:a4 a0)(c:ao)
  (h:lN base s j bv rv ov b p most rows last out) (hb:base<=s.next) (hc:c<256) (ho:out.length<=100000000):
  Runs af lib 153 [wg j,.int .i64 c] s (JB base s j bv rv ov b p most rows out 1 (out++[cB c])):=by
 refine Runs.enter 35 Tryz.func153 rfl hl rfl rfl ?_
 intro f hn hf
 have h0:f.get 0=wg j:=hf 0
 have h1:f.get 1= .int .i64 c:=hf 1
 clear hf
 have g6:=h.cJ.load (P:=af) fU (off:=6) (c:=8) rfl (by simp)
 have g2:=h.cJ.load (P:=af) bu (off:=2) (c:=8) rfl (by simp)
 by_cases c2:most<=(out.length:a8)
 ·simp only[aj,ak,al,oneOf,aa,QS,Qx,↓ab,hn,h0,Rc,tM,g2,g6,h.out.self,h.out.aG.bm an,cb c2,dY]
  exact⟨ov,_,_,h,du.refl _ _ _,.inr ⟨rfl,by omega⟩⟩
 ·simp only[aj,ak,aa,ae,QS,Qx,↓ab,hn,h0,Rc,Mf,tM,g2,g6,h.out.self,h.out.aG.bm an,b5 c2,Mg]
  refine jO fF h.cJ rfl rfl rfl rfl (by simp) ?_
  intro s1 eK g8 kC
  have pH:lN base s1 j bv rv ov b p most rows (out.length,1) out:=h.put eK g8 kC
  have g6:=pH.cJ.load (P:=af) fU (off:=6) (c:=8) rfl (by simp)
  have zS:bz.wrap (c:a8)=(((cB c).toNat:ao):a8):=by rw[fu,UInt8.toNat_ofNat'];omega
  simp only[aj,ak,ae,QS,Qx,↓ab,hn,h0,h1,tM,g6,bL b4 cc,zS,gG an bK ks]
  refine bG an bK jW ks rfl pH.out (by simp only[ad,↓ab,Qx]) (by decide) (by simp only[ag,hn];decide) (by simp only[ag,hn];decide) (by rfl) (by decide) rfl (by omega) (by omega) pH.of (by omega) ?_
  intro bs o2 s2 fN Zk aR dD qN
  have aeo:=pH.cJ.turns dD pH.oj
  simp only[aj,QS,Qx,↓ab,hn,tM]
  refine aY fT aeo rfl (by simp) fN.aG.aL ?_
  intro s3 jM mQ fB
  have e1:ofBytes out++[.int .u8 (((cB c).toNat:ao):a8)]=ofBytes (out++[cB c]):=by rw[br];rfl
  have e2:out.length+1=(out++[cB c]).length:=by simp
  rw[e1,e2] at fN
  obtain⟨AQ,x8⟩:=pH.grow (by omega) (ar.refl _ _) fN Zk dD qN jM mQ fB
  simp only[aj,al,oneOf,QS,↓ab,hn,dY]
  exact⟨o2,_,_,AQ,(du.put g8 kC).trans x8,.inl ⟨rfl,by omega,rfl,rfl⟩⟩
end Go.Proofs.YtdfjfncifneocaaGreat
