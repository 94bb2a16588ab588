/-
 The clean machine: a slice of one's own that was appended to, and is appended to once more.
-/
import Derived.Test.YtdfjfncifneocaaGreatPrR
open _root_ renaming reduceIte->ab,eq_false->ao,Nat->aC,Int->a0,if_neg->a3,if_pos->bk,eq_true->bq,List->bz,UInt8->b5,absurd->cM,decide_eq_false->dv,if_false->ed,if_true->er,true_and->eu,decide_eq_true->eL
open Go.Proofs.Tryz renaming underlying22->af,prog->an,underlying3->av,underlying5->bw,results71->ca,underlying137->c0,results76->c6,results73->c7,underlying187->dk,results124->dw,underlying115->eh,underlying134->ek,results121->eB,results127->eG,results72->eM
open Go renaming Value->ax,Program->eI,TypeId->eS
open List renaming length_append->a1,getD_eq_getElem?_getD->a2,getElem?_eq_getElem->b7,getElem?_cons_zero->cb,getElem?_cons_succ->cc,length_pos_iff->cd,getElem?_toArray->cg,getElem?_append_left->cL,length_take->c8,getElem?_append_right->dg,length_drop->ds,getElem?_eq_none->dP,append_assoc->ev,length_cons->eA,length_nil->eD
open Int renaming toNat_natCast->bb,toNat->fV
open Bool renaming and_eq_true->cp,not_eq_true->ey
open Nat renaming lt_of_lt_of_le->cv,le_refl->cx,pow_le_pow_right->cz,beq->cD,le_trans->dc,blt_eq->dt,mul_le_mul->dT,mul_le_mul_right->eb,reduceSub->ee,ble->eo,sub_self->et,ble_eq->eJ,reduceAdd->eQ,mul_comm->eV,zero_mul->e0,succ_mul->e5,add_zero->e9,beq_eq->fo,blt->fs
open Go.IntKind renaming i64->c5,u64->fl,u8->fr
open UInt8 renaming ofNat->c9
open Go.Code renaming seq->ea,region->fb,cond->fS
open Nat renaming reduceLT->QM,reduceEqDiff->WP
set_option maxHeartbeats 16000000
set_option linter.unusedSimpArgs false
set_option linter.unusedVariables false
set_option maxRecDepth 100000
namespace Go.Cl
inductive Old (s:au) (z:aC):ax->aC->bz ax->Prop
 |nil:Old s z (.slice none 0 0) 0 []
 |of (i n c low:aC) (cs l:bz ax) (hi:i<s.next) (hb:s.bL i=some ⟨cs,low,true,z⟩) (hl:low<=c) (hc:c<=cs.length+1) (hlen:l.length=n*z) (hn:n*z<c) (ht:cs.take (n*z)=l):Old s z (.slice (some ⟨i,0,none⟩) n c) n l
theorem Old.keeps {s s' :au}{z:aC}{v:ax}{n:aC}{l:bz ax}(h:Old s z v n l)(k:aw s.next s s'):Old s' z v n l:=by
 cases h with
 |nil=>exact .nil
 |of i n c low cs l hi hb hl hc hlen hn ht=>exact .of i n c low cs l (cv hi k.next) ((k.eE hi).trans hb) hl hc hlen hn ht
theorem Own.R4 {P:eI}{st xt e:eS}{xd:TypeDesc}{z kH:aC}{zv:ax}(hu:P.underlying st=some (.slice e))(Cm:P.underlying xt=some xd)(wS:(∃e2,xd= .slice e2)\/xd= .string)(cX:br P e=some z)(oC:dX P e=some kH)(qu:b6 P e=some zv)(tq:cD zv.cells.toList.length z=true)
  {s:au} {x y:ax} {n m:aC} {l new:bz ax} (hx:Own s z x n l) (hy:dU s z y=some (m+1,new)) (gM:new.length=(m+1)*z) (tE:0<z) (gF:new.all aT=true) (fp:(n+(m+1))*kH<=140737488355328) (dr:n+(m+1)<=140737488355328):
  ∃x' s',eT P s st xt x y=some (x',s')/\Own s' z x' (n+(m+1)) (l++new)/\bG x s s' /\(aI x' =aI x\/∃i,aI x' =some i/\s.next<=i)/\Old s' z x n l:=by
 obtain⟨x',s',h1,h2,h3,h4⟩:=hx.append hu Cm wS cX oC qu tq hy gM tE gF fp dr;refine⟨x',s',h1,h2,h3,h4,?_⟩;have hy:CB s z kH zv xd y=some (m+1,new):=by rcases wS with ⟨e2,rfl⟩|rfl<;>exact hy
 have jZ:(eo ((n+(m+1))*kH) 140737488355328&&eo (n+(m+1)) 140737488355328&&fs 0 z&&new.all aT&&cD zv.cells.toList.length z)=true:=by
  simp only[cp,eJ,dt];exact⟨⟨⟨⟨fp,dr⟩,tE⟩,gF⟩,tq⟩
 cases hx with
 |nil=>exact .nil
 |of i n low l hi hb hl hlen=>
  have iy:(true&&eo low (l.length+1)&&cD z z)=true:=by simp[hl]
  have j6:(cD (l.length+1) (l.length+1)&&cD 0 0&&cD (n*z) l.length)=true:=by simp[hlen]
  have he:eT P s st xt (.slice (some ⟨i,0,none⟩) n (l.length+1)) y=some (.slice (some ⟨i,0,none⟩) (n+(m+1)) ((l++new).length+1),s.put i (.eE ⟨l++new,low,true,z⟩)):=by
   unfold eT;rcases wS with ⟨e2,rfl⟩|rfl<;>
   simp only[hu,Cm,cX,oC,qu,hy,jZ,er,hb,iy,j6]
  rw[he] at h1;injection h1 with h1;injection h1 with _ h1;rw[<-h1];refine .of i n _ low (l++new) l (by simpa [au.put] using hi) (by rw[au.cC _ _ _ (by omega)]) hl (by simp) hlen (by omega) (by rw[<-hlen,List.take_left])
theorem Old.append {P:eI}{st xt e:eS}{xd:TypeDesc}{z kH:aC}{zv:ax}(hu:P.underlying st=some (.slice e))(Cm:P.underlying xt=some xd)(wS:(∃e2,xd= .slice e2)\/xd= .string)(cX:br P e=some z)(oC:dX P e=some kH)(qu:b6 P e=some zv)(tq:cD zv.cells.toList.length z=true)
  {s:au} {x y:ax} {n m:aC} {l new:bz ax} (hx:Old s z x n l) (hy:dU s z y=some (m+1,new)) (gM:new.length=(m+1)*z) (tE:0<z) (gF:new.all aT=true) (fp:(n+(m+1))*kH<=140737488355328) (dr:n+(m+1)<=140737488355328):
  ∃x' s',eT P s st xt x y=some (x',s')/\Own s' z x' (n+(m+1)) (l++new)/\bG x s s' /\(aI x' =aI x\/∃i,aI x' =some i/\s.next<=i):=by
 have hy0:=hy;have hy:CB s z kH zv xd y=some (m+1,new):=by rcases wS with ⟨e2,rfl⟩|rfl<;>exact hy
 have jZ:(eo ((n+(m+1))*kH) 140737488355328&&eo (n+(m+1)) 140737488355328&&fs 0 z&&new.all aT&&cD zv.cells.toList.length z)=true:=by
  simp only[cp,eJ,dt];exact⟨⟨⟨⟨fp,dr⟩,tE⟩,gF⟩,tq⟩
 cases hx with
 |nil=>exact(Own.nil (s:=s) (z:=z)).append hu Cm wS cX oC qu tq hy0 gM tE gF fp dr
 |of i n c low cs l hi hb hl hc hlen hn ht=>
  by_cases hw:c=cs.length+1/\n*z=cs.length
  ·obtain⟨rfl,hw⟩:=hw;have e:l=cs:=by rw[<-ht,hw,List.take_length]
   subst e;exact(Own.of (z:=z) i n low l hi hb hl hlen).append hu Cm wS cX oC qu tq hy0 gM tE gF fp dr
  obtain⟨c',rfl⟩:∃c',c=c' +1:=⟨c-1,by omega⟩
  have iy:(true&&eo low (c' +1)&&cD z z)=true:=by simp only[Bool.true_and,cp,eJ,fo];exact⟨hl,trivial⟩
  have j6:(cD (c' +1) (cs.length+1)&&cD 0 0&&cD (n*z) cs.length)=false:=by
   rw[<-ey];simp only[cp,fo];exact fun h=>hw ⟨h.1.1,h.2⟩
  have X6:s.dG i 0 (c' +1) (n*z)=some l:=by
   rw[ij hb hl hc (by omega),List.drop_zero,ht]
  have hlz:(l++new).length=(n+(m+1))*z:=by rw[a1,hlen,gM,Nat.add_mul n (m+1) z]
  obtain⟨g1,g2⟩:=Own.new (s:=s.put i (.eE (kill ⟨cs,low,true,z⟩))) hlz;have hpn:(s.put i (.eE (kill ⟨cs,low,true,z⟩))).next=s.next:=rfl;refine⟨_,_,?_,g2,⟨by rw[yH,hpn];omega,fun j hj cE=> ?_⟩,.inr ⟨s.next,rfl,cx _⟩⟩
  ·unfold eT;rcases wS with ⟨e2,rfl⟩|rfl<;>
   simp only[hu,Cm,cX,oC,qu,hy,jZ,er,hb,iy,j6,X6,g1]<;>rfl
  rw[(aw.new _ _).get j (by rw[hpn];exact hj),au.bo];intro e;subst e;exact cE rfl
namespace LB
section
variable {P:eI} {lib:aD} {A:aC->Bool} {g:aC} {all r:bz Oper} {id:aC} {f:aZ} {T:au} {d:Option Tmp} {Q:aZ->au->Prop}
theorem Cc {st xt e:eS}{xd:TypeDesc}{z kH:aC}{zv:ax}(hu:P.underlying st=some (.slice e))(Cm:P.underlying xt=some xd)(wS:(∃e2,xd= .slice e2)\/xd= .string)(cX:br P e=some z)(oC:dX P e=some kH)(qu:b6 P e=some zv)(tq:cD zv.cells.toList.length z=true)
  {x y:ax} {n m:aC} {l new:bz ax} (hx:Own T z x n l) (hy:dU T z y=some (m+1,new)) (gM:new.length=(m+1)*z) (tE:0<z) (gF:new.all aT=true) (fp:(n+(m+1))*kH<=140737488355328) (dr:n+(m+1)<=140737488355328) (BR:g≠0->∀i,aI x=some i->A i=false) (Bf:∀i,A i=true->i<T.next)
  (K:∀x' T',Own T' z x' (n+(m+1)) (l++new)->Old T' z x n l->bG x T T' ->(aI x' =aI x\/∃i,aI x' =some i/\T.next<=i)->fq P lib A (g-1) all r id f d Q x' T'):gk P lib A g all r id f d T Q (oU (eT P T st xt x y)):=by
 obtain⟨x',s',h1,h2,h3,h4,h5⟩:=hx.R4 hu Cm wS cX oC qu tq hy gM tE gF fp dr;rw[h1,eU,vz];exact⟨fun hg=>⟨h3.next,fun i hi=>h3.get i (Bf i hi) (fun e=>by have:=BR hg i e;rw[hi] at this;cases this)⟩,K _ _ h2 h5 h3 h4⟩
theorem Fa {st xt e:eS}{xd:TypeDesc}{z kH:aC}{zv:ax}(hu:P.underlying st=some (.slice e))(Cm:P.underlying xt=some xd)(wS:(∃e2,xd= .slice e2)\/xd= .string)(cX:br P e=some z)(oC:dX P e=some kH)(qu:b6 P e=some zv)(tq:cD zv.cells.toList.length z=true)
  {x y:ax} {n m:aC} {l new:bz ax} (hx:Old T z x n l) (hy:dU T z y=some (m+1,new)) (gM:new.length=(m+1)*z) (tE:0<z) (gF:new.all aT=true) (fp:(n+(m+1))*kH<=140737488355328) (dr:n+(m+1)<=140737488355328) (BR:g≠0->∀i,aI x=some i->A i=false) (Bf:∀i,A i=true->i<T.next)
  (K:∀x' T',Own T' z x' (n+(m+1)) (l++new)->bG x T T' ->(aI x' =aI x\/∃i,aI x' =some i/\T.next<=i)->fq P lib A (g-1) all r id f d Q x' T'):gk P lib A g all r id f d T Q (oU (eT P T st xt x y)):=by
 obtain⟨x',s',h1,h2,h3,h4⟩:=hx.append hu Cm wS cX oC qu tq hy gM tE gF fp dr;rw[h1,eU,vz];exact⟨fun hg=>⟨h3.next,fun i hi=>h3.get i (Bf i hi) (fun e=>by have:=BR hg i e;rw[hi] at this;cases this)⟩,K _ _ h2 h3 h4⟩
end
end LB
end Go.Cl
namespace Go.Cl.Pr
theorem Oo {r:aC}{P:aC->Prop}(h:∀j,j<r->P j)(hr:P r):∀j,j<r+1->P j:=fun j hj=>by
 by_cases e:j=r
 ·rw[e];exact hr
 exact h j (by omega)
theorem R5 {l:bz b5}{x:b5}{n c:aC}(hc:1<=c)(hn:1<=n):lz (l++[x]) n c l.length=lz l n c l.length/\iL (l++[x]) n l.length=iL l n l.length/\fg (l++[x]) n c l.length=fg l n c l.length:=by
 have hg:∀j,j<l.length->(l++[x]).getD j 0=l.getD j 0:=fun j hj=>by
  rw[a2,cL hj,<-a2]
 refine⟨?_,?_,?_⟩
 ·unfold lz;split
  ·rename_i h;have hp:0<l.length:=by
    rcases Nat.eq_zero_or_pos l.length with h0|h0
    ·rw[h0,Nat.zero_mod] at h;omega
    exact h0
   rw[hg _ (by omega)]
  rfl
 ·unfold iL;split
  ·rw[hg _ (by omega)]
  rfl
 unfold fg;split
 ·rw[hg _ (by omega)]
 rfl
end Go.Cl.Pr
namespace Go.Proofs.YtdfjfncifneocaaGreat
open Go.Cl Go.Cl.Pr
theorem R6 (a b c:a0):bI (.tuple #[.int .i64 a,.int .i64 b,.int .i64 c]) (.tuple #[.int .i64 a,.int .i64 b,.int .i64 c])=true:=by simp[bI,qp,wJ,cw]
theorem Fb {lib:aD}(L:VL lib)(hl:lib.at 76=none)(s:au)(p co cl:a0)(x:ax)(l:bz b5)(hx:aU s 1 x l.length (ofBytes l))(hlen:l.length<=100000000):
  Runs an lib 76 [i3 p co cl,x] s (rK s (ks p co cl l)):=by
 obtain⟨QQ,eK⟩:∃QQ:ax->au->Prop,QQ=rK s (ks p co cl l):=⟨_,rfl⟩
 rw[<-eK];refine Runs.enter 91 Tryz.func76 rfl hl rfl rfl ?_;intro f hn hf;have h0:f.get 0=i3 p co cl:=hf 0;have h1:f.get 1=x:=hf 1;clear hf;have Ah:[Value.int .i64 p,.int .i64 co,.int .i64 cl].length+1=4:=rfl;simp(disch:=omega)only[aj,QM,↓ab,hn,h0];refine aA ?_;intro s1 ht aF vR;have ht:az s1 s.next (l3 p co cl):=ht;have la:aN an s1 66 (.pointer (some ⟨s.next,0,some 4⟩))=some (i3 p co cl):=az.bd (P:=an) (cs:=l3 p co cl) O8 Hq ht (c:=4) rfl;simp(disch:=omega)only[aj,ak,ad,QM,WP,↓ab,hn,Ah,la];refine(Hr L.may s1 p co cl).mono ?_;rintro _ s2 ⟨rfl,dA⟩;have Mm:=aF.trans (dA.weaken aF.next);have dK:=ht.keeps dA;have n1:=aF.next;have n2:=dA.next;have kA:=hx.keeps Mm;by_cases hm:pC p co cl;rotate_left
 ·rw[dv hm];simp(disch:=omega)only[aj,al,oneOf,QM,WP,↓ab,hn,c6];have e:ks p co cl l=([],1):=by unfold ks;rw[bk hm]
  rw[eK,e];exact⟨_,rfl,⟨.nil,aM.nil _,Mm⟩⟩
 rw[eL hm];have q0:∀t,aw s2.next s2 t->aN an t 3 (.pointer (some ⟨s.next,0,some 4⟩))=some (.int .i64 p):=fun t h=>(dK.keeps h).load aP (off:=0) (c:=4) rfl (by simp)
 have q1:∀t,aw s2.next s2 t->aN an t 3 (.pointer (some ⟨s.next,1,some 4⟩))=some (.int .i64 co):=fun t h=>(dK.keeps h).load aP (off:=1) (c:=4) rfl (by simp)
 have q2:∀t,aw s2.next s2 t->aN an t 3 (.pointer (some ⟨s.next,2,some 4⟩))=some (.int .i64 cl):=fun t h=>(dK.keeps h).load aP (off:=2) (c:=4) rfl (by simp)
 have k2:=aw.refl s2.next s2;by_cases BK:p=1
 ·have e:ks p co cl l=(l,0):=by unfold ks;rw[a3 (fun h=>h hm),bk BK]
  simp(disch:=omega)only[aj,ak,ad,QM,WP,↓ab,hn,h1,Ed,q0 _ k2,bq BK];refine(rC L.copy s2 x l kA (by omega)).mono ?_;rintro w s3 ⟨hw,hF,iT⟩;simp(disch:=omega)only[aj,al,oneOf,QM,WP,↓ab,hn,c6];rw[eK,e];exact⟨w,rfl,⟨hw,fun j hj=>by have:=hF j hj;omega,Mm.trans (iT.weaken (by omega))⟩⟩
 obtain⟨hpk,iy,j6,nS,iG⟩:=id hm;obtain⟨c,rfl⟩:∃c:aC,co=c:=⟨co.toNat,by omega⟩
 obtain⟨m,rfl⟩:∃m:aC,cl=m:=⟨cl.toNat,by omega⟩
 obtain⟨n,zR⟩:∃n:aC,n=c*m:=⟨_,rfl⟩
 have gZ:1<=n:=by rw[zR];exact dT (show 1<=c by omega) (show 1<=m by omega)
 have mf:n<=16384:=by rw[zR];exact dT (show c<=4 by omega) (show m<=4096 by omega)
 have XA:c<=n:=by rw[zR];exact Nat.le_mul_of_pos_right c (by omega)
 obtain⟨h,hh⟩:∃h:aC,h=if 10<=p then 1 else 0:=⟨_,rfl⟩
 have hh1:h<=1:=by rw[hh];split<;>omega
 have ep:ks p (c:a0) (m:a0) l=if l.length%(h+n)≠0 then([],4) else if y8 l h n (l.length/(h+n))=true then([],4) else(im l h n c (l.length/(h+n)*n),0):=by
  unfold ks;rw[a3 (fun h=>h hm),a3 BK,bb,bb,<-zR,<-hh]
 have hmul:c5.wrap ((c:a0)*(m:a0))=(n:a0):=by
  have e:(c:a0)*(m:a0)=(n:a0):=by rw[zR];exact(Int.natCast_mul c m).symm
  rw[e,aB (by omega)]
 simp(disch:=omega)only[aj,QM,WP,↓ab,hn,Ed,F6,Nk,q0 _ k2,q1 _ k2,q2 _ k2,ao BK,hmul];generalize hK:oD an lib (ea (ea (fb _ _ _) (fS _ _ _)) (ea _ _)) _=K;have go:∀f,f.n=91->f.get 1=x->f.get 2= .pointer (some ⟨s.next,0,some 4⟩)->f.get 6= .int .i64 (n:aC)->f.get 7= .int .i64 (h:aC)->K .normal f s2:=by
  clear hn h0 h1 f;subst hK;intro f hn h1 h2 h6 h7;have XL:c5.wrap ((n:a0)+(h:a0))=((h+n:aC):a0):=by rw[aB (by omega)];omega
  have WR:¬((h+n:aC):a0)=0:=by omega
  have R0:((l.length:aC):a0).tmod ((h+n:aC):a0)=((l.length%(h+n):aC):a0):=by rw[Int.tmod_eq_emod_of_nonneg (by omega)];rfl
  by_cases yZ:l.length%(h+n)=0;rotate_left
  ·rw[bk yZ] at ep;have VM:¬((l.length%(h+n):aC):a0)=0:=by omega
   simp(disch:=omega)only[aj,ak,al,oneOf,ad,QM,WP,↓ab,hn,h1,h6,h7,kA.aQ af,XL,dZ,R0,ao VM,c6];rw[eK,ep];exact⟨_,rfl,⟨.nil,aM.nil _,Mm⟩⟩
  rw[a3 (fun h=>h yZ)] at ep;have VM:((l.length%(h+n):aC):a0)=0:=by omega
  obtain⟨q,hq⟩:∃q,q=l.length/(h+n):=⟨_,rfl⟩
  have hqn:q*(h+n)=l.length:=by
   have:=Nat.div_add_mod l.length (h+n);rw[yZ,eV,<-hq] at this;omega
  rw[<-hq] at ep;have ajk:q*n<=l.length:=by rw[<-hqn];exact Nat.mul_le_mul_left q (by omega)
  simp(disch:=omega)only[aj,ak,ad,QM,WP,↓ab,hn,h1,h6,h7,kA.aQ af,XL,dZ,R0,bq VM];refine Comes.bD (fun z f t=>∃(r:aC) (o:ax),z=q-r/\r<=q/\(∀j,j<r->¬4<NI l h n j)/\Own t 1 o (r*n) (ofBytes (im l h n c (r*n)))/\aM s2.next o/\aw s2.next s2 t/\f.n=91/\f.get 1=x/\f.get 2= .pointer (some ⟨s.next,0,some 4⟩)/\f.get 6= .int .i64 (n:aC)/\f.get 7= .int .i64 (h:aC)/\f.get 8=o/\f.get 9= .int .i64 ((r*(h+n):aC):a0))
   (fun z f t=>(z= .ret/\y8 l h n q=true/\aw s2.next s2 t/\f.n=91/\f.get 4= .slice none 0 0/\f.get 5= .int .i64 4)\/(z= .exit 0/\y8 l h n q=false/\∃o,Own t 1 o (q*n) (ofBytes (im l h n c (q*n)))/\aM s2.next o/\aw s2.next s2 t/\f.n=91/\f.get 8=o))
   ⟨0,.slice none 0 0,rfl,by omega,fun j hj=>by omega,by rw[e0];exact .nil,aM.nil _,aw.refl _ _,by simp only[ag,hn],by simp only[aa,↓ab,WP,h1],by simp only[aa,↓ab,WP,h2],by simp only[aa,↓ab,WP,h6],by simp only[aa,↓ab,WP,h7],by simp only[aa,↓ab,WP],by simp only[aa,↓ab,e0];rfl⟩ ?_ ?_
  ·clear hn h1 h2 h6 h7 f;rintro Q hQ z f t ⟨r,o,rfl,hr,kI,ho,hF,aF,hn,h1,h2,h6,h7,h8,h9⟩;have EY:=kA.keeps aF;have nt:=aF.next;by_cases a7:r<q;rotate_left
   ·obtain rfl:r=q:=by omega
    have d1:¬((r*(h+n):aC):a0)<((l.length:aC):a0):=by omega
    have Hk:y8 l h n r=false:=by
     unfold y8;rw[List.any_eq_false];intro j hj;have:=kI j (List.mem_range.1 hj)
     simpa using this
    simp(disch:=omega)only[aj,ad,QM,WP,↓ab,hn,h1,h9,EY.aQ af,ao d1];exact hQ _ _ _ (.inr ⟨rfl,Hk,o,ho,hF,aF,by simp only[ag,hn],by simp only[aa,↓ab,WP,h8]⟩)
   have hrn:(r+1)*(h+n)<=l.length:=by rw[<-hqn];exact eb (h+n) a7
   have hrs:(r+1)*(h+n)=r*(h+n)+(h+n):=e5 r (h+n);have abh:(r+1)*n=r*n+n:=e5 r n;have ajl:(r+1)*n<=q*n:=eb n a7;have d1:((r*(h+n):aC):a0)<((l.length:aC):a0):=by omega
   obtain⟨T,hT⟩:∃T,T=NI l h n r:=⟨_,rfl⟩
   have Zg:=UD l h n r;rw[<-hT] at Zg;simp(disch:=omega)only[aj,ad,QM,WP,↓ab,hn,h1,h7,h9,EY.aQ af,bq d1];generalize hK2:oD an lib (ea (ea (fb _ _ _) (fS _ _ _)) (ea _ _)) _=K2;have go2:∀f,f.n=91->f.get 1=x->f.get 2= .pointer (some ⟨s.next,0,some 4⟩)->f.get 6= .int .i64 (n:aC)->f.get 7= .int .i64 (h:aC)->f.get 8=o->f.get 9= .int .i64 ((r*(h+n):aC):a0)->f.get 10= .int .i64 T->K2 .normal f t:=by
    clear hn h1 h2 h6 h7 h8 h9 f;subst hK2;intro f hn h1 h2 h6 h7 h8 h9 cJ;by_cases c4:T>4
    ·simp(disch:=omega)only[aj,QM,↓ab,hn,cJ,bq c4];exact hQ _ _ _ (.inl ⟨rfl,KR a7 (by rw[<-hT];exact c4),aF,by simp only[ag,hn],by simp only[aa,↓ab,WP],by simp only[aa,↓ab]⟩)
    simp(disch:=omega)only[aj,QM,↓ab,hn,cJ,ao c4];refine Comes.bD (fun z f u=>∃(k:aC) (o:ax),z=n-k/\k<=n/\Own u 1 o (r*n+k) (ofBytes (im l h n c (r*n+k)))/\aM s2.next o/\aw s2.next s2 u/\f.n=91/\f.get 1=x/\f.get 2= .pointer (some ⟨s.next,0,some 4⟩)/\f.get 6= .int .i64 (n:aC)/\f.get 7= .int .i64 (h:aC)/\f.get 8=o/\f.get 9= .int .i64 ((r*(h+n):aC):a0)/\f.get 10= .int .i64 T/\f.get 11= .int .i64 (k:aC))
     (fun z f u=>z= .exit 2/\∃o,Own u 1 o (r*n+n) (ofBytes (im l h n c (r*n+n)))/\aM s2.next o/\aw s2.next s2 u/\f.n=91/\f.get 1=x/\f.get 2= .pointer (some ⟨s.next,0,some 4⟩)/\f.get 6= .int .i64 (n:aC)/\f.get 7= .int .i64 (h:aC)/\f.get 8=o/\f.get 9= .int .i64 ((r*(h+n):aC):a0))
     ⟨0,o,rfl,by omega,ho,hF,aF,by simp only[ag,hn],by simp only[aa,↓ab,WP,h1],by simp only[aa,↓ab,WP,h2],by simp only[aa,↓ab,WP,h6],by simp only[aa,↓ab,WP,h7],by simp only[aa,↓ab,WP,h8],by simp only[aa,↓ab,WP,h9],by simp only[aa,↓ab,WP,cJ],by simp only[aa,↓ab];rfl⟩ ?_ ?_
    ·clear hn h1 h2 h6 h7 h8 h9 cJ ho hF f;rintro Q hQ z f u ⟨k,o,rfl,hk,ho,hF,hu,hn,h1,h2,h6,h7,h8,h9,cJ,eC⟩;by_cases Ri:k<n;rotate_left
     ·obtain rfl:k=n:=by omega
      have d1:¬((k:aC):a0)<((k:aC):a0):=by omega
      simp(disch:=omega)only[aj,QM,WP,↓ab,hn,h6,eC,ao d1];exact hQ _ _ _ ⟨rfl,o,ho,hF,hu,by simp only[ag,hn],by simp only[aa,↓ab,WP,h1],by simp only[aa,↓ab,WP,h2],by simp only[aa,↓ab,WP,h6],by simp only[aa,↓ab,WP,h7],by simp only[aa,↓ab,WP,h8],by simp only[aa,↓ab,WP,h9]⟩
     have d1:((k:aC):a0)<((n:aC):a0):=by omega
     have nu:=hu.next;simp(disch:=omega)only[aj,QM,WP,↓ab,hn,h6,eC,bq d1];obtain⟨A,hA⟩:∃A:aC->Bool,A=fun j=>decide (j<s2.next):=⟨_,rfl⟩
     have Jq:∀j,A j=true->j<s2.next:=by
      intro j h;rw[hA] at h;exact of_decide_eq_true h
     have gu:∀j,A j=true->j<u.next:=fun j h=>by have:=Jq j h;omega
     have oO:∀j,j<s2.next->A j=true:=fun j h=>by rw[hA];exact eL h
     have hAf:∀j,s2.next<=j->A j=false:=fun j h=>by rw[hA];exact dv (by omega)
     refine LB.cN.dx A gu 1 1 (by kernel_rfl) (by kernel_rfl) ?_;have dI:=aw.spare u 1;have QN:(spare u 1).next=u.next+1:=bu _ _;have htu:=(dK.keeps hu).keeps dI;have lo1:∀k,LA.di A (some (.pointer (some ⟨s.next,k,some 4⟩)))=true:=fun k=>LA.bN (A:=A) (i:=s.next) (oO _ dK.lt)
     have lS:aN an (spare u 1) 66 (.pointer (some ⟨s.next,0,some 4⟩))=some (i3 p c m):=az.bd (P:=an) (cs:=l3 p c m) O8 Hq htu (c:=4) rfl;simp(disch:=omega)only[aj,bg,bn,ae,QM,WP,↓ab,hn,h2,h8,lo1,lS,ho.self,Cp,gI af cO rU];refine LB.bR (base:=u.next) (by rfl) (by omega) (cx _) ?_;intro bs u2 nj fM ku2 Bp ou2;have kuu:aw u.next u u2:=dI.trans ku2;simp(disch:=omega)only[aj,bn,ad,QM,WP,↓ab,hn];refine LB.Cc af af (.inl ⟨_,rfl⟩) cO sm rU rfl (ho.keeps kuu) nj.aL.src rfl (by decide) rfl (by omega) (by omega) (fun _ i hi=>hAf i (hF i hi)) (fun i h=>by have:=gu i h;have:=kuu.next;omega) ?_;intro w u3 hw aga hTu oh;have Wf:=gV l h n c (r*n+k);obtain⟨D,hD⟩:∃D,D=im l h n c (r*n+k):=⟨_,rfl⟩
     rw[<-hD] at Wf hw aga;have YR:aU u3 1 w (D++[0]).length (ofBytes (D++[0])):=by
      rw[a1,Wf,ct];exact hw.aL
     have ku3:aw s2.next s2 u3:=⟨by have:=hTu.next;have:=kuu.next;omega,fun j hj=>by rw[hTu.get j (by have:=kuu.next;omega) (fun e=>by have:=hF _ e;omega),kuu.get j (by omega),hu.get j hj]⟩;have UM:bI o o=true:=ho.self;simp(disch:=omega)only[aj,ak,bg,bn,et,ee,ad,QM,WP,↓ab,hn,h8,UM,ho.aL.aQ af,LA.rB ho.aL];refine(On L u3 p c m n w (D++[0]) YR (by rw[a1,Wf];simp;omega) (r*n+k) (by rw[a1,Wf];simp) zR gZ mf (by omega) XA).mono ?_;obtain⟨w1,w2,w3⟩:=R5 (l:=D) (x:=0) (n:=n) (c:=c) (by omega) gZ;rw[Wf] at w1 w2 w3;rw[w1,w2,w3];rintro _ u4 ⟨rfl,k4⟩;refine⟨fun _=>LA.aw.qI Jq (⟨by have:=k4.next;have:=ku3.next;omega,fun j hj=>k4.get j (by have:=ku3.next;omega)⟩),?_⟩;have x0:aH (.tuple #[.int .i64 (lz D n c (r*n+k)),.int .i64 (iL D n (r*n+k)),.int .i64 (fg D n c (r*n+k))]) 0=some (.int .i64 (lz D n c (r*n+k))):=rfl;have x1:aH (.tuple #[.int .i64 (lz D n c (r*n+k)),.int .i64 (iL D n (r*n+k)),.int .i64 (fg D n c (r*n+k))]) 1=some (.int .i64 (iL D n (r*n+k))):=rfl;have x2:aH (.tuple #[.int .i64 (lz D n c (r*n+k)),.int .i64 (iL D n (r*n+k)),.int .i64 (fg D n c (r*n+k))]) 2=some (.int .i64 (fg D n c (r*n+k))):=rfl;have xt:=R6 (lz D n c (r*n+k)) (iL D n (r*n+k)) (fg D n c (r*n+k));have n3:=ku3.next;have n4:=k4.next;have ku4:aw s2.next s2 u4:=ku3.trans (k4.weaken n3);simp(disch:=omega)only[aj,bg,bn,QM,WP,↓ab,hn,x0,x1,x2,xt];have ua:∀j,A j=true->j<u4.next:=fun j h=>by have:=Jq j h;omega
     refine LB.cN.dx A ua 1 1 (by kernel_rfl) (by kernel_rfl) ?_;have js:=aw.spare u4 1;have Fo:(spare u4 1).next=u4.next+1:=bu _ _;have Ya:aU (spare u4 1) 1 x l.length (ofBytes l):=(kA.keeps ku4).keeps js;have hrk:r*(h+n)+h+k<l.length:=by omega
     have fk:=Ya.indexAddr (P:=an) (k:= .i64) (x:=((r*(h+n)+h+k:aC):a0)) af cO (by omega) (by omega);rw[bb] at fk;have eF:=Ya.cu (P:=an) gQ hrk;rw[aW hrk] at eF;have hle:=LA.gh kA oO hrk;have i1:c5.wrap (((r*(h+n):aC):a0)+(h:a0))=((r*(h+n)+h:aC):a0):=by rw[aB (by omega)];omega
     have i2:c5.wrap (((r*(h+n)+h:aC):a0)+(k:a0))=((r*(h+n)+h+k:aC):a0):=by rw[aB (by omega)];omega
     simp(disch:=omega)only[aj,ak,bg,bn,et,ad,QM,WP,↓ab,hn,h1,h7,h8,h9,cJ,eC,i1,i2,Ya.self,UM,fk,eF,hle];refine(LS L _ T _ _ _ (TW D n c _) (QU D n _) (Nd D n c _)).mono ?_;rintro _ _ ⟨rfl,rfl⟩;refine⟨fun _=>LA.aw.qI ua (aw.refl _ _),?_⟩;have eg:il T (lz D n c (r*n+k)) (iL D n (r*n+k)) (fg D n c (r*n+k))=gs T D n c (r*n+k):=rfl;obtain⟨V,hV⟩:∃V,V=Ea ((((l.getD (r*(h+n)+h+k) 0).toNat:aC):a0)+gs T D n c (r*n+k)):=⟨_,rfl⟩
     have ew:fr.wrap ((((l.getD (r*(h+n)+h+k) 0).toNat:aC):a0)+fr.wrap (gs T D n c (r*n+k)))=((V.toNat:aC):a0):=by
      rw[hV,Ho,fO,fO];omega
     have vR:im l h n c (r*n+k+1)=D++[V]:=by
      have e1:(r*n+k)/n=r:=by rw[eV,Nat.mul_add_div (by omega),Nat.div_eq_of_lt Ri,e9]
      rw[im,hD.symm,e1,<-hT,hV];unfold NH;rw[e1,Nh Ri]
     simp(disch:=omega)only[aj,bg,bn,ee,ae,QM,WP,↓ab,hn,eg,a9 av bw,ew,gI af cO rU];refine LB.bR (base:=u4.next) (by rfl) (by omega) (cx _) ?_;intro bs u5 nj fM ku5 nu5 ou5;have k45:aw u4.next u4 u5:=js.trans ku5;simp(disch:=omega)only[aj,bn,ad,QM,WP,↓ab,hn];have akS:([Value.int .u8 ((V.toNat:aC):a0)]:bz ax).all aT=true:=by rfl
     refine LB.Fa af af (.inl ⟨_,rfl⟩) cO sm rU rfl ((aga.keeps k4).keeps k45) nj.aL.src rfl (by decide) akS (by omega) (by omega) (fun h=>cM rfl h) (fun i h=>by have:=ua i h;have:=k45.next;omega) ?_;intro o' u6 Cj hT6 akT;have n5:=k45.next;have n6:=hT6.next;simp(disch:=omega)only[aj,bg,bn,ee,QM,WP,↓ab,aj,QM,WP,↓ab,hn,eC,aB,Cj.self];refine ar (n-(k+1)) (by omega) ⟨k+1,o',rfl,by omega,?_,?_,?_,by simp only[ag,hn],by simp only[aa,↓ab,WP,h1],by simp only[aa,↓ab,WP,h2],by simp only[aa,↓ab,WP,h6],by simp only[aa,↓ab,WP,h7],by simp only[aa,↓ab,WP],by simp only[aa,↓ab,WP,h9],by simp only[aa,↓ab,WP,cJ],by simp only[aa,↓ab];rfl⟩
     ·rw[<-Nat.add_assoc,vR,ct];exact Cj
     ·rcases akT with e|⟨i,e1,e2⟩
      ·intro j hj;exact hF j (e▸hj)
      intro j hj;rw[e1] at hj;injection hj with hj;omega
     exact⟨by omega,fun j hj=>by rw[hT6.get j (by omega) (fun e=>by have:=hF _ e;omega),k45.get j (by omega),ku4.get j hj]⟩
    clear hn h1 h2 h6 h7 h8 h9 cJ ho hF f;rintro z f u ⟨rfl,o,ho,hF,hu,hn,h1,h2,h6,h7,h8,h9⟩;have e1:c5.wrap (((r*(h+n):aC):a0)+(n:a0))=((r*(h+n)+n:aC):a0):=by rw[aB (by omega)];omega
    have e2:c5.wrap (((r*(h+n)+n:aC):a0)+(h:a0))=(((r+1)*(h+n):aC):a0):=by rw[aB (by omega),hrs];omega
    simp(disch:=omega)only[aj,QM,WP,↓ab,hn,h6,h7,h9,e1,e2];exact ar (q-(r+1)) (by omega) ⟨r+1,o,rfl,by omega,Oo kI (by rw[<-hT];exact c4),by rw[abh];exact ho,hF,hu,by simp only[ag,hn],by simp only[aa,↓ab,WP,h1],by simp only[aa,↓ab,WP,h2],by simp only[aa,↓ab,WP,h6],by simp only[aa,↓ab,WP,h7],by simp only[aa,↓ab,WP,h8],by simp only[aa,↓ab]⟩
   by_cases ch:h=1
   ·have ch' :(h:a0)=1:=by omega
    have fk:=EY.indexAddr (P:=an) (k:= .i64) (x:=((r*(h+n):aC):a0)) af cO (by omega) (by omega);rw[bb] at fk;have eF:=EY.cu (P:=an) gQ (show r*(h+n)<l.length by omega);rw[aW (by omega)] at eF;have hTe:T=(((l.getD (r*(h+n)) 0).toNat:aC):a0):=by rw[hT];unfold NI;rw[bk ch]
    rw[<-hTe] at eF;simp(disch:=omega)only[aj,QM,WP,↓ab,hn,h1,h9,bq ch',fk,eF,a9 bw av,aB];exact go2 _ (by simp only[ag,hn]) (by simp only[aa,↓ab,WP,h1]) (by simp only[aa,↓ab,WP,h2]) (by simp only[aa,↓ab,WP,h6]) (by simp only[aa,↓ab,WP,h7]) (by simp only[aa,↓ab,WP,h8]) (by simp only[aa,↓ab,WP,h9]) (by simp only[aa,↓ab])
   have ch' :¬(h:a0)=1:=by omega
   have hTe:T=1:=by rw[hT];unfold NI;rw[a3 ch]
   simp(disch:=omega)only[aj,ao ch'];exact go2 _ (by simp only[ag,hn]) (by simp only[aa,↓ab,WP,h1]) (by simp only[aa,↓ab,WP,h2]) (by simp only[aa,↓ab,WP,h6]) (by simp only[aa,↓ab,WP,h7]) (by simp only[aa,↓ab,WP,h8]) (by simp only[aa,↓ab,WP,h9]) (by simp only[aa,↓ab,WP,hTe])
  clear hn h1 h2 h6 h7 f;rintro z f t (⟨rfl,hb,aF,hn,h4,h5⟩|⟨rfl,hb,o,ho,hF,aF,hn,h8⟩)
  ·rw[bk hb] at ep;simp(disch:=omega)only[aj,al,oneOf,QM,↓ab,hn,h4,h5,c6];rw[eK,ep];exact⟨_,rfl,⟨.nil,aM.nil _,Mm.trans (aF.weaken Mm.next)⟩⟩
  rw[a3 (by rw[hb];exact Bool.false_ne_true)] at ep;simp(disch:=omega)only[aj,al,oneOf,QM,WP,↓ab,hn,h8,c6];rw[eK,ep];exact⟨o,rfl,⟨by rw[gV];exact ho,fun j hj=>by have:=hF j hj;omega,Mm.trans (aF.weaken Mm.next)⟩⟩
 by_cases XO:10<=p
 ·rw[bk XO] at hh;simp(disch:=omega)only[aj,QM,↓ab,hn,bq XO];exact go _ (by simp only[ag,hn]) (by simp only[aa,↓ab,WP,h1]) (by simp only[aa,↓ab,WP]) (by simp only[aa,↓ab,WP]) (by simp only[aa,↓ab,hh];rfl)
 rw[a3 XO] at hh;simp(disch:=omega)only[aj,ao XO];exact go _ (by simp only[ag,hn]) (by simp only[aa,↓ab,WP,h1]) (by simp only[aa,↓ab,WP]) (by simp only[aa,↓ab,WP]) (by simp only[aa,↓ab,WP,hh];rfl)
end Go.Proofs.YtdfjfncifneocaaGreat
namespace Go.Proofs.YtdfjfncifneocaaGreat
open Go.Cl Go.Cl.Rw Go.Cl.Sto Go.Cl.Fx Go.Cl.Nf Go.Cl.Bt
theorem LU (s:au)(x:ax)(D:bz b5)(N:aC)(hx:aU s 1 x D.length (ofBytes D))(EE:D.length<=4000000)(M:a0)(hM:M<=100000000)(hN:8*D.length+1<N):
  Runs an dR 71 [x,.int .i64 M] s fun v s' =>af3 s v s' (ti N D M.toNat):=by
 refine Runs.enter 77 Tryz.func71 rfl rfl rfl rfl ?_;intro f hn hf;have h0:f.get 0=x:=hf 0;have h1:f.get 1= .int .i64 M:=hf 1;clear hf;obtain⟨R,hR⟩:∃R,R=ti N D M.toNat:=⟨_,rfl⟩
 rw[<-hR];unfold ti at hR;by_cases c1:D.length<2
 ·have d1:((D.length:aC):a0)<2:=by omega
  rw[bk c1] at hR;simp only[aj,al,oneOf,ad,QM,WP,↓ab,hn,h0,hx.aQ af,bq d1,ca];rw[hR];exact⟨rfl,aw.refl _ _⟩
 have d1:¬((D.length:aC):a0)<2:=by omega
 rw[a3 c1] at hR;have i0:=hx.indexAddr (P:=an) (k:= .i64) (x:=(0:a0)) af cO (by omega) (by omega);have i1:=hx.indexAddr (P:=an) (k:= .i64) (x:=(1:a0)) af cO (by omega) (by omega);rw[show(0:a0).toNat=0 from rfl] at i0;rw[show(1:a0).toNat=1 from rfl] at i1;have k0:=hx.cu (P:=an) gQ (k:=0) (by omega);have k1:=hx.cu (P:=an) gQ (k:=1) (by omega);rw[aW (show 0<D.length by omega)] at k0;rw[aW (show 1<D.length by omega)] at k1;have a8:=(D.getD 0 0).toNat_lt;have b8:=(D.getD 1 0).toNat_lt;generalize (D.getD 0 0).toNat=a at k0 a8 hR;generalize (D.getD 1 0).toNat=b at k1 b8 hR;have s4:dB an .shr 5 (.int .u8 (a:aC)) (.int .u64 4)=some (.int .u8 ((a/16:aC):a0)):=af4 _ _ .u64 a (k:=4) (by decide);have e30:(a:a0)*256=((a*256:aC):a0):=by omega
 have e31:((a*256:aC):a0)+(b:a0)=((a*256+b:aC):a0):=by omega
 by_cases b1:a%16=8;rotate_left
 ·have g1:¬((a%16:aC):a0)=8:=by omega
  rw[bk (.inl b1)] at hR;simp only[aj,ak,al,oneOf,ad,QM,WP,↓ab,undef,hn,h0,hx.aQ af,hx.self,ao d1,i0,k0,av,fY,E7 a8,ao g1,ca];rw[hR];exact⟨rfl,aw.refl _ _⟩
 have g1:((a%16:aC):a0)=8:=by omega
 by_cases b2:7<a/16
 ·have g2:((a/16:aC):a0)>7:=by omega
  rw[bk (.inr (.inl b2))] at hR;simp only[aj,ak,al,oneOf,ad,QM,WP,↓ab,undef,hn,h0,hx.aQ af,hx.self,ao d1,i0,k0,av,fY,E7 a8,g1,s4,bq g2,ca];rw[hR];exact⟨rfl,aw.refl _ _⟩
 have g2:¬((a/16:aC):a0)>7:=by omega
 by_cases b3:(a*256+b)%31=0;rotate_left
 ·have g3:¬(((a*256+b)%31:aC):a0)=0:=by omega
  rw[bk (.inr (.inr (.inl b3)))] at hR;simp(disch:=omega)only[aj,ak,al,oneOf,ad,QM,WP,↓ab,undef,hn,h0,hx.aQ af,hx.self,ao d1,i0,i1,k0,k1,av,fY,E7 a8,g1,s4,ao g2,a9 bw av,aB,e30,e31,dZ,H3,ao g3,ca];rw[hR];exact⟨rfl,aw.refl _ _⟩
 have g3:(((a*256+b)%31:aC):a0)=0:=by omega
 by_cases b4:b/32%2=0;rotate_left
 ·have g4:¬((b/32%2*32:aC):a0)=0:=by omega
  rw[bk (.inr (.inr (.inr b4)))] at hR;simp(disch:=omega)only[aj,ak,al,oneOf,ad,QM,WP,↓ab,hn,h0,hx.aQ af,hx.self,ao d1,i0,i1,k0,k1,av,fY,E7 a8,VH b8,g1,s4,ao g2,a9 bw av,aB,e30,e31,dZ,H3,g3,ao g4,ca];rw[hR];exact⟨rfl,aw.refl _ _⟩
 have g4:((b/32%2*32:aC):a0)=0:=by omega
 rw[a3 (by unfold LM;omega)] at hR;simp(disch:=omega)only[aj,ak,ad,ai,QM,WP,↓ab,hn,h0,h1,hx.aQ af,hx.self,ao d1,i0,i1,k0,k1,av,fY,E7 a8,VH b8,g1,s4,ao g2,a9 bw av,aB,e30,e31,dZ,H3,g3,g4,hx.qZ af cO];have kD:=ZM hx (by omega);refine(Jl (lib:=dR) rfl rfl rfl rfl rfl rfl rfl rfl rfl rfl rfl rfl rfl s _ (D.drop 2) N kD (by rw[ds];omega) M hM (by rw[ds];omega)).mono ?_;intro v s2 hB;cases hi:zk N (D.drop 2) M.toNat with
 |error e=>
  rw[hi] at hB hR;obtain⟨rfl,k2⟩:=hB;have he:=H2 hi;have g5:¬((e:aC):a0)=0:=by omega
  simp only[aj,ak,al,oneOf,QM,WP,↓ab,hn,KJ,KK,KL,ao g5,ca];rw[hR];exact⟨rfl,k2⟩
 |ok y=>
 obtain⟨q,P⟩:=y;rw[hi] at hB;obtain⟨o,rfl,ho,hoF,k2⟩:=hB;have hle:=EI hi;rw[ds] at hle;obtain⟨n,Fo⟩:∃n,n=(q+7)/8:=⟨_,rfl⟩
 rw[hi] at hR;dsimp only at hR;rw[<-Fo] at hR|-
 have kA:=hx.keeps k2;by_cases c2:D.length<2+n+4
 ·have g5:((D.length:aC):a0)-2-(n:aC)<4:=by omega
  rw[bk c2] at hR;simp(disch:=omega)only[aj,ak,al,oneOf,ad,QM,WP,↓ab,hn,h0,KJ,KK,KL,kA.aQ af,aB,bq g5,ca];rw[hR];exact⟨rfl,k2⟩
 have g5:¬((D.length:aC):a0)-2-(n:aC)<4:=by omega
 rw[a3 c2] at hR;have e3:(2:a0)+(n:aC)=((2+n:aC):a0):=by omega
 have e4:(6:a0)+(n:aC)=((2+n+4:aC):a0):=by omega
 simp(disch:=omega)only[aj,ak,ad,ai,QM,WP,↓ab,hn,h0,KJ,KK,KL,kA.aQ af,aB,ao g5,e3,e4,kA.G9 af cO];have ZN:=kA.IB (lo:=2+n) (hi:=2+n+4) (by omega) (by omega);rw[show 2+n+4-(2+n)=4 by omega] at ZN;have FK:((D.drop (2+n)).take 4).length<=4:=by rw[c8];omega
 refine(LN rfl s2 _ _ ZN (by omega)).mono ?_;rintro _ s3 ⟨rfl,rfl⟩;have m3:=Ei ((D.drop (2+n)).take 4) _ rfl;have m3:jM ((D.drop (2+n)).take 4)<4294967296:=cv m3 (dc (cz (by decide) FK) (by decide:256^4<=4294967296));generalize jM ((D.drop (2+n)).take 4)=g at m3 hR|-
 have hal:=Nu P;simp(disch:=omega)only[aj,ak,ad,QM,WP,↓ab,hn,a9 av Tryz.underlying117,nY];refine(Nv rfl rfl s3 o P ho.aL (by have:=hle.2;omega)).mono ?_;rintro _ s4 ⟨rfl,rfl⟩;by_cases c3:g=KN P;rotate_left
 ·have g6:¬((g:aC):a0)=((KN P:aC):a0):=by omega
  rw[a3 c3] at hR;simp(disch:=omega)only[aj,ak,al,oneOf,QM,WP,↓ab,hn,ao g6,ca];rw[hR];exact⟨rfl,k2⟩
 have g6:((g:aC):a0)=((KN P:aC):a0):=by omega
 rw[bk c3] at hR;have e6:((n:aC):a0)+6=((2+n+4:aC):a0):=by omega
 simp(disch:=omega)only[aj,ak,al,oneOf,QM,WP,↓ab,hn,g6,aB,e6,ca];rw[hR];exact⟨o,rfl,ho,hoF,k2⟩
end Go.Proofs.YtdfjfncifneocaaGreat
namespace Go.Cl
theorem sM {s:au}{z:aC}{v:ax}{n:aC}{l:bz ax}(h:aU s z v n l){b:aC}(hb:s.next<=b){k:aC}(hk:k<n):di b (some (aX z v k))=true:=by
 cases h with
 |nil=>omega
 |bare=>omega
 |of i off n c bl l hi hbb hz hl hc hlen eO ht=>simp only[aX,di,dt];omega
theorem LA.sM {A:aC->Bool}{s:au}{z:aC}{v:ax}{n:aC}{l:bz ax}(h:aU s z v n l)(hA:∀i,aI v=some i->A i=true){k:aC}(hk:k<n):LA.di A (some (aX z v k))=true:=by
 cases h with
 |nil=>omega
 |bare=>omega
 |of i off n c bl l hi hbb hz hl hc hlen eO ht=>simp only[aX,LA.di];exact hA i rfl
theorem aU.Ys {s s' :au}{z:aC}{v u:ax}{n:aC}{l:bz ax}(h:aU s z v n l)(k:bG u s s')(cE:∀i,aI u=some i->aI v≠some i):aU s' z v n l:=by
 cases h with
 |nil=>exact .nil
 |bare i off=>exact .bare i off
 |of i off n c b l hi hb hz hl hc hlen eO ht=>
  refine .of i off n c b l (cv hi k.next) ?_ hz hl hc hlen eO ht;simp only[au.bL,k.get i hi (fun e=>cE i e rfl)];exact hb
end Go.Cl
namespace Go.Proofs.YtdfjfncifneocaaGreat
open Go.Cl Go.Cl.Lz Go.Cl.Rw
theorem R7 {lib:aD}(hl:lib.at 121=none)(s:au)(x:ax)(b:bz b5)(p w:aC)(hx:aU s 1 x b.length (ofBytes b))(hb:b.length<=4000000)(hp:p<=8*b.length)(hw:w<=16):
  Runs an lib 121 [x,.int .i64 p,.int .i64 w] s fun v s' =>v= .int .i64 (if 8*b.length<p+w then(-1:a0) else((jN b p w:aC):a0))/\s' =s:=by
 refine Runs.enter 40 Tryz.func121 rfl hl rfl rfl ?_;intro f hn hf;have h0:f.get 0=x:=hf 0;have h1:f.get 1= .int .i64 p:=hf 1;have h2:f.get 2= .int .i64 w:=hf 2;clear hf;by_cases c1:8*b.length<p+w
 ·have wG:8*(b.length:a0)<(p:a0)+(w:a0):=by omega
  simp(disch:=omega)only[aj,al,oneOf,ad,QM,WP,↓ab,hn,h0,h1,h2,hx.aQ af,aB,bq wG,eB];rw[bk c1]
 have wG:¬8*(b.length:a0)<(p:a0)+(w:a0):=by omega
 rw[a3 c1];simp(disch:=omega)only[aj,ad,QM,WP,↓ab,hn,h0,h1,h2,hx.aQ af,aB,ao wG];refine Comes.bD (fun z f s' =>∃(k:aC),z=w-k/\k<=w/\s' =s/\f.n=40/\f.get 0=x/\f.get 1= .int .i64 p/\f.get 2= .int .i64 w/\f.get 7= .int .i64 (jN b p k:aC)/\f.get 8= .int .i64 ((p+k:aC):a0))
  (fun y f s' =>y= .exit 0/\s' =s/\f.n=40/\f.get 7= .int .i64 (jN b p w:aC))
  ⟨0,rfl,by omega,rfl,by simp only[ag,hn],by simp only[aa,↓ab,WP,h0],by simp only[aa,↓ab,WP,h1],by simp only[aa,↓ab,WP,h2],by simp only[aa,↓ab,WP];rfl,by simp only[aa,↓ab];rfl⟩ ?_ ?_
 ·clear hn h0 h1 h2 f;rintro Q hQ z f s2 ⟨k,rfl,hk,dA,hn,h0,h1,h2,h7,h8⟩;subst dA;by_cases hkw:k<w
  ·have c2:((p+k:aC):a0)<(p:a0)+(w:a0):=by omega
   have hi:(p+k)/8<b.length:=by omega
   have jv:=hx.indexAddr (k:= .i64) (x:=(((p+k)/8:aC):a0)) af cO (by omega) (by omega);rw[bb] at jv;have eF:=hx.cu (P:=an) gQ hi;rw[aW hi] at eF;have hm:(p+k)%8<8:=Nat.mod_lt _ (by omega);have e7:(7:a0)-(((p+k)%8:aC):a0)=((7-(p+k)%8:aC):a0):=by omega
   have h77:7-(p+k)%8<8:=by omega
   obtain⟨y,hy⟩:∃y,y=(b.getD ((p+k)/8) 0).toNat:=⟨_,rfl⟩
   have nh:y<256:=by rw[hy];exact(b.getD ((p+k)/8) 0).toNat_lt
   rw[<-hy] at eF;have hdiv:y/2^(7-(p+k)%8)<256:=Nat.lt_of_le_of_lt (Nat.div_le_self _ _) nh;have NK:y/2^(7-(p+k)%8)%2=tg b (p+k):=by rw[hy];rfl
   have m3:=Ep b (p+k);have hhl:=uQ b p k;have abp:2^k<=2^16:=cz (by omega) (by omega);have oh:=UH (n:=jN b p k) (d:=tg b (p+k)) (by omega) m3;have hand:=UG _ hdiv;rw[NK] at hand;have x9:c5.wrap ((tg b (p+k):aC):a0)=((tg b (p+k):aC):a0):=aB (by omega);have xx:jN b p k*2+tg b (p+k)=jN b p (k+1):=rfl;rw[xx] at oh;simp(disch:=omega)only[aj,QM,WP,↓ab,hn,h0,h1,h2,h7,h8,bq c2,Nq,Xn,gA,dZ,ae1,jv,eF,e7,a9 av eh,KP,aaP,fY,hand,a9 bw av,x9,kd,oh,aB];refine ar (w-(k+1)) (by omega) ⟨k+1,rfl,by omega,rfl,by simp only[aa,ag,↓ab,WP,hn,h0,h1,h2,eu];rfl⟩
  obtain rfl:k=w:=by omega
  have c2:¬((p+k:aC):a0)<(p:a0)+(k:a0):=by omega
  simp(disch:=omega)only[aj,QM,WP,↓ab,hn,h1,h2,h8,aB,ao c2];exact hQ _ _ _ ⟨rfl,rfl,by simp only[ag,hn],by simp only[aa,↓ab,WP,h7]⟩
 clear hn h0 h1 h2 f;rintro _ f s2 ⟨rfl,dA,hn,h7⟩;subst dA;simp only[aj,al,oneOf,QM,↓ab,hn,h7,eB]
structure nN (base:aC) (s:au) (i:aC) (B:ax) (l:bz b5) (most bad:a0):Prop where
 t:az s i [B,.int .i64 most,.int .i64 bad]
 o:Own s 1 B l.length (ofBytes l)
 f:aM base B
 ne:aI B≠some i
 lo:base<=i
theorem nN.is {base:aC}{s:au}{i:aC}{B:ax}{l:bz b5}{most bad:a0}(h:nN base s i B l most bad):gK base s i l most bad:=⟨B,h.t,h.o,h.f,h.ne,h.lo⟩
theorem Ax {lib:aD}(hl:lib.at 122=none)(base:aC)(s:au)(i:aC)(B:ax)(l:bz b5)(most e:a0)(hs:nN base s i B l most 0):
  Runs an lib 122 [.pointer (some ⟨i,0,some 4⟩),.int .i64 e] s fun v s' =>nN base s' i B l most e/\fK i B s B s' :=by
 refine Runs.enter 13 Tryz.func122 rfl hl rfl rfl ?_;intro f hn hf;have h0:f.get 0= .pointer (some ⟨i,0,some 4⟩):=hf 0;have h1:f.get 1= .int .i64 e:=hf 1;clear hf;have l2:=hs.t.load (P:=an) aP (off:=2) (c:=4) rfl (by simp);simp only[aj,ak,QM,WP,↓ab,hn,h0,h1,pG,l2];refine ba aV hs.t rfl (by simp) rfl ?_;intro s' Cj ow aF;simp only[aj,ah,Tryz.results122];exact⟨⟨Cj,hs.o.aK ow aF hs.ne,hs.f,hs.ne,hs.lo⟩,fK.put ow aF⟩
theorem R8 {lib:aD}(hl:lib.at 124=none)(base:aC)(s:au)(i:aC)(B:ax)(l:bz b5)(most bad:a0)(c:b5)(hs:nN base s i B l most bad)(hlen:l.length<4294967295):
  Runs an lib 124 [.pointer (some ⟨i,0,some 4⟩),.int .u8 c.toNat] s fun v s' =>∃B',nN base s' i B' (if bad=0/\(l.length:a0)<most then l++[c] else l) most (if bad=0/\most<=l.length then 7 else bad)/\fK i B s B' s' :=by
 obtain⟨ho,hB,hF,cE,hi⟩:=hs;refine Runs.enter 39 Tryz.func124 rfl hl rfl rfl ?_;intro f hn hf;have h0:f.get 0= .pointer (some ⟨i,0,some 4⟩):=hf 0;have h1:f.get 1= .int .u8 c.toNat:=hf 1;clear hf;have l2:=ho.load (P:=an) aP (off:=2) (c:=4) rfl (by simp);have l1:=ho.load (P:=an) aP (off:=1) (c:=4) rfl (by simp);have l0:=ho.load (P:=an) gJ (off:=0) (c:=4) rfl (by simp);have XS:=hB.aL;by_cases hb:bad=0
 ·subst hb;by_cases hm:most<=l.length
  ·have hm2:¬(l.length:a0)<most:=by omega
   simp only[aj,ak,ad,QM,WP,↓ab,hn,h0,pG,l2,XR,l1,NR,l0,XS.aQ af,XS.self,hm];refine ba aV ho rfl (by simp) rfl ?_;intro s' Cj ow aF;have l2' :=Cj.load (P:=an) aP (off:=2) (c:=4) rfl (by simp);simp only[aj,ak,ah,QM,WP,↓ab,hn,h0,pG,l2',hm2,dw,show¬(7:a0)=0 by decide];exact⟨B,⟨Cj,hB.aK ow aF cE,hF,cE,hi⟩,fK.put ow aF⟩
  have hm2:(l.length:a0)<most:=by omega
  simp only[aj,ak,ad,ae,QM,WP,↓ab,hn,h0,h1,pG,l2,XR,l1,NR,l0,XS.aQ af,XS.self,hm,gI af cO rU];refine cj af cO sm rU rfl hB (by simp only[aa,↓ab,WP]) (by decide) (by simp only[ag,hn];decide) (by simp only[ag,hn];decide) (by rfl) (by decide) rfl (by omega) (by omega) (base:=base) hF (by have:=ho.lt;omega) ?_;intro bs B' s2 lK zw fN Sp BP;have iV:=ho.turns Sp cE;simp only[aj,QM,WP,↓ab,hn,NR];have K4:aI B' ≠some i:=by
   rcases BP with e|⟨j,e,hj⟩
   ·rw[e];exact cE
   rw[e];intro q;injection q with q;have:=ho.lt;omega
  refine ba iA iV rfl (by simp) lK.aL.aT ?_;intro s3 wM oX bA;simp only[aj,ah,↓ab,hm2,dw];refine⟨B',⟨wM,?_,zw,K4,hi⟩,(fK.turns Sp BP).trans (fK.put oX bA)⟩;rw[ct,a1];exact lK.aK oX bA K4
 simp only[aj,ak,ah,QM,WP,↓ab,hn,h0,pG,l2,hb,dw];exact⟨B,⟨ho,hB,hF,cE,hi⟩,fK.refl _ _ _⟩
structure Gs (s:au) (i:aC) (B tv v:ax) (l:bz b5):Prop where
 tH:aU s 1 v l.length (ofBytes l)
 ni:aI v≠some i
 nb:∀k,aI B=some k->aI v≠some k
 nt:∀k,aI tv=some k->aI v≠some k
theorem Ay {s:au}{z:aC}{v:ax}{n:aC}{l:bz ax}(h:aU s z v n l)(hn:0<n):∀k,aI v=some k->k<s.next:=by
 intro k hk;cases h with
 |nil=>omega
 |bare=>omega
 |of i off n c b l hi hb hz hl hc hlen eO ht=>injection hk with hk;subst hk;exact hi
theorem Gs.sink {s s' :au}{i:aC}{B B' tv v:ax}{l:bz b5}(h:Gs s i B tv v l)(hl:l≠[])(k:fK i B s B' s'):Gs s' i B' tv v l:=by
 have BJ:0<l.length:=cd.mpr hl;have a7:=Ay h.tH BJ;refine⟨?_,h.ni,fun q hq=> ?_,h.nt⟩
 ·have hs:=h.tH;generalize hL:ofBytes l=M at hs;generalize hN:l.length=N at hs;have h1:=h.ni;have h2:=h.nb;cases hs with
  |nil=>exact .nil
  |bare i off=>exact .bare i off
  |of j off n c b m hi hb hz hl hc hlen eO ht=>
   refine .of j off _ c b _ (cv hi k.next) ?_ hz hl hc hlen eO ht;simp only[au.bL,k.get j hi (fun e=>h1 (by rw[<-e];rfl)) (fun e=>h2 j e rfl)];exact hb
 rcases k.id with e|⟨w,e,hw⟩
 ·rw[e] at hq;exact h.nb q hq
 rw[e] at hq;injection hq with hq;subst hq
 intro r;have:=a7 _ r;omega
theorem Gs.JG {s s1 s' :au}{i:aC}{B tv Oq v:ax}{l:bz b5}(h:Gs s i B tv v l)(hl:l≠[])(k1:aw s.next s s1)(k:bG tv s1 s')(fM:aI Oq=aI tv\/∃q,aI Oq=some q/\s1.next<=q):Gs s' i B Oq v l:=by
 have BJ:0<l.length:=cd.mpr hl;have a7:=Ay h.tH BJ;refine⟨(h.tH.keeps k1).Ys k h.nt,h.ni,h.nb,fun q hq=> ?_⟩;rcases fM with e|⟨w,e,hw⟩
 ·rw[e] at hq;exact h.nt q hq
 rw[e] at hq;injection hq with hq;subst hq
 intro r;have:=a7 _ r;have:=k1.next;omega
theorem Gs.stay {s s' :au}{i:aC}{B tv v:ax}{l:bz b5}(h:Gs s i B tv v l)(k:aw s.next s s'):Gs s' i B tv v l:=⟨h.tH.keeps k,h.ni,h.nb,h.nt⟩
end Go.Proofs.YtdfjfncifneocaaGreat
namespace Go.Cl
open Go.Cl.Rw
theorem Fe:wY (.slice none 0 0)=true:=rfl
theorem aU.notNil {s:au}{z:aC}{v:ax}{n:aC}{l:bz ax}(h:aU s z v n l)(hn:0<n):wY v=false:=by
 cases h with
 |nil=>omega
 |bare=>omega
 |of=>rfl
theorem Own.agb {s s' :au}{z:aC}{u:ax}{n:aC}{l:bz ax}{j:aC}{v v' :ax}(h:Own s z u n l)(k:fK j v s v' s')(h1:aI u≠some j)(h2:∀i,aI v=some i->aI u≠some i):Own s' z u n l:=by
 cases h with
 |nil=>exact .nil
 |of i n low l hi hb hl hlen=>
  refine .of i _ low _ (cv hi k.next) ?_ hl hlen;simp only[au.bL,k.get i hi (fun e=>h1 (by rw[<-e];rfl)) (fun e=>h2 i e rfl)];exact hb
theorem Yt {vs:bz ax}{w:ax}{k:aC}(h:k<vs.length):(vs++[w]).getD k undef=vs.getD k undef:=by
 rw[a2,a2,cL h]
theorem VN {vs:bz ax}{w:ax}:(vs++[w]).getD vs.length undef=w:=by
 rw[a2,dg (cx _),et];rfl
theorem VO {P:eI}{lib:aD}{cA cB:Code}{f:aZ}{s:au}{Q:AX->aZ->au->Prop}{b:Bool}(J:AX->aZ->au->Prop)(h1:∀Q' :AX->aZ->au->Prop,(∀y f' s',J y f' s' ->Q' y f' s')->WZ P lib cA cB f s Q' b)(h2:∀y f' s',J y f' s' ->Q y f' s'):WZ P lib cA cB f s Q b:=h1 Q h2
end Go.Cl
namespace Go.Proofs.YtdfjfncifneocaaGreat
open Go.Cl Go.Cl.Lz Go.Cl.Rw
theorem akX:dX an 22=some 24:=by kernel_rfl
theorem nN.stay {base:aC}{s s' :au}{i:aC}{B:ax}{l:bz b5}{most bad:a0}(h:nN base s i B l most bad)(k:aw s.next s s'):nN base s' i B l most bad:=⟨h.t.keeps k,h.o.keeps k,h.f,h.ne,h.lo⟩
structure rS (base:aC) (s:au) (i:aC) (B tv lv:ax) (T:bz (bz b5)) (L out:bz b5) (M bad:a0) (vs:bz ax):Prop where
 sink:nN base s i B out M bad
 JG:Own s 1 tv T.length vs
 vN:∀k r,T[k]?=some r->r≠[]/\Gs s i B tv (vs.getD k undef) r
 tf:aM base tv
 tn:aI tv≠some i
 tb:∀k,aI B=some k->aI tv≠some k
 last:(L=[]/\lv= .slice none 0 0)\/(L≠[]/\Gs s i B tv lv L)
section
variable {base:aC} {s s' :au} {i:aC} {B B' tv lv:ax} {T:bz (bz b5)} {L out K3:bz b5} {M bad mC:a0} {vs:bz ax}
theorem rS.akY (h:rS base s i B tv lv T L out M bad vs)(k:fK i B s B' s')(hs:nN base s' i B' K3 M mC):rS base s' i B' tv lv T L K3 M mC vs:=by
 refine⟨hs,h.JG.agb k h.tn (fun j hj=>h.tb j hj),fun q r hr=>⟨(h.vN q r hr).1,(h.vN q r hr).2.sink (h.vN q r hr).1 k⟩,h.tf,h.tn,fun q hq=> ?_,?_⟩
 ·rcases k.id with e|⟨w,e,hw⟩
  ·rw[e] at hq;exact h.tb q hq
  rw[e] at hq;injection hq with hq;subst hq
  intro r;have:=h.JG.ei _ r;omega
 rcases h.last with e|⟨e1,e2⟩
 ·exact .inl e
 exact .inr ⟨e1,e2.sink e1 k⟩
theorem rS.stay (h:rS base s i B tv lv T L out M bad vs)(k:aw s.next s s'):rS base s' i B tv lv T L out M bad vs:=by
 refine⟨h.sink.stay k,h.JG.keeps k,fun q r hr=>⟨(h.vN q r hr).1,(h.vN q r hr).2.stay k⟩,h.tf,h.tn,h.tb,?_⟩;rcases h.last with e|⟨e1,e2⟩
 ·exact .inl e
 exact .inr ⟨e1,e2.stay k⟩
theorem rS.Yu (h:rS base s i B tv lv T L out M bad vs):rS base s i B (.slice none 0 0) (.slice none 0 0) [] [] out M bad []:=
 ⟨h.sink,.nil,fun q r hr=>by simp at hr,aM.nil _,(fun e=>by cases e),(fun k _ e=>by cases e),.inl ⟨rfl,rfl⟩⟩
theorem rS.Ot {xv:ax}{X:bz b5}(h:rS base s i B tv lv T L out M bad vs)(hX:X≠[])(he:Gs s i B tv xv X):rS base s i B tv xv T X out M bad vs:=
 ⟨h.sink,h.JG,h.vN,h.tf,h.tn,h.tb,.inr ⟨hX,he⟩⟩
theorem rS.acd {s1:au}{Oq w:ax}{r:bz b5}(h:rS base s i B tv lv T L out M bad vs)(h1:aw s.next s s1)(ho:Own s' 1 Oq (T.length+1) (vs++[w]))(hf:aM base Oq)(ht:bG tv s1 s')(fM:aI Oq=aI tv\/∃q,aI Oq=some q/\s1.next<=q)
  (hr:r≠[]) (hw:Gs s' i B Oq w r):rS base s' i B Oq lv (T++[r]) L out M bad (vs++[w]):=by
 have Fw:vs.length=T.length:=by have:=h.JG.aL.length;omega
 have fL:=h.sink.stay h1;refine⟨⟨fL.t.turns ht h.tn,fL.o.turns ht (fun q hq=>h.tb q hq),fL.f,fL.ne,fL.lo⟩,by rw[a1];exact ho,fun q r' C0=> ?_,hf,?_,fun q hq=> ?_,?_⟩
 ·by_cases hq:q<T.length
  ·rw[cL hq] at C0;rw[Yt (by omega)];exact⟨(h.vN q r' C0).1,(h.vN q r' C0).2.JG (h.vN q r' C0).1 h1 ht fM⟩
  rw[dg (by omega)] at C0;cases hj:q-T.length with
  |succ m=>rw[hj] at C0;simp at C0
  |zero=>
   rw[hj] at C0;simp at C0;subst C0;rw[show q=vs.length by omega,VN];exact⟨hr,hw⟩
 ·rcases fM with e|⟨q,e,hq⟩
  ·rw[e];exact h.tn
  rw[e];intro j;injection j with j;have:=h.sink.t.lt;have:=h1.next;omega
 ·rcases fM with e|⟨j,e,hj⟩
  ·rw[e];exact h.tb q hq
  rw[e];intro n;injection n with n;have:=h.sink.o.ei _ hq;have:=h1.next;omega
 rcases h.last with e|⟨e1,e2⟩
 ·exact .inl e
 exact .inr ⟨e1,e2.JG e1 h1 ht fM⟩
end
theorem Gs.new {s s' :au}{i:aC}{B tv v:ax}{l:bz b5}(h:aU s' 1 v l.length (ofBytes l))(hi:i<s.next)(hB:∀k,aI B=some k->k<s.next)(ht:∀k,aI tv=some k->k<s.next)(hF:∀k,aI v=some k->s.next<=k):Gs s' i B tv v l:=
 ⟨h,fun e=>by have:=hF _ e;omega,fun k hk e=>by have:=hF _ e;have:=hB _ hk;omega,fun k hk e=>by have:=hF _ e;have:=ht _ hk;omega⟩
def agc (base:aC)(s:au)(i:aC)(x:ax)(b:bz b5)(mo:aC)(R:aC×bz b5)(z:aC)(f:aZ)(s' :au):Prop:=
 f.n=124/\f.get 0=x/\f.get 6= .pointer (some ⟨i,0,some 4⟩)/\aw base s s' /\((∃(B:ax) (out:bz b5) (bad:aC),bad≠0/\nN base s' i B out mo bad/\R=(bad,[]))\/
  (∃(p m:aC) (T:bz (bz b5)) (L out:bz b5) (B tv lv:ax) (vs:bz ax),rS base s' i B tv lv T L out mo 0 vs/\out.length<=mo/\T.length<=3838/\HD m T L out/\9*m<=p/\p<=8*b.length/\8*b.length<p+z/\dec b mo z p T L out=R/\f.get 7=tv/\f.get 8=lv/\f.get 9= .int .i64 ((258+T.length:aC):a0)/\f.get 10= .int .i64 (p:aC)))
def akZ (base:aC)(s:au)(i:aC)(x B tv lv:ax)(T:bz (bz b5))(L out:bz b5)(mo:aC)(vs:bz ax)(p c:aC)(y:AX)(f:aZ)(s' :au):Prop:=
 f.n=124/\f.get 0=x/\f.get 6= .pointer (some ⟨i,0,some 4⟩)/\f.get 7=tv/\f.get 8=lv/\f.get 9= .int .i64 ((258+T.length:aC):a0)/\f.get 10= .int .i64 (p:aC)/\aw base s s' /\
  ((y= .exit 1/\rowOf T L c=none/\nN base s' i B out mo 4)\/
   (y= .normal/\∃(X:bz b5) (xv:ax),rowOf T L c=some X/\X≠[]/\rS base s' i B tv lv T L out mo 0 vs/\Gs s' i B tv xv X/\f.get 13=xv))
theorem ZO (a b:ax):aH (.tuple #[a,b]) 0=some a:=rfl
theorem ZP (a b:ax):aH (.tuple #[a,b]) 1=some b:=rfl
end Go.Proofs.YtdfjfncifneocaaGreat
namespace Go.Proofs.YtdfjfncifneocaaGreat
open Go.Cl Go.Cl.Lz Go.Cl.Rw
theorem LV {lib:aD}(hl:lib.at 72=none)(y9:lib.at 120=none)(hlh:lib.at 121=none)(yf:lib.at 39=none)(sR:lib.at 122=none)(mA:lib.at 123=none)(tI:lib.at 124=none)
  (s:au) (x:ax) (b:bz b5) (most:a0) (mo:aC) (Rx:(if most<0 then 0 else most)=(mo:a0)) (hx:aU s 1 x b.length (ofBytes b)) (mI:b.length<=5000\/b.length<=4000000/\mo<=20000000):
  Runs an lib 72 [x,.int .i64 most] s (mv s.next s (y4 b mo).2 (y4 b mo).1):=by
 have hb:b.length<=4000000:=by omega
 obtain⟨base,yi⟩:∃base,base=s.next:=⟨_,rfl⟩
 obtain⟨R,hR⟩:∃R,R=y4 b mo:=⟨_,rfl⟩
 rw[<-hR,<-yi];have m3:base<=s.next:=by omega
 have JS:ML base s 1 x b.length (ofBytes b):=by rw[yi];exact hx.low
 refine Runs.enter 124 Tryz.func72 rfl hl rfl rfl ?_;intro f hn hf;have h0:f.get 0=x:=hf 0;have h1:f.get 1= .int .i64 most:=hf 1;clear hf;simp only[aj,ad,ae,QM,WP,↓ab,hn,h1,zc,Rx];refine aA ?_;intro s1 ho aF vR;obtain⟨i,hi⟩:∃i,i=s.next:=⟨_,rfl⟩
 rw[<-hi] at ho;have So:base<=i:=by omega
 simp only[aj,QM,eQ,↓ab,hn,eA,eD];refine Comes.de (agc base s i x b mo R)
  ⟨by simp only[ag,hn],by simp only[aa,↓ab,WP,h0],by simp only[aa,↓ab,WP,hi],by rw[yi];exact aF,.inr ⟨0,0,[],[],[],.slice none 0 0,.slice none 0 0,.slice none 0 0,[],⟨⟨ho,.nil,aM.nil _,(fun e=>by cases e),So⟩,.nil,(fun k r h=>by simp at h),aM.nil _,(fun e=>by cases e),(fun k h e=>by cases e),.inl ⟨rfl,rfl⟩⟩,by simp,by simp,⟨fun r h=>by simp at h,by simp,by simp⟩,by omega,by omega,(show 8*b.length<0+(8*b.length+1) by omega),hR.symm,by simp only[aa,↓ab,WP],by simp only[aa,↓ab,WP],by simp only[aa,↓ab,WP];rfl,by simp only[aa,↓ab];rfl⟩⟩ ?_
 clear hn h0 h1 f ho aF vR s1;rintro z f s2 ⟨hn,h0,h6,aF,⟨B,out,bad,fF,hs,hRb⟩|⟨p,m,T,L,out,B,tv,lv,vs,hD,Sz,Zg,hS,hm,hp,hz,ff,h7,h8,h9,cJ⟩⟩
 ·have ZQ:¬(bad:a0)=0:=by omega
  have l2:=hs.t.load (P:=an) aP (off:=2) (c:=4) rfl (by simp);simp only[aj,ak,ad,QM,WP,↓ab,hn,h6,pG,l2,ao ZQ];refine(cZ mA base s2 i out mo bad hs.is).mono ?_;rintro v s3 ⟨Bo,rfl,ho,hF,bA⟩;rw[a3 ZQ] at ho;simp only[aj,al,oneOf,QM,WP,↓ab,hn,ZO,ZP,eM];rw[hRb];exact⟨Bo,rfl,ho,hF,aF.trans bA⟩
 obtain⟨z,rfl⟩:∃y,z=y+1:=⟨z-1,by omega⟩
 have dr:base<=s2.next:=dc m3 aF.next;have l2:=hD.sink.t.load (P:=an) aP (off:=2) (c:=4) rfl (by simp);obtain⟨w,hw⟩:∃w,w=width (258+T.length):=⟨_,rfl⟩
 have Y4:=En (258+T.length);rw[<-hw] at Y4;have r8:out.length<=20000000:=by
  rcases mI with Uf|⟨-,Uf⟩
  ·have h1:=hS.out;have h2:m<=4444:=by omega
   have h3:m*m<=4444*4444:=dT h2 h2;omega
  omega
 simp only[aj,ak,ad,QM,WP,↓ab,hn,h6,h9,pG,l2];refine(NA y9 s2 (258+T.length)).mono ?_;rintro _ s3 ⟨rfl,iT⟩;subst iT;rw[<-hw];simp only[aj,ak,ad,QM,WP,↓ab,hn,h0,cJ];refine(R7 hlh s3 x b p w (JS.stay aF).aL (by omega) hp (by omega)).mono ?_;rintro _ s4 ⟨rfl,qi⟩;subst qi;by_cases c1:8*b.length<p+w
 ·rw[bk c1];have fe:=Hy (most:=mo) (k:=z) (last:=L) (out:=out) (by rw[<-hw];exact c1);rw[fe] at ff;have Hg:(-1:a0)<0:=by decide
  simp only[aj,ak,ad,QM,WP,↓ab,hn,h6,cJ,bq Hg];refine(Ax sR base s4 i B out mo 2 hD.sink).mono ?_;rintro _ s5 ⟨oE,k5⟩;simp only[aj,QM,WP,↓ab,hn];refine ar z (by omega) ⟨by simp only[ag,hn],by simp only[aa,↓ab,WP,h0],by simp only[aa,↓ab,WP,h6],aF.trans (k5.stay So hD.sink.f dr),.inl ⟨B,out,2,by decide,oE,ff.symm⟩⟩
 rw[a3 c1];obtain⟨c,hc⟩:∃c,c=jN b p w:=⟨_,rfl⟩
 have Gj:c<4096:=by
  rw[hc];have h1:=uQ b p w;have h2:2^w<=2^12:=cz (by omega) (by omega);omega
 rw[<-hc];have Hg:¬(c:a0)<0:=by omega
 by_cases k6:c=256
 ·have Zl:(c:a0)=256:=by omega
  have fe:=Hz (most:=mo) (k:=z) (last:=L) (out:=out) (by rw[<-hw];exact c1) (by rw[<-hw,<-hc];exact k6);rw[fe,<-hw] at ff;simp(disch:=omega)only[aj,QM,WP,↓ab,hn,cJ,ao Hg,bq Zl,aB];refine ar z (by omega) ⟨by simp only[ag,hn],by simp only[aa,↓ab,WP,h0],by simp only[aa,↓ab,WP,h6],aF,.inr ⟨p+w,m,[],[],out,B,_,_,[],hD.Yu,Sz,by simp,⟨fun r h=>by simp at h,by simp,hS.out⟩,by omega,by omega,by omega,ff,by simp only[aa,↓ab,WP],by simp only[aa,↓ab,WP],by simp only[aa,↓ab];rfl,by simp only[aa,↓ab,WP];rfl⟩⟩
 have Zl:¬(c:a0)=256:=by omega
 by_cases k7:c=257
 ·have Zk:(c:a0)=257:=by omega
  have fe:=yX (most:=mo) (k:=z) (last:=L) (out:=out) (by rw[<-hw];exact c1) (by rw[<-hw,<-hc];exact k7);rw[fe] at ff;simp only[aj,ak,ad,QM,WP,↓ab,hn,h6,cJ,ao Hg,ao Zl,bq Zk];refine(cZ mA base s4 i out mo 0 hD.sink.is).mono ?_;rintro v s5 ⟨Bo,rfl,ho,hF,oR⟩;rw[bk rfl] at ho;simp only[aj,al,oneOf,QM,WP,↓ab,hn,ZO,ZP,eM];rw[<-ff];exact⟨Bo,rfl,ho,hF,aF.trans oR⟩
 have Zk:¬(c:a0)=257:=by omega
 have fe:=vD (most:=mo) (k:=z) (last:=L) (out:=out) (by rw[<-hw];exact c1) (by rw[<-hw,<-hc]) k7 k6;rw[fe] at ff;clear fe;simp(disch:=omega)only[aj,QM,WP,↓ab,hn,cJ,ao Hg,ao Zl,ao Zk,aB];have ace:=hD.sink.o.ei;have acf:=hD.JG.ei;have hiI:=hD.sink.t.lt;refine VO (akZ base s i x B tv lv T L out mo vs (p+w) c) ?_ ?_
 ·intro Q' pR;by_cases k8:c<256
  ·have k8' :(c:a0)<256:=by omega
   have nD:rowOf T L c=some [c9 c]:=by unfold rowOf;rw[bk k8]
   simp(disch:=omega)only[aj,ae,QM,WP,↓ab,hn,bq k8',a9 av bw,fO,gI af cO rU];refine bc (by rfl) ?_;intro xv s5 V4 hFx Zt;have r6:aU s5 1 xv [c9 c].length (ofBytes [c9 c]):=by
    have e:ofBytes [c9 c]=[.int .u8 (c:aC)]:=by
     simp only[ofBytes,List.map_cons,List.map_nil,UInt8.toNat_ofNat',Nat.reducePow,Nat.mod_eq_of_lt k8]
    have e2:(c:a0)%256=(c:a0):=by omega
    rw[e2] at V4;rw[e];exact V4.aL
   simp(disch:=omega)only[aj,QM,↓ab,hn];exact pR _ _ _ ⟨by simp only[ag,hn],by simp only[aa,↓ab,WP,h0],by simp only[aa,↓ab,WP,h6],by simp only[aa,↓ab,WP,h7],by simp only[aa,↓ab,WP,h8],by simp only[aa,↓ab,WP,h9],by simp only[aa,↓ab,WP];rfl,aF.trans (Zt.weaken dr),.inr ⟨rfl,_,xv,nD,by simp,hD.stay Zt,Gs.new r6 hiI ace acf hFx,by simp only[aa,↓ab]⟩⟩
  have k8' :¬(c:a0)<256:=by omega
  by_cases hL:L=[]
  ·have O4:lv= .slice none 0 0:=by
    rcases hD.last with e|e
    ·exact e.2
    exact cM hL e.1
   have nD:rowOf T L c=none:=by unfold rowOf;rw[a3 k8,bk hL]
   have h8n:f.get 8= .slice none 0 0:=by rw[h8,O4]
   have vL:=(aU.nil (s:=s4) (z:=1)).yI (P:=an) af;rw[Fe] at vL;simp only[aj,ak,ad,QM,WP,↓ab,undef,hn,h6,h8n,ao k8',vL];refine(Ax sR base s4 i B out mo 4 hD.sink).mono ?_;rintro _ s5 ⟨oE,k5⟩;simp only[aj,QM,↓ab,hn];exact pR _ _ _ ⟨by simp only[ag,hn],by simp only[aa,↓ab,WP,h0],by simp only[aa,↓ab,WP,h6],by simp only[aa,↓ab,WP,h7],by simp only[aa,↓ab,WP,h8],by simp only[aa,↓ab,WP,h9],by simp only[aa,↓ab,WP];rfl,aF.trans (k5.stay So hD.sink.f dr),.inl ⟨rfl,nD,oE⟩⟩
  obtain⟨_,hE⟩:=hD.last.resolve_left (fun e=>hL e.1);have Yv:=cd.mpr hL;have vL:=hE.tH.yI (P:=an) af;rw[hE.tH.notNil Yv] at vL;by_cases k9:258+T.length<c
  ·have k9' :((258+T.length:aC):a0)<(c:a0):=by omega
   have nD:rowOf T L c=none:=by
    unfold rowOf;rw[a3 k8,a3 hL,a3 (by omega)]
    exact dP (by omega)
   simp only[aj,ak,ad,QM,WP,↓ab,undef,hn,h6,h8,h9,ao k8',vL,bq k9'];refine(Ax sR base s4 i B out mo 4 hD.sink).mono ?_;rintro _ s5 ⟨oE,k5⟩;simp only[aj,QM,↓ab,hn];exact pR _ _ _ ⟨by simp only[ag,hn],by simp only[aa,↓ab,WP,h0],by simp only[aa,↓ab,WP,h6],by simp only[aa,↓ab,WP,h7],by simp only[aa,↓ab,WP,h8],by simp only[aa,↓ab,WP,h9],by simp only[aa,↓ab,WP];rfl,aF.trans (k5.stay So hD.sink.f dr),.inl ⟨rfl,nD,oE⟩⟩
  have k9' :¬((258+T.length:aC):a0)<(c:a0):=by omega
  by_cases ka:c=258+T.length
  ·have ka' :(c:a0)=((258+T.length:aC):a0):=by omega
   have kb' :¬(4095:a0)<((258+T.length:aC):a0):=by omega
   have nD:rowOf T L c=some (L++L.take 1):=by unfold rowOf;rw[a3 k8,a3 hL,bk ka]
   simp only[aj,ak,QM,WP,↓ab,hn,h8,h9,ao k8',vL,ao k9',bq ka',ao kb'];refine cN.dx 1 (by kernel_rfl) (by kernel_rfl) ?_;have dI:=aw.spare s4 1;have hE4:=hE.tH.keeps dI;simp only[aj,ak,W5,ad,QM,WP,↓ab,hn,h8,hE.tH.self];refine(rC yf (spare s4 1) lv L hE4 (by have:=hS.last;omega)).mono ?_;rintro u t1 ⟨hu,Yw,aY⟩;rw[bu] at aY Yw;have fL:aw s4.next (spare s4 1) t1:=aY.weaken (by omega);have VP:=dI.trans fL;refine⟨fL,?_⟩;have Cv:=hE.tH.keeps VP;have jv:=Cv.indexAddr (k:= .i64) (x:=(0:a0)) af cO (by omega) (by omega);rw[show fV 0=0 from rfl] at jv;have eF:=Cv.cu (P:=an) gQ Yv;rw[aW Yv] at eF;have iw:=sM hE.tH (cx _) Yv;simp only[aj,W5,ae,QM,↓ab,hn,jv,eF,iw,gI af cO rU];have gG:=aY.next;rw[bu] at gG;refine bR (base:=s4.next) (by rfl) (by omega) (cx _) ?_;intro bs t2 nj VQ vq W9 Rz;have rT:Own t2 1 u L.length (ofBytes L):=hu.turns (u:=bs) ⟨by omega,fun j _ cE=>Rz j (fun e=>cE (by rw[VQ,e]))⟩ (fun j hj=>by rw[VQ];intro e;injection e with e;have:=Yw j hj;omega);simp only[aj,W5,ad,QM,WP,↓ab,hn];refine eY af af (.inl ⟨_,rfl⟩) cO sm rU rfl rT nj.aL.src rfl (by decide) rfl (by have:=hS.last;omega) (by have:=hS.last;omega) (fun j hj=>by have:=Yw j hj;omega) (by omega) ?_;intro xv t3 V4 hFx Zt htx anh;have bA:=(VP.trans vq).trans Zt;have r6:aU t3 1 xv (L++L.take 1).length (ofBytes (L++L.take 1)):=by
    have e:L.take 1=[L.getD 0 0]:=lA Yv;rw[e,ct,a1];exact V4.aL
   simp only[aj,W5,QM,↓ab,hn,V4.self];exact pR _ _ _ ⟨by simp only[ag,hn],by simp only[aa,↓ab,WP,h0],by simp only[aa,↓ab,WP,h6],by simp only[aa,↓ab,WP,h7],by simp only[aa,↓ab,WP,h8],by simp only[aa,↓ab,WP,h9],by simp only[aa,↓ab,WP];rfl,aF.trans (bA.weaken dr),.inr ⟨rfl,_,xv,nD,by simp[hL],hD.stay bA,Gs.new r6 hiI ace acf hFx,by simp only[aa,↓ab]⟩⟩
  have ka' :¬(c:a0)=((258+T.length:aC):a0):=by omega
  have hct:c-258<T.length:=by omega
  have nD:rowOf T L c=T[c-258]?:=by unfold rowOf;rw[a3 k8,a3 hL,a3 ka]
  simp only[aj,ak,QM,WP,↓ab,undef,hn,h7,h8,h9,ao k8',vL,ao k9',ao ka'];have kP:=b7 hct;rw[kP] at nD;obtain⟨Zh,hEr⟩:=hD.vN _ _ kP;have ec:(c:a0)-258=((c-258:aC):a0):=by omega
  have jv:=hD.JG.aL.indexAddr (k:= .i64) (x:=((c-258:aC):a0)) c0 iA (by omega) (by omega);rw[bb] at jv;have eF:=hD.JG.aL.cu (P:=an) gJ hct;simp(disch:=omega)only[aj,QM,↓ab,hn,aB,ec,jv,eF];exact pR _ _ _ ⟨by simp only[ag,hn],by simp only[aa,↓ab,WP,h0],by simp only[aa,↓ab,WP,h6],by simp only[aa,↓ab,WP,h7],by simp only[aa,↓ab,WP,h8],by simp only[aa,↓ab,WP,h9],by simp only[aa,↓ab,WP];rfl,aF,.inr ⟨rfl,_,_,nD,Zh,hD,hEr,by simp only[aa,↓ab]⟩⟩
 rintro y f s5 ⟨hn,h0,h6,h7,h8,h9,cJ,oR,⟨rfl,nD,oE⟩|⟨rfl,X,xv,nD,NQ,B4,Cv,mY⟩⟩
 ·rw[nD] at ff;simp only[aj,WP,↓ab];refine ar z (by omega) ⟨by simp only[hn],by simp only[h0],by simp only[h6],oR,.inl ⟨B,out,4,by decide,oE,ff.symm⟩⟩
 rw[nD] at ff;simp only at ff;rw[<-hw] at ff;have hXp:=cd.mpr NQ;have Wp:HD (m+1) (grow T L X) X (out++X):=(hS.row nD).elim (fun e=>e.1) (fun e=>cM e NQ);have Sy:=Wp.last;clear hD ace acf hiI l2;simp only[aj,QM,↓ab,hn];refine Comes.bD (fun y f s' =>∃(k:aC) (B' :ax) (o' :bz b5) (mC:a0),y=X.length-k/\k<=X.length/\rS base s' i B' tv lv T L o' mo mC vs/\Gs s' i B' tv xv X/\((mC=0/\o' =out++X.take k/\out.length+k<=mo)\/(mC=7/\mo<out.length+X.length/\o'.length<=out.length+X.length))/\aw base s s' /\f.n=124/\f.get 0=x/\f.get 6= .pointer (some ⟨i,0,some 4⟩)/\f.get 7=tv/\f.get 8=lv/\f.get 9= .int .i64 ((258+T.length:aC):a0)/\f.get 10= .int .i64 ((p+w:aC):a0)/\f.get 13=xv/\f.get 14= .int .i64 (k:aC))
  (fun y f s' =>y= .exit 3/\∃(B' :ax) (o' :bz b5) (mC:a0),rS base s' i B' tv lv T L o' mo mC vs/\Gs s' i B' tv xv X/\((mC=0/\o' =out++X/\out.length+X.length<=mo)\/(mC=7/\mo<out.length+X.length))/\aw base s s' /\f.n=124/\f.get 0=x/\f.get 6= .pointer (some ⟨i,0,some 4⟩)/\f.get 7=tv/\f.get 8=lv/\f.get 9= .int .i64 ((258+T.length:aC):a0)/\f.get 10= .int .i64 ((p+w:aC):a0)/\f.get 13=xv)
  ⟨0,B,out,0,rfl,by omega,B4,Cv,.inl ⟨rfl,by simp,by omega⟩,oR,by simp only[aa,ag,↓ab,WP,hn,h0,h6,h7,h8,h9,cJ,mY,eu];rfl⟩ ?_ ?_
 ·clear hn h0 h6 h7 h8 h9 cJ mY f B4 Cv oR s5;rintro Q hQ y f s5 ⟨k,B',o',mC,rfl,hk,B4,Cv,fF,oR,hn,h0,h6,h7,h8,h9,cJ,mY,pO⟩;by_cases hkX:k<X.length
  ·have ck:(k:a0)<(X.length:a0):=by omega
   have jv:=Cv.tH.indexAddr (k:= .i64) (x:=(k:a0)) af cO (by omega) (by omega);rw[bb] at jv;have eF:=Cv.tH.cu (P:=an) gQ hkX;rw[aW hkX] at eF;simp only[aj,ak,ad,QM,WP,↓ab,hn,h6,mY,pO,Cv.tH.aQ af,bq ck,jv,eF];have Ms:o'.length<4294967295:=by
    rcases fF with ⟨_,e,_⟩|⟨_,_,e⟩
    ·rw[e,a1,c8];omega
    omega
   refine(R8 tI base s5 i B' o' mo mC (X.getD k 0) B4.sink Ms).mono ?_;rintro _ s6 ⟨B6,hs6,k6⟩;have cU:=oR.trans (k6.stay So B4.sink.f (dc m3 oR.next));simp(disch:=omega)only[aj,QM,WP,↓ab,hn,pO,aB];refine ar (X.length-(k+1)) (by omega) ⟨k+1,B6,_,_,rfl,by omega,B4.akY k6 hs6,Cv.sink NQ k6,?_,cU,by simp only[ag,hn],by simp only[aa,↓ab,WP,h0],by simp only[aa,↓ab,WP,h6],by simp only[aa,↓ab,WP,h7],by simp only[aa,↓ab,WP,h8],by simp only[aa,↓ab,WP,h9],by simp only[aa,↓ab,WP,cJ],by simp only[aa,↓ab,WP,mY],by simp only[aa,↓ab];rfl⟩;rcases fF with ⟨rfl,rfl,hle⟩|⟨rfl,a7,hle⟩
   ·have Sx:(out++X.take k).length=out.length+k:=by rw[a1,c8];omega
    rw[Sx];by_cases cm:out.length+k<mo
    ·refine .inl ⟨a3 (by omega),?_,by omega⟩;rw[bk ⟨rfl,by omega⟩,lA hkX,ev]
    refine .inr ⟨bk ⟨rfl,by omega⟩,by omega,?_⟩;rw[a3 (by omega)];omega
   refine .inr ⟨a3 (by omega),a7,?_⟩;rw[a3 (by omega)];exact hle
  obtain rfl:k=X.length:=by omega
  have ck:¬(X.length:a0)<(X.length:a0):=by omega
  simp only[aj,ad,QM,WP,↓ab,hn,mY,pO,Cv.tH.aQ af,ao ck];refine hQ _ _ _ ⟨rfl,B',o',mC,B4,Cv,?_,oR,by simp only[aa,ag,↓ab,WP,hn,h0,h6,h7,h8,h9,cJ,mY,and_self]⟩;rcases fF with ⟨e1,e2,e3⟩|⟨e1,e2,e3⟩
  ·exact .inl ⟨e1,by rw[e2,List.take_of_length_le (cx _)],e3⟩
  exact .inr ⟨e1,e2⟩
 clear hn h0 h6 h7 h8 h9 cJ mY f B4 Cv oR s5;rintro _ f s5 ⟨rfl,B5,o5,ak5,B4,Cv,fF,oR,hn,h0,h6,h7,h8,h9,cJ,mY⟩;have Uf:=dc m3 oR.next;have fin:∀(f:aZ) (s6:au) (Oq:ax) (Ju:bz ax) (T' :bz (bz b5)),T' =grow T L X->rS base s6 i B5 Oq xv T' X o5 mo ak5 Ju->aw base s s6->f.n=124->f.get 0=x->f.get 6= .pointer (some ⟨i,0,some 4⟩)->f.get 7=Oq->f.get 8=xv->f.get 9= .int .i64 ((258+T'.length:aC):a0)->f.get 10= .int .i64 ((p+w:aC):a0)->agc base s i x b mo R z f s6:=by
  intro f s6 Oq Ju T' hT' wz cU g g0 g6 g7 g8 g9 g10;refine⟨g,g0,g6,cU,?_⟩;rcases fF with ⟨e1,e2,e3⟩|⟨e1,e2⟩
  ·rw[a3 (by omega)] at ff;rw[e1,e2] at wz;refine .inr ⟨p+w,m+1,T',X,out++X,B5,Oq,xv,Ju,wz,by rw[a1];exact e3,by rw[hT'];exact Po Zg L X,by rw[hT'];exact Wp,by omega,by omega,by omega,by rw[hT'];exact ff,g7,g8,g9,g10⟩
  rw[bk e2] at ff;rw[e1] at wz;exact .inl ⟨B5,o5,7,by decide,wz.sink,ff.symm⟩
 by_cases gr:L≠[]/\258+T.length<4096
 ·have hgr:T++[L++X.take 1]=grow T L X:=by unfold grow;rw[bk gr]
  obtain⟨hL,hT4⟩:=gr;obtain⟨_,hE⟩:=B4.last.resolve_left (fun e=>hL e.1);have Yv:=cd.mpr hL;have vL:=hE.tH.IC (P:=an) af;rw[hE.tH.notNil Yv] at vL;have cT:((258+T.length:aC):a0)<4096:=by omega
  simp only[aj,ak,QM,WP,↓ab,hn,h8,h9,vL,bq cT];obtain⟨A,hA⟩:∃A:aC->Bool,A=fun j=>fs j s5.next&& !(decide (aI tv=some j)):=⟨_,rfl⟩
  have gu:∀j,A j=true->j<s5.next:=by
   intro j h;rw[hA] at h;simp only[cp,dt] at h;exact h.1
  have hAt:∀j,aI tv=some j->A j=false:=by
   intro j h;rw[hA];simp only[h,decide_true,Bool.not_true,Bool.and_false]
  have hAx:∀j,aI xv=some j->A j=true:=by
   intro j h;have h1:=Ay Cv.tH hXp j h;have h2:aI tv≠some j:=fun e=>Cv.nt j e h
   rw[hA];simp only[cp,dt];refine⟨h1,?_⟩;rw[dv h2];rfl
  refine LA.cN.dx A gu 2 (by kernel_rfl) (by kernel_rfl) ?_;have dI:=aw.spare s5 2;simp only[aj,ak,bg,QI,ad,QM,WP,↓ab,hn,h7,h8,mY,hE.tH.self,B4.JG.self];refine(rC yf (spare s5 2) lv L (hE.tH.keeps dI) (by have:=hS.last;omega)).mono ?_;rintro u t1 ⟨hu,Yw,aY⟩;rw[bu] at aY Yw;have fL:aw s5.next (spare s5 2) t1:=aY.weaken (by omega);have VP:=dI.trans fL;have gG:=aY.next;rw[bu] at gG;refine⟨LA.aw.qI (n:=s5.next+2) (fun j hj=>by have:=gu j hj;omega) aY,?_⟩;have hX1:=Cv.tH.keeps VP;have jv:=hX1.indexAddr (k:= .i64) (x:=(0:a0)) af cO (by omega) (by omega);rw[show fV 0=0 from rfl] at jv;have eF:=hX1.cu (P:=an) gQ hXp;rw[aW hXp] at eF;have iw:=LA.sM Cv.tH hAx hXp;simp only[aj,bg,QI,ae,QM,↓ab,hn,Cv.tH.self,jv,eF,iw,gI af cO rU];refine LA.bR (base:=s5.next) (by rfl) (by omega) (cx _) ?_;intro bs t2 nj VQ vq W9 Rz;have rT:Own t2 1 u L.length (ofBytes L):=hu.turns (u:=bs) ⟨by omega,fun j _ cE=>Rz j (fun e=>cE (by rw[VQ,e]))⟩ (fun j hj=>by rw[VQ];intro e;injection e with e;have:=Yw j hj;omega);simp only[aj,QI,ad,QM,WP,↓ab,hn];refine LA.eY af af (.inl ⟨_,rfl⟩) cO sm rU rfl rT nj.aL.src rfl (by decide) rfl (by have:=hS.last;omega) (by have:=hS.last;omega) (base:=s5.next+2) Yw (by omega) (fun j hj=> ?_) (fun j hj=>by have:=gu j hj;omega) ?_
  ·have:=Yw j hj;cases hAj:A j with
   |false=>rfl
   |true=>have:=gu j hAj;omega
  intro w3 t3 Q8 Bq iT jE B1;have age:aw s5.next t2 t3:=jE.keeps (fun j hj=>by have:=Yw j hj;omega) (by omega);have Ga:=age.next;simp only[aj,QI,ae,QM,↓ab,hn,W3 c0 iA zSl rfl ⟨_,rfl⟩ Q8.aL.sZ];refine LA.bR (base:=s5.next) (by rfl) (by omega) (by omega) ?_;intro bt t4 zC agf qi uF BI;have Pg:Own t4 1 w3 (L.length+1) (ofBytes L++[.int .u8 (X.getD 0 0).toNat]):=Q8.turns (u:=bt) ⟨by omega,fun j _ cE=>BI j (fun e=>cE (by rw[agf,e]))⟩ (fun j hj=>by rw[agf];intro e;injection e with e;have:=Bq j hj;omega);have eP:=((VP.trans vq).trans age).trans qi;have hD4:=B4.stay eP;simp only[aj,QI,ad,QM,WP,↓ab,hn];refine LA.eY c0 c0 (.inl ⟨_,rfl⟩) iA akX zSl rfl hD4.JG zC.aL.src rfl (by decide) (by simp only[List.all_cons,List.all_nil,Bool.and_true];exact Q8.aL.aT) (by omega) (by omega) (base:=base) B4.tf (by omega) hAt (fun j hj=>by have:=gu j hj;omega) ?_;intro tv5 t5 agh Gn oE py acg;have hw5:=Pg.turns py (fun j hj e=>by have:=Bq j hj;have:=B4.JG.ei _ e;omega);have eX:X.take 1=[X.getD 0 0]:=lA hXp;have hLX:aU t5 1 w3 (L++X.take 1).length (ofBytes (L++X.take 1)):=by
   rw[eX,ct,a1];exact hw5.aL
  have hEw:Gs t5 i B5 tv5 w3 (L++X.take 1):=⟨hLX,fun e=>by have:=Bq _ e;have:=B4.sink.t.lt;omega,fun j hj e=>by have:=Bq _ e;have:=B4.sink.o.ei _ hj;omega,fun j hj e=>by
   rcases acg with q|⟨q1,q2,q3⟩
   ·rw[q] at hj;have:=Bq _ e;have:=B4.JG.ei _ hj;omega
   rw[q2] at hj;injection hj with hj;subst hj
   have:=Pg.ei _ e;omega⟩
  have wz:=B4.acd eP agh Gn py acg (by simp[hL]) hEw;have hE6:=Cv.JG NQ eP py acg;have cU:=(oR.trans (eP.weaken Uf)).trans (py.keeps B4.tf (dc Uf eP.next));simp(disch:=omega)only[aj,bg,QI,QM,WP,↓ab,hn,h9,mY,agh.self,aB];refine ar z (by omega) (fin _ _ tv5 _ _ hgr (wz.Ot NQ hE6) cU (by simp only[ag,hn]) (by simp only[aa,↓ab,WP,h0]) (by simp only[aa,↓ab,WP,h6]) (by simp only[aa,↓ab,WP]) (by simp only[aa,↓ab]) ?_ (by simp only[aa,↓ab,WP,cJ]));simp only[aa,↓ab,WP]
  congr 1
  simp only[a1,List.length_singleton];omega
 have hgr:T=grow T L X:=by unfold grow;rw[a3 gr]
 by_cases hL:L=[]
 ·have O4:lv= .slice none 0 0:=by
   rcases B4.last with e|e
   ·exact e.2
   exact cM hL e.1
  have h8n:f.get 8= .slice none 0 0:=by rw[h8,O4]
  have vL:=(aU.nil (s:=s5) (z:=1)).IC (P:=an) af;rw[Fe] at vL;simp only[aj,ak,QM,WP,↓ab,undef,hn,h8n,mY,vL];exact ar z (by omega) (fin _ _ tv _ _ hgr (B4.Ot NQ Cv) oR (by simp only[ag,hn]) (by simp only[aa,↓ab,WP,h0]) (by simp only[aa,↓ab,WP,h6]) (by simp only[aa,↓ab,WP,h7]) (by simp only[aa,↓ab]) (by simp only[aa,↓ab,WP,h9]) (by simp only[aa,↓ab,WP,cJ]))
 obtain⟨_,hE⟩:=B4.last.resolve_left (fun e=>hL e.1);have Yv:=cd.mpr hL;have vL:=hE.tH.IC (P:=an) af;rw[hE.tH.notNil Yv] at vL;have cT:¬((258+T.length:aC):a0)<4096:=by
  intro e;exact gr ⟨hL,by omega⟩
 simp only[aj,ak,QM,WP,↓ab,hn,h8,h9,mY,vL,ao cT];exact ar z (by omega) (fin _ _ tv _ _ hgr (B4.Ot NQ Cv) oR (by simp only[ag,hn]) (by simp only[aa,↓ab,WP,h0]) (by simp only[aa,↓ab,WP,h6]) (by simp only[aa,↓ab,WP,h7]) (by simp only[aa,↓ab]) (by simp only[aa,↓ab,WP,h9]) (by simp only[aa,↓ab,WP,cJ]))
end Go.Proofs.YtdfjfncifneocaaGreat
namespace Go.Proofs.YtdfjfncifneocaaGreat
open Go.Cl Go.Cl.Uh
theorem qn {l:bz b5}{i:aC}(h:i<l.length):l.drop i=l.getD i 0::l.drop (i+1):=by
 rw[List.drop_eq_getElem_cons h];simp[List.getD,b7 h]
theorem Ou {lib:aD}(hl:lib.at 73=none)(y9:lib.at 125=none)(eF:lib.at 126=none)(sR:lib.at 122=none)(mA:lib.at 123=none)(tI:lib.at 124=none)
  (s:au) (x:ax) (l:bz b5) (most M:a0) (Rx:(if most<0 then 0 else most)=M) (hx:aU s 1 x l.length (ofBytes l)) (hlen:l.length<=4000000):
  Runs an lib 73 [x,.int .i64 most] s (mv s.next s (Bu M l (-1) []).1 (Bu M l (-1) []).2):=by
 refine Runs.enter 74 Tryz.func73 rfl hl rfl rfl ?_;intro f hn hf;have h0:f.get 0=x:=hf 0;have h1:f.get 1= .int .i64 most:=hf 1;clear hf;simp only[aj,ad,ae,QM,WP,↓ab,hn,h1,zc,Rx];refine aA ?_;intro s1 ho aF vR;obtain⟨j,hj⟩:∃j,j=s.next:=⟨_,rfl⟩
 rw[<-hj] at ho;simp only[aj,QM,eQ,↓ab,hn,eA,eD];refine Comes.de (fun q f s' =>∃(i:aC) (P:bz b5) (bad h:a0),q=(if bad=0 then l.length+1-i else 0)/\(bad=0->i<=l.length/\P.length<=i/\h<16/\Bu M (l.drop i) h P=Bu M l (-1) [])/\(bad≠0->Bu M l (-1) []=([],bad))/\gK s.next s' j P M bad/\aw s.next s s' /\f.n=74/\f.get 0=x/\f.get 6= .pointer (some ⟨j,0,some 4⟩)/\f.get 7= .int .i64 h/\f.get 8= .int .i64 i)
  ⟨0,[],0,-1,rfl,fun _=>⟨by omega,by simp,by omega,rfl⟩,fun h=>cM rfl h,⟨_,ho,.nil,aM.nil _,(by intro h;cases h),by omega⟩,aF,by simp only[aa,ag,↓ab,WP,hn,h0,hj,eu];rfl⟩ ?_
 clear hn h0 h1 f ho aF vR s1;rintro q f s1 ⟨i,P,bad,h,rfl,kI,fF,nJ,aF,hn,h0,h6,h7,h8⟩;have kU:=hx.keeps aF;obtain⟨B,Rz,hB,hF,cE,Ma⟩:=id nJ;have l2:=Rz.load (P:=an) aP (off:=2) (c:=4) rfl (by simp);have hex:(bad=0->l.length<=i)->Bu M l (-1) []=([],if bad=0 then 2 else bad):=by
  intro hi;by_cases mI:bad=0
  ·obtain⟨_,_,_,h4⟩:=kI mI;rw[List.drop_eq_nil_of_le (hi mI)] at h4;rw[<-h4,bk mI];rfl
  rw[a3 mI];exact fF mI
 by_cases a7:i<l.length
 ·have BO:(i:a0)<l.length:=by omega
  by_cases hb:bad=0
  ·obtain⟨hi,hPi,abp,hu⟩:=kI hb;clear kI fF hex;subst hb;rw[qn a7] at hu;obtain⟨c,hc⟩:∃c,c=l.getD i 0:=⟨_,rfl⟩
   rw[<-hc,Bu] at hu;have NW:=c.toNat_lt;have hq:l.length+1-(i+1)<(if(0:a0)=0 then l.length+1-i else 0):=by rw[bk rfl];omega
   have XM:0<(if(0:a0)=0 then l.length+1-i else 0):=by rw[bk rfl];omega
   simp(disch:=omega)only[aj,ak,ad,QM,WP,↓ab,hn,h0,h6,h8,bq BO,kU.aQ af,pG,l2,kU.indexAddr af cO,kU.cu gQ,aW,<-hc,a9 bw av,aB];refine(pH y9 s1 _).mono ?_;rintro _ s1 ⟨rfl,rfl⟩;by_cases hw:dY c.toNat=true
   ·rw[bk hw] at hu;simp(disch:=omega)only[aj,QM,WP,↓ab,hn,h8,hw,aB];refine ar (l.length+1-(i+1)) hq ⟨i+1,P,0,h,rfl,fun _=>⟨by omega,by omega,abp,hu⟩,fun h=>cM rfl h,nJ,aF,by simp only[ag,hn],by simp only[aa,↓ab,WP,h0],by simp only[aa,↓ab,WP,h6],by simp only[aa,↓ab,WP,h7],by simp only[aa,↓ab];rfl⟩
   rw[a3 hw] at hu;simp only[ey] at hw;by_cases zA:(c.toNat:a0)=62
   ·rw[bk zA] at hu;by_cases hh:h<0
    ·have hh' :¬0<=h:=by omega
     rw[bk hh] at hu;simp only[aj,ak,ad,QM,WP,↓ab,hn,h6,h7,hw,bq zA,ao hh'];refine(cZ mA s.next s1 j P M _ nJ).mono ?_;rintro _ s3 ⟨B2,rfl,kQ,ig,bA⟩;simp only[aj,al,oneOf,QM,WP,↓ab,hn,aH,cg,cb,cc,<-hu,c7];exact⟨_,rfl,kQ,ig,aF.trans bA⟩
    have hh' :0<=h:=by omega
    rw[a3 hh] at hu;obtain⟨n,rfl⟩:∃n:aC,h=n:=⟨h.toNat,by omega⟩
    rw[bb] at hu;have hv:((n:a0)*16)%256=((Bs (n*16)).toNat:a0):=by rw[vF (by omega)];omega
    simp(disch:=omega)only[aj,ak,ad,QM,WP,↓ab,hn,h6,h7,hw,bq zA,bq hh',aB,a9 av bw,fO,hv];refine(ji tI s.next s1 j P M 0 _ nJ (by omega)).mono ?_;rintro _ s2 ⟨gH,aR⟩;simp only[aj,ak,ad,QM,WP,↓ab,hn,h6];refine(cZ mA s.next s2 j _ M _ gH).mono ?_;rintro _ s3 ⟨B2,rfl,kQ,ig,bA⟩;by_cases gN:M-(P.length:a0)<1
    ·have g1:M<=P.length:=by omega
     rw[bk gN] at hu;simp only[g1,eu,er,show¬(7:a0)=0 by decide,ed] at kQ;simp only[aj,al,oneOf,QM,WP,↓ab,hn,aH,cg,cb,cc,g1,<-hu,c7];exact⟨_,rfl,kQ,ig,aF.trans (aR.trans bA)⟩
    have g1:¬M<=P.length:=by omega
    have g2:(P.length:a0)<M:=by omega
    rw[a3 gN] at hu;simp only[g1,g2,and_false,and_true,er,ed] at kQ;simp only[aj,al,oneOf,QM,WP,↓ab,hn,aH,cg,cb,cc,g1,and_false,<-hu,c7];exact⟨_,rfl,kQ,ig,aF.trans (aR.trans bA)⟩
   rw[a3 zA] at hu;simp only[aj,ak,ad,QM,WP,↓ab,hn,hw,ao zA];refine(xA eF s1 _).mono ?_;rintro _ s1 ⟨rfl,rfl⟩;have hdg:=La c.toNat;by_cases hd:digit c.toNat<0
   ·rw[bk hd] at hu;simp only[aj,ak,ad,QM,WP,↓ab,hn,h6,bq hd];refine(cy sR s.next s1 j P M 0 4 nJ).mono ?_;rintro _ s2 ⟨gH,aR⟩;simp(disch:=omega)only[aj,QM,WP,↓ab,hn,h8,aB];rw[bk rfl] at gH;refine ar 0 XM ⟨i+1,P,4,h,rfl,fun h=>cM h (by decide),fun _=>hu.symm,gH,aF.trans aR,by simp only[ag,hn],by simp only[aa,↓ab,WP,h0],by simp only[aa,↓ab,WP,h6],by simp only[aa,↓ab,WP,h7],by simp only[aa,↓ab];rfl⟩
   rw[a3 hd] at hu;by_cases hh:h<0
   ·rw[bk hh] at hu;simp only[aj,ak,ad,QM,WP,↓ab,hn,h7,ao hd,bq hh];refine(xA eF s1 _).mono ?_;rintro _ s1 ⟨rfl,rfl⟩;simp(disch:=omega)only[aj,QM,WP,↓ab,hn,h8,aB];refine ar (l.length+1-(i+1)) hq ⟨i+1,P,0,_,rfl,fun _=>⟨by omega,by omega,hdg,hu⟩,fun h=>cM rfl h,nJ,aF,by simp only[ag,hn],by simp only[aa,↓ab,WP,h0],by simp only[aa,↓ab,WP,h6],by simp only[aa,↓ab,WP],by simp only[aa,↓ab];rfl⟩
   rw[a3 hh] at hu;obtain⟨n,rfl⟩:∃n:aC,h=n:=⟨h.toNat,by omega⟩
   obtain⟨d,XW⟩:∃d:aC,digit c.toNat=d:=⟨(digit c.toNat).toNat,by omega⟩
   rw[XW,bb,bb] at hu;rw[XW] at hd;have hv:((n:a0)*16+(d:a0))%256=((Bs (n*16+d)).toNat:a0):=by rw[vF (by omega)];omega
   simp only[aj,ak,ad,QM,WP,↓ab,hn,h6,h7,XW,ao hd,ao hh];refine(xA eF s1 _).mono ?_;rintro _ s1 ⟨rfl,rfl⟩;simp(disch:=omega)only[aj,ak,ad,QM,WP,↓ab,hn,XW,aB,a9 av bw,fO,hv];refine(ji tI s.next s1 j P M 0 _ nJ (by omega)).mono ?_;rintro _ s2 ⟨gH,aR⟩;simp(disch:=omega)only[aj,QM,WP,↓ab,hn,h8,aB];by_cases gN:M-(P.length:a0)<1
   ·have g1:M<=P.length:=by omega
    rw[bk gN] at hu;rw[bk (show(0:a0)=0/\M<=P.length from⟨rfl,g1⟩),a3 (by omega)] at gH;refine ar 0 XM ⟨i+1,P,7,-1,rfl,fun h=>cM h (by decide),fun _=>hu.symm,gH,aF.trans aR,by simp only[ag,hn],by simp only[aa,↓ab,WP,h0],by simp only[aa,↓ab,WP,h6],by simp only[aa,↓ab,WP],by simp only[aa,↓ab];rfl⟩
   rw[a3 gN] at hu;rw[bk (show(0:a0)=0/\(P.length:a0)<M from⟨rfl,by omega⟩),a3 (by omega)] at gH;refine ar (l.length+1-(i+1)) hq ⟨i+1,_,0,-1,rfl,fun _=>⟨by omega,by simp;omega,by omega,hu⟩,fun h=>cM rfl h,gH,aF.trans aR,by simp only[aa,ag,↓ab,WP,hn,h0,h6,eu];rfl⟩
  simp only[aj,ak,ad,QM,WP,↓ab,hn,h0,h6,h8,bq BO,kU.aQ af,pG,l2,ao hb];refine(cy sR s.next s1 j P M bad 2 nJ).mono ?_;rintro _ s2 ⟨gH,aR⟩;simp only[aj,ak,ad,QM,WP,↓ab,hn,h6];refine(cZ mA s.next s2 j P M _ gH).mono ?_;rintro _ s3 ⟨B2,rfl,kQ,ig,bA⟩;simp only[aj,al,oneOf,QM,WP,↓ab,hn,aH,cg,cb,cc,c7];rw[hex (fun h=>cM h hb)];by_cases mI:bad=0
  ·simp only[mI,er,show¬(2:a0)=0 by decide,ed] at kQ|-
   exact⟨_,rfl,kQ,ig,aF.trans (aR.trans bA)⟩
  simp only[mI,ed] at kQ|-
  exact⟨_,rfl,kQ,ig,aF.trans (aR.trans bA)⟩
 have BO:¬(i:a0)<l.length:=by omega
 simp only[aj,ak,ad,QM,WP,↓ab,hn,h0,h6,h8,ao BO,kU.aQ af];refine(cy sR s.next s1 j P M bad 2 nJ).mono ?_;rintro _ s2 ⟨gH,aR⟩;simp only[aj,ak,ad,QM,WP,↓ab,hn,h6];refine(cZ mA s.next s2 j P M _ gH).mono ?_;rintro _ s3 ⟨B2,rfl,kQ,ig,bA⟩;simp only[aj,al,oneOf,QM,WP,↓ab,hn,aH,cg,cb,cc,c7];rw[hex (fun _=>by omega)];by_cases mI:bad=0
 ·simp only[mI,er,show¬(2:a0)=0 by decide,ed] at kQ|-
  exact⟨_,rfl,kQ,ig,aF.trans (aR.trans bA)⟩
 simp only[mI,ed] at kQ|-
 exact⟨_,rfl,kQ,ig,aF.trans (aR.trans bA)⟩
end Go.Proofs.YtdfjfncifneocaaGreat
namespace Go.Proofs.YtdfjfncifneocaaGreat
open Go.Cl Go.Cl.Uh
theorem agi (P:eI)(t:eS)(k' :IntKind)(x k:aC)(h:k<=24):dB P .shr t (.int .u64 x) (.int k' (k:aC))=some (.int .u64 ((x/2^k:aC):a0)):=by
 rw[mL P t .u64 _ _ k' (by omega)];have e:min ((k:aC):a0).toNat fl.bits=k:=by
  have:fl.bits=64:=rfl;rw[this,bb];omega
 rw[e,Int.fdiv_eq_ediv_of_nonneg _ (by exact Int.pow_nonneg (by omega))]
 norm_cast
theorem R9 (x k:aC)(h:k<4):(mS x).getD k 0=c9 (x/2^(24-8*k)):=by
 obtain rfl|rfl|rfl|rfl:k=0\/k=1\/k=2\/k=3:=by omega
 all_goals simp[mS]
def Grp (base:aC)(s:au)(j:aC)(M:a0)(z:bz b5×a0)(s' :au):Prop:=
 (∃P',gK base s' j P' M z.2/\(z.2=0->P' =z.1))/\aw base s s'
theorem H4 {lib:aD}(hl:lib.at 127=none)(sR:lib.at 122=none)(tI:lib.at 124=none)(base:aC)(s:au)(j:aC)(P:bz b5)(M:a0)(g:bz aC)(v:ax)(h:gK base s j P M 0)(hv:aU s 1 v g.length (nI 0 g))(hg:∀d∈g,d<85)(Ph:2<=g.length)(hg5:g.length<=5)(hP:P.length<=2147483648):
  Runs an lib 127 [.pointer (some ⟨j,0,some 4⟩),v] s fun _ s' =>Grp base s j M (HG M g (g.length-1) P) s' :=by
 refine Runs.enter 46 Tryz.func127 rfl hl rfl rfl ?_;intro f hn hf;have h0:f.get 0= .pointer (some ⟨j,0,some 4⟩):=hf 0;have h1:f.get 1=v:=hf 1;clear hf;simp(disch:=omega)only[aj,ad,QM,↓ab,hn,h1,hv.aQ ek];refine Comes.bD (fun q f s' =>∃k:aC,q=5-k/\k<=5/\s' =s/\f.n=46/\f.get 0= .pointer (some ⟨j,0,some 4⟩)/\f.get 1=v/\f.get 4= .int .i64 g.length/\f.get 5= .int .u64 (iN g k)/\f.get 6= .int .i64 k)
  (fun y f s' =>y= .exit 0/\s' =s/\f.n=46/\f.get 0= .pointer (some ⟨j,0,some 4⟩)/\f.get 4= .int .i64 g.length/\f.get 5= .int .u64 (iN g 5))
  ⟨0,rfl,by omega,rfl,by simp only[ag,hn],by simp only[aa,↓ab,WP,h0],by simp only[aa,↓ab,WP,h1],by simp only[aa,↓ab,WP],by simp only[aa,↓ab,WP];rfl,by simp only[aa,↓ab];rfl⟩ ?_ ?_
 ·clear hn h0 h1 f;rintro Q hQ q f s1 ⟨k,rfl,hk,fL,hn,h0,h1,h4,h5,h6⟩;subst fL;by_cases hk5:k<5
  ·have I3:(k:a0)<5:=by omega
   have ajE:iN g k<52200626:=by
    have:=u0 hg k;have h2:85^k<=85^4:=cz (by omega) (by omega);have h3:(85:aC)^4=52200625:=by decide
    omega
   by_cases XX:k<g.length
   ·obtain⟨d,hd⟩:∃d,d=g.getD k 84:=⟨_,rfl⟩
    have UY:d<85:=by rw[hd,a2,b7 XX];exact hg _ (List.getElem_mem XX)
    have pI:((iN g k:aC):a0)*85+(d:a0)=((iN g (k+1):aC):a0):=by simp only[iN];rw[<-hd];omega
    simp(disch:=omega)only[aj,QM,WP,↓ab,hn,h1,h4,h5,h6,bq I3,XX,hv.indexAddr ek aV,hv.cu aP,Bv,<-hd,e9,a9 av dk,zf,pI,aB];refine ar (5-(k+1)) (by omega) ⟨k+1,rfl,by omega,rfl,by simp only[ag,hn],by simp only[aa,↓ab,WP,h0],by simp only[aa,↓ab,WP,h1],by simp only[aa,↓ab,WP,h4],by simp only[aa,↓ab,WP],by simp only[aa,↓ab];rfl⟩
   have pI:((iN g k:aC):a0)*85+84=((iN g (k+1):aC):a0):=by
    have:g.getD k 84=84:=by rw[a2,dP (by omega)];rfl
    simp only[iN];rw[this];omega
   simp(disch:=omega)only[aj,QM,WP,↓ab,hn,h4,h5,h6,bq I3,XX,a9 av dk,zf,pI,aB];refine ar (5-(k+1)) (by omega) ⟨k+1,rfl,by omega,rfl,by simp only[ag,hn],by simp only[aa,↓ab,WP,h0],by simp only[aa,↓ab,WP,h1],by simp only[aa,↓ab,WP,h4],by simp only[aa,↓ab,WP],by simp only[aa,↓ab];rfl⟩
  obtain rfl:k=5:=by omega
  have I3:¬((5:aC):a0)<5:=by omega
  simp(disch:=omega)only[aj,QM,↓ab,hn,h6,ao I3];exact hQ _ _ _ ⟨rfl,rfl,by simp only[ag,hn],by simp only[aa,↓ab,WP,h0],by simp only[aa,↓ab,WP,h4],by simp only[aa,↓ab,WP,h5]⟩
 clear hn h0 h1 f;rintro _ f s1 ⟨rfl,fL,hn,h0,h4,h5⟩;subst fL;obtain⟨x,hx⟩:∃x,x=iN g 5:=⟨_,rfl⟩
 have hx5:=u0 hg 5;have h85:(85:aC)^5=4437053125:=by decide
 obtain⟨n,zR⟩:∃n,g.length=n+1:=⟨g.length-1,by omega⟩
 rw[zR,Nat.add_sub_cancel];rw[zR] at h4;unfold HG;rw[<-hx] at h5 hx5|-
 by_cases FC:4294967295<x
 ·have jL:(4294967295:a0)<(x:a0):=by omega
  simp only[bk FC];simp(disch:=omega)only[aj,ak,ad,QM,WP,↓ab,hn,h0,h5,bq jL];refine(cy sR base s1 j P M 0 4 h).mono ?_;rintro _ s2 ⟨gH,aR⟩;simp(disch:=omega)only[aj,al,QM,↓ab,hn,eG];rw[bk rfl] at gH;exact⟨⟨P,gH,fun e=>cM (show(4:a0)=0 from e) (by decide)⟩,aR⟩
 have jL:¬(4294967295:a0)<(x:a0):=by omega
 simp only[a3 FC];simp(disch:=omega)only[aj,QM,↓ab,hn,h5,ao jL];refine Comes.de (fun q f s' =>∃(k:aC) (P' :bz b5) (bad:a0),q=n-k/\k<=n/\gK base s' j P' M bad/\aw base s1 s' /\P'.length<=P.length+k/\(bad=0->P' =P++(mS x).take k/\(k=0\/(k:a0)<=M-P.length))/\(bad≠0->bad=7/\M-P.length<n)/\f.n=46/\f.get 0= .pointer (some ⟨j,0,some 4⟩)/\f.get 4= .int .i64 ((n+1:aC):a0)/\f.get 5= .int .u64 x/\f.get 8= .int .i64 k)
  ⟨0,P,0,rfl,by omega,h,aw.refl _ _,by omega,fun _=>⟨by simp,.inl rfl⟩,fun e=>cM rfl e,by simp only[ag,hn],by simp only[aa,↓ab,WP,h0],by simp only[aa,↓ab,WP,h4],by simp only[aa,↓ab,WP,h5],by simp only[aa,↓ab];rfl⟩ ?_
 clear hn h0 h4 h5 f;rintro q f s2 ⟨k,P',bad,rfl,hk,nJ,aF,Wq,kI,ZR,hn,h0,h4,h5,h8⟩;have en:((n+1:aC):a0)-1=(n:a0):=by omega
 by_cases Ri:k<n
 ·have e8:(24:a0)-8*(k:a0)=((24-8*k:aC):a0):=by omega
  simp(disch:=omega)only[aj,ak,ad,QM,WP,↓ab,hn,h0,h4,h5,h8,aB,en,bq Ri,e8,a9 av eh,zf,agi,a9 dk bw,fO,Pu];refine(ji tI base s2 j P' M bad (c9 (x/2^(24-8*k))) nJ (by omega)).mono ?_;rintro _ s3 ⟨jy,bA⟩;simp(disch:=omega)only[aj,QM,WP,↓ab,hn,h8,aB];rw[<-R9 x k (by omega)] at jy;have O7:(mS x).take (k+1)=(mS x).take k++[(mS x).getD k 0]:=by
   have X2:k<(mS x).length:=by show k<4;omega
   rw[List.take_add_one,b7 X2,a2,b7 X2];rfl
  have D4:((mS x).take k).length=k:=by rw[c8];show min k 4=k;omega
  by_cases hb:bad=0
  ·obtain⟨hP',hkM⟩:=kI hb;have zq:P'.length=P.length+k:=by rw[hP',a1,D4]
   by_cases gN:M<=P'.length
   ·rw[a3 (by omega),bk ⟨hb,gN⟩] at jy;refine ar (n-(k+1)) (by omega) ⟨k+1,P',7,rfl,by omega,jy,aF.trans bA,by omega,fun e=>cM e (by decide),fun _=>⟨rfl,by omega⟩,by simp only[ag,hn],by simp only[aa,↓ab,WP,h0],by simp only[aa,↓ab,WP,h4],by simp only[aa,↓ab,WP,h5],by simp only[aa,↓ab];rfl⟩
   rw[bk ⟨hb,by omega⟩,a3 (by omega)] at jy;refine ar (n-(k+1)) (by omega) ⟨k+1,_,bad,rfl,by omega,jy,aF.trans bA,by simp;omega,fun _=>⟨by rw[O7,hP',ev],.inr (by omega)⟩,fun e=>cM hb e,by simp only[ag,hn],by simp only[aa,↓ab,WP,h0],by simp only[aa,↓ab,WP,h4],by simp only[aa,↓ab,WP,h5],by simp only[aa,↓ab];rfl⟩
  rw[a3 (fun e=>hb e.1),a3 (fun e=>hb e.1)] at jy;refine ar (n-(k+1)) (by omega) ⟨k+1,P',bad,rfl,by omega,jy,aF.trans bA,by omega,fun e=>cM e hb,ZR,by simp only[ag,hn],by simp only[aa,↓ab,WP,h0],by simp only[aa,↓ab,WP,h4],by simp only[aa,↓ab,WP,h5],by simp only[aa,↓ab];rfl⟩
 obtain rfl:k=n:=by omega
 simp(disch:=omega)only[aj,ak,ah,QM,WP,↓ab,hn,h4,h8,aB,en,ao Ri,eG];by_cases hb:bad=0
 ·obtain⟨hP',hkM⟩:=kI hb;rw[a3 (by omega)];rw[hb] at nJ;exact⟨⟨P',nJ,fun _=>hP'⟩,aF⟩
 obtain⟨hb7,hM7⟩:=ZR hb;rw[bk hM7];rw[hb7] at nJ;exact⟨⟨P',nJ,fun e=>cM (show(7:a0)=0 from e) (by decide)⟩,aF⟩
end Go.Proofs.YtdfjfncifneocaaGreat