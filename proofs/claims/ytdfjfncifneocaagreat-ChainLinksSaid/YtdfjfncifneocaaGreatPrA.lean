import Derived.Test.YtdfjfncifneocaaGreatLibR
import Derived.Lib.Bytealg
open _root_ renaming reduceIte->ab,List->ax,eq_false->a0,UInt8->a1,decide_eq_false->a2,eq_true->a3,decide_eq_true->bq,Nat->bt,of_decide_eq_true->b8,Int->cd,absurd->c6,true_and->dk,Bool->ea,and_self->eg,Option->et
open Go.Proofs.Tryz renaming prog->an,underlying24->ao,underlying23->aC,underlying26->a8,underlying63->ch,underlying22->cp,underlying27->cx,results46->cz,results50->cA,underlying141->c0,underlying56->c4,underlying66->c5,results61->dt,results207->ed,results199->ee,results36->eh,results97->en,results78->eo,results43->ep
open Go renaming Value->av,Program->eb,Oper->ev,TypeId->ey
open List renaming getElem?_eq_getElem->bb,getElem_mem->bk,take_zero->bz,all_cons->cb,getD_eq_getElem?_getD->cc,take_succ_cons->cg,take_add_one->cm,take_of_length_le->cv,length_cons->cB,take_length->cD,eq_nil_of_length_eq_zero->cL,length_nil->cM,getElem?_take_of_lt->c8,all_nil->c9,getElem?_eq_none->dg,drop_succ_cons->dP,getElem?_drop->dT,drop_zero->ek
open Nat renaming reduceSub->bl,le_refl->bw,sub_self->ck,reduceAdd->cE,add_zero->er,mul_one->ew
open Int renaming toNat_natCast->ca
open Go.Value renaming string->cT,int->dw,okWide->eu
open Nat renaming reduceLT->QM,reduceEqDiff->WP
set_option maxHeartbeats 8000000
set_option linter.unusedSimpArgs false
set_option linter.unusedVariables false
set_option maxRecDepth 100000
namespace Go.Proofs.YtdfjfncifneocaaGreat
open Go.Cl
theorem kn:br an 26=some 5:=by kernel_rfl
theorem Bi:bU an 26=some true:=by kernel_rfl
theorem zO:b6 an 26=some (.agg fC.toArray):=by kernel_rfl
theorem Ac:cr (.agg fC.toArray)=true:=by kernel_rfl
theorem byO:dX an 26=some 88:=by kernel_rfl
theorem Bj:br an 63=some 6:=by kernel_rfl
theorem agE:bU an 63=some true:=by kernel_rfl
theorem byE:dX an 63=some 104:=by kernel_rfl
def Hj:ax av:= .string ⟨#[]⟩::fC
theorem zE:b6 an 63=some (.agg Hj.toArray):=by kernel_rfl
theorem Xb:cr (.agg Hj.toArray)=true:=by kernel_rfl
theorem Bk:br an 2=some 1:=by kernel_rfl
theorem Kr:bU an 2=some false:=by kernel_rfl
theorem O2:br an 9=some 1:=by kernel_rfl
theorem yP:bU an 9=some false:=by kernel_rfl
theorem F1:br an 23=some 1:=by kernel_rfl
theorem Ad:bU an 23=some false:=by kernel_rfl
theorem D2:br an 24=some 1:=by kernel_rfl
theorem yQ:bU an 24=some false:=by kernel_rfl
theorem oi (i o c:bt):ay an 26 (.pointer (some ⟨i,o,some c⟩)) 0=some (.pointer (some ⟨i,o+0,some c⟩)):=by
 unfold ay;rw[a8];simp[aV]
theorem Wa (i o c:bt):ay an 26 (.pointer (some ⟨i,o,some c⟩)) 1=some (.pointer (some ⟨i,o+1,some c⟩)):=by
 unfold ay;rw[a8];simp[Bk]
theorem M3 (i o c:bt):ay an 26 (.pointer (some ⟨i,o,some c⟩)) 2=some (.pointer (some ⟨i,o+2,some c⟩)):=by
 unfold ay;rw[a8];simp[iA]
theorem BT (i o c:bt):ay an 26 (.pointer (some ⟨i,o,some c⟩)) 3=some (.pointer (some ⟨i,o+3,some c⟩)):=by
 unfold ay;rw[a8];simp[F1]
theorem BU (i o c:bt):ay an 26 (.pointer (some ⟨i,o,some c⟩)) 4=some (.pointer (some ⟨i,o+4,some c⟩)):=by
 unfold ay;rw[a8];simp[D2]
theorem efE {s:au}{v:av}{n:bt}{l:ax av}(h:aU s 6 v n l){k:bt}(hk:k<n):ay an 63 (aX 6 v k) 0=some (bP (aX 6 v k) 0)/\ay an 63 (aX 6 v k) 1=some (bP (aX 6 v k) 1):=by
 obtain⟨i,off,c,e,_⟩:=h.cells hk;rw[e];refine⟨?_,?_⟩<;>·unfold ay;rw[ch];simp[O2,kn,bP]
theorem bO3 (k n:cd){b:av}(hb:b.cells.toList=[b]):da an 26 [(0,.int .i64 k),(1,.int .i64 n),(2,b)]=some (.agg #[.int .i64 k,.int .i64 n,b,.slice none 0 0,.slice none 0 0]):=by
 unfold da;rw[a8]
 have hz:b6 an 26=some (.agg #[.int .i64 0,.int .i64 0,.slice none 0 0,.slice none 0 0,.slice none 0 0]):=by kernel_rfl
 rw[hz];have ci:∀k n,(dw k n).cells= #[.int k n]:=fun _ _=>rfl
 simp[aV,Bk,iA,F1,D2,cr,iD,iu,placeOf,bJ,setAt,ci,hb]
theorem bE (a:ax a1){cs:ax av}(hc:cs.length=5):da an 63 [(0,.string ⟨a.toArray⟩),(1,.agg cs.toArray)]=some (.agg (.string ⟨a.toArray⟩::cs).toArray):=by
 unfold da;rw[ch]
 have hz:b6 an 63=some (.agg #[.string ⟨#[]⟩,.int .i64 0,.int .i64 0,.slice none 0 0,.slice none 0 0,.slice none 0 0]):=by kernel_rfl
 rw[hz];have gY:∀b,(cT b).cells= #[.string b]:=fun _=>rfl
 match cs,hc with
 |[a,b,c,d,e],_=>simp[O2,kn,cr,iD,iu,placeOf,bJ,setAt,gY]
def su (s:au)(o:O)(v:av)(s' :au):Prop:=∃cs,v= .agg cs.toArray/\dV (fun j=>s.next<=j) s' cs o/\aw s.next s s'
def BV (s:au)(o:O)(v:av)(s' :au):Prop:=∃k n b l d bv lv dv lc dc,o= .mk k n b l d/\v= .agg #[.int .i64 k,.int .i64 n,bv,lv,dv]/\Own s' 5 lv l.length lc/\aM s.next lv/\aU s' 1 bv b.length (ofBytes b)/\aU s' 6 dv d.length dc/\gq (fun j=>s.next<=j/\aI lv≠some j) bv/\gq (fun j=>s.next<=j/\aI lv≠some j) dv/\bX dV 5 (fun j=>s.next<=j/\aI lv≠some j) s' l lc/\bX lu 6 (fun j=>s.next<=j/\aI lv≠some j) s' d dc/\aw s.next s s'
theorem BV.new {s s' :au}{o:O}{v:av}(h:BV s o v s'):su s o v s' :=by
 obtain⟨k,n,b,l,d,bv,lv,dv,lc,dc,rfl,rfl,h1,h2,h3,h4,h5,h6,h7,h8,h9⟩:=h;have hm:∀j,s.next<=j/\aI lv≠some j->s.next<=j:=fun j hj=>hj.1
 exact⟨_,rfl,dV.whole h3 h1.aL h4 (h5.mono hm) (gq.fresh h2) (h6.mono hm) (h7.mono dQ hm) (h8.mono km hm),h9⟩
theorem TJ {lib:aD}(hl:lib.at 56=none)(nS:lib.at 39=none):∀(N:bt) (o:O),SizeOf.sizeOf o<=N->∀(F:bt->Prop) (s:au) (cs:ax av),dV F s cs o->Small o->
  Runs an lib 56 [.agg cs.toArray] s (BV s o):=by
 intro N
 induction N with
 |zero=>intro o h;cases o;simp at h
 |succ N ih=>
 intro o hN F s cs ho iW;cases o with
 |mk kind num b l d=>
 obtain⟨bv,lv,dv,lc,dc,rfl,hb,hL,hD,fb,fl,fd,rl,rd⟩:=ho.parts;cases iW with
 |mk fp iG yp hK1 Wb Su=>
 refine Runs.enter 59 Tryz.func56 rfl hl rfl rfl ?_;intro f hn hf;have h0:f.get 0= .agg #[.int .i64 kind,.int .i64 num,bv,lv,dv]:=hf 0;clear hf;simp only[aj,QM,↓ab,hn,h0];refine aA ?_;intro s1 eJ aY gG;have qB:fC.length+1=6:=rfl;simp only[aj,QM,cE,↓ab,hn,cB,cM,zO,Ac];refine aA ?_;intro s2 dK aR jD;have vO:=eJ.keeps aR;have dA:aw s.next s s2:=aY.trans (aR.weaken (by omega));have dr:=hb.keeps dA;simp only[aj,QM,↓ab,hn,qB];obtain⟨A,hA⟩:∃A:bt->ea,A=fun j=>decide (j<s2.next):=⟨_,rfl⟩
 have gu:∀j,A j=true->j<s2.next:=by
  intro j h;rw[hA] at h;exact b8 h
 have oO:∀j,j<s2.next->A j=true:=fun j h=>by rw[hA];exact bq h
 refine LB.cN.dx A gu 1 1 (by kernel_rfl) (by kernel_rfl) ?_;have dI:=aw.spare s2 1;have QN:(spare s2 1).next=s2.next+1:=bu _ _;have vP:=vO.keeps dI;have iw:∀k,LA.di A (some (.pointer (some ⟨s.next,k,some 6⟩)))=true:=fun k=>LA.bN (A:=A) (i:=s.next) (oO _ vO.lt)
 have l0:aN an (spare s2 1) 3 (.pointer (some ⟨s.next,0,some 6⟩))=some (.int .i64 kind):=vP.load aP (off:=0) (c:=6) rfl (by simp);have l1:aN an (spare s2 1) 2 (.pointer (some ⟨s.next,1,some 6⟩))=some (.int .i64 num):=vP.load Kr (off:=1) (c:=6) rfl (by simp);have l2:aN an (spare s2 1) 22 (.pointer (some ⟨s.next,2,some 6⟩))=some bv:=vP.load gJ (off:=2) (c:=6) rfl (by simp);simp only[aj,ak,bg,bn,ck,ad,ae,QM,WP,↓ab,hn,oi,Wa,M3,iw,l0,l1,l2,dr.self];refine(rC nS (spare s2 1) bv b (dr.keeps dI) (by omega)).mono ?_;rintro jS s3 ⟨CF,M4,bA⟩;have oX:=bA.next;refine⟨fun _=>LA.aw.qI gu (bA.weaken (by omega)),?_⟩;have sx:bI (.agg #[.int .i64 kind,.int .i64 num,jS,.slice none 0 0,.slice none 0 0]) (.agg #[.int .i64 kind,.int .i64 num,jS,.slice none 0 0,.slice none 0 0])=true:=xe (by simp[cw]) (by simp[cw]) CF.aL.Kq (by simp[cw]) (by simp[cw]);simp only[aj,bn,QM,↓ab,hn,bO3 kind num CF.aL.sZ,sx,zO,Ac];refine LB.gU (by omega) ?_;intro s4 ly uF oo;simp only[aj,bn,QM,WP,↓ab,hn,qB];have aav:=CF.aL.aT;refine LB.bS kn (by decide) ly rfl rfl rfl (by simp only[cb,c9,aav];rfl) (fun h=>c6 rfl h) ?_;intro s5 py Ae pz;have py:az s5 s2.next [.int .i64 kind,.int .i64 num,jS,.slice none 0 0,.slice none 0 0]:=py;have IG:aw s2.next s2 s5:=((dI.trans (bA.weaken (by omega))).trans ⟨by omega,fun j hj=>oo j (by omega)⟩).trans ⟨by omega,fun j hj=>pz j (by omega)⟩;have oE:aw s.next s s5:=dA.trans (IG.weaken (by omega));have Ks:Own s5 1 jS b.length (ofBytes b):=(CF.aK uF oo (fun e=>by have:=M4 _ e;omega)).aK Ae pz (fun e=>by have:=M4 _ e;omega);have Kt:=vO.keeps IG;have M5:=dK.keeps IG;simp only[aj,bn,bl,QM,↓ab,hn];obtain⟨FF,M6⟩:∃FF:av->bt->Prop,FF=fun v j=>s2.next+1<=j/\¬j=s2.next/\aI v≠some j:=⟨_,rfl⟩
 have mf:=aR.next;have aid:=IG.next;have D3:s2.next<s5.next:=py.lt;refine Comes.bD (fun z f s6=>∃(i:bt) (y:av) (LC:ax av),z=l.length-i/\i<=l.length/\Own s6 5 y i LC/\bX dV 5 (FF y) s6 (l.take i) LC/\aM s5.next y/\aU s6 1 jS b.length (ofBytes b)/\gq (FF y) jS/\az s6 s.next [.int .i64 kind,.int .i64 num,bv,lv,dv]/\az s6 s1.next fC/\az s6 s2.next [.int .i64 kind,.int .i64 num,jS,y,.slice none 0 0]/\aw s.next s s6/\s5.next<=s6.next/\f.n=59/\f.get 1= .pointer (some ⟨s.next,0,some 6⟩)/\f.get 2= .pointer (some ⟨s1.next,0,some 6⟩)/\f.get 3= .pointer (some ⟨s2.next,0,some 6⟩)/\f.get 4= .int .i64 (i:bt))
  (fun z f s6=>z= .exit 0/\∃(y:av) (LC:ax av),Own s6 5 y l.length LC/\bX dV 5 (FF y) s6 l LC/\aM s5.next y/\aU s6 1 jS b.length (ofBytes b)/\gq (FF y) jS/\az s6 s.next [.int .i64 kind,.int .i64 num,bv,lv,dv]/\az s6 s1.next fC/\az s6 s2.next [.int .i64 kind,.int .i64 num,jS,y,.slice none 0 0]/\aw s.next s s6/\s5.next<=s6.next/\f.n=59/\f.get 1= .pointer (some ⟨s.next,0,some 6⟩)/\f.get 2= .pointer (some ⟨s1.next,0,some 6⟩)/\f.get 3= .pointer (some ⟨s2.next,0,some 6⟩))
  ⟨0,.slice none 0 0,[],rfl,by omega,.nil,by rw[bz];exact bX.nil,aM.nil _,Ks.aL,gq.Kp (fun j hj=>by rw[M6];have:=M4 j hj;exact⟨by omega,by omega,fun e=>by cases e⟩),Kt,M5,py,oE,bw _,by simp only[aa,ag,↓ab,WP,hn,dk];rfl⟩ ?_ ?_
 ·clear hn h0 f sx ly py oo pz CF Ks Kt M5 l0 l1 l2 iw vP gu oO hA A;rintro Q hQ z f s6 ⟨i,y,LC,rfl,hi,hy,hR,ko,tu,Hk,pA,nB,ju,cU,Ku,hn,h1,h2,h3,h4⟩;have BW:=hL.keeps cU;have l6:aN an s6 23 (.pointer (some ⟨s.next,3,some 6⟩))=some lv:=pA.load Ad (off:=3) (c:=6) rfl (by simp);by_cases a7:i<l.length;rotate_left
  ·obtain rfl:i=l.length:=by omega
   rw[cD] at hR;have d1:¬((l.length:bt):cd)<((l.length:bt):cd):=by omega
   simp only[aj,ad,QM,WP,↓ab,hn,h1,h4,BT,l6,BW.aQ aC,a0 d1];refine hQ _ _ _ ⟨rfl,y,LC,hy,hR,ko,tu,Hk,pA,nB,ju,cU,Ku,by simp only[aa,ag,↓ab,WP,hn,h1,h2,h3,eg]⟩
  have nh:aI y≠some s2.next:=fun e=>by have:=ko _ e;have:=ju.lt;have:=D3;omega
  have d1:(i:cd)<(l.length:cd):=by omega
  simp only[aj,ad,QM,WP,↓ab,hn,h1,h4,BT,l6,BW.aQ aC,a3 d1];obtain⟨A,hA⟩:∃A:bt->ea,A=fun j=>decide (j<s6.next):=⟨_,rfl⟩
  have gu:∀j,A j=true->j<s6.next:=by
   intro j h;rw[hA] at h;exact b8 h
  have oO:∀j,j<s6.next->A j=true:=fun j h=>by rw[hA];exact bq h
  refine LB.cN.dx A gu 1 1 (by kernel_rfl) (by kernel_rfl) ?_;have dI:=aw.spare s6 1;have QN:(spare s6 1).next=s6.next+1:=bu _ _;have JL:∀k,LA.di A (some (.pointer (some ⟨s.next,k,some 6⟩)))=true:=fun k=>LA.bN (A:=A) (i:=s.next) (oO _ pA.lt)
  have uG:∀k,LA.di A (some (.pointer (some ⟨s2.next,k,some 6⟩)))=true:=fun k=>LA.bN (A:=A) (i:=s2.next) (oO _ ju.lt)
  have l7:aN an (spare s6 1) 23 (.pointer (some ⟨s.next,3,some 6⟩))=some lv:=(pA.keeps dI).load Ad (off:=3) (c:=6) rfl (by simp);have l8:aN an (spare s6 1) 23 (.pointer (some ⟨s2.next,3,some 6⟩))=some y:=(ju.keeps dI).load Ad (off:=3) (c:=6) rfl (by simp);have hL7:=BW.keeps dI;have fk:=hL7.indexAddr (P:=an) (k:= .i64) (x:=(i:cd)) aC kn (by omega) (by omega);rw[ca] at fk;have eF:=hL7.fZ (P:=an) Bi kn a7;have tF:=((rl.row i a7).keeps cU).keeps dI;simp only[aj,ak,bg,bn,ck,ad,ae,QM,WP,↓ab,hn,h1,h3,h4,BT,JL,uG,l7,l8,hL7.self,hy.self,fk,eF,LA.gh BW oO a7,tF.self];refine(ih l[i] (by have:=O.yM (k:=kind) (n:=num) (b:=b) (l:=l) (d:=d) (bk a7);omega) F (spare s6 1) _ tF (Wb _ (bk a7))).mono ?_;rintro _ s7 h7;obtain⟨IH,rfl,rD,iX⟩:=h7.new;have JC:=iX.next;refine⟨fun _=>LA.aw.qI gu (iX.weaken (by omega)),?_⟩;have uH:=rD.len;simp only[gn (cs:=IH.toArray) aC kn zO Ac rfl uH (by decide)];refine LB.bR (base:=s6.next) uH (by omega) (bw _) ?_;intro bs s8 nj fM Xc F3 yR;have mQ:aw s6.next s6 s8:=(dI.trans (iX.weaken (by omega))).trans Xc;have JD:=mQ.next;have O3:dV (FF y) s8 IH l[i]:=by
   refine(rD.turns (u:= .pointer (some ⟨s6.next,0,none⟩)) (bG.aK F3 yR) (fun j hj e=> ?_)).mono (fun j hj=> ?_)
   ·have e:some s6.next=some j:=e;injection e with e;omega
   rw[M6];exact⟨by have:=cU.next;omega,by omega,fun e=>by have:=hy.ei _ e;omega⟩
  simp only[aj,bn,ad,QM,WP,↓ab,hn];refine LB.eY aC aC (.inl ⟨_,rfl⟩) kn byO zO rfl (hy.keeps mQ) nj.aL.src uH (by decide) O3.ok (by omega) (by omega) (base:=s5.next) ko (by omega) (fun h=>c6 rfl h) (fun j hj=>by have:=gu j hj;omega) ?_;intro y' s9 hy9 hF9 uI oh;have hn9:=uI.next;have hR8:=hR.keeps dQ mQ;rw[M6] at hR8 O3;have hR9:=hR8.grow dQ uH O3 uI oh;have TK:aU s9 1 jS b.length (ofBytes b)/\gq (FF y') jS:=by
   have OI:=tu.keeps mQ;have hf8:=Hk.below OI;refine⟨OI.qA Hk uI (fun j hj=>by rw[M6] at hj;exact hj.2.2),hf8.mono (fun j hj=> ?_)⟩;rw[M6] at hj|-
   refine⟨hj.1.1,hj.1.2.1,fun e=> ?_⟩;rcases oh with h1|⟨q,h1,h2⟩
   ·exact hj.1.2.2 (by rw[<-h1];exact e)
   rw[h1] at e;injection e with e;have:=hj.2;omega
  have aay:aI y' ≠some s2.next:=fun e=>by
   rcases oh with h1|⟨q,h1,h2⟩
   ·exact nh (by rw[<-h1];exact e)
   rw[h1] at e;injection e with e;have:=ju.lt;omega
  simp only[aj,bg,bn,bl,QM,WP,↓ab,hn,h3,BT];refine LB.fu F1 (by decide) ((ju.keeps mQ).turns uI nh) (off:=3) (c:=6) rfl (vs:=[y']) hy9.aL.sZ rfl (by simp) (by simp[hy9.aL.aT]) (fun h=>c6 rfl h) ?_;intro sa QO yS xf;have QO:az sa s2.next [.int .i64 kind,.int .i64 num,jS,y',.slice none 0 0]:=QO;have hua:bG (.pointer (some ⟨s2.next,0,none⟩)) s9 sa:=bG.aK yS xf;have QP:∀v j,FF v j->aI (.pointer (some ⟨s2.next,0,none⟩))≠some j:=fun v j hj e=>by
   have e:some s2.next=some j:=e;injection e with e;rw[M6] at hj;exact hj.2.1 e.symm
  rw[show(fun j=>s2.next+1<=j/\¬j=s2.next/\aI y' ≠some j)=FF y' by rw[M6]] at hR9;simp(disch:=omega)only[aj,bn,bl,QM,WP,↓ab,hn,h4,aB];refine ar (l.length-(i+1)) (by omega) ⟨i+1,y',LC++IH,rfl,by omega,hy9.aK yS xf aay,?_,hF9,TK.1.qA TK.2 hua (QP y'),TK.2,((pA.keeps mQ).turns uI (fun e=>by have:=ko _ e;have:=oE.next;have:=D3;omega)).aK yS xf (by omega),((nB.keeps mQ).turns uI (fun e=>by have:=ko _ e;have:=D3;omega)).aK yS xf (by omega),QO,?_,by omega,by simp only[ag,hn],by simp only[aa,↓ab,WP,h1],by simp only[aa,↓ab,WP,h2],by simp only[aa,↓ab,WP,h3],by simp only[aa,↓ab];rfl⟩
  ·rw[cm,bb a7];exact hR9.turns dQ hua (QP y')
  exact((cU.trans (mQ.weaken cU.next)).trans ((uI.keeps ko (by omega)).weaken oE.next)).trans ⟨by omega,fun j hj=>xf j (by omega)⟩
 clear hn h0 f sx ly py oo pz CF Ks Kt M5 l0 l1 l2 iw vP gu oO hA A;rintro z f s6 ⟨rfl,y,LC,uJ,hR,ko,tu,Hk,pA,nB,ju,cU,Ku,hn,h1,h2,h3⟩;obtain⟨FG,Xd⟩:∃FG:av->bt->Prop,FG=fun v j=>s2.next+1<=j/\¬(j=s2.next\/aI y=some j)/\aI v≠some j:=⟨_,rfl⟩
 have Y3:∀j,FF y j->FG (.slice none 0 0) j:=fun j hj=>by
  rw[M6] at hj;rw[Xd]
  exact⟨hj.1,fun e=>e.elim hj.2.1 hj.2.2,fun e=>by cases e⟩
 replace hR:=hR.mono dQ Y3;replace Hk:=Hk.mono Y3;simp only[aj,QM,↓ab,hn];refine Comes.bD (fun z f s7=>∃(i:bt) (w:av) (DC:ax av),z=d.length-i/\i<=d.length/\Own s7 6 w i DC/\bX lu 6 (FG w) s7 (d.take i) DC/\aM s5.next w/\aU s7 1 jS b.length (ofBytes b)/\gq (FG w) jS/\Own s7 5 y l.length LC/\(∀j,aI y=some j->aI w≠some j)/\bX dV 5 (FG w) s7 l LC/\az s7 s.next [.int .i64 kind,.int .i64 num,bv,lv,dv]/\az s7 s1.next fC/\az s7 s2.next [.int .i64 kind,.int .i64 num,jS,y,w]/\aw s.next s s7/\s5.next<=s7.next/\f.n=59/\f.get 1= .pointer (some ⟨s.next,0,some 6⟩)/\f.get 2= .pointer (some ⟨s1.next,0,some 6⟩)/\f.get 3= .pointer (some ⟨s2.next,0,some 6⟩)/\f.get 5= .int .i64 (i:bt))
  (fun z f s7=>z= .exit 2/\∃(w:av) (DC:ax av),Own s7 6 w d.length DC/\bX lu 6 (FG w) s7 d DC/\aM s5.next w/\aU s7 1 jS b.length (ofBytes b)/\gq (FG w) jS/\Own s7 5 y l.length LC/\(∀j,aI y=some j->aI w≠some j)/\bX dV 5 (FG w) s7 l LC/\az s7 s1.next fC/\az s7 s2.next [.int .i64 kind,.int .i64 num,jS,y,w]/\aw s.next s s7/\s5.next<=s7.next/\f.n=59/\f.get 2= .pointer (some ⟨s1.next,0,some 6⟩)/\f.get 3= .pointer (some ⟨s2.next,0,some 6⟩))
  ⟨0,.slice none 0 0,[],rfl,by omega,.nil,by rw[bz];exact bX.nil,aM.nil _,tu,Hk,uJ,(fun j _ e=>by cases e),hR,pA,nB,ju,cU,Ku,by simp only[aa,ag,↓ab,WP,hn,h1,h2,h3,dk];rfl⟩ ?_ ?_
 ·clear hn h1 h2 h3 f pA nB ju cU Ku tu Hk uJ hR s6;rintro Q hQ z f s6 ⟨i,w,DC,rfl,hi,hw,QR,xg,tu,Hk,BN,hyf,hR,pA,nB,ju,cU,Ku,hn,h1,h2,h3,h5⟩;have wz:=hD.keeps cU;have l6:aN an s6 24 (.pointer (some ⟨s.next,4,some 6⟩))=some dv:=pA.load yQ (off:=4) (c:=6) rfl (by simp);by_cases a7:i<d.length;rotate_left
  ·obtain rfl:i=d.length:=by omega
   rw[cD] at QR;have d1:¬((d.length:bt):cd)<((d.length:bt):cd):=by omega
   simp only[aj,ak,ad,QM,WP,↓ab,hn,h1,h5,BU,l6,wz.aQ ao,a0 d1];refine hQ _ _ _ ⟨rfl,w,DC,hw,QR,xg,tu,Hk,BN,hyf,hR,nB,ju,cU,Ku,by simp only[aa,ag,↓ab,WP,hn,h2,h3,eg]⟩
  have JB:aI w≠some s2.next:=fun e=>by have:=xg _ e;have:=ju.lt;have:=D3;omega
  have d1:(i:cd)<(d.length:cd):=by omega
  simp only[aj,ak,ad,QM,WP,↓ab,hn,h1,h5,BU,l6,wz.aQ ao,a3 d1];obtain⟨A,hA⟩:∃A:bt->ea,A=fun j=>decide (j<s6.next):=⟨_,rfl⟩
  have gu:∀j,A j=true->j<s6.next:=by
   intro j h;rw[hA] at h;exact b8 h
  have oO:∀j,j<s6.next->A j=true:=fun j h=>by rw[hA];exact bq h
  refine LB.cN.dx A gu 1 1 (by kernel_rfl) (by kernel_rfl) ?_;have dI:=aw.spare s6 1;have QN:(spare s6 1).next=s6.next+1:=bu _ _;have JL:∀k,LA.di A (some (.pointer (some ⟨s.next,k,some 6⟩)))=true:=fun k=>LA.bN (A:=A) (i:=s.next) (oO _ pA.lt)
  have uG:∀k,LA.di A (some (.pointer (some ⟨s2.next,k,some 6⟩)))=true:=fun k=>LA.bN (A:=A) (i:=s2.next) (oO _ ju.lt)
  have l7:aN an (spare s6 1) 24 (.pointer (some ⟨s.next,4,some 6⟩))=some dv:=(pA.keeps dI).load yQ (off:=4) (c:=6) rfl (by simp);have l8:aN an (spare s6 1) 24 (.pointer (some ⟨s2.next,4,some 6⟩))=some w:=(ju.keeps dI).load yQ (off:=4) (c:=6) rfl (by simp);have hD7:=wz.keeps dI;have fk:=hD7.indexAddr (P:=an) (k:= .i64) (x:=(i:cd)) ao Bj (by omega) (by omega);rw[ca] at fk;obtain⟨q0,q1⟩:=efE hD7 a7;obtain⟨r,vK,fe,kP⟩:=rd.row i a7;obtain⟨hk6,Wc⟩:=Aa vK;have D4:=hD7.gp (P:=an) yP a7 (j:=0) (by omega);rw[er,hk6] at D4;have O4:=hD7.uD (P:=an) Bi kn a7 (j:=1) (by omega);rw[Wc] at O4;have tF:=(fe.keeps cU).keeps dI;simp only[aj,ak,bg,bn,ck,ad,ae,QM,WP,↓ab,hn,h1,h3,h5,BU,JL,uG,l7,l8,hD7.self,hw.self,fk,q0,q1,D4,O4,kl,LA.z9 wz oO a7,tF.self];refine(ih d[i].2 (by have:=O.Cn (k:=kind) (n:=num) (b:=b) (l:=l) (d:=d) (bk a7);omega) F (spare s6 1) _ tF (Su _ (bk a7))).mono ?_;rintro _ s7 h7;obtain⟨IH,rfl,rD,iX⟩:=h7.new;have JC:=iX.next;refine⟨fun _=>LA.aw.qI gu (iX.weaken (by omega)),?_⟩;have uH:=rD.len;obtain⟨es,vY⟩:∃es,es=cT ⟨(d[i].1).toArray⟩::IH:=⟨_,rfl⟩
  have IF:es.length=6:=by rw[vY];simp[uH]
  have xh:bI (.agg es.toArray) (.agg es.toArray)=true:=by
   have:=rD.self;rw[vY]
   match IH,uH,this with
   |[a,b,c,d,e],_,this=>
    simp[bI,fc] at this|-
    exact⟨by simp[cw],this⟩
  have TL:=bE d[i].1 uH;rw[<-vY] at TL;simp only[aj,bn,ae,QM,↓ab,hn,TL,xh,gn (cs:=es.toArray) ao Bj zE Xb rfl IF (by decide)];refine LB.bR (base:=s6.next) IF (by omega) (bw _) ?_;intro bs s8 nj fM Xc F3 yR;have mQ:aw s6.next s6 s8:=(dI.trans (iX.weaken (by omega))).trans Xc;have JD:=mQ.next;have O3:lu (FG w) s8 es d[i]:=by
   refine⟨IH,vY,(rD.turns (u:= .pointer (some ⟨s6.next,0,none⟩)) (bG.aK F3 yR) (fun j hj e=> ?_)).mono (fun j hj=> ?_),kP⟩
   ·have e:some s6.next=some j:=e;injection e with e;omega
   rw[Xd];exact⟨by have:=cU.next;omega,fun e=>e.elim (fun e=>by omega) (fun e=>by have:=BN.ei _ e;omega),fun e=>by have:=hw.ei _ e;omega⟩
  have D5:es.all aT=true:=by rw[vY,cb,rD.ok];rfl
  simp only[aj,bn,ad,QM,WP,↓ab,hn];refine LB.eY ao ao (.inl ⟨_,rfl⟩) Bj byE zE rfl (hw.keeps mQ) nj.aL.src IF (by decide) D5 (by omega) (by omega) (base:=s5.next) xg (by omega) (fun h=>c6 rfl h) (fun j hj=>by have:=gu j hj;omega) ?_;intro w' s9 Y4 hF9 uI oh;have hn9:=uI.next;have gM:∀j,FG w j/\j<s8.next->FG w' j:=fun j hj=>by
   rw[Xd] at hj|-
   refine⟨hj.1.1,hj.1.2.1,fun e=> ?_⟩;rcases oh with h1|⟨q,h1,h2⟩
   ·exact hj.1.2.2 (by rw[<-h1];exact e)
   rw[h1] at e;injection e with e;have:=hj.2;omega
  have hnw:∀j,FG w j->aI w≠some j:=fun j hj=>by rw[Xd] at hj;exact hj.2.2
  have TM:=QR.keeps km mQ;have ad7:=O3;rw[Xd] at TM ad7;have TN:=TM.grow (X:=fun j=>j=s2.next\/aI y=some j) km IF ad7 uI oh;rw[show(fun j=>s2.next+1<=j/\¬(j=s2.next\/aI y=some j)/\aI w' ≠some j)=FG w' by rw[Xd]] at TN;have ad8:=tu.keeps mQ;have ad9:=BN.keeps mQ;have TK:=ad8.qA Hk uI hnw;have aif:=ad9.turns uI hyf;have aea:=(Hk.below ad8).mono gM;have aih:∀j,aI y=some j->aI w' ≠some j:=fun j hj e=>by
   rcases oh with h1|⟨q,h1,h2⟩
   ·exact hyf j hj (by rw[<-h1];exact e)
   rw[h1] at e;injection e with e;have:=ad9.ei _ hj;omega
  have hR9:=((hR.keeps dQ mQ).below dQ|>.turns dQ uI (fun j hj=>hnw j hj.1)).mono dQ gM;have aay:aI w' ≠some s2.next:=fun e=>by
   rcases oh with h1|⟨q,h1,h2⟩
   ·exact JB (by rw[<-h1];exact e)
   rw[h1] at e;injection e with e;have:=ju.lt;omega
  simp only[aj,bg,bn,bl,QM,WP,↓ab,hn,h3,BU];refine LB.fu D2 (by decide) ((ju.keeps mQ).turns uI JB) (off:=4) (c:=6) rfl (vs:=[w']) Y4.aL.sZ rfl (by simp) (by simp[Y4.aL.aT]) (fun h=>c6 rfl h) ?_;intro sa QO yS xf;have QO:az sa s2.next [.int .i64 kind,.int .i64 num,jS,y,w']:=QO;have hua:bG (.pointer (some ⟨s2.next,0,none⟩)) s9 sa:=bG.aK yS xf;have QP:∀v j,FG v j->aI (.pointer (some ⟨s2.next,0,none⟩))≠some j:=fun v j hj e=>by
   have e:some s2.next=some j:=e;injection e with e;rw[Xd] at hj;exact hj.2.1 (.inl e.symm)
  simp(disch:=omega)only[aj,bn,bl,QM,WP,↓ab,hn,h5,aB];refine ar (d.length-(i+1)) (by omega) ⟨i+1,w',DC++es,rfl,by omega,Y4.aK yS xf aay,?_,hF9,TK.qA aea hua (QP w'),aea,aif.turns hua (fun j hj e=>by have e:some s2.next=some j:=e;injection e with e;have:=ko _ hj;omega),aih,hR9.turns dQ hua (QP w'),((pA.keeps mQ).turns uI (fun e=>by have:=xg _ e;have:=oE.next;have:=D3;omega)).aK yS xf (by omega),((nB.keeps mQ).turns uI (fun e=>by have:=xg _ e;have:=D3;omega)).aK yS xf (by omega),QO,?_,by omega,by simp only[ag,hn],by simp only[aa,↓ab,WP,h1],by simp only[aa,↓ab,WP,h2],by simp only[aa,↓ab,WP,h3],by simp only[aa,↓ab];rfl⟩
  ·rw[cm,bb a7];exact TN.turns km hua (QP w')
  exact((cU.trans (mQ.weaken cU.next)).trans ((uI.keeps xg (by omega)).weaken oE.next)).trans ⟨by omega,fun j hj=>xf j (by omega)⟩
 clear hn h1 h2 h3 f pA nB ju cU Ku tu Hk uJ hR s6;rintro z f s6 ⟨rfl,w,DC,hw,QR,xg,tu,Hk,BN,hyf,hR,nB,ju,cU,Ku,hn,h2,h3⟩;have la:=az.bd (P:=an) (cs:=[.int .i64 kind,.int .i64 num,jS,y,w]) Bi kn ju (c:=6) rfl;have ok1:=tu.aT;have ok2:=BN.aL.aT;have ok3:=hw.aL.aT;simp only[aj,QM,WP,↓ab,hn,h2,h3,la];refine aG kn (by decide) nB rfl rfl rfl (by simp only[cb,c9,ok1,ok2,ok3];rfl) ?_;intro s7 xO uK xi;have l7:=az.bd (P:=an) (cs:=[.int .i64 kind,.int .i64 num,jS,y,w]) Bi kn xO (c:=6) rfl;simp only[aj,al,oneOf,QM,WP,↓ab,hn,h2,l7,a4,Tryz.results56];have hu7:bG (.pointer (some ⟨s1.next,0,none⟩)) s6 s7:=bG.aK uK xi;have QS:∀j,FG w j->aI (.pointer (some ⟨s1.next,0,none⟩))≠some j:=fun j hj e=>by
  have e:some s1.next=some j:=e;injection e with e;rw[Xd] at hj;have:=hj.1;omega
 have hyj:∀j,aI y=some j->s5.next<=j:=fun j hj=>ko _ hj
 have pZ:gq (fun j=>s.next<=j/\aI y≠some j) w:=gq.Kp (fun j hj=>⟨by have:=xg _ hj;have:=oE.next;omega,fun e=>hyf j e hj⟩);have hm:∀j,FG w j->s.next<=j/\aI y≠some j:=fun j hj=>by rw[Xd] at hj;exact⟨by have:=hj.1;have:=dA.next;omega,fun e=>hj.2.1 (.inr e)⟩
 exact⟨_,_,_,_,_,_,_,_,_,_,rfl,rfl,BN.turns hu7 (fun j hj e=>by have e:some s1.next=some j:=e;injection e with e;have:=hyj _ hj;omega),fun j hj=>by have:=hyj j hj;have:=oE.next;omega,tu.qA Hk hu7 QS,hw.aL.aK uK xi (fun e=>by have:=xg _ e;omega),Hk.mono hm,pZ,(hR.turns dQ hu7 QS).mono dQ hm,(QR.turns km hu7 QS).mono km hm,cU.trans ⟨by omega,fun j hj=>xi j (by have:=aY.next;omega)⟩⟩
theorem TO {lib:aD}(hl:lib.at 56=none)(nS:lib.at 39=none)(N:bt)(o:O)(hN:SizeOf.sizeOf o<=N)(F:bt->Prop)(s:au)(cs:ax av)(ho:dV F s cs o)(hs:Small o):
  Runs an lib 56 [.agg cs.toArray] s (su s o):=(TJ hl nS N o hN F s cs ho hs).mono fun _ _ h=>h.new
end Go.Proofs.YtdfjfncifneocaaGreat
namespace Go.Cl
inductive TP:O->O->Prop
 |mk {k n n' :cd} {b b' :ax a1} {l l' :ax O} {d d' :ax (ax a1×O)} (hn:(k=1\/k=2\/k=3\/k=9)->n=n') (hb:(k=4\/k=5\/k=8)->b=b')
  (hl:k=6->l.length=l'.length) (hL:k=6->∀i (h:i<l.length) (h' :i<l'.length),TP l[i] l'[i])
  (hd:(k=7\/k=8)->d.length=d'.length) (hK:(k=7\/k=8)->∀i (h:i<d.length) (h' :i<d'.length),d[i].1=d'[i].1) (hD:(k=7\/k=8)->∀i (h:i<d.length) (h' :i<d'.length),TP d[i].2 d'[i].2):TP (.mk k n b l d) (.mk k n' b' l' d')
def Co (p:Prop)(v:av):Prop:=∃t:ea,v= .bool t/\(t=true↔p)
theorem Co.no {p:Prop}(h:¬p):Co p (.bool false):=⟨false,rfl,⟨fun h=>by(cases h),fun k=>c6 k h⟩⟩
theorem Co.yes {p:Prop}(h:p):Co p (.bool true):=⟨true,rfl,⟨fun _=>h,fun _=>rfl⟩⟩
theorem az.qc {P:eb}{e:ey}{n:bt}(nd:bU P e=some true)(cX:br P e=some n){s:au}{i:bt}{cs:ax av}(h:az s i cs){off c:bt}(hc:c=cs.length+1)(ho:off+n<=cs.length):
  aN P s e (.pointer (some ⟨i,off,some c⟩))=some (.agg ((cs.drop off).take n).toArray):=by
 obtain⟨low,z,h1,h2⟩:=h.eE;subst hc;unfold aN;simp only[nd,cX];rw[ij h1 h2 (bw _) (by omega)]
def Y5 (b:ax a1):Prop:=b.length<=127/\∀i (h:i<b.length),b[i].toNat≠0
def aec (x y:ax a1):Prop:=¬(Op.bytesLess y x||y==x)=true
inductive aaB:cd->O->Prop
 |mk {p k n:cd} {b:ax a1} {l:ax O} {d:ax (ax a1×O)} (h1:l≠[]->k=6) (h2:d≠[]->k=7\/k=8) (h3:b≠[]->k=4\/k=5\/k=8) (hk:0<=k/\k<=9)
  (n1:k=1->n=0\/n=1) (n2:k=2-> -2147483647<=n/\n<=2147483647) (n3:k=3-> -214748364799999<=n/\n<=214748364799999) (n9:k=9->1<=n/\n<=8388607) (n0:k≠1->k≠2->k≠3->k≠9->n=0)
  (b4:k=4->b.length<=32767) (b5:k=5->Y5 b) (p6:k=6->1<=p) (l6:k=6->∀i (h:i<l.length),l[i].kind≠8) (m6:k=6->∀i (h:i<l.length),aaB (p-1) l[i])
  (p7:k=7\/k=8->1<=p) (b7:k=7\/k=8->b.length<=16777216) (e7:k=7\/k=8->∀i (h:i<d.length),Y5 d[i].1/\d[i].2.kind≠8/\d[i].2.kind≠0) (m7:k=7\/k=8->∀i (h:i<d.length),aaB (p-1) d[i].2)
  (r7:k=7\/k=8->∀i (h:i+1<d.length),aec d[i].1 d[i+1].1):aaB p (.mk k n b l d)
section
variable {p k n:cd} {b:ax a1} {l:ax O} {d:ax (ax a1×O)} (g1:l≠[]->k=6) (g2:d≠[]->k=7\/k=8) (g3:b≠[]->k=4\/k=5\/k=8)
include g1 g2 g3
omit g1 g2 g3 in
omit g1 g2 g3 in
end
section
variable {P:eb} {t:ey}
theorem O5 (a b:ax a1):dB P .leq t (.string ⟨a.toArray⟩) (.string ⟨b.toArray⟩)=some (.bool (Op.bytesLess a b||a==b)):=by
 simp only[dB,JH]
theorem oY {lib:aD}{all r:ax ev}{o:ev}{f:aZ}{s:au}{Q:aZ->au->Prop}{b:ea}(J:aZ->au->Prop)(h1:∀Q' :aZ->au->Prop,(∀f' s',J f' s' ->Q' f' s')->pk P lib all o r f s Q' b)(h2:∀f' s',J f' s' ->Q f' s'):pk P lib all o r f s Q b:=h1 Q h2
end
section
variable {α:Type} {Q:(bt->Prop)->au->ax av->α->Prop} {z:bt} {F:bt->Prop} {s:au} {D E:ax α} {l m:ax av}
end
def O.has (o:O):ea:=decide (o.kind=7)||decide (o.kind=8)
end Go.Cl
namespace Go.Proofs.YtdfjfncifneocaaGreat
open Go.Cl
theorem QT {lib:aD}(hl:lib.at 36=none)(s:au)(x:av)(l:ax a1)(hx:aU s 1 x l.length (ofBytes l))(hlen:l.length<=140737488355328):
  Runs an lib 36 [x] s fun v s' =>gz s v s' l:=by
 refine Runs.enter 8 Tryz.func36 rfl hl rfl rfl ?_;intro f hn hf;have h0:f.get 0=x:=hf 0;clear hf;simp only[aj,QM,WP,↓ab,hn,h0,hx.yI cp];refine qW (fun h=> ?_) (fun h=> ?_)
 ·obtain⟨h1,_,_⟩:=hx.isNil h;have:l=[]:=cL h1;subst this;simp only[aj,al,oneOf,QM,↓ab,hn,eh];exact⟨.nil,aM.nil _,aw.refl _ _⟩
 simp only[aj,ae,MM cp cO rU rfl rfl];refine bc (by rfl) ?_;intro b s1 hb hF aF;simp only[aj,ad,QM,WP,↓ab,hn,h0];refine gb cp cp (.inl ⟨_,rfl⟩) cO sm rU rfl hb (hx.keeps aF).src (by simp[eW]) (by decide) (pn _) (by omega) (by omega) hF aF.next ?_;intro b' s2 jL zw fN _ _;simp only[aj,al,oneOf,QM,↓ab,hn,eh];exact⟨by simpa using jL,zw,aF.trans fN⟩
theorem II (i o c:bt):ay an 63 (.pointer (some ⟨i,o,some c⟩)) 0=some (.pointer (some ⟨i,o+0,some c⟩)):=by
 unfold ay;rw[ch];simp[O2]
theorem F4 (i o c:bt):ay an 63 (.pointer (some ⟨i,o,some c⟩)) 1=some (.pointer (some ⟨i,o+1,some c⟩)):=by
 unfold ay;rw[ch];simp[kn]
def Else (base:bt)(a b c:av)(j:bt):Prop:=base<=j/\aI a≠some j/\aI b≠some j/\aI c≠some j
def O6 (s:au)(o:O)(v:av)(s' :au):Prop:=∃(bv lv dv:av) (LC DC:ax av),v= .agg #[.int .i64 o.kind,.int .i64 o.num,bv,lv,dv]/\Own s' 1 bv o.bytes.length (ofBytes o.bytes)/\Own s' 5 lv o.items.length LC/\Own s' 6 dv o.vN.length DC/\aM s.next bv/\aM s.next lv/\aM s.next dv/\
 (∀j,aI bv=some j->aI lv≠some j)/\(∀j,aI bv=some j->aI dv≠some j)/\(∀j,aI lv=some j->aI dv≠some j)/\bX dV 5 (Else s.next bv lv dv) s' o.items LC/\bX lu 6 (Else s.next bv lv dv) s' o.vN DC/\aw s.next s s'
theorem O6.is {s s' :au}{o:O}{v:av}(h:O6 s o v s'):su s o v s' :=by
 obtain⟨bv,lv,dv,LC,DC,rfl,h1,h2,h3,f1,f2,f3,-,-,-,r1,r2,hs⟩:=h;cases o with
 |mk k n b l d=>exact⟨[.int .i64 k,.int .i64 n,bv,lv,dv],rfl,dV.whole h1.aL h2.aL h3.aL (gq.fresh f1) (gq.fresh f2) (gq.fresh f3) (r1.mono dQ fun j h=>h.1) (r2.mono km fun j h=>h.1),hs⟩
theorem aed {lib:aD}(hl:lib.at 98=none)(nS:lib.at 36=none):∀(N:bt) (o:O),SizeOf.sizeOf o<=N->∀(F:bt->Prop) (s:au) (cs:ax av),dV F s cs o->Fit o->
  Runs an lib 98 [.agg cs.toArray] s (O6 s o):=by
 intro N
 induction N with
 |zero=>intro o h;cases o;simp at h
 |succ N ih=>
 intro o hN F s cs ho iW;cases o with
 |mk kind num b l d=>
 obtain⟨bv,lv,dv,lc,dc,rfl,hb,hL,hD,fb,fl,fd,rl,rd⟩:=ho.parts;cases iW with
 |mk fp iG yp hK1 Wb Su=>
 refine Runs.enter 51 Tryz.func98 rfl hl rfl rfl ?_;intro f hn hf;have h0:f.get 0= .agg #[.int .i64 kind,.int .i64 num,bv,lv,dv]:=hf 0;clear hf;simp only[aj,QM,↓ab,hn,h0];refine aA ?_;intro s1 eJ aY gG;have qB:fC.length+1=6:=rfl;simp only[aj,QM,cE,↓ab,hn,cB,cM,zO,Ac];refine aA ?_;intro s2 dK aR jD;have vO:=eJ.keeps aR;have dA:aw s.next s s2:=aY.trans (aR.weaken (by omega));have dr:=hb.keeps dA;simp only[aj,QM,↓ab,hn,qB];obtain⟨A,hA⟩:∃A:bt->ea,A=fun j=>decide (j<s2.next):=⟨_,rfl⟩
 have gu:∀j,A j=true->j<s2.next:=by
  intro j h;rw[hA] at h;exact b8 h
 have oO:∀j,j<s2.next->A j=true:=fun j h=>by rw[hA];exact bq h
 refine LB.cN.dx A gu 1 1 (by kernel_rfl) (by kernel_rfl) ?_;have dI:=aw.spare s2 1;have QN:(spare s2 1).next=s2.next+1:=bu _ _;have vP:=vO.keeps dI;have iw:∀k,LA.di A (some (.pointer (some ⟨s.next,k,some 6⟩)))=true:=fun k=>LA.bN (A:=A) (i:=s.next) (oO _ vO.lt)
 have l0:aN an (spare s2 1) 3 (.pointer (some ⟨s.next,0,some 6⟩))=some (.int .i64 kind):=vP.load aP (off:=0) (c:=6) rfl (by simp);have l1:aN an (spare s2 1) 2 (.pointer (some ⟨s.next,1,some 6⟩))=some (.int .i64 num):=vP.load Kr (off:=1) (c:=6) rfl (by simp);have l2:aN an (spare s2 1) 22 (.pointer (some ⟨s.next,2,some 6⟩))=some bv:=vP.load gJ (off:=2) (c:=6) rfl (by simp);simp only[aj,ak,bg,bn,ck,ad,ae,QM,WP,↓ab,hn,oi,Wa,M3,iw,l0,l1,l2,dr.self];refine(QT nS (spare s2 1) bv b (dr.keeps dI) (by omega)).mono ?_;rintro jS s3 ⟨CF,M4,bA⟩;have oX:=bA.next;refine⟨fun _=>LA.aw.qI gu (bA.weaken (by omega)),?_⟩;have sx:bI (.agg #[.int .i64 kind,.int .i64 num,jS,.slice none 0 0,.slice none 0 0]) (.agg #[.int .i64 kind,.int .i64 num,jS,.slice none 0 0,.slice none 0 0])=true:=xe (by simp[cw]) (by simp[cw]) CF.aL.Kq (by simp[cw]) (by simp[cw]);simp only[aj,bn,QM,↓ab,hn,bO3 kind num CF.aL.sZ,sx,zO,Ac];refine LB.gU (by omega) ?_;intro s4 ly uF oo;simp only[aj,bn,QM,WP,↓ab,hn,qB];have aav:=CF.aL.aT;refine LB.bS kn (by decide) ly rfl rfl rfl (by simp only[cb,c9,aav];rfl) (fun h=>c6 rfl h) ?_;intro s5 py Ae pz;have py:az s5 s2.next [.int .i64 kind,.int .i64 num,jS,.slice none 0 0,.slice none 0 0]:=py;have IG:aw s2.next s2 s5:=((dI.trans (bA.weaken (by omega))).trans ⟨by omega,fun j hj=>oo j (by omega)⟩).trans ⟨by omega,fun j hj=>pz j (by omega)⟩;have oE:aw s.next s s5:=dA.trans (IG.weaken (by omega));have Ks:Own s5 1 jS b.length (ofBytes b):=(CF.aK uF oo (fun e=>by have:=M4 _ e;omega)).aK Ae pz (fun e=>by have:=M4 _ e;omega);have Ma:∀j,aI jS=some j->s2.next+1<=j/\j<s5.next:=fun j hj=>⟨by have:=M4 j hj;omega,Ks.ei j hj⟩
 have Kt:=vO.keeps IG;have M5:=dK.keeps IG;have hL5:=hL.keeps oE;have l6:aN an s5 23 (.pointer (some ⟨s.next,3,some 6⟩))=some lv:=Kt.load Ad (off:=3) (c:=6) rfl (by simp);simp only[aj,bn,bl,ad,QM,WP,↓ab,hn,BT,l6,hL5.aQ aC];obtain⟨FF,M6⟩:∃FF:av->bt->Prop,FF=fun v j=>s5.next<=j/\¬(fun _=>False) j/\aI v≠some j:=⟨_,rfl⟩
 have mf:=aR.next;have aid:=IG.next;have D3:s2.next<s5.next:=py.lt;refine Comes.bD (fun z f s6=>∃(i:bt) (y:av) (LC:ax av),z=l.length-i/\i<=l.length/\Own s6 5 y i LC/\bX dV 5 (FF y) s6 (l.take i) LC/\aM s5.next y/\Own s6 1 jS b.length (ofBytes b)/\az s6 s.next [.int .i64 kind,.int .i64 num,bv,lv,dv]/\az s6 s1.next fC/\az s6 s2.next [.int .i64 kind,.int .i64 num,jS,y,.slice none 0 0]/\aw s.next s s6/\s5.next<=s6.next/\f.n=51/\f.get 1= .pointer (some ⟨s.next,0,some 6⟩)/\f.get 2= .pointer (some ⟨s1.next,0,some 6⟩)/\f.get 3= .pointer (some ⟨s2.next,0,some 6⟩)/\f.get 17=lv/\f.get 18= .int .i64 (l.length:bt)/\f.get 19= .int .i64 (i:bt))
  (fun z f s6=>z= .exit 0/\∃(y:av) (LC:ax av),Own s6 5 y l.length LC/\bX dV 5 (FF y) s6 l LC/\aM s5.next y/\Own s6 1 jS b.length (ofBytes b)/\az s6 s.next [.int .i64 kind,.int .i64 num,bv,lv,dv]/\az s6 s1.next fC/\az s6 s2.next [.int .i64 kind,.int .i64 num,jS,y,.slice none 0 0]/\aw s.next s s6/\s5.next<=s6.next/\f.n=51/\f.get 1= .pointer (some ⟨s.next,0,some 6⟩)/\f.get 2= .pointer (some ⟨s1.next,0,some 6⟩)/\f.get 3= .pointer (some ⟨s2.next,0,some 6⟩))
  ⟨0,.slice none 0 0,[],rfl,by omega,.nil,by rw[bz];exact bX.nil,aM.nil _,Ks,Kt,M5,py,oE,bw _,by simp only[aa,ag,↓ab,WP,hn,dk];rfl⟩ ?_ ?_
 ·clear hn h0 f sx ly py oo pz CF Ks Kt M5 l0 l1 l2 l6 iw vP gu oO hA A;rintro Q hQ z f s6 ⟨i,y,LC,rfl,hi,hy,hR,ko,tu,pA,nB,ju,cU,Ku,hn,h1,h2,h3,M7,IJ,Kv⟩;have BW:=hL.keeps cU;by_cases a7:i<l.length;rotate_left
  ·obtain rfl:i=l.length:=by omega
   rw[cD] at hR;have d1:¬((l.length:bt):cd)<((l.length:bt):cd):=by omega
   simp only[aj,QM,↓ab,hn,IJ,Kv,a0 d1];exact hQ _ _ _ ⟨rfl,y,LC,hy,hR,ko,tu,pA,nB,ju,cU,Ku,by simp only[aa,ag,↓ab,WP,hn,h1,h2,h3,eg]⟩
  have nh:aI y≠some s2.next:=fun e=>by have:=ko _ e;omega
  have d1:(i:cd)<(l.length:cd):=by omega
  have fk:=BW.indexAddr (P:=an) (k:= .i64) (x:=(i:cd)) aC kn (by omega) (by omega);rw[ca] at fk;have eF:=BW.fZ (P:=an) Bi kn a7;have tF:=(rl.row i a7).keeps cU;obtain⟨xs,r6⟩:∃xs,xs=(lc.drop (i*5)).take 5:=⟨_,rfl⟩
  rw[<-r6] at eF tF;have xK:=tF.len;simp only[aj,QM,WP,↓ab,hn,M7,IJ,Kv,a3 d1,fk,eF,zO,Ac];refine aA ?_;intro s7 xO iX uK;simp only[aj,QM,WP,↓ab,hn,qB];refine aG kn (by decide) xO rfl rfl xK tF.ok ?_;intro s8 xj F3 yR;have xj:az s8 s6.next xs:=xj;have pB:aw s6.next s6 s8:=iX.trans ⟨by omega,fun j hj=>yR j (by omega)⟩;have pA:=pA.keeps pB;have nB:=nB.keeps pB;have ju:=ju.keeps pB;have hy:=hy.keeps pB;have hR:=hR.keeps dQ pB;have tu:=tu.keeps pB;have tF:=tF.keeps pB;simp only[aj];obtain⟨A,hA⟩:∃A:bt->ea,A=fun j=>decide (j<s8.next):=⟨_,rfl⟩
  have gu:∀j,A j=true->j<s8.next:=by
   intro j h;rw[hA] at h;exact b8 h
  have oO:∀j,j<s8.next->A j=true:=fun j h=>by rw[hA];exact bq h
  refine LB.cN.dx A gu 1 1 (by kernel_rfl) (by kernel_rfl) ?_;have dI:=aw.spare s8 1;have QN:(spare s8 1).next=s8.next+1:=bu _ _;have uG:∀k,LA.di A (some (.pointer (some ⟨s2.next,k,some 6⟩)))=true:=fun k=>LA.bN (A:=A) (i:=s2.next) (oO _ ju.lt)
  have TQ:∀k,LA.di A (some (.pointer (some ⟨s6.next,k,some 6⟩)))=true:=fun k=>LA.bN (A:=A) (i:=s6.next) (oO _ xj.lt)
  have l8:aN an (spare s8 1) 23 (.pointer (some ⟨s2.next,3,some 6⟩))=some y:=(ju.keeps dI).load Ad (off:=3) (c:=6) rfl (by simp);have l9:aN an (spare s8 1) 26 (.pointer (some ⟨s6.next,0,some 6⟩))=some (.agg xs.toArray):=az.bd Bi (by rw[xK];exact kn) (xj.keeps dI) (by rw[xK]);have tF:=tF.keeps dI;simp only[aj,ak,bg,bn,ck,ad,ae,QM,WP,↓ab,hn,h3,BT,uG,TQ,l8,l9,hy.self,tF.self];refine(ih l[i] (by have:=O.yM (k:=kind) (n:=num) (b:=b) (l:=l) (d:=d) (bk a7);omega) F (spare s8 1) _ tF (Wb _ (bk a7))).mono ?_;intro v9 s9 h9;obtain⟨IH,rfl,rD,ot⟩:=h9.is;have hn9:=ot.next;refine⟨fun _=>LA.aw.qI gu (ot.weaken (by omega)),?_⟩;have uH:=rD.len;simp only[gn (cs:=IH.toArray) aC kn zO Ac rfl uH (by decide)];refine LB.bR (base:=s8.next) uH (by omega) (bw _) ?_;intro bs sa nj fM TR yS xf;have nk:aw s8.next s8 sa:=(dI.trans (ot.weaken (by omega))).trans TR;have Fp:=nk.next;have O3:dV (FF y) sa IH l[i]:=by
   refine(rD.turns (u:= .pointer (some ⟨s8.next,0,none⟩)) (bG.aK yS xf) (fun j hj e=> ?_)).mono (fun j hj=> ?_)
   ·have e:some s8.next=some j:=e;injection e with e;omega
   rw[M6];exact⟨by omega,fun h=>h,fun e=>by have:=hy.ei _ e;omega⟩
  simp only[aj,bn,ad,QM,WP,↓ab,hn];refine LB.eY aC aC (.inl ⟨_,rfl⟩) kn byO zO rfl (hy.keeps nk) nj.aL.src uH (by decide) O3.ok (by omega) (by omega) (base:=s5.next) ko (by omega) (fun h=>c6 rfl h) (fun j hj=>by have:=gu j hj;omega) ?_;intro y' sb Sv hFb vQ oh;have W9:=vQ.next;have hR8:=hR.keeps dQ nk;rw[M6] at hR8 O3;have hR9:=hR8.grow dQ uH O3 vQ oh;rw[show(fun j=>s5.next<=j/\¬(fun _=>False) j/\aI y' ≠some j)=FF y' by rw[M6]] at hR9;have tD:∀j,aI y=some j->s5.next<=j:=ko
  have aaC:Own sb 1 jS b.length (ofBytes b):=(tu.keeps nk).turns vQ (fun j hj e=>by have:=(Ma j hj).2;have:=tD _ e;omega);have ail:aI y' ≠some s2.next:=fun e=>by have:=hFb _ e;omega
  simp only[aj,bg,bn,bl,QM,WP,↓ab,hn,h3,BT];refine LB.fu F1 (by decide) ((ju.keeps nk).turns vQ nh) (off:=3) (c:=6) rfl (vs:=[y']) Sv.aL.sZ rfl (by simp) (by simp[Sv.aL.aT]) (fun h=>c6 rfl h) ?_;intro sc Jz D6 Af;have Jz:az sc s2.next [.int .i64 kind,.int .i64 num,jS,y',.slice none 0 0]:=Jz;have huc:bG (.pointer (some ⟨s2.next,0,none⟩)) sb sc:=bG.aK D6 Af;have Xe:∀j,FF y' j->aI (.pointer (some ⟨s2.next,0,none⟩))≠some j:=fun j hj e=>by
   have e:some s2.next=some j:=e;injection e with e;rw[M6] at hj;have:=hj.1;omega
  simp(disch:=omega)only[aj,bn,bl,QM,WP,↓ab,hn,Kv,aB];refine ar (l.length-(i+1)) (by omega) ⟨i+1,y',LC++IH,rfl,by omega,Sv.aK D6 Af ail,?_,hFb,aaC.aK D6 Af (fun e=>by have:=(Ma _ e).1;omega),((pA.keeps nk).turns vQ (fun e=>by have:=tD _ e;omega)).aK D6 Af (by omega),((nB.keeps nk).turns vQ (fun e=>by have:=tD _ e;omega)).aK D6 Af (by omega),Jz,?_,by omega,by simp only[ag,hn],by simp only[aa,↓ab,WP,h1],by simp only[aa,↓ab,WP,h2],by simp only[aa,↓ab,WP,h3],by simp only[aa,↓ab,WP,M7],by simp only[aa,↓ab,WP,IJ],by simp only[aa,↓ab];rfl⟩
  ·rw[cm,bb a7];exact hR9.turns dQ huc Xe
  exact(((cU.trans (pB.weaken cU.next)).trans (nk.weaken (by have:=cU.next;have:=pB.next;omega))).trans ((vQ.keeps ko (by omega)).weaken oE.next)).trans ⟨by omega,fun j hj=>Af j (by omega)⟩
 clear hn h0 f sx ly py oo pz CF Ks Kt M5 l0 l1 l2 l6 iw vP gu oO hA A;rintro z f s6 ⟨rfl,y,LC,uJ,hR,ko,tu,pA,nB,ju,cU,Ku,hn,h1,h2,h3⟩;have wz:=hD.keeps cU;have l6:aN an s6 24 (.pointer (some ⟨s.next,4,some 6⟩))=some dv:=pA.load yQ (off:=4) (c:=6) rfl (by simp);simp only[aj,ad,QM,↓ab,hn,h1,BU,l6,wz.aQ ao];have zu:∀j,aI y=some j->s5.next<=j/\j<s6.next:=fun j hj=>⟨ko j hj,uJ.ei j hj⟩
 have TS:=hR.below dQ;obtain⟨FI,hFI⟩:∃FI:bt->Prop,FI=fun j=>FF y j/\j<s6.next:=⟨_,rfl⟩
 rw[<-hFI] at TS;have M8:∀j,FI j->s5.next<=j/\j<s6.next/\aI y≠some j:=fun j hj=>by rw[hFI,M6] at hj;exact⟨hj.1.1,hj.2,hj.1.2.2⟩
 obtain⟨FE,hFE⟩:∃FE:av->bt->Prop,FE=fun v j=>s6.next<=j/\¬(fun _=>False) j/\aI v≠some j:=⟨_,rfl⟩
 clear hFI hR l6;clear M6 FF;refine Comes.bD (fun z f t6=>∃(i:bt) (w:av) (DC:ax av),z=d.length-i/\i<=d.length/\Own t6 6 w i DC/\bX lu 6 (FE w) t6 (d.take i) DC/\aM s6.next w/\Own t6 1 jS b.length (ofBytes b)/\Own t6 5 y l.length LC/\bX dV 5 FI t6 l LC/\az t6 s1.next fC/\az t6 s2.next [.int .i64 kind,.int .i64 num,jS,y,w]/\aw s.next s t6/\s6.next<=t6.next/\f.n=51/\f.get 2= .pointer (some ⟨s1.next,0,some 6⟩)/\f.get 3= .pointer (some ⟨s2.next,0,some 6⟩)/\f.get 32=dv/\f.get 33= .int .i64 (d.length:bt)/\f.get 34= .int .i64 (i:bt))
  (fun z f t6=>z= .exit 2/\∃(w:av) (DC:ax av),Own t6 6 w d.length DC/\bX lu 6 (FE w) t6 d DC/\aM s6.next w/\Own t6 1 jS b.length (ofBytes b)/\Own t6 5 y l.length LC/\bX dV 5 FI t6 l LC/\az t6 s1.next fC/\az t6 s2.next [.int .i64 kind,.int .i64 num,jS,y,w]/\aw s.next s t6/\s6.next<=t6.next/\f.n=51/\f.get 2= .pointer (some ⟨s1.next,0,some 6⟩)/\f.get 3= .pointer (some ⟨s2.next,0,some 6⟩))
  ⟨0,.slice none 0 0,[],rfl,by omega,.nil,by rw[bz];exact bX.nil,aM.nil _,tu,uJ,TS,nB,ju,cU,bw _,by simp only[aa,ag,↓ab,WP,hn,h2,h3,dk];rfl⟩ ?_ ?_
 ·clear hn h1 h2 h3 f pA nB ju tu uJ TS ko;rintro Q hQ z f t6 ⟨i,w,DC,rfl,hi,hw,QR,xg,tu,uJ,TS,nB,ju,cU,JC,hn,h2,h3,Wd,tG,rV⟩;have wz:=hD.keeps cU;by_cases a7:i<d.length;rotate_left
  ·obtain rfl:i=d.length:=by omega
   rw[cD] at QR;have d1:¬((d.length:bt):cd)<((d.length:bt):cd):=by omega
   simp only[aj,QM,↓ab,hn,tG,rV,a0 d1];exact hQ _ _ _ ⟨rfl,w,DC,hw,QR,xg,tu,uJ,TS,nB,ju,cU,JC,by simp only[aa,ag,↓ab,WP,hn,h2,h3,eg]⟩
  have JB:aI w≠some s2.next:=fun e=>by have:=xg _ e;omega
  have d1:(i:cd)<(d.length:cd):=by omega
  have fk:=wz.indexAddr (P:=an) (k:= .i64) (x:=(i:cd)) ao Bj (by omega) (by omega);rw[ca] at fk;have eF:=wz.fZ (P:=an) agE Bj a7;obtain⟨r,vK,fe,kP⟩:=rd.row i a7;have xM:=fe.len;have tF:=fe.keeps cU;rw[vK] at eF;obtain⟨xs,r6⟩:∃xs,xs=cT ⟨(d[i].1).toArray⟩::r:=⟨_,rfl⟩
  rw[<-r6] at eF;have xK:xs.length=6:=by rw[r6];simp[xM]
  have TT:xs.all aT=true:=by rw[r6,cb,fe.ok];rfl
  have xh:bI (.agg xs.toArray) (.agg xs.toArray)=true:=by
   have:=fe.self;rw[r6]
   match r,xM,this with
   |[a,b,c,d,e],_,this=>
    simp[bI,fc] at this|-
    exact⟨by simp[cw],this⟩
  simp only[aj,QM,WP,↓ab,hn,Wd,tG,rV,a3 d1,fk,eF,zE,Xb];refine aA ?_;intro s7 xO iX uK;have hd7:Hj.length+1=7:=rfl;simp only[aj,QM,WP,↓ab,hn,hd7];refine aG Bj (by decide) xO rfl rfl xK TT ?_;intro s8 xj F3 yR;have xj:az s8 t6.next xs:=xj;have pB:aw t6.next t6 s8:=iX.trans ⟨by omega,fun j hj=>yR j (by omega)⟩;have nB:=nB.keeps pB;have ju:=ju.keeps pB;have hw:=hw.keeps pB;have QR:=QR.keeps km pB;have TS:=TS.keeps dQ pB;have tu:=tu.keeps pB;have uJ:=uJ.keeps pB;have tF:=tF.keeps pB;have aoj:=pB.next;simp only[aj];obtain⟨A,hA⟩:∃A:bt->ea,A=fun j=>decide (j<s8.next):=⟨_,rfl⟩
  have gu:∀j,A j=true->j<s8.next:=by
   intro j h;rw[hA] at h;exact b8 h
  have oO:∀j,j<s8.next->A j=true:=fun j h=>by rw[hA];exact bq h
  refine LB.cN.dx A gu 1 1 (by kernel_rfl) (by kernel_rfl) ?_;have dI:=aw.spare s8 1;have QN:(spare s8 1).next=s8.next+1:=bu _ _;have uG:∀k,LA.di A (some (.pointer (some ⟨s2.next,k,some 6⟩)))=true:=fun k=>LA.bN (A:=A) (i:=s2.next) (oO _ ju.lt)
  have aef:∀k,LA.di A (some (.pointer (some ⟨t6.next,k,some 7⟩)))=true:=fun k=>LA.bN (A:=A) (i:=t6.next) (oO _ xj.lt)
  have l8:aN an (spare s8 1) 24 (.pointer (some ⟨s2.next,4,some 6⟩))=some w:=(ju.keeps dI).load yQ (off:=4) (c:=6) rfl (by simp);have l9:aN an (spare s8 1) 9 (.pointer (some ⟨t6.next,0,some 7⟩))=some (.string ⟨(d[i].1).toArray⟩):=by
   have:=(xj.keeps dI).load (P:=an) yP (off:=0) (c:=7) (by rw[xK]) (by omega);rw[this,r6];rfl
  have l10:aN an (spare s8 1) 26 (.pointer (some ⟨t6.next,1,some 7⟩))=some (.agg r.toArray):=by
   have:=az.qc (P:=an) Bi kn (xj.keeps dI) (off:=1) (c:=7) (by rw[xK]) (by omega);rw[this,r6,dP,ek,cv (by omega)]
  have tF:=tF.keeps dI;simp only[aj,ak,bg,bn,ck,ad,ae,QM,WP,↓ab,hn,h3,BU,II,F4,uG,aef,l8,l9,l10,hw.self,tF.self];refine(ih d[i].2 (by have:=O.Cn (k:=kind) (n:=num) (b:=b) (l:=l) (d:=d) (bk a7);omega) F (spare s8 1) _ tF (Su _ (bk a7))).mono ?_;intro v9 s9 h9;obtain⟨IH,rfl,rD,ot⟩:=h9.is;have hn9:=ot.next;refine⟨fun _=>LA.aw.qI gu (ot.weaken (by omega)),?_⟩;have uH:=rD.len;obtain⟨es,vY⟩:∃es,es=cT ⟨(d[i].1).toArray⟩::IH:=⟨_,rfl⟩
  have IF:es.length=6:=by rw[vY];simp[uH]
  have aaF:bI (.agg es.toArray) (.agg es.toArray)=true:=by
   have:=rD.self;rw[vY]
   match IH,uH,this with
   |[a,b,c,d,e],_,this=>
    simp[bI,fc] at this|-
    exact⟨by simp[cw],this⟩
  have TL:=bE d[i].1 uH;rw[<-vY] at TL;simp only[aj,bn,ae,QM,↓ab,hn,TL,aaF,gn (cs:=es.toArray) ao Bj zE Xb rfl IF (by decide)];refine LB.bR (base:=s8.next) IF (by omega) (bw _) ?_;intro bs sa nj fM TR yS xf;have nk:aw s8.next s8 sa:=(dI.trans (ot.weaken (by omega))).trans TR;have Fp:=nk.next;have O3:lu (FE w) sa es d[i]:=by
   refine⟨IH,vY,(rD.turns (u:= .pointer (some ⟨s8.next,0,none⟩)) (bG.aK yS xf) (fun j hj e=> ?_)).mono (fun j hj=> ?_),kP⟩
   ·have e:some s8.next=some j:=e;injection e with e;omega
   rw[hFE];exact⟨by omega,fun h=>h,fun e=>by have:=hw.ei _ e;omega⟩
  have D5:es.all aT=true:=by rw[vY,cb,rD.ok];rfl
  simp only[aj,bn,ad,QM,WP,↓ab,hn];refine LB.eY ao ao (.inl ⟨_,rfl⟩) Bj byE zE rfl (hw.keeps nk) nj.aL.src IF (by decide) D5 (by omega) (by omega) (base:=s6.next) xg (by omega) (fun h=>c6 rfl h) (fun j hj=>by have:=gu j hj;omega) ?_;intro w' sb hwb hFb vQ oh;have W9:=vQ.next;have TM:=QR.keeps km nk;rw[hFE] at TM O3;have TN:=TM.grow km IF O3 vQ oh;rw[show(fun j=>s6.next<=j/\¬(fun _=>False) j/\aI w' ≠some j)=FE w' by rw[hFE]] at TN;have hwl:∀j,aI w=some j->s6.next<=j:=xg
  have aaC:Own sb 1 jS b.length (ofBytes b):=(tu.keeps nk).turns vQ (fun j hj e=>by have:=(Ma j hj).2;have:=hwl _ e;omega);have aio:Own sb 5 y l.length LC:=(uJ.keeps nk).turns vQ (fun j hj e=>by have:=(zu j hj).2;have:=hwl _ e;omega);have aip:=(TS.keeps dQ nk).turns dQ vQ (fun j hj e=>by have:=(M8 j hj).2.1;have:=hwl _ e;omega);have aiq:aI w' ≠some s2.next:=fun e=>by have:=hFb _ e;omega
  simp only[aj,bg,bn,bl,QM,WP,↓ab,hn,h3,BU];refine LB.fu D2 (by decide) ((ju.keeps nk).turns vQ JB) (off:=4) (c:=6) rfl (vs:=[w']) hwb.aL.sZ rfl (by simp) (by simp[hwb.aL.aT]) (fun h=>c6 rfl h) ?_;intro sc Jz D6 Af;have Jz:az sc s2.next [.int .i64 kind,.int .i64 num,jS,y,w']:=Jz;have huc:bG (.pointer (some ⟨s2.next,0,none⟩)) sb sc:=bG.aK D6 Af;have Xe:∀j,s5.next<=j->aI (.pointer (some ⟨s2.next,0,none⟩))≠some j:=fun j hj e=>by
   have e:some s2.next=some j:=e;injection e with e;omega
  simp(disch:=omega)only[aj,bn,bl,QM,WP,↓ab,hn,rV,aB];refine ar (d.length-(i+1)) (by omega) ⟨i+1,w',DC++es,rfl,by omega,hwb.aK D6 Af aiq,?_,hFb,aaC.aK D6 Af (fun e=>by have:=(Ma _ e).1;omega),aio.aK D6 Af (fun e=>by have:=(zu _ e).1;omega),aip.turns dQ huc (fun j hj=>Xe j (M8 j hj).1),((nB.keeps nk).turns vQ (fun e=>by have:=hwl _ e;omega)).aK D6 Af (by omega),Jz,?_,by omega,by simp only[ag,hn],by simp only[aa,↓ab,WP,h2],by simp only[aa,↓ab,WP,h3],by simp only[aa,↓ab,WP,Wd],by simp only[aa,↓ab,WP,tG],by simp only[aa,↓ab];rfl⟩
  ·rw[cm,bb a7];exact TN.turns km huc (fun j hj=>Xe j (by rw[hFE] at hj;have:=hj.1;omega))
  exact(((cU.trans (pB.weaken cU.next)).trans (nk.weaken (by have:=cU.next;omega))).trans ((vQ.keeps xg (by omega)).weaken (by have:=oE.next;omega))).trans ⟨by omega,fun j hj=>Af j (by omega)⟩
 clear hn h1 h2 h3 f pA nB ju tu uJ TS;rintro z f t6 ⟨rfl,w,DC,hw,QR,xg,tu,uJ,TS,nB,ju,iX,JC,hn,h2,h3⟩;have la:=az.bd (P:=an) (cs:=[.int .i64 kind,.int .i64 num,jS,y,w]) Bi kn ju (c:=6) rfl;have ok1:=tu.aL.aT;have ok2:=uJ.aL.aT;have ok3:=hw.aL.aT;simp only[aj,QM,WP,↓ab,hn,h2,h3,la];refine aG kn (by decide) nB rfl rfl rfl (by simp only[cb,c9,ok1,ok2,ok3];rfl) ?_;intro s7 xO uK xi;have l7:=az.bd (P:=an) (cs:=[.int .i64 kind,.int .i64 num,jS,y,w]) Bi kn xO (c:=6) rfl;simp only[aj,al,oneOf,QM,WP,↓ab,hn,h2,l7,a4,Tryz.results98];have hu7:bG (.pointer (some ⟨s1.next,0,none⟩)) t6 s7:=bG.aK uK xi;have QS:∀j,s5.next<=j->aI (.pointer (some ⟨s1.next,0,none⟩))≠some j:=fun j hj e=>by
  have e:some s1.next=some j:=e;injection e with e;omega
 have Hl:=oE.next;refine⟨jS,y,w,LC,DC,rfl,tu.aK uK xi (fun e=>by have:=(Ma _ e).1;omega),uJ.aK uK xi (fun e=>by have:=(zu _ e).1;omega),hw.aK uK xi (fun e=>by have:=xg _ e;omega),fun j hj=>by have:=(Ma j hj).1;have:=dA.next;omega,fun j hj=>by have:=(zu j hj).1;omega,fun j hj=>by have:=xg j hj;omega,fun j h1 h2=>by have:=(Ma j h1).2;have:=(zu j h2).1;omega,fun j h1 h2=>by have:=(Ma j h1).2;have:=xg j h2;omega,fun j h1 h2=>by have:=(zu j h1).2;have:=xg j h2;omega,?_,?_,iX.trans ⟨by omega,fun j hj=>xi j (by have:=aY.next;omega)⟩⟩
 ·exact(TS.turns dQ hu7 (fun j hj=>QS j (M8 j hj).1)).mono dQ (fun j hj=>⟨by have:=(M8 j hj).1;omega,fun e=>by have:=(Ma j e).2;have:=(M8 j hj).1;omega,(M8 j hj).2.2,fun e=>by have:=xg j e;have:=(M8 j hj).2.1;omega⟩)
 exact(QR.turns km hu7 (fun j hj=>QS j (by rw[hFE] at hj;have:=hj.1;omega))).mono km (fun j hj=>by rw[hFE] at hj;exact⟨by have:=hj.1;omega,fun e=>by have:=(Ma j e).2;have:=hj.1;omega,fun e=>by have:=(zu j e).2;have:=hj.1;omega,hj.2.2⟩)
theorem aeg {lib:aD}(hl:lib.at 98=none)(nS:lib.at 36=none)(N:bt)(o:O)(hN:SizeOf.sizeOf o<=N)(F:bt->Prop)(s:au)(cs:ax av)(ho:dV F s cs o)(iW:Small o):
  Runs an lib 98 [.agg cs.toArray] s (O6 s o):=aed hl nS N o hN F s cs ho iW.fit
end Go.Proofs.YtdfjfncifneocaaGreat
namespace Go.Cl
section
variable {P:eb} {lib:aD} {all r:ax ev} {f:aZ} {s:au} {d:et Tmp} {Q:aZ->au->Prop}
end
theorem yT {P:eb}{d:et Tmp}{ty:ey}{ps:String}{af:Array Edge}{gd:et (bt×ea)}{f:aZ}{s:au}(g:FuncId)(xs bs:Array Operand):cV P ⟨d,.makeFunc (.func g) xs bs,ty,ps,af,gd⟩ f s=match ad f xs.toList,ad f bs.toList with
  |some l,some m=>some (.val (.func (.func g) l.toArray m.toArray) s)
  |_,_=>none:=rfl
end Go.Cl
namespace Go.Proofs.YtdfjfncifneocaaGreat
open Go.Cl
def aaH (s:au)(n:bt)(lx:ax av)(v:av)(s' :au):Prop:=Own s' 6 v n lx/\aM s.next v/\aw s.next s s'
theorem aaI {lib:aD}(hl:lib.at 207=none)(s:au)(x:av)(n:bt)(lx:ax av)(hx:aU s 6 x n lx)(tw:n<=1000000)(gF:lx.all aT=true):
  Runs an lib 207 [x] s (aaH s n lx):=by
 refine Runs.enter 8 Tryz.func207 rfl hl rfl rfl ?_;intro f hn hf;have h0:f.get 0=x:=hf 0;clear hf;simp only[aj,QM,WP,↓ab,hn,h0,hx.yI ao];refine qW (fun h=> ?_) (fun h=> ?_)
 ·obtain⟨h1,h2,_⟩:=hx.isNil h;subst h1;have:lx=[]:=cL (by have:=hx.length;omega);subst this;simp only[aj,al,oneOf,QM,↓ab,hn,ed];exact⟨.nil,aM.nil _,aw.refl _ _⟩
 simp only[aj,ae,MM ao Bj zE Xb rfl];refine bc (by rfl) ?_;intro b s1 hb hF aF;simp only[aj,ad,QM,WP,↓ab,hn,h0];refine gb ao ao (.inl ⟨_,rfl⟩) Bj byE zE rfl hb (hx.keeps aF).src hx.length (by decide) gF (by omega) (by omega) hF aF.next ?_;intro b' s2 jL zw fN _ _;simp only[aj,al,oneOf,QM,↓ab,hn,ed];exact⟨by simpa using jL,zw,aF.trans fN⟩
end Go.Proofs.YtdfjfncifneocaaGreat
namespace Go.Proofs.YtdfjfncifneocaaGreat
open Go.Cl Go.Lib
def Has (s:au)(o:O)(v:av)(s' :au):Prop:=v= .bool o.has/\aw s.next s s'
theorem Kw {lib:aD}(hl:lib.at 97=none)(F:bt->Prop)(s:au)(cs:ax av)(o:O)(ho:dV F s cs o):
  Runs an lib 97 [.agg cs.toArray] s (Has s o):=by
 cases o with
 |mk kind num b l d=>
 obtain⟨bv,lv,dv,lc,dc,rfl,-⟩:=ho.parts;refine Runs.enter 11 Tryz.func97 rfl hl rfl rfl ?_;intro f hn hf;have h0:f.get 0= .agg #[.int .i64 kind,.int .i64 num,bv,lv,dv]:=hf 0;clear hf;simp only[aj,QM,↓ab,hn,h0];refine aA ?_;intro s1 eJ aY gG;have p0:aN an s1 3 (.pointer (some ⟨s.next,0,some 6⟩))=some (.int .i64 kind):=eJ.load aP (off:=0) (c:=6) rfl (by simp);by_cases c7:kind=7
 ·simp only[aj,ak,al,oneOf,QM,WP,cE,↓ab,hn,cB,cM,oi,p0,a3 c7,en];exact⟨by simp[O.has,O.kind,c7],aY⟩
 simp only[aj,ak,al,oneOf,QM,WP,cE,↓ab,hn,cB,cM,oi,p0,a0 c7,en];exact⟨by simp[O.has,O.kind,c7];congr,aY⟩
def air (s:au)(k:ax a1)(o:O)(v:av)(s' :au):Prop:=∃cs,v= .agg (.string ⟨k.toArray⟩::cs).toArray/\dV (fun j=>s.next<=j) s' cs o/\aw s.next s s'
end Go.Proofs.YtdfjfncifneocaaGreat
namespace Go.Cl
theorem dV.aK {F:bt->Prop}{s s' :au}{cs:ax av}{o:O}{i:bt}(h:dV F s cs o)(h1:s'.next=s.next)(h2:∀q,q≠i->s'.heap.get q=s.heap.get q)(hF:¬F i):dV F s' cs o:=
 h.turns (u:= .pointer (some ⟨i,0,Option.none⟩)) (bG.aK h1 h2) (fun j hj e=>by
  have e:some i=some j:=e;injection e with e;subst e;exact hF hj)
theorem Small.bare (k n:cd):Small (.mk k n [] [] []):= .mk (by simp) (by simp) (by simp) (fun e h=>by cases h) (fun e h=>by cases h) (fun e h=>by cases h)
theorem Small.none:Small O.none:=Small.bare 0 0
def yU (d:ax (ax a1×O))(k:ax a1):O:=match d.find? (fun y=>y.1==k) with
 |some e=>e.2
 |Option.none=>O.none
def fP (o:O)(k:ax a1):O:=if o.has then yU o.vN k else O.none
theorem Kx {d:ax (ax a1×O)}{k:ax a1}{i:bt}(hi:i<d.length)(h1:d[i].1=k)(h2:∀j (h:j<i),d[j].1≠k):yU d k=d[i].2:=by
 unfold yU;have:d.find? (fun y=>y.1==k)=some d[i]:=by
  rw[List.find?_eq_some_iff_getElem];refine⟨by simpa using h1,i,hi,rfl,fun j hj=> ?_⟩;have:=h2 j hj
  simpa using this
 rw[this]
theorem D7 {d:ax (ax a1×O)}{k:ax a1}(h2:∀j (h:j<d.length),d[j].1≠k):yU d k=O.none:=by
 unfold yU;have:d.find? (fun y=>y.1==k)=none:=by
  rw[List.find?_eq_none];intro y hy;obtain⟨j,hj,rfl⟩:=List.mem_iff_getElem.1 hy
  simpa using h2 j hj
 rw[this]
end Go.Cl
namespace Go.Proofs.YtdfjfncifneocaaGreat
open Go.Cl Go.Lib
structure aok (lib:aD):Prop where
 set:lib.at 139=none
 pair:lib.at 88=none
 sorted:lib.at 176=none
 c1:lib.at 204=none
 c2:lib.at 205=none
 del:lib.at 206=none
 idx:lib.at 203=none
 aaI:lib.at 207=none
 alS:lib.at 177=none
 cmp:lib.at 208=none
 aol:lib.at 219=none
 aom:lib.at 224=some vB
 entries:lib.at 97=none
 copy:lib.at 98=none
 clone:lib.at 36=none
 ais:lib.at 85=none
 stream:lib.at 48=none
 get:lib.at 61=none
 int:lib.at 140=none
 nothing:lib.at 99=none
 arr:lib.at 89=none
 name:lib.at 86=none
theorem bO1 (k:cd):da an 26 [(0,.int .i64 k)]=some (.agg #[.int .i64 k,.int .i64 0,.slice none 0 0,.slice none 0 0,.slice none 0 0]):=by
 unfold da;rw[a8]
 have hz:b6 an 26=some (.agg #[.int .i64 0,.int .i64 0,.slice none 0 0,.slice none 0 0,.slice none 0 0]):=by kernel_rfl
 rw[hz];have ci:∀k n,(dw k n).cells= #[.int k n]:=fun _ _=>rfl
 simp[aV,Bk,iA,F1,D2,cr,iD,iu,placeOf,bJ,setAt,ci]
theorem bO0:da an 26 []=some (.agg #[.int .i64 0,.int .i64 0,.slice none 0 0,.slice none 0 0,.slice none 0 0]):=by kernel_rfl
theorem bO2 (k:cd){b:av}(hb:b.cells.toList=[b]):da an 26 [(0,.int .i64 k),(2,b)]=some (.agg #[.int .i64 k,.int .i64 0,b,.slice none 0 0,.slice none 0 0]):=by
 unfold da;rw[a8]
 have hz:b6 an 26=some (.agg #[.int .i64 0,.int .i64 0,.slice none 0 0,.slice none 0 0,.slice none 0 0]):=by kernel_rfl
 rw[hz];have ci:∀k n,(dw k n).cells= #[.int k n]:=fun _ _=>rfl
 simp[aV,Bk,iA,F1,D2,cr,iD,iu,placeOf,bJ,setAt,ci,hb]
theorem su.put {s t t' :au}{i:bt}{F:bt->Prop}{cs:ax av}{o:O}(h:dV F t cs o)(hF:∀j,F j->s.next<=j/\j≠i)(h1:t'.next=t.next)(h2:∀q,q≠i->t'.heap.get q=t.heap.get q)(hs:aw s.next s t)(hi:s.next<=i):su s o (.agg cs.toArray) t' :=
 ⟨cs,rfl,(h.aK h1 h2 (fun q=>(hF i q).2 rfl)).mono (fun j hj=>(hF j hj).1),hs.trans ⟨by omega,fun j hj=>h2 j (by omega)⟩⟩
theorem az.fi {s:au}{i:bt}{cs:ax av}(h:az s i cs)(hl:cs.length=5):aN an s 26 (.pointer (some ⟨i,0,some 6⟩))=some (.agg cs.toArray):=az.bd Bi (by rw[hl];exact kn) h (by rw[hl])
theorem Ky {lib:aD}(hl:lib.at 99=none)(s:au):Runs an lib 99 [] s (su s O.none):=by
 refine Runs.enter 2 Tryz.func99 rfl hl rfl rfl ?_;intro f hn _;simp only[aj,↓ab,zO,Ac];refine aA ?_;intro s1 eJ aY gG;have qB:fC.length+1=6:=rfl;simp only[aj,ae,QM,WP,↓ab,hn,qB,bO0];refine aG kn (by decide) eJ rfl rfl rfl rfl ?_;intro s2 dK jD Xf;simp only[aj,al,oneOf,QM,WP,↓ab,hn,az.fi dK rfl,a4,Tryz.results99];exact su.put (F:=fun _=>False) (dV.none _ s1) (fun j hj=>hj.elim) jD Xf aY (bw _)
end Go.Proofs.YtdfjfncifneocaaGreat
namespace Go.Cl
def strs (K:ax (ax a1)):ax av:=K.map fun k=> .string ⟨k.toArray⟩
end Go.Cl
namespace Go.Proofs.YtdfjfncifneocaaGreat
open Go.Cl Go.Lib
theorem Xg {lib:aD}(hl:lib.at 61=none)(hle:lib.at 97=none)(yf:lib.at 98=none)(DY:lib.at 36=none)(wO:lib.at 99=none)(F:bt->Prop)(s:au)(cs:ax av)(o:O)(ho:dV F s cs o)(iW:Small o)(k:ax a1):
  Runs an lib 61 [.agg cs.toArray,.string ⟨k.toArray⟩] s (su s (fP o k)):=by
 have iz:=ho.len;refine Runs.enter 25 Tryz.func61 rfl hl rfl rfl ?_;intro f hn hf;have h0:f.get 0= .agg cs.toArray:=hf 0;have h1:f.get 1= .string ⟨k.toArray⟩:=hf 1;clear hf;simp only[aj,QM,↓ab,hn,h0];refine aA ?_;intro s1 eJ aY gG;have qB:fC.length+1=6:=rfl;simp only[aj,QM,cE,↓ab,hn,iz,zO,Ac];refine aA ?_;intro s2 dK aR jD;have dA:aw s.next s s2:=aY.trans (aR.weaken (by omega));have vO:=eJ.keeps aR;simp only[aj,ak,ad,QM,WP,↓ab,hn,az.fi vO iz,qB];refine(Kw hle F s2 cs o (ho.keeps dA)).mono ?_;rintro _ s3 ⟨rfl,bA⟩;have vP:=vO.keeps bA;have aiu:=dK.keeps bA;have iT:=dA.trans (bA.weaken dA.next);cases hh:o.has with
 |false=>
  have e:fP o k=O.none:=by unfold fP;rw[hh];rfl
  rw[e];simp only[aj,ak,ad,QM,↓ab,hn];refine(Ky wO s3).mono ?_;rintro _ q4 ⟨gY,rfl,BI,hq4⟩;have M9:=BI.len;have q24:=(bA).trans (hq4.weaken (bA).next);have gZ:=aY.next;have mf:=dA.next;have oX:=(bA).next;simp only[aj,QM,WP,↓ab,hn];refine aG kn (by decide) (dK.keeps q24) rfl rfl M9 BI.ok ?_;intro q5 py Ae pz;simp only[aj,al,oneOf,QM,WP,↓ab,hn,az.fi py M9,a4,dt];exact su.put BI (fun j hj=>⟨by omega,by omega⟩) Ae pz (dA.trans (q24.weaken dA.next)) gZ
 |true=>
 cases o with
 |mk kind num b l d=>
 obtain⟨bv,lv,dv,lc,dc,rfl,hb,hL,hD,fb,fl,fd,rl,rd⟩:=ho.parts;cases iW with
 |mk fp iG yp hK1 Wb Su=>
 have hg:fP (.mk kind num b l d) k=yU d k:=by unfold fP;rw[hh];rfl
 have D8:=hD.keeps iT;have l9:aN an s3 24 (.pointer (some ⟨s.next,4,some 6⟩))=some dv:=vP.load yQ (off:=4) (c:=6) rfl (by simp);simp only[aj,ad,QM,WP,↓ab,hn,BU,l9,D8.aQ ao];refine Comes.bD (fun z f t=>∃i:bt,z=d.length-i/\i<=d.length/\(∀j (h:j<d.length),j<i->d[j].1≠k)/\aw s2.next s2 t/\f.n=25/\f.get 1= .string ⟨k.toArray⟩/\f.get 4= .pointer (some ⟨s1.next,0,some 6⟩)/\f.get 10=dv/\f.get 11= .int .i64 (d.length:bt)/\f.get 12= .int .i64 (i:bt))
  (fun z f t=>(z= .ret/\f.n=25/\f.get 4= .pointer (some ⟨s1.next,0,some 6⟩)/\∃gY,az t s1.next gY/\dV (fun j=>s2.next<=j) t gY (fP (.mk kind num b l d) k)/\aw s.next s t)\/(z= .exit 0/\f.n=25/\f.get 4= .pointer (some ⟨s1.next,0,some 6⟩)/\fP (.mk kind num b l d) k=O.none/\aw s2.next s2 t))
  ⟨0,rfl,by omega,fun j h h' =>by omega,bA,by simp only[aa,ag,↓ab,WP,hn,h1,dk];rfl⟩ ?_ ?_
 ·clear hn h0 h1 f;rintro Q hQ z f t ⟨i,rfl,hi,hP,aF,hn,h1,h4,cJ,eC,oF⟩;by_cases a7:i<d.length;rotate_left
  ·obtain rfl:i=d.length:=by omega
   have d1:¬((d.length:bt):cd)<((d.length:bt):cd):=by omega
   simp only[aj,ak,QM,↓ab,hn,eC,oF,a0 d1];exact hQ _ _ _ (.inr ⟨rfl,by simp only[ag,hn],by simp only[aa,↓ab,WP,h4],by rw[hg];exact D7 (fun j h=>hP j h h),aF⟩)
  have d1:(i:cd)<(d.length:cd):=by omega
  have F5:aw s.next s t:=dA.trans (aF.weaken dA.next);have We:=hD.keeps F5;have fk:=We.indexAddr (P:=an) (k:= .i64) (x:=(i:cd)) ao Bj (by omega) (by omega);rw[ca] at fk;have Ie:=We.fZ (P:=an) agE Bj a7;obtain⟨r,vK,fe,kP⟩:=rd.row i a7;have xM:=fe.len;rw[vK] at Ie;obtain⟨xs,r6⟩:∃xs,xs=cT ⟨(d[i].1).toArray⟩::r:=⟨_,rfl⟩
  rw[<-r6] at Ie;have xK:xs.length=6:=by rw[r6];simp[xM]
  have TT:xs.all aT=true:=by rw[r6,cb,fe.ok];rfl
  have hd7:Hj.length+1=7:=rfl;simp only[aj,ak,QM,WP,↓ab,hn,cJ,eC,oF,a3 d1,fk,Ie,zE,Xb];refine aA ?_;intro t1 aiw Hm alT;simp only[aj,QM,WP,↓ab,hn,hd7];refine aG Bj (by decide) aiw rfl rfl xK TT ?_;intro t2 Xh alU aei;have Xh:az t2 t.next xs:=Xh;have aej:aw t.next t t2:=Hm.trans ⟨by omega,fun j hj=>aei j (by omega)⟩;have l17:aN an t2 9 (.pointer (some ⟨t.next,0,some 7⟩))=some (.string ⟨(d[i].1).toArray⟩):=by
   have:=Xh.load (P:=an) yP (off:=0) (c:=7) (by rw[xK]) (by omega);rw[this,r6];rfl
  have l21:aN an t2 26 (.pointer (some ⟨t.next,1,some 7⟩))=some (.agg r.toArray):=by
   have:=az.qc (P:=an) Bi kn Xh (off:=1) (c:=7) (by rw[xK]) (by omega);rw[this,r6,dP,ek,cv (by omega)]
  have TU:aw s2.next s2 t2:=aF.trans (aej.weaken aF.next);have aix:aw s.next s t2:=dA.trans (TU.weaken dA.next);by_cases Xi:d[i].1=k
  ·have aaJ:Small d[i].2:=Su _ (bk a7);simp only[aj,ak,ad,QM,WP,↓ab,hn,h1,II,F4,l17,fJ,l21,bq Xi];refine(aeg yf DY _ d[i].2 (bw _) F t2 _ (fe.keeps aix) aaJ).mono ?_;intro v t3 h3;obtain⟨gY,rfl,wM,mq⟩:=h3.is;have Na:=wM.len;have Xj:aw s2.next s2 t3:=TU.trans (mq.weaken TU.next);have aiy:=TU.next;simp only[aj,QM,WP,↓ab,hn,h4];refine aG kn (by decide) (dK.keeps Xj) rfl rfl Na wM.ok ?_;intro t4 ly uF oo;simp only[aj];have gZ:=aY.next;refine hQ _ _ _ (.inl ⟨rfl,by simp only[ag,hn],by simp only[aa,↓ab,WP,h4],gY,ly,?_,(dA.trans (Xj.weaken dA.next)).trans ⟨by omega,fun j hj=>oo j (by omega)⟩⟩);rw[hg,Kx a7 Xi (fun j hj=>hP j (by omega) hj)];exact(wM.aK uF oo (by omega)).mono (fun j hj=>by omega)
  simp(disch:=omega)only[aj,QM,WP,↓ab,hn,h1,oF,II,l17,fJ,a2 Xi,aB];refine ar (d.length-(i+1)) (by omega) ⟨i+1,rfl,by omega,fun j h hj=> ?_,TU,by simp only[ag,hn],by simp only[aa,↓ab,WP,h1],by simp only[aa,↓ab,WP,h4],by simp only[aa,↓ab,WP,cJ],by simp only[aa,↓ab,WP,eC],by simp only[aa,↓ab];rfl⟩;by_cases gD:j=i
  ·subst gD;exact Xi
  exact hP j h (by omega)
 clear hn h0 h1 f;rintro z f t (⟨rfl,hn,h4,gY,ly,BI,eP⟩|⟨rfl,hn,h4,GL,aF⟩)
 ·simp only[aj,al,oneOf,QM,↓ab,hn,h4,az.fi ly BI.len,a4,dt];have:=dA.next;exact⟨gY,rfl,BI.mono (fun j hj=>by omega),eP⟩
 rw[GL];have F5:aw s.next s t:=dA.trans (aF.weaken dA.next);simp only[aj,ak,ad,↓ab];refine(Ky wO t).mono ?_;rintro _ q4 ⟨gY,rfl,BI,hq4⟩;have M9:=BI.len;have q24:=(aF).trans (hq4.weaken (aF).next);have gZ:=aY.next;have mf:=dA.next;have oX:=(aF).next;simp only[aj,QM,WP,↓ab,hn,h4];refine aG kn (by decide) (dK.keeps q24) rfl rfl M9 BI.ok ?_;intro q5 py Ae pz;simp only[aj,al,oneOf,QM,WP,↓ab,hn,h4,az.fi py M9,a4,dt];exact su.put BI (fun j hj=>⟨by omega,by omega⟩) Ae pz (dA.trans (q24.weaken dA.next)) gZ
end Go.Proofs.YtdfjfncifneocaaGreat
namespace Go.Cl
open Go.RowKit Go.ChangeShapes Go.WideShapes
theorem VR.aiz {S:St}{cs ds:ax av}{d:Array av}(h:ft S cs ds)(hd:d.toList=ds):VR S (.agg cs.toArray) (.agg d):=by
 subst hd;exact .agg _ _ h.1 h.2
end Go.Cl
namespace Go.Proofs.YtdfjfncifneocaaGreat
open Go.Cl Go.Lib Go.RowKit Go.ChangeShapes Go.WideShapes
variable {H:Type} {enc:ey×av->H} {W:World}
theorem Xk {S:St}(h:nU W S){r:Reach}{b0:bt}{v:av}{d:DataW H}{ps:ax MemPlace}(Nb:eu an W r b0 26 v)(hd:DataW.Trod enc an W 0 (fun _=>true) true 26 v d ps)(hw:Wt an 26 d):
  ∃(S' :St) (cs:ax av) (o:O),ss W S S' /\VR S' (.agg cs.toArray) v/\dV (fun _=>True) S'.s cs o/\Fit o:=by
 obtain⟨c,rfl,_⟩:=okWide_struct a8 Nb;obtain⟨fuel,hf⟩:=hd;obtain⟨S',gY,o,hg,hv,_,ho,gm⟩:=TH fuel S h _ _ hf hw;exact⟨S',gY,o,hg,.aiz hv rfl,ho.mono (fun _ _=>trivial),gm⟩
theorem aaK:1<=an.bytesOf 9:=by rw[show an.bytesOf 9=16 from by kernel_rfl];decide
theorem TV {S:St}(h:nU W S){r:Reach}{b0:bt}{v:av}{d:DataW H}{ps:ax MemPlace}(hd:DataW.Trod enc an W 0 (fun _=>true) true 27 v d ps)(hw:Wt an 27 d)(Nb:eu an W r b0 27 v):
  ∃(S' :St) (v' :av) (K:ax (ax a1)),ss W S S' /\VR S' v' v/\aU S'.s 1 v' K.length (Cl.strs K)/\(∀k∈K,k.length<=140737488351232)/\K.length<=140737488351232:=by
 obtain⟨a,len,cap,rfl⟩:=okWide_slice cx Nb;obtain⟨fuel,hf⟩:=hd;obtain⟨S',v',v,lb,K,e,hg,hv,hs,_,hq,hp,hk⟩:=vA h (Q:=fun _ _ cs (k:ax a1)=>cs=[.string ⟨k.toArray⟩]) (p:=fun k=>k.length<=reachBytes) (fun h _=>h) (fun h _=>h) cx coS (by decide) aaK (fun m _ S hS cs x h hw=>by
   obtain⟨c,e,ec,_⟩:=DataW.trod_string Tryz.underlying9 h;rw[ec] at hw;have w0:=hw c.data.toList.length (by simp[DataW.weights]);exact⟨S,[.string c],c.data.toList,ss.refl hS,by rw[e];exact .cons (.string _) .nil,rfl,by cases c;simp,w0⟩) hf hw
 have e' :[Value.slice a len cap]=[v]:=e;injection e' with e';subst e';rw[yN] at hk;have hl:=hs.length;rw[ew] at hl;have hB:lb=Cl.strs K:=by
  refine List.ext_getElem? fun i=> ?_
  by_cases hi:i<K.length
  ·have h0:((lb.drop (i*1)).take 1)[0]?=some (.string ⟨(K[i]).toArray⟩):=by rw[hq i hi];rfl
   rw[c8 (by omega),dT,er,ew] at h0;rw[h0];simp[Cl.strs,bb hi]
  rw[dg (by omega),dg (by simp[Cl.strs];omega)]
 subst hB;exact⟨S',v',K,hg,hv,hs,(fun k hk=>by have:=hp k hk;rwa [yN] at this),by omega⟩
end Go.Proofs.YtdfjfncifneocaaGreat
namespace Go.Proofs.YtdfjfncifneocaaGreat
open Go.Cl
theorem xk:br an 9=some 1:=by kernel_rfl
theorem uL:bU an 9=some false:=by kernel_rfl
def D9 (T:ax (ax a1)):ax av:=T.map fun a=> .string ⟨a.toArray⟩
theorem Hn {T:ax (ax a1)}{i:bt}(h:i<T.length):(D9 T).getD i undef= .string ⟨(T[i]).toArray⟩:=by
 simp[D9,cc,bb h]
def aek (s:au)(a:ax a1)(T:ax (ax a1))(v:av)(s' :au):Prop:=(∃r:cd,v= .int .i64 r/\(0<=r↔a∈T))/\s' =s
theorem Nc {lib:aD}(hl:lib.at 78=none)(s:au)(x:av)(a:ax a1)(T:ax (ax a1))(hx:aU s 1 x T.length (D9 T))(hT:T.length<=1000000):
  Runs an lib 78 [x,.string ⟨a.toArray⟩] s (aek s a T):=by
 refine Runs.enter 19 Tryz.func78 rfl hl rfl rfl ?_;intro f hn hf;have h0:f.get 0=x:=hf 0;have h1:f.get 1= .string ⟨a.toArray⟩:=hf 1;clear hf;simp only[aj,ad,QM,WP,↓ab,hn,h0,hx.aQ cx];refine Comes.de (fun z f s' =>∃(i:bt),z=T.length-i/\i<=T.length/\a∉T.take i/\s' =s/\f.n=19/\f.get 0=x/\f.get 1= .string ⟨a.toArray⟩/\f.get 7= .int .i64 T.length/\f.get 8= .int .i64 i)
  ⟨0,rfl,by omega,by simp,rfl,by simp only[aa,ag,↓ab,WP,hn,h0,h1,dk];rfl⟩ ?_
 clear hn h0 h1 f;rintro z f s2 ⟨i,rfl,hi,L6,dA,hn,h0,h1,h7,h8⟩;subst dA;by_cases a7:i<T.length
 ·have c1:(i:cd)<(T.length:cd):=by omega
  have jv:=hx.indexAddr (k:= .i64) (x:=(i:cd)) cx xk (by omega) (by omega);rw[ca] at jv;have eF:=hx.cu (P:=an) uL a7;rw[Hn a7] at eF;have O7:T.take (i+1)=T.take i++[T[i]]:=by rw[List.take_succ_eq_append_getElem a7]
  have he:=fJ (P:=an) (t:=9) a T[i];by_cases c2:a=T[i]
  ·rw[bq c2] at he;simp only[aj,QM,WP,↓ab,hn,h0,h1,h7,h8,a3 c1,jv,eF,he];simp only[aj,al,oneOf,QM,↓ab,hn,eo];exact⟨⟨(i:cd),rfl,by rw[c2];simp⟩,rfl⟩
  rw[a2 c2] at he;simp(disch:=omega)only[aj,QM,WP,↓ab,hn,h0,h1,h7,h8,a3 c1,jv,eF,he,aB];refine ar (T.length-(i+1)) (by omega) ⟨i+1,rfl,by omega,by rw[O7];intro h;rcases List.mem_append.mp h with h|h;exact L6 h;exact c2 (List.mem_singleton.mp h),rfl,by simp only[ag,hn],by simp only[aa,↓ab,WP,h0],by simp only[aa,↓ab,WP,h1],by simp only[aa,↓ab,WP,h7],by simp only[aa,↓ab];rfl⟩
 obtain rfl:i=T.length:=by omega
 have c1:¬(T.length:cd)<(T.length:cd):=by omega
 rw[cv (bw _)] at L6;simp only[aj,al,oneOf,QM,↓ab,hn,h7,h8,a0 c1,eo];exact⟨⟨-1,rfl,by simp[L6]⟩,rfl⟩
theorem wA {lib:aD}(hl:lib.at 43=none)(hli:lib.at 78=none)(s:au)(x:av)(a:ax a1)(T:ax (ax a1))(hx:aU s 1 x T.length (D9 T))(hT:T.length<=1000000):
  Runs an lib 43 [x,.string ⟨a.toArray⟩] s fun v s' =>v= .bool (decide (a∈T))/\s' =s:=by
 refine Runs.enter 9 Tryz.func43 rfl hl rfl rfl ?_;intro f hn hf;have h0:f.get 0=x:=hf 0;have h1:f.get 1= .string ⟨a.toArray⟩:=hf 1;clear hf;simp only[aj,ak,ad,QM,WP,↓ab,hn,h0,h1];refine(Nc hli s x a T hx hT).mono ?_;rintro _ s2 ⟨⟨r,rfl,hr⟩,dA⟩;subst dA;by_cases c1:a∈T
 ·have c2:0<=r:=hr.mpr c1;rw[bq c1];simp only[aj,al,oneOf,QM,↓ab,hn,a3 c2,ep]
 have c2:¬0<=r:=fun e=>c1 (hr.mp e)
 rw[a2 c1];simp only[aj,al,oneOf,QM,↓ab,hn,a0 c2,ep]
end Go.Proofs.YtdfjfncifneocaaGreat
namespace Go.Cl.Pr
def mR (a b:cd):cd:=if b-a>a-b then b-a else a-b
def fD (a b c:cd):cd:=if mR (a+b-c) a<=mR (a+b-c) b/\mR (a+b-c) a<=mR (a+b-c) c then a else if mR (a+b-c) b<=mR (a+b-c) c then b else c
def il (tag a b c:cd):cd:=if tag=1 then a else if tag=2 then b else if tag=3 then(a+b)/2 else if tag=4 then fD a b c else 0
def Ea (z:cd):a1:=UInt8.ofNat (z%256).toNat
theorem Ho (z:cd):((Ea z).toNat:cd)=z%256:=by
 have:(Ea z).toNat=(z%256).toNat%256:=UInt8.toNat_ofNat';rw[this];omega
def lz (l:ax a1)(n c i:bt):cd:=if c<=i%n then(((l.getD (i-c) 0).toNat:bt):cd) else 0
def iL (l:ax a1)(n i:bt):cd:=if n<=i then(((l.getD (i-n) 0).toNat:bt):cd) else 0
def fg (l:ax a1)(n c i:bt):cd:=if n<=i/\c<=i%n then(((l.getD (i-n-c) 0).toNat:bt):cd) else 0
theorem rE (x:a1):(0:cd)<=((x.toNat:bt):cd)/\((x.toNat:bt):cd)<=255:=by have:=x.toNat_lt;omega
theorem TW (l:ax a1)(n c i:bt):0<=lz l n c i/\lz l n c i<=255:=by
 unfold lz;split
 ·exact rE _
 omega
theorem QU (l:ax a1)(n i:bt):0<=iL l n i/\iL l n i<=255:=by
 unfold iL;split
 ·exact rE _
 omega
theorem Nd (l:ax a1)(n c i:bt):0<=fg l n c i/\fg l n c i<=255:=by
 unfold fg;split
 ·exact rE _
 omega
def gs (tag:cd)(l:ax a1)(n c i:bt):cd:=il tag (lz l n c i) (iL l n i) (fg l n c i)
def hdP (T:cd)(g:ea)(n i:bt):ax a1:=if g=true/\i%n=0 then [Ea T] else []
def pC (p co cl:cd):Prop:=(p=1\/p=2\/(10<=p/\p<=15))/\1<=co/\co<=4/\1<=cl/\cl<=4096
instance (p co cl:cd):Decidable (pC p co cl):=by unfold pC;infer_instance
def IK (l:ax a1)(n r:bt):ax a1:=(l.drop (r*n)).take n
theorem KA {l:ax a1}{n r:bt}(h:(r+1)*n<=l.length):(IK l n r).length=n:=by
 have:r*n+n<=l.length:=by rw[Nat.succ_mul] at h;exact h
 unfold IK;rw[List.length_take,List.length_drop];omega
theorem Hp {l:ax a1}{n r k:bt}(hk:k<n):(IK l n r).getD k 0=l.getD (r*n+k) 0:=by
 unfold IK;rw[cc,cc,c8 hk,dT]
def uM (l:ax a1)(n m:bt):ax (ax a1):=(List.range m).map (IK l n)
theorem IL (l:ax a1)(n m:bt):(uM l n m).length=m:=by simp[uM]
theorem QV {l:ax a1}{n m r:bt}(h:r<(uM l n m).length):(uM l n m)[r]=IK l n r:=by simp[uM]
theorem Ng (l:ax a1)(n m:bt):uM l n (m+1)=uM l n m++[IK l n m]:=by simp[uM,List.range_succ]
theorem Nh {n r k:bt}(hk:k<n):(r*n+k)%n=k:=by rw[Nat.mul_comm,Nat.mul_add_mod,Nat.mod_eq_of_lt hk]
end Go.Cl.Pr
namespace Go.Cl
section
variable {P:eb} {lib:aD} {all:ax ev}
theorem Eb:∀(r1 r2:ax ev) (f:aZ) (s:au) (Q:aZ->au->Prop),lP P lib all r1 f s (fun f s=>lP P lib all r2 f s Q)->lP P lib all (r1++r2) f s Q
 |[],r2,f,s,Q,h=>by rw[yq] at h;exact h
 |o::r1,r2,f,s,Q,h=>by
  have jA:∀(d:et Tmp) (v:av) (s' :au),dm f d v (fun f' =>lP P lib all r1 f' s' (fun f s=>lP P lib all r2 f s Q))->dm f d v (fun f' =>lP P lib all (r1++r2) f' s' Q):=fun d v s' =>by
   unfold dm;split
   ·exact Eb r1 r2 _ _ Q
   exact id
  rw[List.cons_append,oV];rw[oV] at h;revert h;cases cH all o f with
  |true=>
   rw[lQ,lQ];unfold iH;split
   ·exact jA _ _ _
   ·exact fun h=>h.mono (fun v s' =>jA _ _ _)
   exact id
  |false=>exact jA _ _ _
theorem KD {r:ax ev}{o:ev}{f:aZ}{s:au}{Q:aZ->au->Prop}{b:ea}(n:bt)(J:aZ->au->Prop)(h1:∀Q' :aZ->au->Prop,(∀f' s',J f' s' ->Q' f' s')->pk P lib all o (r.take n) f s Q' b)(h2:∀f' s',J f' s' ->lP P lib all (r.drop n) f' s' Q):pk P lib all o r f s Q b:=by
 have h:=h1 _ h2;have jA:∀(d:et Tmp) (v:av) (s' :au),dm f d v (fun f' =>lP P lib all (r.take n) f' s' (fun f s=>lP P lib all (r.drop n) f s Q))->dm f d v (fun f' =>lP P lib all r f' s' Q):=fun d v s' =>by
  unfold dm;split
  ·intro h;have:=Eb (r.take n) (r.drop n) _ _ Q h
   rwa [List.take_append_drop] at this
  exact id
 revert h;cases b with
 |true=>
  rw[lQ,lQ];unfold iH;split
  ·exact jA _ _ _
  ·exact fun h=>h.mono (fun v s' =>jA _ _ _)
  exact id
 |false=>exact jA _ _ _
end
theorem Ni {P:eb}{lib:aD}{all r:ax ev}{o:ev}{f:aZ}{s:au}{Q:aZ->au->Prop}{b:ea}(J:aZ->au->Prop)(h1:∀Q' :aZ->au->Prop,(∀f' s',J f' s' ->Q' f' s')->pk P lib all o r f s Q' b)(h2:∀f' s',J f' s' ->Q f' s'):pk P lib all o r f s Q b:=h1 Q h2
end Go.Cl
namespace Go.Proofs.YtdfjfncifneocaaGreat
open Go.Cl Go.Cl.Pr
theorem Ec (i o c:bt):ay an 56 (.pointer (some ⟨i,o,some c⟩)) 0=some (.pointer (some ⟨i,o+0,some c⟩)):=by
 unfold ay;rw[c4];simp[aV]
theorem Nj (i o c:bt):ay an 56 (.pointer (some ⟨i,o,some c⟩)) 1=some (.pointer (some ⟨i,o+1,some c⟩)):=by
 unfold ay;rw[c4];simp[aV]
theorem QW (i o c:bt):ay an 56 (.pointer (some ⟨i,o,some c⟩)) 2=some (.pointer (some ⟨i,o+2,some c⟩)):=by
 unfold ay;rw[c4];simp[aV]
theorem Ed (i o c:bt):ay an 66 (.pointer (some ⟨i,o,some c⟩)) 0=some (.pointer (some ⟨i,o+0,some c⟩)):=by
 unfold ay;rw[c5];simp[aV]
theorem F6 (i o c:bt):ay an 66 (.pointer (some ⟨i,o,some c⟩)) 1=some (.pointer (some ⟨i,o+1,some c⟩)):=by
 unfold ay;rw[c5];simp[aV]
theorem Nk (i o c:bt):ay an 66 (.pointer (some ⟨i,o,some c⟩)) 2=some (.pointer (some ⟨i,o+2,some c⟩)):=by
 unfold ay;rw[c5];simp[aV]
theorem F7 (i o c:bt):ay an 141 (.pointer (some ⟨i,o,some c⟩)) 0=some (.pointer (some ⟨i,o+0,some c⟩)):=by
 unfold ay;rw[c0];simp[aV]
theorem Ee (i o c:bt):ay an 141 (.pointer (some ⟨i,o,some c⟩)) 1=some (.pointer (some ⟨i,o+1,some c⟩)):=by
 unfold ay;rw[c0];simp[aV]
theorem Ef (i o c:bt):ay an 141 (.pointer (some ⟨i,o,some c⟩)) 2=some (.pointer (some ⟨i,o+2,some c⟩)):=by
 unfold ay;rw[c0];simp[aV]
abbrev i3 (a b c:cd):av:= .agg #[.int .i64 a,.int .i64 b,.int .i64 c]
abbrev l3 (a b c:cd):ax av:=[.int .i64 a,.int .i64 b,.int .i64 c]
theorem TX:bU an 56=some true:=by kernel_rfl
theorem O8:bU an 66=some true:=by kernel_rfl
theorem TY:bU an 141=some true:=by kernel_rfl
theorem KE:br an 56=some 3:=by kernel_rfl
theorem Hq:br an 66=some 3:=by kernel_rfl
theorem O9:br an 141=some 3:=by kernel_rfl
theorem ael:b6 an 141=some (i3 0 0 0):=by kernel_rfl
theorem Y6:cr (i3 0 0 0)=true:=by kernel_rfl
theorem Cp (a b c:cd):bI (i3 a b c) (i3 a b c)=true:=by simp[bI,fc,cw]
def Ag (s:au)(p:Prop)[Decidable p](v:av)(s' :au):Prop:=v= .bool (decide p)/\aw s.next s s'
theorem KF {lib:aD}(hl:lib.at 46=none)(s:au)(p co cl:cd):Runs an lib 46 [i3 p co cl] s (Ag s (pC p co cl)):=by
 obtain⟨QQ,eK⟩:∃QQ:av->au->Prop,QQ=Ag s (pC p co cl):=⟨_,rfl⟩
 rw[<-eK];refine Runs.enter 43 Tryz.func46 rfl hl rfl rfl ?_;intro f hn hf;have h0:f.get 0=i3 p co cl:=hf 0;clear hf;simp only[aj,QM,↓ab,hn,h0];refine aA ?_;intro s1 ht aF vR;have ht:az s1 s.next (l3 p co cl):=ht;have p0:aN an s1 3 (.pointer (some ⟨s.next,0,some 4⟩))=some (.int .i64 p):=ht.load aP (off:=0) (c:=4) rfl (by simp);have p1:aN an s1 3 (.pointer (some ⟨s.next,1,some 4⟩))=some (.int .i64 co):=ht.load aP (off:=1) (c:=4) rfl (by simp);have p2:aN an s1 3 (.pointer (some ⟨s.next,2,some 4⟩))=some (.int .i64 cl):=ht.load aP (off:=2) (c:=4) rfl (by simp);have Ah:[dw .i64 p,.int .i64 co,.int .i64 cl].length+1=4:=rfl;simp only[aj,ak,QM,WP,↓ab,hn,Ah,Ec,p0];refine Ni (fun f' s' =>s' =s1/\f'.n=43/\f'.get 1= .pointer (some ⟨s.next,0,some 4⟩)/\∃t:ea,f'.get 3= .bool t/\(t=true↔(p=1\/p=2\/(10<=p/\p<=15)))) ?_ ?_
 ·intro Q' hQ;by_cases c1:p=1
  ·simp only[aj,ak,QM,WP,↓ab,undef,hn,a3 c1];exact hQ _ _ ⟨rfl,by simp only[ag,hn],by simp only[aa,↓ab,WP],true,by simp only[aa,↓ab],⟨fun _=>by omega,fun _=>rfl⟩⟩
  by_cases c2:p=2
  ·simp only[aj,ak,QM,WP,↓ab,undef,hn,Ec,p0,a0 c1,a3 c2];exact hQ _ _ ⟨rfl,by simp only[ag,hn],by simp only[aa,↓ab,WP],true,by simp only[aa,↓ab],⟨fun _=>by omega,fun _=>rfl⟩⟩
  by_cases c3:10<=p;rotate_left
  ·simp only[aj,ak,QM,WP,↓ab,undef,hn,Ec,p0,a0 c1,a0 c2,a0 c3];exact hQ _ _ ⟨rfl,by simp only[ag,hn],by simp only[aa,↓ab,WP],false,by simp only[aa,↓ab],⟨fun h=>by(cases h),fun h=>by omega⟩⟩
  simp only[aj,ak,QM,WP,↓ab,hn,Ec,p0,a0 c1,a0 c2,a3 c3];exact hQ _ _ ⟨rfl,by simp only[ag,hn],by simp only[aa,↓ab,WP],decide (p<=15),by simp only[aa,↓ab],by simp[c1,c2,c3]⟩
 clear hn h0 f;rintro f s' ⟨tQ,hn,h1,t,h3,jE⟩;rw[tQ];cases t with
 |false=>
  simp only[aj,ak,al,oneOf,QM,WP,↓ab,undef,hn,h3,cz];rw[eK];exact⟨by rw[a2 (fun h=>Bool.noConfusion (jE.2 h.1))],aF⟩
 |true=>
 by_cases d1:1<=co;rotate_left
 ·simp only[aj,ak,al,oneOf,QM,WP,↓ab,undef,hn,h1,h3,Nj,p1,a0 d1,cz];rw[eK];exact⟨by rw[a2 (fun h:pC p co cl=>d1 h.2.1)],aF⟩
 by_cases d2:co<=4;rotate_left
 ·simp only[aj,ak,al,oneOf,QM,WP,↓ab,undef,hn,h1,h3,Nj,p1,a3 d1,a0 d2,cz];rw[eK];exact⟨by rw[a2 (fun h:pC p co cl=>d2 h.2.2.1)],aF⟩
 by_cases d3:1<=cl;rotate_left
 ·simp only[aj,ak,al,oneOf,QM,WP,↓ab,undef,hn,h1,h3,Nj,QW,p1,p2,a3 d1,a3 d2,a0 d3,cz];rw[eK];exact⟨by rw[a2 (fun h:pC p co cl=>d3 h.2.2.2.1)],aF⟩
 simp only[aj,ak,al,oneOf,QM,WP,↓ab,hn,h1,h3,Nj,QW,p1,p2,a3 d1,a3 d2,a3 d3,cz];rw[eK];refine⟨congrArg _ ?_,aF⟩;exact decide_eq_decide.2 ⟨fun h=>⟨jE.1 rfl,d1,d2,d3,h⟩,fun h=>h.2.2.2.2⟩
theorem Hr {lib:aD}(hl:lib.at 50=none)(s:au)(p co cl:cd):Runs an lib 50 [i3 p co cl] s (Ag s (pC p co cl)):=by
 obtain⟨QQ,eK⟩:∃QQ:av->au->Prop,QQ=Ag s (pC p co cl):=⟨_,rfl⟩
 rw[<-eK];refine Runs.enter 41 Tryz.func50 rfl hl rfl rfl ?_;intro f hn hf;have h0:f.get 0=i3 p co cl:=hf 0;clear hf;simp only[aj,QM,↓ab,hn,h0];refine aA ?_;intro s1 ht aF vR;have ht:az s1 s.next (l3 p co cl):=ht;have p0:aN an s1 3 (.pointer (some ⟨s.next,0,some 4⟩))=some (.int .i64 p):=ht.load aP (off:=0) (c:=4) rfl (by simp);have p1:aN an s1 3 (.pointer (some ⟨s.next,1,some 4⟩))=some (.int .i64 co):=ht.load aP (off:=1) (c:=4) rfl (by simp);have p2:aN an s1 3 (.pointer (some ⟨s.next,2,some 4⟩))=some (.int .i64 cl):=ht.load aP (off:=2) (c:=4) rfl (by simp);have Ah:[dw .i64 p,.int .i64 co,.int .i64 cl].length+1=4:=rfl;simp only[aj,ak,QM,WP,↓ab,hn,Ah,Ed,p0];refine KD 13 (fun f' s' =>s' =s1/\f'.n=41/\f'.get 1= .pointer (some ⟨s.next,0,some 4⟩)/\∃t:ea,f'.get 20= .bool t/\(t=true↔(p=1\/p=2\/(10<=p/\p<=15)))) ?_ ?_
 ·intro Q' hQ;by_cases c1:p=1
  ·simp only[aj,ak,QM,WP,↓ab,undef,hn,a3 c1,cg,bz];exact hQ _ _ ⟨rfl,by simp only[ag,hn],by simp only[aa,↓ab,WP],true,by simp only[aa,↓ab],⟨fun _=>by omega,fun _=>rfl⟩⟩
  by_cases c2:p=2
  ·simp only[aj,ak,QM,WP,↓ab,undef,hn,Ed,p0,a0 c1,a3 c2,cg,bz];exact hQ _ _ ⟨rfl,by simp only[ag,hn],by simp only[aa,↓ab,WP],true,by simp only[aa,↓ab],⟨fun _=>by omega,fun _=>rfl⟩⟩
  by_cases c3:10<=p;rotate_left
  ·simp only[aj,ak,QM,WP,↓ab,undef,hn,Ed,p0,a0 c1,a0 c2,a0 c3,cg,bz];exact hQ _ _ ⟨rfl,by simp only[ag,hn],by simp only[aa,↓ab,WP],false,by simp only[aa,↓ab],⟨fun h=>by(cases h),fun h=>by omega⟩⟩
  simp only[aj,ak,QM,WP,↓ab,hn,Ed,p0,a0 c1,a0 c2,a3 c3,cg,bz];exact hQ _ _ ⟨rfl,by simp only[ag,hn],by simp only[aa,↓ab,WP],decide (p<=15),by simp only[aa,↓ab],by simp[c1,c2,c3]⟩
 clear hn h0 f;rintro f s' ⟨tQ,hn,h1,t,h3,jE⟩;rw[tQ];cases t with
 |false=>
  simp only[aj,ak,al,oneOf,QM,WP,↓ab,undef,hn,h3,cA];rw[eK];exact⟨by rw[a2 (fun h=>Bool.noConfusion (jE.2 h.1))],aF⟩
 |true=>
 by_cases d1:1<=co;rotate_left
 ·simp only[aj,ak,al,oneOf,QM,WP,↓ab,undef,hn,h1,h3,F6,p1,a0 d1,cA];rw[eK];exact⟨by rw[a2 (fun h:pC p co cl=>d1 h.2.1)],aF⟩
 by_cases d2:co<=4;rotate_left
 ·simp only[aj,ak,al,oneOf,QM,WP,↓ab,undef,hn,h1,h3,F6,p1,a3 d1,a0 d2,cA];rw[eK];exact⟨by rw[a2 (fun h:pC p co cl=>d2 h.2.2.1)],aF⟩
 by_cases d3:1<=cl;rotate_left
 ·simp only[aj,ak,al,oneOf,QM,WP,↓ab,undef,hn,h1,h3,F6,Nk,p1,p2,a3 d1,a3 d2,a0 d3,cA];rw[eK];exact⟨by rw[a2 (fun h:pC p co cl=>d3 h.2.2.2.1)],aF⟩
 simp only[aj,ak,al,oneOf,QM,WP,↓ab,hn,h1,h3,F6,Nk,p1,p2,a3 d1,a3 d2,a3 d3,cA];rw[eK];refine⟨congrArg _ ?_,aF⟩;exact decide_eq_decide.2 ⟨fun h=>⟨jE.1 rfl,d1,d2,d3,h⟩,fun h=>h.2.2.2.2⟩
theorem Eg {lib:aD}(hl:lib.at 193=none)(s:au)(a b:cd)(ha: -10000<=a/\a<=10000)(hb: -10000<=b/\b<=10000):Runs an lib 193 [.int .i64 a,.int .i64 b] s fun v s' =>v= .int .i64 (mR a b)/\s' =s:=by
 refine Runs.enter 12 Tryz.func193 rfl hl rfl rfl ?_;intro f hn hf;have h0:f.get 0= .int .i64 a:=hf 0;have h1:f.get 1= .int .i64 b:=hf 1;clear hf;have e:(if b-a>a-b then b-a else a-b)=mR a b:=rfl;simp(disch:=omega)only[aj,al,oneOf,ad,QM,WP,↓ab,hn,h0,h1,aB,e,Tryz.results193]
theorem Ai {lib:aD}(hl:lib.at 199=none)(s:au)(a b:cd)(ha: -10000<=a/\a<=10000)(hb: -10000<=b/\b<=10000):Runs an lib 199 [.int .i64 a,.int .i64 b] s fun v s' =>v= .int .i64 (mR a b)/\s' =s:=by
 refine Runs.enter 14 Tryz.func199 rfl hl rfl rfl ?_;intro f hn hf;have h0:f.get 0= .int .i64 a:=hf 0;have h1:f.get 1= .int .i64 b:=hf 1;clear hf;by_cases c:a>b
 ·have e:mR a b=a-b:=by unfold mR;rw[if_neg (by omega)]
  simp(disch:=omega)only[aj,al,oneOf,QM,WP,↓ab,hn,h0,h1,a3 c,aB,e,ee]
 have e:mR a b=b-a:=by unfold mR;split<;>omega
 simp(disch:=omega)only[aj,al,oneOf,QM,WP,↓ab,hn,h0,h1,a0 c,aB,e,ee]
end Go.Proofs.YtdfjfncifneocaaGreat