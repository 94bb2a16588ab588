import Derived.Test.YtdfjfncifneocaaGreatBitsP
open _root_ renaming UInt8->ab,List->af,Nat->an,reduceIte->ao,Except->a4,Int->bg,eq_false->bl,if_pos->bs,if_neg->b4,eq_true->b7,true_and->cg
open List renaming getD_eq_getElem?_getD->av,getElem?_eq_getElem->a7,length_append->bb,getElem?_eq_none->bd,getElem?_append_left->bk,getElem?_append_right->b8,replicate->ca,length_cons->cc,take_add_one->cH,take_length->c0,cons_append->c5
open Go.Proofs.Tryz renaming prog->a0,underlying177->a9,results210->bn,underlying184->bo,underlying112->bq
open Nat renaming le_trans->a5,le_refl->a8,pow_le_pow_right->bz,sub_self->b5,mod_eq_of_lt->cd,lt_of_lt_of_le->cv,pow_succ->cz,zero_le->c6,min_eq_left->c7,not_lt_zero->c8,mul_comm->c9,add_zero->dc,mod_one->dd,mod_lt->ds
open Int renaming toNat_natCast->a6
open Go.IntKind renaming i64->cb
open BitVec renaming ofInt->cf,ofInt_natCast->cm,toNat_ofNat->cx
open Go renaming Value->cp
open Nat renaming reduceLT->QS,reduceEqDiff->Qx
set_option linter.unusedSimpArgs false
set_option linter.unusedVariables false
set_option maxRecDepth 100000
namespace Go.Cl.Bt
structure lW (jx ic:an) (s s' :aq):Prop where
 next:s.next<=s'.next
 get:∀i,i<s.next->i≠jx->i≠ic->s'.heap.get i=s.heap.get i
theorem lW.refl (jx ic:an)(s:aq):lW jx ic s s:=⟨a8 _,fun _ _ _ _=>rfl⟩
theorem lW.trans {jx ic:an}{s s' yB:aq}(h:lW jx ic s s')(k:lW jx ic s' yB):lW jx ic s yB:=⟨a5 h.next k.next,fun i hi h1 h2=>(k.get i (cv hi h.next) h1 h2).trans (h.get i hi h1 h2)⟩
theorem lW.put {jx ic:an}{s s' :aq}(h1:s'.next=s.next)(h2:∀j,j≠jx->s'.heap.get j=s.heap.get j):lW jx ic s s' :=⟨by omega,fun i _ h _=>h2 i h⟩
end Go.Cl.Bt
namespace Go.Proofs.YtdfjfncifneocaaGreat
open Go.Cl Go.Cl.Sto Go.Cl.Bt Go.Cl.Rw
theorem lW.turns {jx ic:an}{s s' :aq}(h:bt (gm ic) s s'):lW jx ic s s' :=⟨h.next,fun i hi _ h2=>h.get i hi (fun e=>h2 (by injection e with e;exact e.symm))⟩
theorem En:bX a0 112=some false:=by kernel_rfl
theorem JG:aX a0 112=some 1:=by kernel_rfl
theorem tT (i o c:an):au a0 184 (.pointer (some ⟨i,o,some c⟩)) 0=some (.pointer (some ⟨i,o+0,some c⟩)):=by
 unfold au;rw[bo];simp[JG]
theorem HN (i o c:an):au a0 184 (.pointer (some ⟨i,o,some c⟩)) 1=some (.pointer (some ⟨i,o+1,some c⟩)):=by
 unfold au;rw[bo];simp[bA]
theorem kQ (i o c:an):au a0 184 (.pointer (some ⟨i,o,some c⟩)) 2=some (.pointer (some ⟨i,o+2,some c⟩)):=by
 unfold au;rw[bo];simp[bA]
abbrev qx (j:an):cp:= .pointer (some ⟨j,0,some 4⟩)
theorem anv (i:an):cC a0 184 [(0,gm i)]=some (.agg #[gm i,.int .i64 0,.int .i64 0]):=by
 unfold cC;rw[bo]
 have hz:bV a0 184=some (.agg #[.pointer none,.int .i64 0,.int .i64 0]):=by kernel_rfl
 rw[hz]
 have c1:(gm i).cells.toList=[gm i]:=rfl
 simp only[fG,placeOf,c1]
 simp[JG,bA,bN,gQ,bS,setAt]
structure TN (base:an) (s:aq) (jx ic:an) (b:af ab) (a p now left:an):Prop where
 c:jG base s ic b p
 t:ax s jx [gm ic,.int .i64 now,.int .i64 left]
 e:a+left=8*p
 l8:left<=8
 r:0<left->now=rest b p left
 now:now<256
 lx:base<=jx
 lc:base<=ic
 ne:jx≠ic
def ig (base:an)(s:aq)(jx ic:an)(b:af ab)(a:an):Prop:=∃p now left,TN base s jx ic b a p now left/\left<=7
theorem XA {lib:aA}(hl:lib.at 149=none)(zP:lib.at 100=none)(base:an)(s:aq)(x:cp)(b:af ab)(hx:Br base s 1 x b.length (ofBytes b))(hb:base<=s.next):
  Runs a0 lib 149 [x] s fun v s' =>∃jx ic,v=qx jx/\ig base s' jx ic b 0/\ar s.next s s' :=by
 refine Runs.enter 7 Tryz.func149 rfl hl rfl rfl ?_
 intro f hn hf
 have h0:f.get 0=x:=hf 0
 clear hf
 simp only[aj,ak,aa,QS,Qx,↓ao,hn,h0]
 refine(JD zP base s x b hx hb).mono ?_
 rintro _ s1 ⟨rfl,hc,aE,xG⟩
 simp only[aj,ae,QS,↓ao,hn,anv]
 refine aw ?_
 intro s2 ht aR g9
 simp only[aj,al,oneOf,QS,Nat.reduceAdd,↓ao,hn,cc,List.length_nil,Tryz.results149]
 exact⟨s1.next,s.next,rfl,⟨0,0,0,⟨hc.keeps (by omega) aR,ht,rfl,by omega,fun h=>by omega,by omega,by omega,by omega,by omega⟩,by omega⟩,aE.trans (aR.weaken (by omega))⟩
theorem TO {lib:aA}(hl:lib.at 211=none)(base:an)(s:aq)(jx ic:an)(b:af ab)(a:an)(h:ig base s jx ic b a)(hb:base<=s.next):
  Runs a0 lib 211 [qx jx] s fun _ s' =>ig base s' jx ic b (8*((a+7)/8))/\lW jx ic s s' :=by
 obtain⟨p,now,left,h,zt⟩:=h
 have he:=h.e
 refine Runs.enter 7 Tryz.func211 rfl hl rfl rfl ?_
 intro f hn hf
 have h0:f.get 0=qx jx:=hf 0
 clear hf
 simp only[aj,QS,Qx,↓ao,hn,h0,VC a9,kQ]
 refine aY bA h.t rfl (by simp) rfl ?_
 intro t2 dD g9 cR
 simp only[aj,ah,Tryz.results211]
 have aE:lW jx ic s t2:=lW.put g9 cR
 have ha:8*((a+7)/8)=8*p:=by omega
 exact⟨⟨p,now,0,⟨h.c.turns hb (da h.lx) (bt.aK g9 cR) (eD h.ne),dD,by omega,by omega,fun h=>by omega,h.now,h.lx,h.lc,h.ne⟩,by omega⟩,aE⟩
def takes (b:af ab)(a:an)(n:bg):Prop:=0<=n/\n<=16/\n<=8*(b.length:bg)-a
instance (b:af ab) (a:an) (n:bg):Decidable (takes b a n):=by unfold takes;infer_instance
def pI (b:af ab)(a:an)(n:bg):bg:=if takes b a n then(cj b a n.toNat:an) else-1
def aiP (base:an)(s:aq)(jx ic:an)(b:af ab)(a:an)(n:bg)(v:cp)(s' :aq):Prop:=
 v= .int .i64 (pI b a n)/\ig base s' jx ic b (if takes b a n then a+n.toNat else a)/\lW jx ic s s'
set_option maxHeartbeats 8000000 in
theorem HO {lib:aA}(hl:lib.at 210=none)(zP:lib.at 155=none)(kr:lib.at 192=none)(kW:lib.at 186=none)(jn:lib.at 209=none)(g7:lib.at 105=none)
  (base:an) (s:aq) (jx ic:an) (b:af ab) (a:an) (n:bg) (h:ig base s jx ic b a) (hb:base<=s.next) (hlen:b.length<=4000000):
  Runs a0 lib 210 [qx jx,.int .i64 n] s (aiP base s jx ic b a n):=by
 obtain⟨p,now,left,h,zt⟩:=id h
 have he:=h.e
 have N4:=h.t.lt
 have ph:p<=b.length:=h.c.choose_spec.2.2.2
 have g0:=h.t.load (P:=a0) En (off:=0) (c:=4) rfl (by simp)
 have g2:=h.t.load (P:=a0) bu (off:=2) (c:=4) rfl (by simp)
 refine Runs.enter 93 Tryz.func210 rfl hl rfl rfl ?_
 intro f hn hf
 have h0:f.get 0=qx jx:=hf 0
 have h1:f.get 1= .int .i64 n:=hf 1
 clear hf
 have no:¬takes b a n->aiP base s jx ic b a n (.int .i64 (-1)) s:=fun TH=>⟨by unfold pI;rw[b4 TH],by rw[b4 TH];exact⟨p,now,left,h,zt⟩,lW.refl _ _ _⟩
 simp only[aj,QS,↓ao,hn]
 obtain⟨A,hA⟩:∃A:an->Bool,A=fun j=>decide (j<s.next):=⟨_,rfl⟩
 have iU:∀j,A j=true->j<s.next:=by
  intro j h
  rw[hA] at h
  exact of_decide_eq_true h
 have ml:∀k,LA.ej A (some (.pointer (some ⟨jx,k,some 4⟩)))=true:=fun k=>LA.cr (A:=A) (i:=jx) (by rw[hA];exact decide_eq_true N4)
 have ml0:LA.ej A (some (qx jx))=true:=ml 0
 refine LB.cX.fi A iU 1 0 (by kernel_rfl) (by kernel_rfl) ?_
 clear hA
 by_cases c1:n<0
 ·simp only[aj,ak,bH,bI,b5,QS,Qx,↓ao,undef,hn,h0,h1,cY a9,cY bq,tT,g0,ml,qT,b7 c1]
  simp only[aj,al,oneOf,QS,↓ao,hn,bn]
  exact no (fun q=>by have:=q.1;omega)
 by_cases c2:16<n
 ·simp only[aj,ak,bH,bI,b5,QS,Qx,↓ao,undef,hn,h0,h1,cY a9,cY bq,tT,g0,ml,qT,bl c1,b7 c2]
  simp only[aj,al,oneOf,QS,↓ao,hn,bn]
  exact no (fun q=>by have:=q.2.1;omega)
 obtain⟨m,rfl⟩:∃m:an,n=m:=⟨n.toNat,by omega⟩
 have aa2:(m:bg)<=8*(b.length:bg)-a->takes b a m:=fun q=>⟨by omega,by omega,q⟩
 by_cases c3:left<m
 ·have L1:(left:bg)<(m:bg):=by omega
  have e1:(m:bg)-(left:bg)+7=((m-left+7:an):bg):=by omega
  simp(disch:=omega)only[aj,ak,bH,bI,b5,aa,QS,Qx,↓ao,undef,hn,h0,h1,cY a9,cY bq,tT,kQ,g0,g2,ml,qT,bl c1,bl c2,b7 L1,aD,e1,iQ,SL]
  refine(Ek kW jn g7 base s ic b p h.c (by omega)).mono ?_
  rintro _ s1 ⟨rfl,kC⟩
  subst kC
  refine⟨fun _=>LA.dP.refl _ _,?_⟩
  by_cases c4:b.length-p<(m-left+7)/8
  ·have Y4:((b.length-p:an):bg)<(((m-left+7)/8:an):bg):=by omega
   simp only[aj,ak,bH,bI,QS,Qx,↓ao,hn,b7 Y4]
   simp only[aj,al,oneOf,QS,↓ao,hn,bn]
   exact no (fun q=>by have:=q.2.2;omega)
  ·have Y4:¬((b.length-p:an):bg)<(((m-left+7)/8:an):bg):=by omega
   have ln:(m:bg)<=8*(b.length:bg)-a:=by omega
   simp only[aj,ak,bH,bI,QS,Qx,↓ao,hn,h1,bl Y4]
   refine Comes.eZ (fun q f s' =>∃(i p now left:an),q=m-i/\i<=m/\TN base s' jx ic b (a+i) p now left/\left<=7/\lW jx ic s1 s' /\f.n=93/\f.get 0=qx jx/\f.get 5= .int .i64 (cj b a i:an)/\f.get 48= .int .i64 m/\f.get 49= .int .i64 i)
    ⟨0,p,now,left,rfl,by omega,h,zt,lW.refl _ _ _,by simp only[ag,hn],by simp only[ad,↓ao,Qx,h0],by simp only[ad,↓ao,Qx];rfl,by simp only[ad,↓ao,Qx,cg];rfl⟩ ?_
   clear hn h0 h1 f g0 g2 h he zt ph c3 L1 no
   rintro q f s2 ⟨i,p,nw,lf,rfl,hi,h,zt,aE,hn,h0,h5,mv,Bk⟩
   have gL:=a5 hb aE.next
   have he:=h.e
   have ph:p<=b.length:=h.c.choose_spec.2.2.2
   by_cases him:i<m
   ·have JH:(i:bg)<m:=by omega
    have g0:=h.t.load (P:=a0) En (off:=0) (c:=4) rfl (by simp)
    have g2:=h.t.load (P:=a0) bu (off:=2) (c:=4) rfl (by simp)
    by_cases hz:lf=0
    ·have vx:(lf:bg)=0:=by omega
     have anw:p<b.length:=by omega
     simp only[aj,ak,aa,QS,Qx,↓ao,hn,h0,mv,Bk,b7 JH,tT,kQ,g0,g2,b7 vx]
     refine(yd zP kr kW jn g7 base s2 ic b p h.c gL (by omega)).mono ?_
     rintro _ s3 ⟨rfl,yP,jM⟩
     have sQ:fc b p=((b.getD p 0).toNat:bg):=by unfold fc;rw[bs (by omega),a6]
     have htx:=h.t.turns jM (eD (fun e=>h.ne e.symm))
     have bC:=aE.trans (lW.turns (jx:=jx) jM)
     rw[c7 (by omega)] at yP
     simp only[aj,QS,Qx,↓ao,hn,sQ,HN]
     refine aY bA htx rfl (by simp) rfl ?_
     intro t1 eK g8 kC
     simp only[aj,QS,Qx,↓ao,hn,kQ]
     refine aY bA eK rfl (by simp) rfl ?_
     intro t2 dD g9 cR
     have sx:=a5 hb bC.next
     have TC:=yP.turns sx (da h.lx) (bt.aK g8 kC) (eD h.ne)
     have hc5:=TC.turns (by omega) (da h.lx) (bt.aK g9 cR) (eD h.ne)
     have ry:=bC.trans ((lW.put (ic:=ic) g8 kC).trans (lW.put g9 cR))
     have h8:TN base t2 jx ic b (a+i) (p+1) (b.getD p 0).toNat 8:=⟨hc5,dD,by omega,by omega,fun _=>(HM b p).symm,(b.getD p 0).toNat_lt,h.lx,h.lc,h.ne⟩
     simp only[aj,QS,Qx,↓ao,hn,h0,h5]
     clear yP jM htx bC eK g8 kC dD g9 cR sx TC hc5 h g0 g2
     have g1:=(h8).t.load (P:=a0) bu (off:=1) (c:=4) rfl (by simp)
     have hle:=(h8).e
     have Js:=(h8).l8
     have oV:=(h8).r (by omega)
     have JI:=yf (b:=b) (a:=a+i) (by omega) Js hle
     rw[<-oV] at JI
     have hv:=jz b a i
     have dI:=vO b (a+i)
     have Eo:i<32:=by omega
     have JA:cj b a i+bit b (a+i)*2^i=cj b a (i+1):=rfl
     have ra:=orI hv dI Eo
     rw[JA] at ra
     have tC:=SO a0 3 .i64 dI Eo
     have aeM:=(h8).now
     have TP:=Rk ((b.getD p 0).toNat) (by omega)
     rw[JI] at TP
     simp only[aj,ak,QS,Qx,↓ao,hn,h0,HN,g1,fh,TP,tC,jV,ra,aa1]
     refine aY bA (h8).t rfl (by simp) rfl ?_
     intro t1 eK g8 kC
     have g2:=eK.load (P:=a0) bu (off:=2) (c:=4) rfl (by simp)
     have e1:((8:an):bg)-1=((8-1:an):bg):=by omega
     simp(disch:=omega)only[aj,ak,QS,Qx,↓ao,hn,h0,kQ,g2,e1,aD]
     refine aY bA eK rfl (by simp) rfl ?_
     intro t2 dD g9 cR
     simp(disch:=omega)only[aj,QS,Qx,↓ao,hn,Bk,aD]
     have sG:=a5 hb (ry).next
     have iK:=(h8).c.turns sG (da (h8).lx) (bt.aK g8 kC) (eD (h8).ne)
     have kY:=iK.turns (by omega) (da (h8).lx) (bt.aK g9 cR) (eD (h8).ne)
     have aR:=(ry).trans ((lW.put (ic:=ic) g8 kC).trans (lW.put g9 cR))
     refine ay (m-(i+1)) (by omega) ⟨i+1,_,(b.getD p 0).toNat/2,8-1,rfl,by omega,⟨kY,dD,by omega,by omega,fun J5=>by rw[oV];exact uu (by omega) Js,by omega,(h8).lx,(h8).lc,(h8).ne⟩,by omega,aR,by simp only[ad,ag,↓ao,Qx,hn,h0,mv,cg];rfl⟩
    ·have vx:¬(lf:bg)=0:=by omega
     simp only[aj,ak,QS,Qx,↓ao,hn,h0,mv,Bk,h5,b7 JH,kQ,g2,bl vx]
     have g1:=(h).t.load (P:=a0) bu (off:=1) (c:=4) rfl (by simp)
     have hle:=(h).e
     have Js:=(h).l8
     have oV:=(h).r (by omega)
     have JI:=yf (b:=b) (a:=a+i) (by omega) Js hle
     rw[<-oV] at JI
     have hv:=jz b a i
     have dI:=vO b (a+i)
     have Eo:i<32:=by omega
     have JA:cj b a i+bit b (a+i)*2^i=cj b a (i+1):=rfl
     have ra:=orI hv dI Eo
     rw[JA] at ra
     have tC:=SO a0 3 .i64 dI Eo
     have aeM:=(h).now
     have TP:=Rk (nw) (by omega)
     rw[JI] at TP
     simp only[aj,ak,QS,Qx,↓ao,hn,h0,HN,g1,fh,TP,tC,jV,ra,aa1]
     refine aY bA (h).t rfl (by simp) rfl ?_
     intro t1 eK g8 kC
     have g2:=eK.load (P:=a0) bu (off:=2) (c:=4) rfl (by simp)
     have e1:((lf:an):bg)-1=((lf-1:an):bg):=by omega
     simp(disch:=omega)only[aj,ak,QS,Qx,↓ao,hn,h0,kQ,g2,e1,aD]
     refine aY bA eK rfl (by simp) rfl ?_
     intro t2 dD g9 cR
     simp(disch:=omega)only[aj,QS,Qx,↓ao,hn,Bk,aD]
     have sG:=a5 hb (aE).next
     have iK:=(h).c.turns sG (da (h).lx) (bt.aK g8 kC) (eD (h).ne)
     have kY:=iK.turns (by omega) (da (h).lx) (bt.aK g9 cR) (eD (h).ne)
     have aR:=(aE).trans ((lW.put (ic:=ic) g8 kC).trans (lW.put g9 cR))
     refine ay (m-(i+1)) (by omega) ⟨i+1,_,nw/2,lf-1,rfl,by omega,⟨kY,dD,by omega,by omega,fun J5=>by rw[oV];exact uu (by omega) Js,by omega,(h).lx,(h).lc,(h).ne⟩,by omega,aR,by simp only[ad,ag,↓ao,Qx,hn,h0,mv,cg];rfl⟩
   ·obtain rfl:i=m:=by omega
    have JH:¬(i:bg)<i:=by omega
    simp only[aj,al,oneOf,QS,Qx,↓ao,hn,mv,Bk,h5,bl JH,bn]
    refine⟨by unfold pI;rw[bs (aa2 ln),a6],?_,aE⟩
    rw[bs (aa2 ln),a6]
    exact⟨p,nw,lf,h,zt⟩
 ·have L1:¬(left:bg)<(m:bg):=by omega
  have ln:(m:bg)<=8*(b.length:bg)-a:=by omega
  simp only[aj,ak,bH,bI,b5,QS,Qx,↓ao,undef,hn,h0,h1,cY a9,cY bq,tT,kQ,g0,g2,ml,qT,bl c1,bl c2,bl L1]
  refine Comes.eZ (fun q f s' =>∃(i p now left:an),q=m-i/\i<=m/\TN base s' jx ic b (a+i) p now left/\left<=7/\lW jx ic s s' /\f.n=93/\f.get 0=qx jx/\f.get 5= .int .i64 (cj b a i:an)/\f.get 48= .int .i64 m/\f.get 49= .int .i64 i)
   ⟨0,p,now,left,rfl,by omega,h,zt,lW.refl _ _ _,by simp only[ag,hn],by simp only[ad,↓ao,Qx,h0],by simp only[ad,↓ao,Qx];rfl,by simp only[ad,↓ao,Qx,cg];rfl⟩ ?_
  clear hn h0 h1 f g0 g2 h he zt ph c3 L1 no
  rintro q f s2 ⟨i,p,nw,lf,rfl,hi,h,zt,aE,hn,h0,h5,mv,Bk⟩
  have gL:=a5 hb aE.next
  have he:=h.e
  have ph:p<=b.length:=h.c.choose_spec.2.2.2
  by_cases him:i<m
  ·have JH:(i:bg)<m:=by omega
   have g0:=h.t.load (P:=a0) En (off:=0) (c:=4) rfl (by simp)
   have g2:=h.t.load (P:=a0) bu (off:=2) (c:=4) rfl (by simp)
   by_cases hz:lf=0
   ·have vx:(lf:bg)=0:=by omega
    have anw:p<b.length:=by omega
    simp only[aj,ak,aa,QS,Qx,↓ao,hn,h0,mv,Bk,b7 JH,tT,kQ,g0,g2,b7 vx]
    refine(yd zP kr kW jn g7 base s2 ic b p h.c gL (by omega)).mono ?_
    rintro _ s3 ⟨rfl,yP,jM⟩
    have sQ:fc b p=((b.getD p 0).toNat:bg):=by unfold fc;rw[bs (by omega),a6]
    have htx:=h.t.turns jM (eD (fun e=>h.ne e.symm))
    have bC:=aE.trans (lW.turns (jx:=jx) jM)
    rw[c7 (by omega)] at yP
    simp only[aj,QS,Qx,↓ao,hn,sQ,HN]
    refine aY bA htx rfl (by simp) rfl ?_
    intro t1 eK g8 kC
    simp only[aj,QS,Qx,↓ao,hn,kQ]
    refine aY bA eK rfl (by simp) rfl ?_
    intro t2 dD g9 cR
    have sx:=a5 hb bC.next
    have TC:=yP.turns sx (da h.lx) (bt.aK g8 kC) (eD h.ne)
    have hc5:=TC.turns (by omega) (da h.lx) (bt.aK g9 cR) (eD h.ne)
    have ry:=bC.trans ((lW.put (ic:=ic) g8 kC).trans (lW.put g9 cR))
    have h8:TN base t2 jx ic b (a+i) (p+1) (b.getD p 0).toNat 8:=⟨hc5,dD,by omega,by omega,fun _=>(HM b p).symm,(b.getD p 0).toNat_lt,h.lx,h.lc,h.ne⟩
    simp only[aj,QS,Qx,↓ao,hn,h0,h5]
    clear yP jM htx bC eK g8 kC dD g9 cR sx TC hc5 h g0 g2
    have g1:=(h8).t.load (P:=a0) bu (off:=1) (c:=4) rfl (by simp)
    have hle:=(h8).e
    have Js:=(h8).l8
    have oV:=(h8).r (by omega)
    have JI:=yf (b:=b) (a:=a+i) (by omega) Js hle
    rw[<-oV] at JI
    have hv:=jz b a i
    have dI:=vO b (a+i)
    have Eo:i<32:=by omega
    have JA:cj b a i+bit b (a+i)*2^i=cj b a (i+1):=rfl
    have ra:=orI hv dI Eo
    rw[JA] at ra
    have tC:=SO a0 3 .i64 dI Eo
    have aeM:=(h8).now
    have TP:=Rk ((b.getD p 0).toNat) (by omega)
    rw[JI] at TP
    simp only[aj,ak,QS,Qx,↓ao,hn,h0,HN,g1,fh,TP,tC,jV,ra,aa1]
    refine aY bA (h8).t rfl (by simp) rfl ?_
    intro t1 eK g8 kC
    have g2:=eK.load (P:=a0) bu (off:=2) (c:=4) rfl (by simp)
    have e1:((8:an):bg)-1=((8-1:an):bg):=by omega
    simp(disch:=omega)only[aj,ak,QS,Qx,↓ao,hn,h0,kQ,g2,e1,aD]
    refine aY bA eK rfl (by simp) rfl ?_
    intro t2 dD g9 cR
    simp(disch:=omega)only[aj,QS,Qx,↓ao,hn,Bk,aD]
    have sG:=a5 hb (ry).next
    have iK:=(h8).c.turns sG (da (h8).lx) (bt.aK g8 kC) (eD (h8).ne)
    have kY:=iK.turns (by omega) (da (h8).lx) (bt.aK g9 cR) (eD (h8).ne)
    have aR:=(ry).trans ((lW.put (ic:=ic) g8 kC).trans (lW.put g9 cR))
    refine ay (m-(i+1)) (by omega) ⟨i+1,_,(b.getD p 0).toNat/2,8-1,rfl,by omega,⟨kY,dD,by omega,by omega,fun J5=>by rw[oV];exact uu (by omega) Js,by omega,(h8).lx,(h8).lc,(h8).ne⟩,by omega,aR,by simp only[ad,ag,↓ao,Qx,hn,h0,mv,cg];rfl⟩
   ·have vx:¬(lf:bg)=0:=by omega
    simp only[aj,ak,QS,Qx,↓ao,hn,h0,mv,Bk,h5,b7 JH,kQ,g2,bl vx]
    have g1:=(h).t.load (P:=a0) bu (off:=1) (c:=4) rfl (by simp)
    have hle:=(h).e
    have Js:=(h).l8
    have oV:=(h).r (by omega)
    have JI:=yf (b:=b) (a:=a+i) (by omega) Js hle
    rw[<-oV] at JI
    have hv:=jz b a i
    have dI:=vO b (a+i)
    have Eo:i<32:=by omega
    have JA:cj b a i+bit b (a+i)*2^i=cj b a (i+1):=rfl
    have ra:=orI hv dI Eo
    rw[JA] at ra
    have tC:=SO a0 3 .i64 dI Eo
    have aeM:=(h).now
    have TP:=Rk (nw) (by omega)
    rw[JI] at TP
    simp only[aj,ak,QS,Qx,↓ao,hn,h0,HN,g1,fh,TP,tC,jV,ra,aa1]
    refine aY bA (h).t rfl (by simp) rfl ?_
    intro t1 eK g8 kC
    have g2:=eK.load (P:=a0) bu (off:=2) (c:=4) rfl (by simp)
    have e1:((lf:an):bg)-1=((lf-1:an):bg):=by omega
    simp(disch:=omega)only[aj,ak,QS,Qx,↓ao,hn,h0,kQ,g2,e1,aD]
    refine aY bA eK rfl (by simp) rfl ?_
    intro t2 dD g9 cR
    simp(disch:=omega)only[aj,QS,Qx,↓ao,hn,Bk,aD]
    have sG:=a5 hb (aE).next
    have iK:=(h).c.turns sG (da (h).lx) (bt.aK g8 kC) (eD (h).ne)
    have kY:=iK.turns (by omega) (da (h).lx) (bt.aK g9 cR) (eD (h).ne)
    have aR:=(aE).trans ((lW.put (ic:=ic) g8 kC).trans (lW.put g9 cR))
    refine ay (m-(i+1)) (by omega) ⟨i+1,_,nw/2,lf-1,rfl,by omega,⟨kY,dD,by omega,by omega,fun J5=>by rw[oV];exact uu (by omega) Js,by omega,(h).lx,(h).lc,(h).ne⟩,by omega,aR,by simp only[ad,ag,↓ao,Qx,hn,h0,mv,cg];rfl⟩
  ·obtain rfl:i=m:=by omega
   have JH:¬(i:bg)<i:=by omega
   simp only[aj,al,oneOf,QS,Qx,↓ao,hn,mv,Bk,h5,bl JH,bn]
   refine⟨by unfold pI;rw[bs (aa2 ln),a6],?_,aE⟩
   rw[bs (aa2 ln),a6]
   exact⟨p,nw,lf,h,zt⟩
end Go.Proofs.YtdfjfncifneocaaGreat
namespace Go.Proofs.YtdfjfncifneocaaGreat
open Go.Cl Go.Cl.Sto Go.Cl.Rw
abbrev aiR (j:an):cp:= .pointer (some ⟨j,0,some 4⟩)
structure Fl (base:an) (s:aq) (jf jb:an) (D:af ab) (p:an) (P:af ab) (M:bg) (bv o:cp):Prop where
 b:ax s jb [bv,.int .i64 (p:an),.int .i64 0]
 f:ax s jf [aiR jb,o,.int .i64 M]
 low:Br base s 1 bv D.length (ofBytes D)
 own:Own s 1 o P.length (ofBytes P)
 fresh:aF base o
 nb:aI o≠some jb
 nf:aI o≠some jf
 ne:jb≠jf
 lb:base<=jb
 lf:base<=jf
end Go.Proofs.YtdfjfncifneocaaGreat
namespace Go.Cl.Fx
open Go.Cl.Rw Go.Cl.Sto
theorem tb (z j:an):z/2^j%2=(z.testBit j).toNat:=by
 rw[Nat.testBit_eq_decide_div_mod_eq]
 have:z/2^j%2<2:=ds _ (by omega)
 generalize z/2^j%2=q at this
 have:q=0\/q=1:=by omega
 rcases this with rfl|rfl<;>rfl
theorem XB (y:ab)(x:bg){k j:an}(hk:k<8):(FO y x k).toNat/2^j%2=if j=k/\x%2=1 then 1 else y.toNat/2^j%2:=by
 unfold FO
 have hb:(x%2)=0\/(x%2)=1:=by omega
 rcases hb with hb|hb
 ·rw[hb]
  have:(UInt8.ofNat ((0:bg).toNat*2^k))=0:=by simp
  rw[this]
  simp
 ·rw[hb]
  have hp:2^k<256:=by
   have:2^k<=2^7:=bz (by omega) (by omega)
   have:(2:an)^7=128:=rfl
   omega
  have e:(UInt8.ofNat ((1:bg).toNat*2^k)).toNat=2^k:=by
   rw[UInt8.toNat_ofNat',show(1:bg).toNat=1 from rfl,Nat.one_mul,cd hp]
  rw[tb,tb,UInt8.toNat_or,e,Nat.testBit_or,Nat.testBit_two_pow]
  by_cases c:j=k
  ·subst c;simp
  ·have:¬k=j:=fun h=>c h.symm
   simp[c,this]
theorem HP (p:af ab×an)(q:an):(room p).getD q 0=p.1.getD q 0:=by
 unfold room
 split
 ·simp only[av]
  by_cases c:q<p.1.length
  ·rw[bk c]
  ·rw[b8 (by omega),bd (by omega:p.1.length<=q)]
   by_cases c2:q-p.1.length=0
   ·rw[c2];rfl
   ·rw[bd (by simp;omega)]
 ·rfl
theorem zG {p:af ab×an}(h:Ok p)(x:bg)(i:an):bit (nO p x).1 i=if i=p.2/\x%2=1 then 1 else bit p.1 i:=by
 obtain⟨h1,h2⟩:=xH h
 unfold nO bit
 have hs:∀v:ab,((room p).set (p.2/8) v).getD (i/8) 0=if i/8=p.2/8 then v else p.1.getD (i/8) 0:=by
  intro v
  by_cases c:i/8=p.2/8
  ·rw[bs c,c,av,List.getElem?_set_self h1];rfl
  ·rw[b4 c,<-HP,av,List.getElem?_set_ne (Ne.symm c),av]
 simp only[hs]
 by_cases c:i/8=p.2/8
 ·rw[bs c,XB _ _ (ds _ (by omega)),HP,c]
  by_cases c2:i=p.2
  ·subst c2;simp
  ·rw[b4 (by omega),b4 (by omega)]
 ·rw[b4 c,b4 (by intro e;rw[e.1] at c;exact c rfl)]
def Zs (p:af ab×an):Prop:=∀i,p.2<=i->bit p.1 i=0
structure Pre (p q:af ab×an):Prop where
 le:p.2<=q.2
 bits:∀i,i<p.2->bit q.1 i=bit p.1 i
theorem Pre.refl (p:af ab×an):Pre p p:=⟨a8 _,fun _ _=>rfl⟩
theorem Pre.trans {p q r:af ab×an}(h:Pre p q)(k:Pre q r):Pre p r:=⟨a5 h.le k.le,fun i hi=>by rw[k.bits i (cv hi h.le),h.bits i hi]⟩
structure ni (p:af ab×an):Prop where
 ok:Ok p
 zs:Zs p
theorem TQ {p:af ab×an}(h:ni p)(x:bg):ni (nO p x)/\Pre p (nO p x)/\bit (nO p x).1 p.2=(x%2).toNat:=by
 refine⟨⟨Bu h.ok,fun i hi=> ?_⟩,⟨by show p.2<=p.2+1;omega,fun i hi=> ?_⟩,?_⟩
 ·have hi:p.2+1<=i:=hi
  rw[zG h.ok,b4 (by omega)];exact h.zs i (by omega)
 ·rw[zG h.ok,b4 (by omega)]
 ·rw[zG h.ok,h.zs p.2 (a8 _)]
  have hb:(x%2)=0\/(x%2)=1:=by omega
  rcases hb with hb|hb<;>simp[hb]
theorem nB {p:af ab×an}(h:ni p)(x:bg):∀w,ni (l5 p x w)/\Pre p (l5 p x w)/\∀i,i<w->bit (l5 p x w).1 (p.2+i)=(x.fdiv (2^i)%2).toNat
 |0=>⟨h,Pre.refl p,fun i hi=>absurd hi (c8 i)⟩
 |w+1=>by
  obtain⟨h1,h2,h3⟩:=nB h x w
  obtain⟨k1,k2,k3⟩:=TQ h1 (x.fdiv (2^w))
  have e:(l5 p x w).2=p.2+w:=kL p x w
  refine⟨k1,h2.trans k2,fun i hi=> ?_⟩
  show bit (nO (l5 p x w) (x.fdiv (2^w))).1 (p.2+i)=_
  by_cases c:i=w
  ·subst c;rw[<-e,k3]
  ·rw[k2.bits _ (by rw[e];omega),h3 i (by omega)]
theorem XC (n i:an):(((n:bg).fdiv (2^i))%2).toNat=n/2^i%2:=by
 rw[Int.fdiv_eq_ediv_of_nonneg _ (by exact Int.pow_nonneg (by omega))]
 have:(n:bg)/(2:bg)^i=((n/2^i:an):bg):=by norm_cast
 rw[this];omega
theorem Mr {D:af ab}{a n:an}:∀w,(∀i,i<w->bit D (a+i)=n/2^i%2)->cj D a w=n%2^w
 |0,_=>by simp[cj,dd]
 |w+1,h=>by
  simp only[cj]
  rw[Mr w (fun i hi=>h i (by omega)),h w (by omega),Nat.mod_pow_succ,c9]
theorem HQ {p:af ab×an}(h:ni p)(x w:an){D:af ab}{nb:an}(hD:Pre (gE p x w) (D,nb)):cj D p.2 w=x%2^w:=by
 obtain⟨h1,h2,h3⟩:=nB h (x:bg) w
 refine Mr w (fun i hi=> ?_)
 have e:(l5 p (x:bg) w).2=p.2+w:=kL ..
 have:bit D (p.2+i)=bit (l5 p (x:bg) w).1 (p.2+i):=hD.bits _ (by show p.2+i<(l5 p (x:bg) w).2;rw[e];omega)
 rw[this,h3 i hi,XC]
theorem uv {p:af ab×an}(h:ni p)(x w:an):ni (gE p x w)/\Pre p (gE p x w):=⟨(nB h _ w).1,(nB h _ w).2.1⟩
def hi (D:af ab)(a:an):an->an
 |0=>0
 |k+1=>2*hi D a k+bit D (a+k)
theorem lO {n:an}:∀(w:an) {p:af ab×an},ni p->ni (ia p n w)/\Pre p (ia p n w)/\∀i,i<w->bit (ia p n w).1 (p.2+i)=n/2^(w-1-i)%2
 |0,p,h=>⟨h,Pre.refl p,fun i hi=>absurd hi (c8 i)⟩
 |w+1,p,h=>by
  obtain⟨h1,h2,h3⟩:=nB h ((n:bg).fdiv (2^w)) 1
  obtain⟨k1,k2,k3⟩:=lO (n:=n) w h1
  have e:(l5 p ((n:bg).fdiv (2^w)) 1).2=p.2+1:=kL ..
  refine⟨k1,h2.trans k2,fun i hi=> ?_⟩
  show bit (ia (l5 p ((n:bg).fdiv (2^w)) 1) n w).1 (p.2+i)=_
  cases i with
  |zero=>
   rw[dc,k2.bits _ (by rw[e];omega)]
   have:=h3 0 (by omega)
   rw[dc,show((n:bg).fdiv (2^w)).fdiv (2^0)=(n:bg).fdiv (2^w) by simp,XC] at this
   rw[this,show w+1-1-0=w by omega]
  |succ i=>
   have:=k3 i (by omega)
   rw[e] at this
   rw[show p.2+(i+1)=p.2+1+i by omega,this,show w+1-1-(i+1)=w-1-i by omega]
theorem acG {D:af ab}{a n w:an}:∀k,k<=w->(∀i,i<w->bit D (a+i)=n/2^(w-1-i)%2)->hi D a k=n/2^(w-k)%2^k
 |0,_,_=>by simp[hi,dd]
 |k+1,hk,h=>by
  simp only[hi]
  rw[acG k (by omega) h,h k (by omega),show w-1-k=w-(k+1) by omega]
  have e:n/2^(w-k)=n/2^(w-(k+1))/2:=by
   rw[Nat.div_div_eq_div_mul,<-cz,show(w-(k+1)).succ=w-k by omega]
  rw[e]
  generalize n/2^(w-(k+1))=q
  rw[cz,c9 (2^k) 2,Nat.mod_mul]
  omega
theorem wj {p:af ab×an}(h:ni p)(n w:an){D:af ab}{nb:an}(hD:Pre (ia p n w) (D,nb)){k:an}(hk:k<=w):hi D p.2 k=n/2^(w-k)%2^k:=by
 obtain⟨h1,h2,h3⟩:=lO (n:=n) w h
 refine acG k hk (fun i hi=> ?_)
 have:bit D (p.2+i)=bit (ia p n w).1 (p.2+i):=hD.bits _ (by show p.2+i<(ia p n w).2;rw[lF];omega)
 rw[this,h3 i hi]
theorem aa3 {s:an}(h:s<288):(gS s).1<2^(gS s).2:=by
 unfold gS
 split
 ·show 48+s<256;omega
 ·split
  ·show 256+s<512;omega
  ·split
   ·show s-256<128;omega
   ·show s-88<256;omega
theorem XD {s i k:an}(hs:s<288)(hi:i<288)(hk:k<=(gS s).2)(h2:(gS i).2=k)(h1:(gS i).1=(gS s).1/2^((gS s).2-k)%2^k):i=s:=by
 unfold gS at*
 repeat' split at h2
 all_goals
  repeat' split at h1
  all_goals
   first
   |omega
   |(simp only at h1 h2 hk
     subst h2
     simp at h1 hk
     omega)
def lenOf (s x:an):an:=if s<=264 then s-254 else if s=285 then 258 else(4+(s-265)%4)*2^((s-261)/4)+3+x
def pJ (s:an):an:=if s<=264\/s=285 then 0 else(s-261)/4
def qy (c x:an):an:=if c<=3 then c+1 else(2+c%2)*2^(c/2-1)+1+x
def yg (c:an):an:=if c<=3 then 0 else c/2-1
def JJ:an->Bool
 |0=>true
 |n+1=>decide (lenOf (cq (n+3)).1 (cq (n+3)).2.1=n+3/\pJ (cq (n+3)).1=(cq (n+3)).2.2)&&JJ n
theorem Ep:∀{m:an},JJ m=true->∀n,n<m->lenOf (cq (n+3)).1 (cq (n+3)).2.1=n+3/\pJ (cq (n+3)).1=(cq (n+3)).2.2
 |m+1,h,n,hn=>by
  simp only[JJ,Bool.and_eq_true,decide_eq_true_eq] at h
  by_cases e:n=m
  ·subst e;exact h.1
  ·exact Ep h.2 n (by omega)
theorem XE {n:an}(h3:3<=n)(h:n<=258):lenOf (cq n).1 (cq n).2.1=n/\pJ (cq n).1=(cq n).2.2:=by
 have:=Ep (m:=256) (by decide+kernel) (n-3) (by omega)
 rw[show n-3+3=n by omega] at this
 exact this
def JK:an->Bool
 |0=>true
 |n+1=>decide (qy (eL (n+1)).1 (eL (n+1)).2.1=n+1/\yg (eL (n+1)).1=(eL (n+1)).2.2)&&JK n
theorem Er:∀{m:an},JK m=true->∀n,n<m->qy (eL (n+1)).1 (eL (n+1)).2.1=n+1/\yg (eL (n+1)).1=(eL (n+1)).2.2
 |m+1,h,n,hn=>by
  simp only[JK,Bool.and_eq_true,decide_eq_true_eq] at h
  by_cases e:n=m
  ·subst e;exact h.1
  ·exact Er h.2 n (by omega)
theorem XF {n:an}(h1:1<=n)(h:n<=64):qy (eL n).1 (eL n).2.1=n/\yg (eL n).1=(eL n).2.2:=by
 have:=Er (m:=64) (by decide+kernel) (n-1) (by omega)
 rw[show n-1+1=n by omega] at this
 exact this
theorem qz {p:af ab×an}(h:ni p)(s:an):ni (jA p s)/\Pre p (jA p s):=⟨(lO _ h).1,(lO _ h).2.1⟩
theorem Ms {p:af ab×an}(h:ni p)(n d:an):ni (mF p n d)/\Pre p (mF p n d):=by
 obtain⟨h1,k1⟩:=qz h (cq n).1
 obtain⟨h2,k2⟩:=uv h1 (cq n).2.1 (cq n).2.2
 obtain⟨h3,k3,-⟩:=lO (n:=(eL d).1) 5 h2
 obtain⟨h4,k4⟩:=uv h3 (eL d).2.1 (eL d).2.2
 exact⟨h4,((k1.trans k2).trans k3).trans k4⟩
theorem Es (l:af ab)(a:an){p:af ab×an}(h:ni p):ni (jd l a p)/\Pre p (jd l a p):=by
 unfold jd
 split
 ·exact qz h _
 ·exact Ms h _ _
theorem zH (l:af ab):∀(k a:an) (p:af ab×an),l.length<=a+k->ni p->ni (uC l a p)/\Pre p (uC l a p)
 |0,a,p,h,hp=>by rw[ql l p (by omega)];exact⟨hp,Pre.refl p⟩
 |k+1,a,p,h,hp=>by
  by_cases c:a<l.length
  ·rw[uc l p c]
   have h3:=qj l a
   obtain⟨h4,h5⟩:=Es l a hp
   obtain⟨h6,h7⟩:=zH l k (jB l a) (jd l a p) (by omega) h4
   exact⟨h6,h5.trans h7⟩
  ·rw[ql l p (by omega)];exact⟨hp,Pre.refl p⟩
theorem XG:ni ([],0):=⟨⟨a8 _,by decide⟩,fun i _=>by simp[bit]⟩
theorem Et:ni j9:=(nB XG 3 3).1
structure FTo (jf jb:an) (o:cp) (s:aq) (o' :cp) (s' :aq):Prop where
 next:s.next<=s'.next
 get:∀i,i<s.next->i≠jf->i≠jb->aI o≠some i->s'.heap.get i=s.heap.get i
 id:aI o' =aI o\/∃i,aI o' =some i/\s.next<=i
theorem XH (D:af ab)(a:an):∀k,hi D a k<2^k
 |0=>by simp[hi]
 |k+1=>by
  have h1:=XH D a k
  have h2:=vO D (a+k)
  simp only[hi]
  rw[cz];omega
theorem TR (D:af ab)(a:an):cj D a 1=bit D a:=by simp[cj]
theorem aiS {x b:an}(hx:x<1000000)(hb:b<2):cb.wrap (((cf cb.bits ((x*2^1:an):bg)|||cf cb.bits (b:bg)).toNat:an):bg)=((2*x+b:an):bg):=by
 have e1:cb.bits=64:=rfl
 rw[e1]
 have:(cf 64 ((x*2^1:an):bg)|||cf 64 (b:bg)).toNat=2*x+b:=by
  rw[BitVec.toNat_or,cm,cm,cx,cx,cd (by omega),cd (by omega)]
  have:=Nat.shiftLeft_add_eq_or_of_lt (i:=1) (b:=b) (by omega) x
  rw[Nat.shiftLeft_eq] at this
  rw[<-this];omega
 rw[this,aD (by omega)]
theorem aiT (P:Program)(t:TypeId)(k' :IntKind){x:an}(hx:x<1000000):cQ P .shl t (.int .i64 ((x:an):bg)) (.int k' 1)=some (.int .i64 ((x*2^1:an):bg)):=by
 rw[mW P t .i64 _ _ k' (by omega)]
 have e:min (1:bg).toNat cb.bits=1:=by decide
 rw[e]
 have e2:((x:an):bg)*(2:bg)^1=((x*2^1:an):bg):=by omega
 rw[e2,aD (by omega)]
end Go.Cl.Fx
namespace Go.Cl.Nf
open Go.Cl.Sto Go.Cl.Fx
def dQ (D:af ab)(p n:an):a4 an an:=if p+n<=8*D.length then .ok (cj D p n) else .error 2
theorem eN {D:af ab}{p n:an}(h:p+n<=8*D.length):dQ D p n= .ok (cj D p n):=bs h
theorem mn {D:af ab}{p n:an}(h:¬p+n<=8*D.length):dQ D p n= .error 2:=b4 h
def cn (C:af an)(n:an):an:=if n=0 then 0 else C.count n
def fst (C:af an):an->an
 |0=>0
 |n+1=>2*(fst C n+cn C n)
def jH (C:af an)(n:an):an->af an
 |0=>[]
 |k+1=>jH C n k++if C.getD k 0=n then [k] else []
def idx (C:af an)(n:an):af an:=jH C n C.length
def dq (C:af an):an->af an
 |0=>[]
 |n+1=>dq C n++idx C (n+1)
theorem oZ {C:af an}{k n:an}(h:k<C.length):(C.take (k+1)).count n=(C.take k).count n+if C.getD k 0=n then 1 else 0:=by
 rw[cH,a7 h,List.count_append,av,a7 h]
 simp[List.count_singleton,beq_iff_eq]
theorem o5 (C:af an)(n:an):∀k,k<=C.length->(jH C n k).length=(C.take k).count n
 |0,_=>by simp[jH]
 |k+1,h=>by
  rw[jH,bb,o5 C n k (by omega),oZ (by omega)]
  split<;>simp
theorem wk (C:af an)(n:an):(idx C n).length=C.count n:=by
 unfold idx;rw[o5 C n _ (a8 _),c0]
theorem Rl (C:af an)(n:an):∀k,k<=C.length->∀r,r<(jH C n k).length->(jH C n k).getD r 0<k/\C.getD ((jH C n k).getD r 0) 0=n/\(C.take ((jH C n k).getD r 0)).count n=r
 |0,_,r,hr=>by simp[jH] at hr
 |k+1,h,r,hr=>by
  have hl:=o5 C n k (by omega)
  by_cases c:r<(jH C n k).length
  ·obtain⟨h1,h2,h3⟩:=Rl C n k (by omega) r c
   have e:(jH C n (k+1)).getD r 0=(jH C n k).getD r 0:=by
    rw[jH,av,bk c,av]
   rw[e]
   exact⟨by omega,h2,h3⟩
  ·rw[jH,bb] at hr
   by_cases c2:C.getD k 0=n
   ·rw[bs c2] at hr
    have gx:r=(jH C n k).length:=by simp at hr;omega
    have e:(jH C n (k+1)).getD r 0=k:=by
     rw[jH,bs c2,gx,av,b8 (a8 _),b5];rfl
    rw[e]
    exact⟨by omega,c2,by omega⟩
   ·rw[b4 c2] at hr
    simp at hr;omega
theorem aeN (C:af an)(n r:an)(hr:r<C.count n):(idx C n).getD r 0<C.length/\C.getD ((idx C n).getD r 0) 0=n/\(C.take ((idx C n).getD r 0)).count n=r:=
 Rl C n C.length (a8 _) r (by have:=wk C n;unfold idx at this;omega)
theorem Eu (C:af an)(n:an):∀{i j},i<=j->(C.take i).count n<=(C.take j).count n:=by
 intro i j h
 exact List.Sublist.count_le _ ((List.take_prefix_take_left h).sublist)
theorem XI {C:af an}{n i j:an}(hi:i<C.length)(hj:j<C.length)(h1:C.getD i 0=n)(h2:C.getD j 0=n)(h:(C.take i).count n=(C.take j).count n):i=j:=by
 have key:∀{i j},i<C.length->C.getD i 0=n->i<j->(C.take i).count n<(C.take j).count n:=by
  intro i j hi h1 ua
  have:=Eu C n (show i+1<=j by omega)
  rw[oZ hi,bs h1] at this
  omega
 by_cases c:i<j
 ·have:=key hi h1 c;omega
 ·by_cases c2:j<i
  ·have:=key hj h2 c2;omega
  ·omega
theorem aa4 {C:af an}{n i:an}(hi:i<C.length)(h1:C.getD i 0=n):(C.take i).count n<C.count n:=by
 have:=Eu C n (show i+1<=C.length by omega)
 rw[oZ hi,bs h1,c0] at this
 omega
def yh (D:af ab)(C:af an)(p n:an):Prop:=fst C n<=hi D p n/\hi D p n<fst C n+C.count n
instance (D:af ab) (C:af an) (p n:an):Decidable (yh D C p n):=by unfold yh;infer_instance
def nth (D:af ab)(C:af an)(p n:an):an:=(idx C n).getD (hi D p n-fst C n) 0
def Bl (D:af ab)(C:af an)(p:an):an->an->a4 an (an×an)
 |0,_=> .error 4
 |k+1,n=>if p+(n+1)<=8*D.length then(if yh D C p (n+1) then .ok (nth D C p (n+1),p+(n+1)) else Bl D C p k (n+1)) else .error 2
def sym (D:af ab)(C:af an)(p:an):a4 an (an×an):=Bl D C p 15 0
theorem JL {D:af ab}{C:af an}{p n:an}(h:yh D C p n):nth D C p n<C.length/\C.getD (nth D C p n) 0=n/\fst C n+(C.take (nth D C p n)).count n=hi D p n:=by
 obtain⟨h1,h2⟩:=h
 obtain⟨k1,k2,k3⟩:=aeN C n (hi D p n-fst C n) (by omega)
 exact⟨k1,k2,by show fst C n+(C.take ((idx C n).getD (hi D p n-fst C n) 0)).count n=_;rw[k3];omega⟩
theorem XJ {D:af ab}{C:af an}{p n i:an}(sn:i<C.length)(h1:C.getD i 0=n)(h2:fst C n+(C.take i).count n=hi D p n):yh D C p n/\nth D C p n=i:=by
 have h3:=aa4 sn h1
 have h:yh D C p n:=⟨by omega,by omega⟩
 obtain⟨k1,k2,k3⟩:=JL h
 exact⟨h,XI k1 sn k2 h1 (by omega)⟩
theorem Rm {D:af ab}{C:af an}{p:an}:∀{k n:an} {x q:an},Bl D C p k n= .ok (x,q)->p+n<q/\q<=8*D.length/\q<=p+n+k/\x<C.length
 |0,n,x,q,h=>by simp[Bl] at h
 |k+1,n,x,q,h=>by
  unfold Bl at h
  split at h
  ·split at h
   ·rename_i c1 c2
    injection h with h;injection h with h1 h2
    have:=(JL c2).1
    omega
   ·have:=Rm h;omega
  ·cases h
theorem JM {D:af ab}{C:af an}{p x q:an}(h:sym D C p= .ok (x,q)):p<q/\q<=8*D.length/\q<=p+15/\x<C.length:=by
 have:=Rm h;omega
theorem Mt {D:af ab}{C:af an}{p:an}:∀{k n e:an},Bl D C p k n= .error e->e=2\/e=4
 |0,n,e,h=>by injection h with h;exact .inr h.symm
 |k+1,n,e,h=>by
  unfold Bl at h
  split at h
  ·split at h
   ·cases h
   ·exact Mt h
  ·injection h with h;exact .inl h.symm
def rep (M back:an):an->af ab->a4 an (af ab)
 |0,P=> .ok P
 |n+1,P=>if M<=P.length then .error 7 else rep M back n (P++[P.getD (P.length-back) 0])
def wm (D:af ab)(M:an):an->an->af ab->a4 an (an×af ab)
 |0,a,P=> .ok (8*a,P)
 |k+1,a,P=>if a<D.length then(if M<=P.length then .error 7 else wm D M k (a+1) (P++[D.getD a 0])) else .error 2
def o7 (D:af ab)(M p:an)(P:af ab):a4 an (an×af ab):=
 if 8*((p+7)/8)+32<=8*D.length then
  if cj D (8*((p+7)/8)) 16+cj D (8*((p+7)/8)+16) 16=65535 then wm D M (cj D (8*((p+7)/8)) 16) ((p+7)/8+4) P else .error 4
 else .error 2
def rZ (D:af ab)(M:an)(B:af an)(s p:an)(P:af ab):a4 an (an×af ab):=
 if 285<s then .error 4 else
 match dQ D p (pJ s) with
 | .error e=> .error e
 | .ok x=>match sym D B (p+pJ s) with
  | .error e=> .error e
  | .ok (c,q)=>if 30<=c then .error 4 else match dQ D q (yg c) with
   | .error e=> .error e
   | .ok y=>if P.length<qy c y then .error 4 else match rep M (qy c y) (lenOf s x) P with
    | .error e=> .error e
    | .ok P' => .ok (q+yg c,P')
def kR (D:af ab)(M:an)(A B:af an):an->an->af ab->a4 an (an×af ab)
 |0,_,_=> .error 2
 |k+1,p,P=>match sym D A p with
  | .error e=> .error e
  | .ok (s,q)=>if s=256 then .ok (q,P) else if s<256 then(if M<=P.length then .error 7 else kR D M A B k q (P++[UInt8.ofNat s])) else match rZ D M B s q P with
   | .error e=> .error e
   | .ok (r,P')=>kR D M A B k r P'
def Rn (D:af ab)(p:an):a4 an (an×an×an):=
 match dQ D p 5 with
 | .error e=> .error e
 | .ok n=>if 29<n then .error 4 else match dQ D (p+5) 5 with
  | .error e=> .error e
  | .ok d=>if 29<d then .error 4 else match dQ D (p+10) 4 with
   | .error e=> .error e
   | .ok k=> .ok (n+257,d+1,k+4)
def order:af an:=[16,17,18,0,8,7,9,6,10,5,11,4,12,3,13,2,14,1,15]
def Pl (D:af ab):af an->an->af an->a4 an (af an×an)
 |[],p,o=> .ok (o,p)
 |i::r,p,o=>match dQ D p 3 with
  | .error e=> .error e
  | .ok x=>Pl D r (p+3) (o.set i x)
def jY:af an->an
 |[]=>0
 |n::r=>(if 0<n then 2^(15-n) else 0)+jY r
def jI:af an->an
 |[]=>0
 |n::r=>(if 0<n then 1 else 0)+jI r
def Mu (C:af an):Prop:=jY C=32768\/(jY C<32768/\jI C<=1)
instance (C:af an):Decidable (Mu C):=by unfold Mu;infer_instance
def zI (D:af ab)(s p:an)(l:af an):a4 an (an×an×an):=
 if s=16 then(if l.length=0 then .error 4 else match dQ D p 2 with| .error e=> .error e| .ok n=> .ok (l.getD (l.length-1) 0,3+n,p+2))
 else if s=17 then(match dQ D p 3 with| .error e=> .error e| .ok n=> .ok (0,3+n,p+3))
 else if s=18 then(match dQ D p 7 with| .error e=> .error e| .ok n=> .ok (0,11+n,p+7))
 else .ok (s,1,p)
def Ew (D:af ab)(C:af an)(many:an):an->an->af an->a4 an (af an×an)
 |0,_,_=> .error 2
 |k+1,p,l=>if many<=l.length then .ok (l,p) else match sym D C p with
  | .error e=> .error e
  | .ok (s,q)=>match zI D s q l with
   | .error e=> .error e
   | .ok (x,n,r)=>if many<l.length+n then .error 4 else Ew D C many k r (l++ca n x)
def Pm (N:an)(D:af ab)(p:an):a4 an ((af an×af an)×an):=
 match Rn D p with
 | .error e=> .error e
 | .ok (n,d,k)=>match Pl D (order.take k) (p+14) (ca 19 0) with
  | .error e=> .error e
  | .ok (o,q)=>if Mu o then(match Ew D o (n+d) N q [] with
   | .error e=> .error e
   | .ok (l,r)=>if Mu (l.take n)/\Mu (l.drop n)/\l.getD 256 0≠0 then .ok ((l.take n,l.drop n),r) else .error 4) else .error 4
def er:af an:=(List.range 288).map fun s=>(gS s).2
def fW:af an:=ca 32 5
def mo (N:an)(D:af ab)(M kind p:an)(P:af ab):a4 an (an×af ab):=
 if kind=0 then o7 D M p P
 else if kind=1 then kR D M er fW N p P
 else if kind=2 then(match Pm N D p with
  | .error e=> .error e
  | .ok ((a,b),q)=>kR D M a b N q P)
 else .error 4
def gJ (N:an)(D:af ab)(M p:an)(P:af ab):a4 an (an×an×af ab):=
 match dQ D p 1 with
 | .error e=> .error e
 | .ok last=>match dQ D (p+1) 2 with
  | .error e=> .error e
  | .ok kind=>match mo N D M kind (p+3) P with
   | .error e=> .error e
   | .ok (q,P')=> .ok (last,q,P')
def kS (N:an)(D:af ab)(M:an):an->an->af ab->a4 an (an×af ab)
 |0,_,_=> .error 2
 |k+1,p,P=>match gJ N D M p P with
  | .error e=> .error e
  | .ok (last,q,P')=>if last=1 then .ok (q,P') else kS N D M k q P'
def vl (N:an)(D:af ab)(M:an):a4 an (an×af ab):=kS N D M N 0 []
def Ext {α:Type}(x y:a4 an α):Prop:=x= .error 2\/x=y
theorem aa5 (D T:af ab){k:an}(h:k<8*D.length):bit (D++T) k=bit D k:=by
 unfold bit
 rw[av,bk (by omega),av]
theorem yi {D:af ab}{p n x:an}(h:dQ D p n= .ok x):p+n<=8*D.length/\x=cj D p n:=by
 unfold dQ at h
 split at h
 ·rename_i c;injection h with h;exact⟨c,h.symm⟩
 ·cases h
theorem Ro {M back:an}:∀{n:an} {P P' :af ab},rep M back n P= .ok P' ->P.length<=M->P'.length<=M
 |0,P,P',h,hp=>by injection h with h;subst h;exact hp
 |n+1,P,P',h,hp=>by
  unfold rep at h
  split at h
  ·cases h
  ·rename_i c;exact Ro h (by rw[bb];simp;omega)
theorem Rp {D:af ab}{M:an}:∀{k a:an} {P:af ab} {q:an} {P' :af ab},wm D M k a P= .ok (q,P')->a<=D.length->P.length<=M->8*a<=q/\q<=8*D.length/\P'.length<=M
 |0,a,P,q,P',h,ha,hp=>by injection h with h;injection h with h1 h2;subst h2;exact⟨by omega,by omega,hp⟩
 |k+1,a,P,q,P',h,ha,hp=>by
  unfold wm at h
  split at h
  ·split at h
   ·cases h
   ·have:=Rp h (by omega) (by rw[bb];simp;omega);omega
  ·cases h
theorem Ex {D:af ab}{M p:an}{P:af ab}{q:an}{P' :af ab}(h:o7 D M p P= .ok (q,P'))(hp:P.length<=M):p<=q/\q<=8*D.length/\P'.length<=M:=by
 unfold o7 at h
 split at h
 ·split at h
  ·have:=Rp h (by omega) hp;omega
  ·cases h
 ·cases h
theorem Mv {D:af ab}{M:an}{B:af an}{s p:an}{P:af ab}{q:an}{P' :af ab}(h:rZ D M B s p P= .ok (q,P'))(hp:P.length<=M):p<=q/\q<=8*D.length/\P'.length<=M:=by
 unfold rZ at h
 split at h
 ·cases h
 cases h1:dQ D p (pJ s) with
 |error e=>rw[h1] at h;cases h
 |ok x=>
  rw[h1] at h
  dsimp only at h
  cases h2:sym D B (p+pJ s) with
  |error e=>rw[h2] at h;cases h
  |ok c=>
   rw[h2] at h
   dsimp only at h
   split at h
   ·cases h
   cases h3:dQ D c.2 (yg c.1) with
   |error e=>rw[h3] at h;cases h
   |ok y=>
    rw[h3] at h
    dsimp only at h
    split at h
    ·cases h
    cases h4:rep M (qy c.1 y) (lenOf s x) P with
    |error e=>rw[h4] at h;cases h
    |ok P2=>
     rw[h4] at h
     injection h with h;injection h with e1 e2
     subst e2
     have:=JM h2
     have:=yi h3
     have:=Ro h4 hp
     omega
theorem nC {D:af ab}{M:an}{A B:af an}:∀{k p:an} {P:af ab} {q:an} {P' :af ab},kR D M A B k p P= .ok (q,P')->P.length<=M->p<=q/\q<=8*D.length/\P'.length<=M
 |0,p,P,q,P',h,hp=>by cases h
 |k+1,p,P,q,P',h,hp=>by
  unfold kR at h
  cases h1:sym D A p with
  |error e=>rw[h1] at h;cases h
  |ok c=>
   rw[h1] at h
   have hs:=JM h1
   dsimp only at h
   split at h
   ·injection h with h;injection h with e1 e2
    subst e2;exact⟨by omega,by omega,hp⟩
   split at h
   ·split at h
    ·cases h
    ·have:=nC h (by rw[bb];simp;omega);omega
   cases h2:rZ D M B c.1 c.2 P with
   |error e=>rw[h2] at h;cases h
   |ok c2=>
    rw[h2] at h
    have:=Mv h2 hp
    have:=nC h (by omega)
    omega
theorem XK {N:an}{D:af ab}{M kind p:an}{P:af ab}{q:an}{P' :af ab}(h:mo N D M kind p P= .ok (q,P'))(hp:P.length<=M):q<=8*D.length/\P'.length<=M:=by
 unfold mo at h
 split at h
 ·exact(Ex h hp).2
 split at h
 ·exact(nC h hp).2
 split at h
 ·cases h1:Pm N D p with
  |error e=>rw[h1] at h;cases h
  |ok c=>rw[h1] at h;exact(nC h hp).2
 ·cases h
theorem HR {N:an}{D:af ab}{M p:an}{P:af ab}{last q:an}{P' :af ab}(h:gJ N D M p P= .ok (last,q,P'))(hp:P.length<=M):q<=8*D.length/\P'.length<=M/\last<2:=by
 unfold gJ at h
 cases h1:dQ D p 1 with
 |error e=>rw[h1] at h;cases h
 |ok c=>
  rw[h1] at h
  dsimp only at h
  cases h2:dQ D (p+1) 2 with
  |error e=>rw[h2] at h;cases h
  |ok d=>
   rw[h2] at h
   dsimp only at h
   cases h3:mo N D M d (p+3) P with
   |error e=>rw[h3] at h;cases h
   |ok r=>
    rw[h3] at h
    injection h with h;injection h with e0 h;injection h with e1 e2
    have:=XK h3 hp
    have hb:=(yi h1).2
    have hl:=jz D p 1
    subst e0 e1 e2
    exact⟨this.1,this.2,by omega⟩
theorem Ey {N:an}{D:af ab}{M:an}:∀{k p:an} {P:af ab} {q:an} {P' :af ab},kS N D M k p P= .ok (q,P')->P.length<=M->q<=8*D.length/\P'.length<=M
 |0,p,P,q,P',h,hp=>by cases h
 |k+1,p,P,q,P',h,hp=>by
  unfold kS at h
  cases h1:gJ N D M p P with
  |error e=>rw[h1] at h;cases h
  |ok c=>
   rw[h1] at h
   have hb:=HR h1 hp
   dsimp only at h
   split at h
   ·injection h with h;injection h with e1 e2
    subst e1 e2;exact⟨hb.1,hb.2.1⟩
   ·exact Ey h hb.2.1
theorem Mw {N:an}{D:af ab}{M q:an}{P:af ab}(h:vl N D M= .ok (q,P)):q<=8*D.length/\P.length<=M:=Ey h (c6 _)
def XL (D:af ab)(x:a4 an an)(n:an):an:=match x with| .ok p=>if p+n<=8*D.length then cj D p n else 0| .error _=>0
def HS (D:af ab)(x:a4 an an)(n:an):a4 an an:=match x with| .ok p=>if p+n<=8*D.length then .ok (p+n) else .error 2| .error e=> .error e
def aeO (C:af an):Prop:=∀i,C.getD i 0<=15
theorem XM (A B:af an):jY (A++B)=jY A+jY B:=by
 induction A with
 |nil=>simp[jY]
 |cons a r ih=>simp only[c5,jY,ih];omega
theorem TS (A B:af an):jI (A++B)=jI A+jI B:=by
 induction A with
 |nil=>simp[jI]
 |cons a r ih=>simp only[c5,jI,ih];omega
theorem Rq:∀C:af an,jY C<=32768*C.length
 |[]=>a8 _
 |a::r=>by
  have:=Rq r
  have h:2^(15-a)<=2^15:=bz (by omega) (by omega)
  have h2:(2:an)^15=32768:=by decide
  simp only[jY,cc]
  split<;>omega
theorem Mx:∀C:af an,jI C<=C.length
 |[]=>a8 _
 |a::r=>by
  have:=Mx r
  simp only[jI,cc]
  split<;>omega
theorem Ez {C:af an}{i:an}(h:i<C.length):C.take (i+1)=C.take i++[C.getD i 0]:=by
 rw[cH,a7 h,av,a7 h];rfl
theorem TT {C:af an}{i:an}(h:i<C.length):jY (C.take (i+1))=jY (C.take i)+if 0<C.getD i 0 then 2^(15-C.getD i 0) else 0:=by
 rw[Ez h,XM];simp[jY]
theorem Pn {C:af an}{i:an}(h:i<C.length):jI (C.take (i+1))=jI (C.take i)+if 0<C.getD i 0 then 1 else 0:=by
 rw[Ez h,TS];simp[jI]
theorem TU:aeO er:=by
 intro i
 by_cases h:i<288
 ·have:er.getD i 0=(gS i).2:=by simp[er,av,List.getElem?_map,List.getElem?_range h]
  rw[this];have:=xJ i;omega
 ·rw[av,bd (by simp[er];omega)];exact c6 _
theorem TV:aeO fW:=by
 intro i
 by_cases h:i<32
 ·have key:∀i,i<32->fW.getD i 0<=15:=by decide
  exact key i h
 ·rw[av,bd (by simp[fW];omega)];exact c6 _
end Go.Cl.Nf
namespace Go.Proofs.YtdfjfncifneocaaGreat
open Go.Cl Go.Cl.Rw Go.Cl.Sto Go.Cl.Fx Go.Cl.Nf
structure anz (base:an) (s:aq) (jf jb e:an) (bv pv o m:cp):Prop where
 b:ax s jb [bv,pv,.int .i64 (e:an)]
 f:ax s jf [aiR jb,o,m]
 pos:0<e
 ne:jb≠jf
 lb:base<=jb
 lf:base<=jf
def qD (jf jb:an)(o:cp)(s:aq)(a:cp)(C:af an):Prop:=aN s 1 a C.length (gN C)/\∀i,aI a=some i->i<s.next/\i≠jf/\i≠jb/\aI o≠some i
end Go.Proofs.YtdfjfncifneocaaGreat
namespace Go.Cl.Nf
open Go.Cl.Fx
theorem XN {x b:an}(hx:x<=285)(hb:b<2^pJ x):lenOf x b<=1000:=by
 unfold lenOf
 split
 ·omega
 ·split
  ·omega
  ·have e:pJ x=(x-261)/4:=by unfold pJ;rw[b4 (by omega)]
   rw[e] at hb
   have h1:2^((x-261)/4)<=2^6:=bz (by omega) (by omega)
   have h2:(4+(x-265)%4)*2^((x-261)/4)<=7*2^6:=Nat.mul_le_mul (by omega) h1
   have h3:(2:an)^6=64:=by decide
   omega
end Go.Cl.Nf
namespace Go.Cl.Nf
open Go.Cl.Fx Go.Cl.Sto
theorem XO {P:Program}{lib:aA}{cA cB:Code}{f:aW}{s:aq}{Q:AX->aW->aq->Prop}{b:Bool}(J:aW->aq->Prop)(h1:∀Q' :AX->aW->aq->Prop,(∀f' s',J f' s' ->Q' .normal f' s')->Vy P lib cA cB f s Q' b)(h2:∀f' s',J f' s' ->Q .normal f' s'):Vy P lib cA cB f s Q b:=h1 Q h2
theorem TW (D:af ab)(e n:an):HS D (.error e) n= .error e:=rfl
theorem yj {D:af ab}{p n:an}(h:p+n<=8*D.length):XL D (.ok p) n=cj D p n:=bs h
theorem yk {D:af ab}{p n:an}(h:p+n<=8*D.length):HS D (.ok p) n= .ok (p+n):=bs h
theorem yl {D:af ab}{p n:an}(h:¬p+n<=8*D.length):HS D (.ok p) n= .error 2:=b4 h
def AV {α β:Type}(x:a4 an α)(f:α->a4 an β):a4 an β:=match x with| .ok a=>f a| .error e=> .error e
theorem kT {α β:Type}(a:α)(f:α->a4 an β):AV (.ok a) f=f a:=rfl
theorem nD {α β:Type}(e:an)(f:α->a4 an β):AV (.error e) f= .error e:=rfl
end Go.Cl.Nf
namespace Go.Proofs.YtdfjfncifneocaaGreat
open Go.Cl Go.Cl.Rw Go.Cl.Sto Go.Cl.Fx Go.Cl.Nf
theorem HT (L K:af an):gN L++gN K=gN (L++K):=by simp[gN]
end Go.Proofs.YtdfjfncifneocaaGreat
namespace Go.Cl.Nf
open Go.Cl.Fx Go.Cl.Sto
theorem aeP (N:an)(D:af ab)(M p:an)(P:af ab):gJ N D M p P=AV (HS D (HS D (.ok p) 1) 2) fun r=>AV (mo N D M (XL D (HS D (.ok p) 1) 2) r P) fun y=> .ok (XL D (.ok p) 1,y.1,y.2):=by
 unfold gJ
 by_cases c1:p+1<=8*D.length
 rotate_left
 ·rw[mn c1,yl c1];rfl
 rw[eN c1,yk c1,yj c1]
 dsimp only
 by_cases c2:p+1+2<=8*D.length
 rotate_left
 ·rw[mn c2,yl c2];rfl
 rw[eN c2,yk c2,yj c2,kT]
 dsimp only
 cases mo N D M (cj D (p+1) 2) (p+1+2) P with
 |error e=>rfl
 |ok y=>rfl
theorem Rr {D:af ab}:∀{r:af an} {p:an} {o o' :af an} {q:an},Pl D r p o= .ok (o',q)->p<=q
 |[],p,o,o',q,h=>by injection h with h;injection h with h1 h2;omega
 |i::r,p,o,o',q,h=>by
  unfold Pl at h
  cases h1:dQ D p 3 with
  |error e=>rw[h1] at h;cases h
  |ok x=>rw[h1] at h;have:=Rr h;omega
theorem TX {D:af ab}{s p:an}{l:af an}{x n q:an}(h:zI D s p l= .ok (x,n,q)):p<=q:=by
 unfold zI at h
 split at h
 ·split at h
  ·cases h
  ·cases h1:dQ D p 2 with
   |error e=>rw[h1] at h;cases h
   |ok y=>rw[h1] at h;injection h with h;injection h with _ h;injection h with _ h;omega
 split at h
 ·cases h1:dQ D p 3 with
  |error e=>rw[h1] at h;cases h
  |ok y=>rw[h1] at h;injection h with h;injection h with _ h;injection h with _ h;omega
 split at h
 ·cases h1:dQ D p 7 with
  |error e=>rw[h1] at h;cases h
  |ok y=>rw[h1] at h;injection h with h;injection h with _ h;injection h with _ h;omega
 ·injection h with h;injection h with _ h;injection h with _ h;omega
theorem My {D:af ab}{C:af an}{M:an}:∀{k p:an} {l l' :af an} {q:an},Ew D C M k p l= .ok (l',q)->p<=q
 |0,p,l,l',q,h=>by cases h
 |k+1,p,l,l',q,h=>by
  unfold Ew at h
  split at h
  ·injection h with h;injection h with _ h;omega
  cases h1:sym D C p with
  |error e=>rw[h1] at h;cases h
  |ok c=>
   obtain⟨c1,c2⟩:=c
   rw[h1] at h
   dsimp only at h
   cases h2:zI D c1 c2 l with
   |error e=>rw[h2] at h;cases h
   |ok a=>
    obtain⟨a1,a2,a3⟩:=a
    rw[h2] at h
    dsimp only at h
    split at h
    ·cases h
    ·have:=My h
     have:=TX h2
     have:=JM h1
     omega
theorem aa6 {N:an}{D:af ab}{p q:an}{y:af an×af an}(h:Pm N D p= .ok (y,q)):p<=q:=by
 unfold Pm at h
 cases h1:Rn D p with
 |error e=>rw[h1] at h;cases h
 |ok c=>
  rw[h1] at h
  dsimp only at h
  cases h2:Pl D (order.take c.2.2) (p+14) (ca 19 0) with
  |error e=>rw[h2] at h;cases h
  |ok o=>
   rw[h2] at h
   dsimp only at h
   have:=Rr (o' :=o.1) (q:=o.2) h2
   split at h
   ·cases h3:Ew D o.1 (c.1+c.2.1) N o.2 [] with
    |error e=>rw[h3] at h;cases h
    |ok l=>
     rw[h3] at h
     dsimp only at h
     have:=My (l' :=l.1) (q:=l.2) h3
     split at h
     ·injection h with h;injection h with _ h;omega
     ·cases h
   ·cases h
theorem XP {N:an}{D:af ab}{M kind p:an}{P:af ab}{q:an}{P' :af ab}(h:mo N D M kind p P= .ok (q,P'))(hp:P.length<=M):p<=q:=by
 unfold mo at h
 split at h
 ·exact(Ex h hp).1
 split at h
 ·exact(nC h hp).1
 split at h
 ·cases h1:Pm N D p with
  |error e=>rw[h1] at h;cases h
  |ok c=>
   rw[h1] at h
   have:=aa6 (y:=c.1) (q:=c.2) h1
   have:=(nC h hp).1
   omega
 ·cases h
theorem TY {N:an}{D:af ab}{M p:an}{P:af ab}{last q:an}{P' :af ab}(h:gJ N D M p P= .ok (last,q,P'))(hp:P.length<=M):p+3<=q:=by
 unfold gJ at h
 cases h1:dQ D p 1 with
 |error e=>rw[h1] at h;cases h
 |ok c=>
  rw[h1] at h
  dsimp only at h
  cases h2:dQ D (p+1) 2 with
  |error e=>rw[h2] at h;cases h
  |ok d=>
   rw[h2] at h
   dsimp only at h
   cases h3:mo N D M d (p+3) P with
   |error e=>rw[h3] at h;cases h
   |ok r=>
    rw[h3] at h
    injection h with h;injection h with e0 h;injection h with e1 e2
    have:=XP (q:=r.1) (P' :=r.2) h3 hp
    omega
end Go.Cl.Nf
namespace Go.Proofs.YtdfjfncifneocaaGreat
open Go.Cl Go.Cl.Rw Go.Cl.Sto Go.Cl.Fx Go.Cl.Nf
def aiU (s:aq)(v:cp)(s' :aq):a4 an (an×af ab)->Prop
 | .ok (q,P)=>∃o,v= .tuple #[o,.int .i64 ((q+7)/8:an),.int .i64 0]/\Own s' 1 o P.length (ofBytes P)/\aF s.next o/\ar s.next s s'
 | .error e=>v= .tuple #[.slice none 0 0,.int .i64 0,.int .i64 (e:an)]/\ar s.next s s'
end Go.Proofs.YtdfjfncifneocaaGreat
