import Derived.Test.YtdfjfncifneocaaGreatLzwS
open _root_ renaming reduceIte->ab,UInt8->an,List->ao,eq_false->a1,Nat->a2,Int->a7,eq_true->a8,if_neg->bb,if_pos->ca,and_self->dd,congrArg->dY
open Go.Proofs.Tryz renaming prog->af,results107->a0,underlying22->a3,underlying121->a5,results156->bq,underlying122->b7,underlying132->b8,results66->cg,underlying173->cm,results192->cB,underlying112->c8,underlying3->ds,results155->dx,results109->dT,results111->dU
open List renaming getD_eq_getElem?_getD->av,length_append->a4,length_drop->a6,length_nil->bg,getElem?_eq_getElem->bl,getElem?_append_right->bz,length_take->b4,getElem?_append_left->b5,length_cons->cb,drop_append_of_le_length->cd,length_pos_iff->cf,take_of_length_le->cx,drop_eq_nil_of_le->cz,append_assoc->dc,length->dv
open Nat renaming lt_of_lt_of_le->a9,le_trans->bk,reduceAdd->cc,add_sub_cancel_left->cv,le_refl->cR,mod_eq_of_lt->dt,min_eq_left->dH
open Go renaming Value->bo
open Go.IntKind renaming i64->cp
open BitVec renaming ofInt->cA,ofInt_natCast->c7,toNat_ofNat->c9
open Nat renaming reduceLT->QS,reduceEqDiff->Qx
set_option maxHeartbeats 16000000
set_option linter.unusedSimpArgs false
set_option linter.unusedVariables false
set_option maxRecDepth 100000
namespace Go.Cl.Lz
theorem wh {A B:ao an}(i:a2):(A++B).getD (A.length+i) 0=B.getD i 0:=by
 rw[av,av,bz (by omega),cv]
theorem yc {A B:ao an}{i:a2}(h:i<A.length):(A++B).getD i 0=A.getD i 0:=by
 rw[av,av,b5 h]
theorem vk {A:ao an}{k:a2}(h:k<A.length):A.take (k+1)=A.take k++[A.getD k 0]:=by
 rw[List.take_succ_eq_append_getElem h,av,bl h];rfl
theorem Eg {out:ao an}{a:a2}:∀n,a+n<=out.length->F9 out a n=out++(out.drop a).take n
 |0,h=>by simp[F9]
 |n+1,h=>by
  rw[F9,Eg n (by omega),yc (by omega),dc]
  congr 1
  rw[vk (by rw[a6];omega)]
  congr 2
  rw[av,av,List.getElem?_drop]
theorem Eh {out:ao an}{a n:a2}(h:a+n=out.length)(hn:1<=n):F9 out a (n+1)=out++(out.drop a++(out.drop a).take 1):=by
 have hl:(out.drop a).length=n:=by rw[a6];omega
 rw[F9,Eg n (by omega),cx (by omega),h]
 have e:=wh (A:=out) (B:=out.drop a) 0
 rw[Nat.add_zero] at e
 rw[e,dc]
 congr 2
 rw[vk (by omega),List.take_zero,List.nil_append]
def tN (out:ao an)(rows:ao (a2×a2))(T:ao (ao an)):Prop:=
 rows.length=T.length/\∀(i:a2) (q:a2×a2),rows[i]?=some q->1<=q.2/\q.1+q.2<=out.length/\T[i]?=some ((out.drop q.1).take q.2)
def rD (out:ao an)(last:a2×a2)(L:ao an):Prop:=
 (last.2=0/\L=[])\/(1<=last.2/\last.1+last.2=out.length/\L=out.drop last.1)
theorem rD.zero {out:ao an}{last:a2×a2}{L:ao an}(h:rD out last L):last.2=0↔L=[]:=by
 rcases h with ⟨h1,h2⟩|⟨h1,h2,h3⟩
 ·exact⟨fun _=>h2,fun _=>h1⟩
 ·refine⟨fun e=>by omega,fun e=> ?_⟩
  have:=dY dv h3
  rw[e,a6,bg] at this;omega
theorem rD.next (out x:ao an)(hx:x≠[]):rD (out++x) (out.length,x.length) x:=
 .inr ⟨cf.mpr hx,by simp,by simp⟩
def rowsOf (rows:ao (a2×a2))(last:a2×a2):ao (a2×a2):=if 0<last.2/\258+rows.length<4096 then rows++[(last.1,last.2+1)] else rows
theorem tN.grow {out x:ao an}{rows:ao (a2×a2)}{T:ao (ao an)}{last:a2×a2}{L:ao an}(h:tN out rows T)(hL:rD out last L)(hx:x≠[]):tN (out++x) (rowsOf rows last) (grow T L x):=by
 obtain⟨h1,h2⟩:=h
 have uM:=cf.mpr hx
 have old:∀(i:a2) (q:a2×a2),rows[i]?=some q->1<=q.2/\q.1+q.2<=(out++x).length/\T[i]?=some (((out++x).drop q.1).take q.2):=fun i q hq=>by
  obtain⟨a,b,c⟩:=h2 i q hq
  refine⟨a,by rw[a4];omega,?_⟩
  rw[c,cd (by omega),List.take_append_of_le_length (by rw[a6];omega)]
 unfold rowsOf Lz.grow
 by_cases c1:0<last.2/\258+rows.length<4096
 ·rcases hL with ⟨q1,q2⟩|⟨q1,q2,q3⟩
  ·omega
  ·have hL0:L≠[]:=by intro e;have:=dY dv q3;rw[e,a6,bg] at this;omega
   rw[ca c1,ca ⟨hL0,by rw[<-h1];exact c1.2⟩]
   refine⟨by simp[h1],fun i q hq=> ?_⟩
   by_cases hi:i<rows.length
   ·rw[b5 hi] at hq
    obtain⟨a,b,c⟩:=old i q hq
    exact⟨a,b,by rw[b5 (by omega)];exact c⟩
   ·rw[bz (by omega)] at hq
    cases hj:i-rows.length with
    |succ m=>rw[hj] at hq;simp at hq
    |zero=>
     rw[hj] at hq
     simp at hq
     subst hq
     refine⟨by simp,by simp only[a4];omega,?_⟩
     have hLl:L.length=last.2:=by rw[q3,a6];omega
     rw[bz (by omega),show i-T.length=0 by omega]
     simp only[List.getElem?_cons_zero]
     have e1:L.take (last.2+1)=L:=cx (by omega)
     rw[cd (by omega),<-q3,List.take_append,hLl,cv,e1]
 ·rw[bb c1]
  have:¬(L≠[]/\258+T.length<4096):=by
   rintro ⟨a,b⟩
   have:=hL.zero
   exact c1 ⟨by rcases Nat.eq_zero_or_pos last.2 with e|e;exact absurd (this.mp e) a;exact e,by omega⟩
  rw[bb this]
  exact⟨h1,old⟩
end Go.Cl.Lz
namespace Go.Proofs.YtdfjfncifneocaaGreat
open Go.Cl Go.Cl.Lz Go.Cl.Rw
theorem tO {s s' :aq}{i j:a2}{cs:ao bo}{v v' :bo}(h:ax s i cs)(k:du j v s v' s')(h1:i≠j)(h2:aI v≠some i):ax s' i cs:=by
 obtain⟨low,z,a,b⟩:=h.dZ
 refine⟨a9 h.lt k.next,low,z,?_,b⟩
 simp only[aq.bR,k.get i h.lt h1 h2]
 exact a
theorem tP:bV af 122=some (.agg #[.int .i64 0,.int .i64 0]):=by kernel_rfl
theorem Xo:bN (.agg #[.int .i64 0,.int .i64 0])=true:=rfl
theorem Pe:eY af 122=some 16:=by kernel_rfl
theorem Pf (a b:a7):bZ (.agg #[.int .i64 a,.int .i64 b]) (.agg #[.int .i64 a,.int .i64 b])=true:=by simp[bZ,fp,cN]
theorem Ei (s:aq)(a b:a7):aO af s 121 1 [(0,.agg #[.int .i64 a,.int .i64 b])]=aZ s [.int .i64 a,.int .i64 b] 1 2:=by
 unfold aO
 rw[a5]
 simp only[fF,tP]
 rfl
theorem lN.more {base:a2}{s s1 s2 s3:aq}{j:a2}{bv rv ov r2:bo}{b:ao an}{p:a2}{most:a7}{rows Xp:ao (a2×a2)}{last:a2×a2}{out:ao an}(h:lN base s j bv rv ov b p most rows last out)(hb:base<=s.next)
  (h1:ar s.next s s1) (h2:Own s2 2 r2 Xp.length (lM Xp)) (Ir:aF base r2) (dD:bt rv s1 s2) (gz:aI r2=aI rv\/∃i,aI r2=some i/\s1.next<=i)
  (ht:ax s3 j [bv,.int .i64 p,.int .i64 most,r2,.int .i64 last.1,.int .i64 last.2,ov]) (hn:s3.next=s2.next) (hs:∀i,i≠j->s3.heap.get i=s2.heap.get i):
  lN base s3 j bv r2 ov b p most Xp last out/\ar base s s3:=by
 have bd:=h.cJ.lt
 have hrj:aI r2≠some j:=by
  rcases gz with e|⟨i,e,hi⟩
  ·rw[e];exact h.rj
  ·rw[e];intro q;injection q with q;have:=h1.next;omega
 have k2:=dD.keeps h.rf (bk hb h1.next)
 refine⟨⟨ht,((h.b.stay (h1.weaken hb)).stay k2).stay (ar.aK hn hs h.lo),h2.aK hn hs hrj,Ir,hrj,((h.out.keeps h1).turns dD (fun i hi=>h.ox i hi)).aK hn hs h.oj,h.of,h.oj,fun k hk=> ?_,h.lo⟩,((h1.weaken hb).trans k2).trans (ar.aK hn hs h.lo)⟩
 rcases gz with e|⟨i,e,hi⟩
 ·rw[e];exact h.ox k hk
 ·rw[e];intro q;injection q with q;have:=h.out.iD _ hk;have:=h1.next;omega
def mJ (base:a2)(s:aq)(j:a2)(bv:bo)(b:ao an)(p:a2)(most:a7)(out:ao an)(T:ao (ao an))(L:ao an)(c:a2)(v:bo)(s' :aq):Prop:=
 ar base s s' /\match rowOf T L c with
 |none=>v= .int .i64 4
 |some x=>(most<((out.length+x.length:a2):a7)/\v= .int .i64 7)\/(((out.length+x.length:a2):a7)<=most/\v= .int .i64 0/\∃(rv' Y3:bo) (rows' :ao (a2×a2)),lN base s' j bv rv' Y3 b p most rows' (out.length,x.length) (out++x)/\tN (out++x) rows' (grow T L x))
theorem mJ.put {base:a2}{s s4:aq}{j:a2}{bv:bo}{b:ao an}{p:a2}{most:a7}{rows:ao (a2×a2)}{last:a2×a2}{out:ao an}{T:ao (ao an)}{L:ao an}{c n:a2}{X:ao an}{v:bo}{x:ao an}
  (hx:rowOf T L c=some x) (Bo:x≠[]) (hn:x.length=n) (hX:X=out++x) (hT:tN out rows T) (hL:rD out last L) (aE:ar base s s4)
  {rv' Y3:bo} {last' :a2×a2} {Xm:ao an} (hR:lN base s4 j bv rv' Y3 b p most (rowsOf rows last) last' Xm)
  (h:(v= .int .i64 0/\((out.length+n:a2):a7)<=most/\last' =(out.length,n)/\Xm=X)\/(v= .int .i64 7/\most<((out.length+n:a2):a7))):mJ base s j bv b p most out T L c v s4:=by
 refine⟨aE,?_⟩
 rw[hx]
 subst hn;subst hX
 rcases h with ⟨rfl,h1,rfl,rfl⟩|⟨rfl,h1⟩
 ·exact .inr ⟨h1,rfl,rv',Y3,_,hR,hT.grow hL Bo⟩
 ·exact .inl ⟨h1,rfl⟩
theorem TG {lib:aA}(hl:lib.at 107=none)(kr:lib.at 154=none)(lV:lib.at 153=none)(base:a2)(s:aq)(j:a2)(bv rv ov:bo)(b:ao an)(p:a2)(most:a7)(rows:ao (a2×a2))(last:a2×a2)(out:ao an)(T:ao (ao an))(L:ao an)(c:a2)
  (h:lN base s j bv rv ov b p most rows last out) (hb:base<=s.next) (hT:tN out rows T) (hL:rD out last L) (hc:c<4096) (hc6:c≠256) (hc7:c≠257) (hr:rows.length<=4096) (ho:out.length<=20000000):
  Runs af lib 107 [wg j,.int .i64 c] s (mJ base s j bv b p most out T L c):=by
 refine Runs.enter 96 Tryz.func107 rfl hl rfl rfl ?_
 intro f hn hf
 have h0:f.get 0=wg j:=hf 0
 have h1:f.get 1= .int .i64 c:=hf 1
 clear hf
 have g3:=h.cJ.load (P:=af) zD (off:=3) (c:=8) rfl (by simp)
 have g4:aJ af s 122 (.pointer (some ⟨j,4,some 8⟩))=some (.agg #[.int .i64 last.1,.int .i64 last.2]):=h.cJ.xU TE fF (off:=4) (c:=8) rfl (by simp)
 have ZI:=hT.1
 have hLz:=hL.zero
 have anh:last.2<=20000000:=by
  rcases hL with ⟨a,_⟩|⟨_,a,_⟩
  ·omega
  ·omega
 simp(disch:=omega)only[aj,ak,aa,QS,Qx,↓ab,hn,h0,qv,Mf,g3,g4,h.rows.aG.bm a5,aD,tP,Xo]
 refine aw ?_
 intro sa aiE ON Th
 obtain⟨q,hq⟩:∃q,q=s.next:=⟨_,rfl⟩
 rw[<-hq] at aiE
 simp(disch:=omega)only[aj,QS,Qx,cc,↓ab,hn,cb,bg]
 rw[<-hq]
 refine jO fF aiE rfl rfl rfl rfl (by simp) ?_
 intro s1 wi g8 kC
 have wi:ax s1 q [.int .i64 last.1,.int .i64 last.2]:=wi
 have hjq:=h.cJ.lt
 have Nm:q≠j:=by omega
 have hqo:aI ov≠some q:=fun e=>by have:=h.out.iD _ e;omega
 have AK:ar s.next s s1:=ON.trans (ar.aK g8 kC (by omega))
 have bn:ar base s s1:=AK.weaken hb
 have gL:base<=s1.next:=bk hb bn.next
 have pH:lN base s1 j bv rv ov b p most rows last out:=⟨h.cJ.keeps AK,h.b.stay bn,h.rows.keeps AK,h.rf,h.rj,h.out.keeps AK,h.of,h.oj,h.ox,h.lo⟩
 have oI:=h.lo
 have hof:=h.of
 have w1:=wi.load (P:=af) bu (off:=1) (c:=3) rfl (by simp)
 have w0:=wi.load (P:=af) bu (off:=0) (c:=3) rfl (by simp)
 have i0:bT af 122 (.pointer (some ⟨q,0,some 3⟩)) (.int .i64 0)=some (.pointer (some ⟨q,0,some 3⟩)):=Rb b7 bA q 0 3 (k:=0) (by omega) .i64
 have i1:bT af 122 (.pointer (some ⟨q,0,some 3⟩)) (.int .i64 1)=some (.pointer (some ⟨q,1,some 3⟩)):=Rb b7 bA q 0 3 (k:=1) (by omega) .i64
 by_cases c1:258+rows.length<c
 ·have uE:(258:a7)+(rows.length:a7)<(c:a7):=by omega
  simp(disch:=omega)only[aj,ak,al,oneOf,QS,Qx,↓ab,undef,hn,h1,a8 uE,a0]
  have TH:rowOf T L c=none:=by
   unfold rowOf
   rw[bb (by omega)]
   split
   ·rfl
   ·rw[bb (by omega),List.getElem?_eq_none (by omega)]
  refine⟨bn,?_⟩;rw[TH]
 have uE:¬(258:a7)+(rows.length:a7)<(c:a7):=by omega
 by_cases c2:c=258+rows.length
 ·have D3:(c:a7)=(258:a7)+(rows.length:a7):=by omega
  by_cases c3:last.2=0
  ·have L1:(last.2:a7)=0:=by omega
   simp only[aj,ak,al,oneOf,QS,Qx,↓ab,undef,hn,h1,a1 uE,a8 D3,a8 L1,i1,w1,a0]
   have TH:rowOf T L c=none:=by
    unfold rowOf
    rw[bb (by omega),ca (hLz.mp c3)]
   refine⟨bn,?_⟩;rw[TH]
  ·have L1:¬(last.2:a7)=0:=by omega
   have Y4:¬(c:a7)<256:=by omega
   rcases id hL with ⟨l1,_⟩|⟨l1,l2,l3⟩
   ·exact absurd l1 c3
   have hX:rowOf T L c=some (L++L.take 1):=by
    unfold rowOf
    rw[bb (by omega),bb (fun e=>c3 (hLz.mpr e)),ca (by omega)]
   have hLl:L.length=last.2:=by rw[l3,a6];omega
   have Xq:(L++L.take 1).length=last.2+1:=by rw[a4,b4];omega
   have hX0:L++L.take 1≠[]:=by intro e;rw[e] at Xq;simp at Xq
   simp(disch:=omega)only[aj,ak,aa,QS,Qx,↓ab,undef,hn,h0,h1,a1 uE,a8 D3,a1 L1,a1 Y4,i0,i1,w0,w1,aD]
   refine(HH kr base s1 j bv rv ov b p most rows last out last.1 (last.2+1) pH gL (by omega) (by omega) (by omega)).mono ?_
   rintro v s2 ⟨ov2,acB,TF,iu,nQ,hP⟩
   refine px (fun f=>f.n=96/\f.get 0=wg j/\f.get 5= .int .i64 ((258:a7)+(rows.length:a7))/\f.get 6= .pointer (some ⟨q,0,some 3⟩)) ⟨by simp only[ag,hn],by first|simp only[ad,↓ab,Qx,h0]|simp only[ad,ag,↓ab,Qx],by first|simp only[ad,ag,↓ab,Qx,h5]|simp only[ad,↓ab,Qx],by first|simp only[ad,ag,↓ab,Qx,h6]|simp only[ad,↓ab,Qx]⟩ ?_
   rintro f ⟨hn,h0,h5,h6⟩
   have Xr:bZ v v=true:=by rcases hP with ⟨e,_⟩|⟨e,_⟩<;>(rw[e];exact cF _ _)
   have Bq:=tO wi nQ Nm hqo
   have w1:=Bq.load (P:=af) bu (off:=1) (c:=3) rfl (by simp)
   have w0:=Bq.load (P:=af) bu (off:=0) (c:=3) rfl (by simp)
   have dI:=bk gL (nQ).next
   have Ej:=bn.trans ((nQ).stay oI hof gL)
   by_cases k1:0<last.2
   ·have HF:(0:a7)<(last.2:a7):=by omega
    by_cases k2:258+rows.length<4096
    ·have J2:(258:a7)+(rows.length:a7)<4096:=by omega
     have dC:=ar.spare s2 1
     have hqS:=Bq.keeps dC
     have w1S:=hqS.load (P:=af) bu (off:=1) (c:=3) rfl (by simp)
     have w0S:=hqS.load (P:=af) bu (off:=0) (c:=3) rfl (by simp)
     have g3S:=((iu).cJ.keeps dC).load (P:=af) zD (off:=3) (c:=8) rfl (by simp)
     simp only[aj,ak,QS,Qx,↓ab,hn,h5,h6,i1,w1,a8 HF,a8 J2]
     refine cX.zd 1 (by kernel_rfl) (by kernel_rfl) ?_
     simp(disch:=omega)only[aj,ak,ae,QS,Qx,↓ab,hn,h0,h6,i0,i1,w0S,w1S,qv,g3S,(iu).rows.self,Mg,Ei,Pf,aD]
     refine iE (base:=(s2).next) (by rfl) (by rw[bU];omega) (cR _) ?_
     intro bs t2 oA qN aR m8 _
     have dE:=(ar.spare s2 1).trans aR
     simp(disch:=omega)only[aj,aa,QS,Qx,↓ab,hn]
     refine kH a5 a5 (.inl ⟨_,rfl⟩) fF Pe tP rfl ((iu).rows.keeps dE) oA.aG.src rfl (by decide) rfl (by omega) (by omega) (iu).rf (by have:=dE.next;omega) ?_
     intro r3 t3 A8 hF3 bC jM JC
     have F5:=((iu).cJ.keeps dE).turns jM (iu).rj
     simp(disch:=omega)only[aj,QS,Qx,↓ab,hn,qv]
     refine nh zC F5 rfl (by simp) A8.aG.aL ?_
     intro s4 gv vY vh
     have e1:lM rows++[.int .i64 (last.1:a2),.int .i64 ((last.2:a7)+1)]=lM (rows++[(last.1,last.2+1)]):=by rw[tL];rfl
     have e2:rows.length+1=(rows++[(last.1,last.2+1)]).length:=by simp
     rw[e1,e2] at A8
     obtain⟨yE,dX⟩:=(iu).more dI dE A8 hF3 jM JC gv vY vh
     simp only[aj,al,oneOf,QS,Qx,↓ab,hn,a0]
     exact mJ.put hX hX0 Xq (by rw[Eh l2 l1,<-l3]) hT hL (Ej.trans dX) (rv' :=r3) (by unfold rowsOf;rw[ca ⟨k1,k2⟩];exact yE) hP
    ·have J2:¬(258:a7)+(rows.length:a7)<4096:=by omega
     simp only[aj,ak,al,oneOf,QS,Qx,↓ab,hn,h5,h6,i1,w1,a8 HF,a1 J2,a0]
     exact mJ.put hX hX0 Xq (by rw[Eh l2 l1,<-l3]) hT hL Ej (rv' :=rv) (by unfold rowsOf;rw[bb (fun q=>k2 q.2)];exact iu) hP
   ·have HF:¬(0:a7)<(last.2:a7):=by omega
    simp only[aj,ak,al,oneOf,QS,Qx,↓ab,undef,hn,h6,i1,w1,a1 HF,a0]
    exact mJ.put hX hX0 Xq (by rw[Eh l2 l1,<-l3]) hT hL Ej (rv' :=rv) (by unfold rowsOf;rw[bb (fun q=>k1 q.1)];exact iu) hP
 have D3:¬(c:a7)=(258:a7)+(rows.length:a7):=by omega
 by_cases c4:c<256
 ·have Y4:(c:a7)<256:=by omega
  have hX:rowOf T L c=some [UInt8.ofNat c]:=by
   unfold rowOf
   rw[ca c4]
  simp only[aj,ak,aa,QS,Qx,↓ab,undef,hn,h0,h1,a1 uE,a1 D3,a8 Y4]
  refine(Pd lV base s1 j bv rv ov b p most rows last out c pH gL c4 (by omega)).mono ?_
  rintro v s2 ⟨ov2,acB,TF,iu,nQ,hP⟩
  refine px (fun f=>f.n=96/\f.get 0=wg j/\f.get 5= .int .i64 ((258:a7)+(rows.length:a7))/\f.get 6= .pointer (some ⟨q,0,some 3⟩)) ⟨by simp only[ag,hn],by first|simp only[ad,↓ab,Qx,h0]|simp only[ad,ag,↓ab,Qx],by first|simp only[ad,ag,↓ab,Qx,h5]|simp only[ad,↓ab,Qx],by first|simp only[ad,ag,↓ab,Qx,h6]|simp only[ad,↓ab,Qx]⟩ ?_
  rintro f ⟨hn,h0,h5,h6⟩
  have Xr:bZ v v=true:=by rcases hP with ⟨e,_⟩|⟨e,_⟩<;>(rw[e];exact cF _ _)
  have Bq:=tO wi nQ Nm hqo
  have w1:=Bq.load (P:=af) bu (off:=1) (c:=3) rfl (by simp)
  have w0:=Bq.load (P:=af) bu (off:=0) (c:=3) rfl (by simp)
  have dI:=bk gL (nQ).next
  have Ej:=bn.trans ((nQ).stay oI hof gL)
  by_cases k1:0<last.2
  ·have HF:(0:a7)<(last.2:a7):=by omega
   by_cases k2:258+rows.length<4096
   ·have J2:(258:a7)+(rows.length:a7)<4096:=by omega
    have dC:=ar.spare s2 1
    have hqS:=Bq.keeps dC
    have w1S:=hqS.load (P:=af) bu (off:=1) (c:=3) rfl (by simp)
    have w0S:=hqS.load (P:=af) bu (off:=0) (c:=3) rfl (by simp)
    have g3S:=((iu).cJ.keeps dC).load (P:=af) zD (off:=3) (c:=8) rfl (by simp)
    simp only[aj,ak,QS,Qx,↓ab,hn,h5,h6,i1,w1,a8 HF,a8 J2]
    refine cX.zd 1 (by kernel_rfl) (by kernel_rfl) ?_
    simp(disch:=omega)only[aj,ak,ae,QS,Qx,↓ab,hn,h0,h6,i0,i1,w0S,w1S,qv,g3S,(iu).rows.self,Mg,Ei,Pf,aD]
    refine iE (base:=(s2).next) (by rfl) (by rw[bU];omega) (cR _) ?_
    intro bs t2 oA qN aR m8 _
    have dE:=(ar.spare s2 1).trans aR
    simp(disch:=omega)only[aj,aa,QS,Qx,↓ab,hn]
    refine kH a5 a5 (.inl ⟨_,rfl⟩) fF Pe tP rfl ((iu).rows.keeps dE) oA.aG.src rfl (by decide) rfl (by omega) (by omega) (iu).rf (by have:=dE.next;omega) ?_
    intro r3 t3 A8 hF3 bC jM JC
    have F5:=((iu).cJ.keeps dE).turns jM (iu).rj
    simp(disch:=omega)only[aj,QS,Qx,↓ab,hn,qv]
    refine nh zC F5 rfl (by simp) A8.aG.aL ?_
    intro s4 gv vY vh
    have e1:lM rows++[.int .i64 (last.1:a2),.int .i64 ((last.2:a7)+1)]=lM (rows++[(last.1,last.2+1)]):=by rw[tL];rfl
    have e2:rows.length+1=(rows++[(last.1,last.2+1)]).length:=by simp
    rw[e1,e2] at A8
    obtain⟨yE,dX⟩:=(iu).more dI dE A8 hF3 jM JC gv vY vh
    simp only[aj,al,oneOf,QS,Qx,↓ab,hn,a0]
    exact mJ.put hX (by simp) rfl rfl hT hL (Ej.trans dX) (rv' :=r3) (by unfold rowsOf;rw[ca ⟨k1,k2⟩];exact yE) hP
   ·have J2:¬(258:a7)+(rows.length:a7)<4096:=by omega
    simp only[aj,ak,al,oneOf,QS,Qx,↓ab,hn,h5,h6,i1,w1,a8 HF,a1 J2,a0]
    exact mJ.put hX (by simp) rfl rfl hT hL Ej (rv' :=rv) (by unfold rowsOf;rw[bb (fun q=>k2 q.2)];exact iu) hP
  ·have HF:¬(0:a7)<(last.2:a7):=by omega
   simp only[aj,ak,al,oneOf,QS,Qx,↓ab,undef,hn,h6,i1,w1,a1 HF,a0]
   exact mJ.put hX (by simp) rfl rfl hT hL Ej (rv' :=rv) (by unfold rowsOf;rw[bb (fun q=>k1 q.1)];exact iu) hP
 have Y4:¬(c:a7)<256:=by omega
 by_cases c3:last.2=0
 ·have L1:(last.2:a7)=0:=by omega
  simp only[aj,ak,al,oneOf,QS,Qx,↓ab,undef,hn,h1,a1 uE,a1 D3,a8 L1,a1 Y4,i1,w1,a0]
  have TH:rowOf T L c=none:=by
   unfold rowOf
   rw[bb (by omega),ca (hLz.mp c3)]
  refine⟨bn,?_⟩;rw[TH]
 ·have L1:¬(last.2:a7)=0:=by omega
  have hci:c-258<rows.length:=by omega
  obtain⟨y,hy⟩:∃y,rows[c-258]?=some y:=⟨_,bl hci⟩
  obtain⟨y1,y2,y3⟩:=hT.2 _ _ hy
  have hX:rowOf T L c=some ((out.drop y.1).take y.2):=by
   unfold rowOf
   rw[bb (by omega),bb (fun e=>c3 (hLz.mpr e)),bb (by omega),y3]
  have Xq:((out.drop y.1).take y.2).length=y.2:=by rw[b4,a6];omega
  have hX0:(out.drop y.1).take y.2≠[]:=by intro e;rw[e] at Xq;simp at Xq;omega
  have g3:=pH.cJ.load (P:=af) zD (off:=3) (c:=8) rfl (by simp)
  have mY:=pH.rows.aG.indexAddr (k:= .i64) (x:=((c:a7)-258)) a5 fF (by omega) (by omega)
  rw[show((c:a7)-258).toNat=c-258 by omega] at mY
  have hj0:bT af 122 (bc (1+1) rv (c-258)) (.int .i64 0)=some (b6 (bc (1+1) rv (c-258)) 0):=pH.rows.aG.Xj b7 bA (k:=0) hci (by omega) .i64
  have Xs:bT af 122 (bc (1+1) rv (c-258)) (.int .i64 1)=some (b6 (bc (1+1) rv (c-258)) 1):=pH.rows.aG.Xj b7 bA (k:=1) hci (by omega) .i64
  have kW:aJ af s1 3 (b6 (bc (1+1) rv (c-258)) 0)=some (.int .i64 (y.1:a2)):=by
   have:=pH.rows.aG.lB (P:=af) bu (j:=0) hci (by omega)
   rw[Md hy] at this;exact this
  have jn:aJ af s1 3 (b6 (bc (1+1) rv (c-258)) 1)=some (.int .i64 (y.2:a2)):=by
   have:=pH.rows.aG.lB (P:=af) bu (j:=1) hci (by omega)
   rw[Me hy] at this;exact this
  simp only[aj,ak,QS,Qx,↓ab,undef,hn,h1,a1 uE,a1 D3,a1 L1,a1 Y4,i1,w1]
  refine cX.vK (by kernel_rfl) ?_
  simp(disch:=omega)only[aj,ak,aa,QS,Qx,cc,↓ab,hn,h0,h1,qv,g3,pH.rows.self,aD,mY,hj0,Xs,vH,kW,jn]
  refine(HH kr base s1 j bv rv ov b p most rows last out y.1 y.2 pH gL (by omega) y1 (by omega)).mono ?_
  rintro v s2 ⟨ov2,acB,TF,iu,nQ,hP⟩
  refine FC (fun f=>f.n=96/\f.get 0=wg j/\f.get 5= .int .i64 ((258:a7)+(rows.length:a7))/\f.get 6= .pointer (some ⟨q,0,some 3⟩)) ⟨by simp only[ag,hn],by first|simp only[ad,↓ab,Qx,h0]|simp only[ad,ag,↓ab,Qx],by first|simp only[ad,ag,↓ab,Qx,h5]|simp only[ad,↓ab,Qx],by first|simp only[ad,ag,↓ab,Qx,h6]|simp only[ad,↓ab,Qx]⟩ ?_
  rintro f ⟨hn,h0,h5,h6⟩
  have Xr:bZ v v=true:=by rcases hP with ⟨e,_⟩|⟨e,_⟩<;>(rw[e];exact cF _ _)
  have Bq:=tO wi nQ Nm hqo
  have w1:=Bq.load (P:=af) bu (off:=1) (c:=3) rfl (by simp)
  have w0:=Bq.load (P:=af) bu (off:=0) (c:=3) rfl (by simp)
  have dI:=bk gL (nQ).next
  have Ej:=bn.trans ((nQ).stay oI hof gL)
  by_cases k1:0<last.2
  ·have HF:(0:a7)<(last.2:a7):=by omega
   by_cases k2:258+rows.length<4096
   ·have J2:(258:a7)+(rows.length:a7)<4096:=by omega
    have dC:=ar.spare s2 1
    have hqS:=Bq.keeps dC
    have w1S:=hqS.load (P:=af) bu (off:=1) (c:=3) rfl (by simp)
    have w0S:=hqS.load (P:=af) bu (off:=0) (c:=3) rfl (by simp)
    have g3S:=((iu).cJ.keeps dC).load (P:=af) zD (off:=3) (c:=8) rfl (by simp)
    simp only[aj,ak,QS,Qx,↓ab,hn,h5,h6,Xr,i1,w1,a8 HF,a8 J2]
    refine cX.zd 1 (by kernel_rfl) (by kernel_rfl) ?_
    simp(disch:=omega)only[aj,ak,ae,QS,Qx,↓ab,hn,h0,h6,i0,i1,w0S,w1S,qv,g3S,(iu).rows.self,Mg,Ei,Pf,aD]
    refine iE (base:=(s2).next) (by rfl) (by rw[bU];omega) (cR _) ?_
    intro bs t2 oA qN aR m8 _
    have dE:=(ar.spare s2 1).trans aR
    simp(disch:=omega)only[aj,aa,QS,Qx,↓ab,hn]
    refine kH a5 a5 (.inl ⟨_,rfl⟩) fF Pe tP rfl ((iu).rows.keeps dE) oA.aG.src rfl (by decide) rfl (by omega) (by omega) (iu).rf (by have:=dE.next;omega) ?_
    intro r3 t3 A8 hF3 bC jM JC
    have F5:=((iu).cJ.keeps dE).turns jM (iu).rj
    simp(disch:=omega)only[aj,QS,Qx,↓ab,hn,qv]
    refine nh zC F5 rfl (by simp) A8.aG.aL ?_
    intro s4 gv vY vh
    have e1:lM rows++[.int .i64 (last.1:a2),.int .i64 ((last.2:a7)+1)]=lM (rows++[(last.1,last.2+1)]):=by rw[tL];rfl
    have e2:rows.length+1=(rows++[(last.1,last.2+1)]).length:=by simp
    rw[e1,e2] at A8
    obtain⟨yE,dX⟩:=(iu).more dI dE A8 hF3 jM JC gv vY vh
    simp only[aj,al,oneOf,QS,Qx,↓ab,hn,a0]
    exact mJ.put hX hX0 Xq (by rw[Eg _ y2]) hT hL (Ej.trans dX) (rv' :=r3) (by unfold rowsOf;rw[ca ⟨k1,k2⟩];exact yE) hP
   ·have J2:¬(258:a7)+(rows.length:a7)<4096:=by omega
    simp only[aj,ak,al,oneOf,QS,Qx,↓ab,hn,h5,h6,Xr,i1,w1,a8 HF,a1 J2,a0]
    exact mJ.put hX hX0 Xq (by rw[Eg _ y2]) hT hL Ej (rv' :=rv) (by unfold rowsOf;rw[bb (fun q=>k2 q.2)];exact iu) hP
  ·have HF:¬(0:a7)<(last.2:a7):=by omega
   simp only[aj,ak,al,oneOf,QS,Qx,↓ab,undef,hn,h6,Xr,i1,w1,a1 HF,a0]
   exact mJ.put hX hX0 Xq (by rw[Eg _ y2]) hT hL Ej (rv' :=rv) (by unfold rowsOf;rw[bb (fun q=>k1 q.1)];exact iu) hP
end Go.Proofs.YtdfjfncifneocaaGreat
namespace Go.Proofs.YtdfjfncifneocaaGreat
open Go.Cl
def tQ (base:a2)(s:aq)(l:ao an)(bad:a7)(v:bo)(s' :aq):Prop:=
 ∃B,v= .tuple #[B,.int .i64 bad]/\Own s' 1 B l.length (ofBytes l)/\aF base B/\ar base s s'
end Go.Proofs.YtdfjfncifneocaaGreat
namespace Go.Cl.Lz
structure Rd (m:a2) (T:ao (ao an)) (L out:ao an):Prop where
 rows:∀r∈T,r.length<=m
 last:L.length<=m
 out:out.length<=m*m
theorem Rd.row {m:a2}{T:ao (ao an)}{L out:ao an}(h:Rd m T L out){c:a2}{x:ao an}(hx:rowOf T L c=some x):Rd (m+1) (grow T L x) x (out++x)/\x≠[]\/x=[]:=by
 by_cases Bo:x=[]
 ·exact .inr Bo
 refine .inl ⟨?_,Bo⟩
 have uM:x.length<=m+1:=by
  unfold rowOf at hx
  split at hx
  ·injection hx with hx;subst hx;simp
  ·split at hx
   ·cases hx
   ·split at hx
    ·injection hx with hx;subst hx
     have:=h.last
     rw[a4,b4];omega
    ·have:=h.rows x (List.mem_of_getElem? hx);omega
 have hm:(m+1)*(m+1)=m*m+m+m+1:=by rw[Nat.add_mul,Nat.mul_add];omega
 refine⟨fun r hr=> ?_,uM,by have:=h.out;rw[a4,hm];omega⟩
 unfold grow at hr
 split at hr
 ·rcases List.mem_append.mp hr with hr|hr
  ·have:=h.rows r hr;omega
  ·rw[List.mem_singleton] at hr;subst hr
   have:=h.last
   rw[a4,b4];omega
 ·have:=h.rows r hr;omega
theorem aaQ {T:ao (ao an)}(h:T.length<=3838)(L x:ao an):(grow T L x).length<=3838:=by
 unfold grow
 split
 ·rename_i q;rw[a4,List.length_singleton];omega
 ·exact h
theorem Xt {out:ao an}{rows:ao (a2×a2)}{T:ao (ao an)}{L x:ao an}{c:a2}(h:tN out rows T)(hr:rowOf T L c=some x):x≠[]:=by
 unfold rowOf at hr
 split at hr
 ·injection hr with hr;subst hr;simp
 ·split at hr
  ·cases hr
  ·rename_i hL
   split at hr
   ·injection hr with hr;subst hr
    intro e
    exact hL (List.append_eq_nil_iff.mp e).1
   ·have hi:c-258<T.length:=(List.getElem?_eq_some_iff.mp hr).1
    have Ki:c-258<rows.length:=by rw[h.1];exact hi
    obtain⟨a,b,d⟩:=h.2 _ _ (bl Ki)
    rw[hr] at d
    injection d with d
    intro e
    have:=dY dv d
    rw[e,b4,a6,bg] at this
    omega
end Go.Cl.Lz
namespace Go.Proofs.YtdfjfncifneocaaGreat
open Go.Cl Go.Cl.Lz Go.Cl.Rw
theorem Pg {x:bo}(hx:aL x=true)(m:a7):cC af 124 [(0,x),(2,.int .i64 m)]=some (.agg #[x,.int .i64 0,.int .i64 m,.slice none 0 0,.int .i64 0,.int .i64 0,.slice none 0 0]):=by
 unfold cC;rw[Tryz.underlying124]
 have hz:bV af 124=some (.agg #[.slice none 0 0,.int .i64 0,.int .i64 0,.slice none 0 0,.int .i64 0,.int .i64 0,.slice none 0 0]):=by kernel_rfl
 rw[hz]
 have hc:=Mc hx
 have kY:x.cells= #[x]:=by rw[<-Array.toList_inj,hc]
 have ci:∀k n,(Value.int k n).cells= #[.int k n]:=fun _ _=>rfl
 simp[fT,bA,zC,fF,bN,gQ,fG,placeOf,bS,setAt,kY,ci]
theorem Re (a b:bo):ba (.tuple #[a,b]) 0=some a:=rfl
theorem Rf (a b:bo):ba (.tuple #[a,b]) 1=some b:=rfl
theorem aiJ:cC af 122 []=some (.agg #[.int .i64 0,.int .i64 0]):=by kernel_rfl
theorem Ph {lib:aA}(hl:lib.at 66=none)(jL:lib.at 106=none)(Kf:lib.at 152=none)(KM:lib.at 107=none)(kr:lib.at 154=none)(lV:lib.at 153=none)
  (s:aq) (x:bo) (b:ao an) (most:a7) (hx:aN s 1 x b.length (ofBytes b)) (hb:b.length<=4000000) (hbd:most<=20000000\/b.length<=5000):
  Runs af lib 66 [x,.int .i64 most] s (tQ s.next s (vi b most.toNat).2 (vi b most.toNat).1):=by
 obtain⟨base,zU⟩:∃base,base=s.next:=⟨_,rfl⟩
 obtain⟨R,hR⟩:∃R,R=vi b most.toNat:=⟨_,rfl⟩
 rw[<-hR]
 have Bo:Br base s 1 x b.length (ofBytes b):=by rw[zU];exact hx.low
 refine Runs.enter 46 Tryz.func66 rfl hl rfl rfl ?_
 intro f hn hf
 have h0:f.get 0=x:=hf 0
 have h1:f.get 1= .int .i64 most:=hf 1
 clear hf
 simp only[aj,ae,QS,Qx,↓ab,hn,h0,h1,Pg hx.aL]
 refine aw ?_
 intro s1 wi bn iV
 obtain⟨j,hj⟩:∃j,j=s.next:=⟨_,rfl⟩
 rw[<-hj] at wi
 have gL:base<=s1.next:=by omega
 have pH:lN base s1 j x (.slice none 0 0) (.slice none 0 0) b 0 most [] (0,0) []:=⟨wi,Bo.stay (by rw[zU];exact bn),.nil,aF.nil _,(fun e=>by cases e),.nil,aF.nil _,(fun e=>by cases e),(fun k e=>by cases e),by omega⟩
 simp only[aj,QS,cc,↓ab,hn,cb,bg]
 rw[<-hj]
 refine Comes.eZ (fun z f s' =>∃(p m:a2) (T:ao (ao an)) (L out:ao an) (rows:ao (a2×a2)) (last:a2×a2) (rv ov:bo),lN base s' j x rv ov b p most rows last out/\tN out rows T/\rD out last L/\T.length<=3838/\Rd m T L out/\9*m<=p/\(out=[]\/(out.length:a7)<=most)/\p<=8*b.length/\8*b.length<p+z/\dec b most.toNat z p T L out=R/\ar base s s' /\f.n=46/\f.get 6=wg j)
  ⟨0,0,[],[],[],[],(0,0),_,_,pH,⟨rfl,fun i q h=>by simp at h⟩,.inl ⟨rfl,rfl⟩,by simp,⟨fun r h=>by simp at h,by simp,by simp⟩,by omega,.inl rfl,by omega,(show 8*b.length<0+(8*b.length+1) by omega),hR.symm,by rw[zU];exact bn,by simp only[ad,ag,↓ab,hn,dd]⟩ ?_
 have Rg:j=base:=by omega
 clear hn h0 h1 f pH wi iV
 rintro z f s2 ⟨p,m,T,L,out,rows,last,rv,ov,hD,hT,hL,ZI,hS,hm,hmo,hp,hz,kP,aE,hn,h6⟩
 obtain⟨z,rfl⟩:∃y,z=y+1:=⟨z-1,by omega⟩
 have dI:base<=s2.next:=bk (by omega) aE.next
 have mO:rows.length=T.length:=hT.1
 have Bp:out.length<=20000000:=by
  rcases hbd with h|h
  ·rcases hmo with e|e
   ·rw[e];simp
   ·omega
  ·have h1:=hS.out
   have h2:m<=4444:=by omega
   have h3:m*m<=4444*4444:=Nat.mul_le_mul h2 h2
   omega
 obtain⟨w,hw⟩:∃w,w=width (258+T.length):=⟨_,rfl⟩
 have hw9:=kO (258+T.length)
 rw[<-hw] at hw9
 simp only[aj,ak,aa,QS,↓ab,hn,h6]
 refine(Pb jL Kf base s2 j x rv ov b p most rows last out hD (by omega) hp (by omega)).mono ?_
 rw[mO,<-hw]
 rintro v s3 (⟨c1,rfl,rfl⟩|⟨c1,rfl,LZ,bC⟩)
 ·have gx:=nA (most:=most.toNat) (k:=z) (last:=L) (out:=out) (by rw[<-hw];exact c1)
  rw[gx] at kP
  have cH:¬(2:a7)=0:=by decide
  simp only[aj,ak,al,oneOf,QS,Qx,↓ab,hn,Re,Rf,a1 cH,cg]
  rw[<-kP]
  exact⟨_,rfl,.nil,aF.nil _,by rw[Rg];exact aE⟩
 ·obtain⟨c,hc⟩:∃c,c=jE b p w:=⟨_,rfl⟩
  have TC:c<4096:=by
   rw[hc]
   have h1:=D8 b p w
   have h2:2^w<=2^12:=Nat.pow_le_pow_right (by omega) hw9.2
   omega
  rw[<-hc]
  have Mh:=aE.trans bC
  have sx:=bk dI bC.next
  refine px (fun f=>f.n=46/\f.get 6=wg j) ⟨by simp only[ag,hn],by first|simp only[ad,↓ab,Qx,h6]|simp only[ad,ag,↓ab,Qx]⟩ ?_
  rintro f ⟨hn,h6⟩
  by_cases k7:c=257
  ·have k7' :(c:a7)=257:=by omega
   have gx:=xR (most:=most.toNat) (k:=z) (last:=L) (out:=out) (by rw[<-hw];exact c1) (by rw[<-hw,<-hc];exact k7)
   rw[gx] at kP
   have g6:=LZ.cJ.load (P:=af) fU (off:=6) (c:=8) rfl (by simp)
   simp only[aj,ak,al,oneOf,QS,Qx,↓ab,hn,h6,Re,Rf,a8 k7',tM,g6,cg]
   rw[<-kP]
   exact⟨ov,rfl,LZ.out,by rw[Rg];exact LZ.of,by rw[Rg];exact Mh⟩
  ·have k7' :¬(c:a7)=257:=by omega
   by_cases k6:c=256
   ·have k6' :(c:a7)=256:=by omega
    have gx:=zz (most:=most.toNat) (k:=z) (last:=L) (out:=out) (by rw[<-hw];exact c1) (by rw[<-hw,<-hc];exact k6)
    rw[gx,<-hw] at kP
    simp only[aj,ak,ae,QS,Qx,↓ab,hn,h6,Re,Rf,a1 k7',a8 k6',aiJ,qv]
    refine aY zC LZ.cJ rfl (by simp) rfl ?_
    intro s4 gv vY vh
    have hD4:lN base s4 j x (.slice none 0 0) ov b (p+w) most [] last out:=⟨gv,LZ.b.stay (ar.aK vY vh LZ.lo),.nil,aF.nil _,(fun e=>by cases e),LZ.out.aK vY vh LZ.oj,LZ.of,LZ.oj,(fun k hk e=>by cases e),LZ.lo⟩
    simp only[aj,QS,Qx,↓ab,hn,Mf]
    refine jO fF hD4.cJ rfl rfl rfl rfl (by simp) ?_
    intro s5 wE hn5 Nv
    have hD5:lN base s5 j x (.slice none 0 0) ov b (p+w) most [] (0,0) out:=hD4.put wE hn5 Nv
    simp only[aj,Qx,↓ab]
    refine ay z (by omega) ⟨p+w,m,[],[],out,[],(0,0),_,_,hD5,⟨rfl,fun i q h=>by simp at h⟩,.inl ⟨rfl,rfl⟩,by simp,⟨fun r h=>by simp at h,by simp,hS.out⟩,by omega,hmo,by omega,by omega,kP,(Mh.trans (ar.aK vY vh LZ.lo)).trans (ar.aK hn5 Nv LZ.lo),by simp only[ad,ag,↓ab,Qx,hn,h6,dd]⟩
   ·have k6' :¬(c:a7)=256:=by omega
    have gx:=uh (most:=most.toNat) (k:=z) (last:=L) (out:=out) (by rw[<-hw];exact c1) (by rw[<-hw,<-hc]) k7 k6
    rw[gx] at kP
    simp only[aj,ak,aa,QS,Qx,↓ab,hn,h6,Re,Rf,a1 k7',a1 k6']
    refine(TG KM kr lV base s3 j x rv ov b (p+w) most rows last out T L c LZ sx hT hL TC k6 k7 (by omega) Bp).mono ?_
    intro v s4 hO
    obtain⟨dX,hO⟩:=hO
    cases kp:rowOf T L c with
    |none=>
     rw[kp] at hO kP
     simp only at hO kP
     subst hO
     have cH:¬(4:a7)=0:=by decide
     simp only[aj,ak,al,oneOf,QS,Qx,↓ab,hn,a1 cH,cg]
     rw[<-kP]
     exact⟨_,rfl,.nil,aF.nil _,by rw[Rg];exact Mh.trans dX⟩
    |some r=>
     rw[kp] at hO kP
     simp only at hO kP
     have hr0:=Xt hT kp
     have asW:=cf.mpr hr0
     rcases hO with ⟨o1,rfl⟩|⟨o1,rfl,rv4,ov4,aiK,hD4,hT4⟩
     ·rw[ca (by omega)] at kP
      have cH:¬(7:a7)=0:=by decide
      simp only[aj,ak,al,oneOf,QS,Qx,↓ab,hn,a1 cH,cg]
      rw[<-kP]
      exact⟨_,rfl,.nil,aF.nil _,by rw[Rg];exact Mh.trans dX⟩
     ·rw[bb (by omega),<-hw] at kP
      simp only[aj,ak,QS,↓ab,hn]
      have hS4:=hS.row kp
      rcases hS4 with ⟨hS4,_⟩|e
      ·refine ay z (by omega) ⟨p+w,m+1,grow T L r,r,out++r,aiK,(out.length,r.length),rv4,ov4,hD4,hT4,rD.next out r hr0,aaQ ZI L r,hS4,by omega,.inr (by rw[a4];exact o1),by omega,by omega,kP,Mh.trans dX,by simp only[ad,ag,↓ab,Qx,hn,h6,dd]⟩
      ·exact absurd e hr0
end Go.Proofs.YtdfjfncifneocaaGreat
namespace Go.Proofs.YtdfjfncifneocaaGreat
open Go.Cl
def jG (base:a2)(s:aq)(i:a2)(l:ao an)(p:a2):Prop:=
 ∃b,ax s i [b,.int .i64 p]/\Br base s 1 b l.length (ofBytes l)/\base<=i/\p<=l.length
def Mi (base:a2)(s:aq)(i:a2)(b:bo)(l:ao an)(p:a2):Prop:=
 ax s i [b,.int .i64 p]/\Br base s 1 b l.length (ofBytes l)/\base<=i/\p<=l.length
theorem jG.keeps {base:a2}{s s' :aq}{i:a2}{l:ao an}{p:a2}(h:jG base s i l p)(hb:base<=s.next)(k:ar s.next s s'):jG base s' i l p:=by
 obtain⟨b,h1,h2,h3,h4⟩:=h
 exact⟨b,h1.keeps k,h2.stay (k.weaken hb),h3,h4⟩
theorem jG.turns {base:a2}{s s' :aq}{i:a2}{l:ao an}{p:a2}(h:jG base s i l p){v:bo}(hb:base<=s.next)(hf:aF base v)(k:bt v s s')(cH:aI v≠some i):jG base s' i l p:=by
 obtain⟨b,h1,h2,h3,h4⟩:=h
 exact⟨b,h1.turns k cH,h2.stay (k.keeps hf hb),h3,h4⟩
abbrev gm (i:a2):bo:= .pointer (some ⟨i,0,some 3⟩)
theorem da {base i:a2}(h:base<=i):aF base (gm i):=fun j hj=>by
 have:some i=some j:=hj
 injection this with this;omega
theorem eD {i j:a2}(h:i≠j):aI (gm i)≠some j:=fun e=>by
 have:some i=some j:=e
 injection this with this;exact h this
theorem Mj (i o c:a2):au af 173 (.pointer (some ⟨i,o,some c⟩)) 0=some (.pointer (some ⟨i,o+0,some c⟩)):=by
 unfold au;rw[cm];simp[fT]
theorem HI (i o c:a2):au af 173 (.pointer (some ⟨i,o,some c⟩)) 1=some (.pointer (some ⟨i,o+1,some c⟩)):=by
 unfold au;rw[cm];simp[bA]
theorem aaR {v:bo}(hv:v.cells.toList=[v]):cC af 173 [(0,v)]=some (.agg #[v,.int .i64 0]):=by
 unfold cC;rw[cm]
 have hz:bV af 173=some (.agg #[.slice none 0 0,.int .i64 0]):=by kernel_rfl
 rw[hz]
 simp only[fG,placeOf,hv]
 simp[fT,bA,bN,gQ,bS,setAt]
theorem JD {lib:aA}(hl:lib.at 100=none)(base:a2)(s:aq)(x:bo)(l:ao an)(hx:Br base s 1 x l.length (ofBytes l))(hb:base<=s.next):
  Runs af lib 100 [x] s fun v s' =>v=gm s.next/\jG base s' s.next l 0/\ar s.next s s' /\s'.next=s.next+1:=by
 refine Runs.enter 11 Tryz.func100 rfl hl rfl rfl ?_
 intro f hn hf
 have h0:f.get 0=x:=hf 0
 clear hf
 obtain⟨v',hv,sZ⟩:=hx.aG.full a3 bK .i64 .i64
 simp only[aj,aa,ae,ai,QS,Qx,↓ab,hn,h0,hx.aG.bm a3,hv,aaR (sZ _ hx.aG).tk]
 refine aw ?_
 intro s1 ht aE xG
 simp only[aj,al,oneOf,QS,cc,↓ab,hn,Tryz.results100,cb,bg]
 exact⟨⟨v',ht,fun s' k=>sZ s' (hx s' ((aE.weaken hb).trans k)),hb,by omega⟩,aE,xG⟩
theorem BG {lib:aA}(hl:lib.at 105=none)(base:a2)(s:aq)(i:a2)(l:ao an)(p:a2)(hc:jG base s i l p):
  Runs af lib 105 [gm i] s fun v s' =>v= .int .i64 p/\s' =s:=by
 obtain⟨b,ht,oH,hi,hp⟩:=hc
 refine Runs.enter 9 Tryz.func105 rfl hl rfl rfl ?_
 intro f hn hf
 have h0:f.get 0=gm i:=hf 0
 clear hf
 have l1:=ht.load (P:=af) bu (off:=1) (c:=3) rfl (by simp)
 simp only[aj,ak,al,oneOf,QS,Qx,↓ab,hn,h0,cY c8,HI,l1,Tryz.results105]
theorem aaS {lib:aA}(hl:lib.at 209=none)(base:a2)(s:aq)(i:a2)(l:ao an)(p:a2)(hc:jG base s i l p):
  Runs af lib 209 [gm i] s fun v s' =>v= .int .i64 l.length/\s' =s:=by
 obtain⟨b,ht,oH,hi,hp⟩:=hc
 refine Runs.enter 10 Tryz.func209 rfl hl rfl rfl ?_
 intro f hn hf
 have h0:f.get 0=gm i:=hf 0
 clear hf
 have l0:=ht.load (P:=af) fU (off:=0) (c:=3) rfl (by simp)
 simp only[aj,ak,al,oneOf,aa,QS,Qx,↓ab,hn,h0,cY c8,Mj,l0,oH.aG.bm a3,Tryz.results209]
theorem Ek {lib:aA}(hl:lib.at 186=none)(jn:lib.at 209=none)(g7:lib.at 105=none)(base:a2)(s:aq)(i:a2)(l:ao an)(p:a2)(hc:jG base s i l p)(hlen:l.length<=4294967296):
  Runs af lib 186 [gm i] s fun v s' =>v= .int .i64 (l.length-p:a2)/\s' =s:=by
 refine Runs.enter 8 Tryz.func186 rfl hl rfl rfl ?_
 intro f hn hf
 have h0:f.get 0=gm i:=hf 0
 clear hf
 have hp:p<=l.length:=hc.choose_spec.2.2.2
 simp only[aj,ak,aa,QS,Qx,↓ab,hn,h0]
 refine(aaS jn base s i l p hc).mono ?_
 rintro _ s ⟨rfl,rfl⟩
 simp only[aj,ak,aa,QS,Qx,↓ab,hn,h0]
 refine(BG g7 base s i l p hc).mono ?_
 rintro _ s ⟨rfl,rfl⟩
 have e:(l.length:a7)-p=((l.length-p:a2):a7):=by omega
 simp(disch:=omega)only[aj,al,oneOf,QS,Qx,↓ab,hn,aD,e,Tryz.results186]
def fc (l:ao an)(k:a7):a7:=if 0<=k/\k<l.length then((l.getD k.toNat 0).toNat:a7) else-1
theorem TI {lib:aA}(hl:lib.at 192=none)(kW:lib.at 186=none)(jn:lib.at 209=none)(g7:lib.at 105=none)(base:a2)(s:aq)(i:a2)(l:ao an)(p:a2)(k:a7)(hc:jG base s i l p)(hlen:l.length<=4294967296):
  Runs af lib 192 [gm i,.int .i64 k] s fun v s' =>v= .int .i64 (fc l (p+k))/\s' =s:=by
 refine Runs.enter 29 Tryz.func192 rfl hl rfl rfl ?_
 intro f hn hf
 have h0:f.get 0=gm i:=hf 0
 have h1:f.get 1= .int .i64 k:=hf 1
 clear hf
 have hp:p<=l.length:=hc.choose_spec.2.2.2
 simp only[aj,ak,aa,QS,Qx,↓ab,hn,h0,h1]
 refine(Ek kW jn g7 base s i l p hc hlen).mono ?_
 rintro _ s ⟨rfl,rfl⟩
 by_cases c1:((l.length-p:a2):a7)<=k
 ·have hb:fc l (p+k)= -1:=by unfold fc;rw[bb (by omega)]
  simp only[aj,ak,al,oneOf,QS,Qx,↓ab,hn,c1,hb,cB]
 ·simp only[aj,ak,aa,QS,Qx,↓ab,hn,h0,h1,c1]
  refine(BG g7 base s i l p hc).mono ?_
  rintro _ s ⟨rfl,rfl⟩
  by_cases c2:k<0-(p:a7)
  ·have hb:fc l (p+k)= -1:=by unfold fc;rw[bb (by omega)]
   simp(disch:=omega)only[aj,ak,al,oneOf,QS,Qx,↓ab,hn,aD,c2,hb,cB]
  ·have hb:fc l (p+k)=((l.getD ((p:a7)+k).toNat 0).toNat:a7):=by unfold fc;rw[ca (by omega)]
   obtain⟨b,ht,oH,hi,_⟩:=hc
   have l0:=ht.load (P:=af) fU (off:=0) (c:=3) rfl (by simp)
   have l1:=ht.load (P:=af) bu (off:=1) (c:=3) rfl (by simp)
   have hb8:=(l.getD ((p:a7)+k).toNat 0).toNat_lt
   simp(disch:=omega)only[aj,ak,al,oneOf,QS,Qx,↓ab,hn,h0,h1,aD,c2,hb,Mj,HI,l0,l1,oH.aG.indexAddr a3 bK,oH.aG.di kI,bw,oH.aG.self,bL Tryz.underlying5 ds,ds,cB]
theorem aeG {lib:aA}(hl:lib.at 155=none)(kr:lib.at 192=none)(kW:lib.at 186=none)(jn:lib.at 209=none)(g7:lib.at 105=none)(base:a2)(s:aq)(i:a2)(b:bo)(l:ao an)(p:a2)(hc:Mi base s i b l p)(hb:base<=s.next)(hlen:l.length<=4294967296):
  Runs af lib 155 [gm i] s fun v s' =>v= .int .i64 (fc l p)/\Mi base s' i b l (min (p+1) l.length)/\bt (gm i) s s' :=by
 refine Runs.enter 16 Tryz.func155 rfl hl rfl rfl ?_
 intro f hn hf
 have h0:f.get 0=gm i:=hf 0
 clear hf
 have hp:p<=l.length:=hc.2.2.2
 simp only[aj,ak,aa,QS,Qx,↓ab,hn,h0]
 refine(TI kr kW jn g7 base s i l p 0 ⟨b,hc⟩ hlen).mono ?_
 rintro _ s ⟨rfl,rfl⟩
 rw[Int.add_zero]
 by_cases c:p<l.length
 ·have hv:0<=fc l p:=by unfold fc;rw[ca (by omega)];omega
  obtain⟨ht,oH,hi,_⟩:=hc
  have l1:=ht.load (P:=af) bu (off:=1) (c:=3) rfl (by simp)
  simp(disch:=omega)only[aj,ak,QS,Qx,↓ab,hn,h0,hv,HI,l1,aD]
  refine aY bA ht rfl (by simp) rfl ?_
  intro s1 eK g8 bn
  simp(disch:=omega)only[aj,al,oneOf,QS,Qx,↓ab,hn,dx]
  refine⟨⟨?_,oH.stay (ar.aK g8 bn hi),hi,by omega⟩,bt.aK g8 bn⟩
  rw[dH (by omega)];exact eK
 ·have hv:¬0<=fc l p:=by unfold fc;rw[bb (by omega)];omega
  obtain rfl:p=l.length:=by omega
  simp only[aj,al,oneOf,QS,Qx,↓ab,hn,hv,dx]
  rw[Nat.min_eq_right (by omega)]
  exact⟨hc,cR _,fun _ _ _=>rfl⟩
theorem yd {lib:aA}(hl:lib.at 155=none)(kr:lib.at 192=none)(kW:lib.at 186=none)(jn:lib.at 209=none)(g7:lib.at 105=none)(base:a2)(s:aq)(i:a2)(l:ao an)(p:a2)(hc:jG base s i l p)(hb:base<=s.next)(hlen:l.length<=4294967296):
  Runs af lib 155 [gm i] s fun v s' =>v= .int .i64 (fc l p)/\jG base s' i l (min (p+1) l.length)/\bt (gm i) s s' :=by
 obtain⟨b,hc⟩:=hc
 refine(aeG hl kr kW jn g7 base s i b l p hc hb hlen).mono ?_
 rintro v s' ⟨h1,h2,h3⟩
 exact⟨h1,⟨b,h2⟩,h3⟩
end Go.Proofs.YtdfjfncifneocaaGreat
namespace Go.Proofs.YtdfjfncifneocaaGreat
open Go.Cl Go.Cl.Hx
def fZ (c:a7):Bool:=decide (c=0\/c=9\/c=10\/c=12\/c=13\/c=32)
def digit (c:a7):a7:=if 48<=c/\c<=57 then c-48 else if 97<=c/\c<=102 then c-97+10 else if 65<=c/\c<=70 then c-65+10 else-1
theorem TJ {lib:aA}(hl:lib.at 156=none)(s:aq)(c:a7):
  Runs af lib 156 [.int .i64 c] s fun v s' =>v= .bool (fZ c)/\s' =s:=by
 refine Runs.enter 25 Tryz.func156 rfl hl rfl rfl ?_
 intro f hn hf
 have h0:f.get 0= .int .i64 c:=hf 0
 clear hf
 by_cases c0:c=0
 ·have hw:fZ c=true:=by unfold fZ;simp[c0]
  simp only[aj,ak,al,oneOf,QS,Qx,↓ab,hn,h0,a8 c0,hw,bq]
 ·by_cases c1:c=9
  ·have hw:fZ c=true:=by unfold fZ;simp[c1]
   simp only[aj,ak,al,oneOf,QS,Qx,↓ab,hn,h0,c0,a8 c1,hw,bq]
  ·by_cases c2:c=10
   ·have hw:fZ c=true:=by unfold fZ;simp[c2]
    simp only[aj,ak,al,oneOf,QS,Qx,↓ab,hn,h0,c0,c1,a8 c2,hw,bq]
   ·by_cases c3:c=12
    ·have hw:fZ c=true:=by unfold fZ;simp[c3]
     simp only[aj,ak,al,oneOf,QS,Qx,↓ab,hn,h0,c0,c1,c2,a8 c3,hw,bq]
    ·by_cases c4:c=13
     ·have hw:fZ c=true:=by unfold fZ;simp[c4]
      simp only[aj,ak,al,oneOf,QS,Qx,↓ab,hn,h0,c0,c1,c2,c3,a8 c4,hw,bq]
     ·have hw:fZ c=decide (c=32):=by unfold fZ;simp[c0,c1,c2,c3,c4]
      simp only[aj,ak,al,oneOf,QS,Qx,↓ab,hn,h0,c0,c1,c2,c3,c4,hw,bq]
theorem TK {lib:aA}(hl:lib.at 110=none)(s:aq)(c:a7):
  Runs af lib 110 [.int .i64 c] s fun v s' =>v= .int .i64 (digit c)/\s' =s:=by
 refine Runs.enter 32 Tryz.func110 rfl hl rfl rfl ?_
 intro f hn hf
 have h0:f.get 0= .int .i64 c:=hf 0
 clear hf
 unfold digit
 by_cases c1:48<=c<;>by_cases c2:c<=57<;>by_cases c3:97<=c<;>by_cases c4:c<=102<;>by_cases c5:65<=c<;>by_cases c6:c<=70<;>first|(exfalso;omega)|(simp(disch:=omega)only[aj,ak,al,oneOf,QS,Qx,↓ab,hn,h0,c1,c2,c3,c4,c5,c6,aD,Tryz.results110])
end Go.Proofs.YtdfjfncifneocaaGreat
namespace Go.Proofs.YtdfjfncifneocaaGreat
open Go.Cl
def Still (A:a2->Prop)(s s' :aq):Prop:=∀k,A k->s'.heap.get k=s.heap.get k
theorem Still.refl (A:a2->Prop)(s:aq):Still A s s:=fun _ _=>rfl
theorem Still.trans {A:a2->Prop}{s s' yB:aq}(h:Still A s s')(k:Still A s' yB):Still A s yB:=fun i hi=>(k i hi).trans (h i hi)
def mK (A:a2->Prop)(base:a2)(s:aq)(j:a2)(r P:ao an)(M:a7):Prop:=
 ∃i o l p,r=l.drop p/\l.length<=4294967296/\ax s j [gm i,.int .i64 M,o]/\jG base s i l p/\Own s 1 o P.length (ofBytes P)/\aF base o/\base<=j/\aI o≠some i/\aI o≠some j/\i≠j/\i<s.next/\∀k,A k->k<s.next/\k≠i/\k≠j/\aI o≠some k
theorem mK.still {A:a2->Prop}{base:a2}{s s' :aq}{j:a2}{r P:ao an}{M:a7}(h:mK A base s j r P M)(k:ar s.next s s'):Still A s s' :=by
 obtain⟨i,o,l,p,h1,h2,h3,h4,h5,h6,h7,h8,h9,eX,sq,rX⟩:=h
 exact fun q hq=>k.get q (rX q hq).1
theorem mK.keeps {A:a2->Prop}{base:a2}{s s' :aq}{j:a2}{r P:ao an}{M:a7}(h:mK A base s j r P M)(hb:base<=s.next)(k:ar s.next s s'):mK A base s' j r P M:=by
 obtain⟨i,o,l,p,h1,h2,h3,h4,h5,h6,h7,h8,h9,eX,sq,rX⟩:=h
 exact⟨i,o,l,p,h1,h2,h3.keeps k,h4.keeps hb k,h5.keeps k,h6,h7,h8,h9,eX,a9 sq k.next,fun q hq=>⟨a9 (rX q hq).1 k.next,(rX q hq).2⟩⟩
theorem mK.turns {A A' :a2->Prop}{base:a2}{s s' :aq}{j:a2}{r P:ao an}{M:a7}(h:mK A base s j r P M)(hb:base<=s.next){v:bo}(hv:∀k,aI v=some k->A k)(hF:aF base v)(k:bt v s s')(hA:∀q,A' q->q<s'.next/\(A q\/s.next<=q)):mK A' base s' j r P M:=by
 obtain⟨i,o,l,p,h1,h2,h3,h4,h5,h6,h7,h8,h9,eX,sq,rX⟩:=h
 refine⟨i,o,l,p,h1,h2,h3.turns k (fun e=>(rX j (hv j e)).2.2.1 rfl),h4.turns hb hF k (fun e=>(rX i (hv i e)).2.1 rfl),h5.turns k (fun q hq e=>(rX q (hv q e)).2.2.2 hq),h6,h7,h8,h9,eX,a9 sq k.next,fun q hq=> ?_⟩
 obtain⟨g1,g2⟩:=hA q hq
 rcases g2 with g2|g2
 ·exact⟨g1,(rX q g2).2⟩
 ·refine⟨g1,by omega,by have:=h3.lt;omega,fun e=>by have:=h5.iD q e;omega⟩
abbrev gI (j:a2):bo:= .pointer (some ⟨j,0,some 4⟩)
theorem aeH:bX af 112=some false:=by kernel_rfl
theorem JE:aX af 112=some 1:=by kernel_rfl
theorem Xu (i o c:a2):au af 132 (.pointer (some ⟨i,o,some c⟩)) 0=some (.pointer (some ⟨i,o+0,some c⟩)):=by
 unfold au;rw[b8];simp[JE]
theorem Mk (i o c:a2):au af 132 (.pointer (some ⟨i,o,some c⟩)) 1=some (.pointer (some ⟨i,o+1,some c⟩)):=by
 unfold au;rw[b8];simp[bA]
theorem qw (i o c:a2):au af 132 (.pointer (some ⟨i,o,some c⟩)) 2=some (.pointer (some ⟨i,o+2,some c⟩)):=by
 unfold au;rw[b8];simp[fT]
theorem aeI (i:a2)(m:a7):cC af 132 [(0,gm i),(1,.int .i64 m)]=some (.agg #[gm i,.int .i64 m,.slice none 0 0]):=by
 unfold cC;rw[b8]
 have hz:bV af 132=some (.agg #[.pointer none,.int .i64 0,.slice none 0 0]):=by kernel_rfl
 rw[hz]
 have c1:(gm i).cells.toList=[gm i]:=rfl
 have c2:(Value.int .i64 m).cells.toList=[.int .i64 m]:=rfl
 simp only[fG,placeOf,c1,c2]
 simp[JE,bA,fT,bN,gQ,bS,setAt]
theorem AS {lib:aA}(A:a2->Prop)(hl:lib.at 108=none)(jn:lib.at 100=none)(base:a2)(s:aq)(x:bo)(l:ao an)(most:a7)(hx:Br base s 1 x l.length (ofBytes l))(hb:base<=s.next)(hlen:l.length<=4294967296)(hA:∀k,A k->k<s.next):
  Runs af lib 108 [x,.int .i64 most] s fun v s' =>∃j,v=gI j/\mK A base s' j l [] (if most<0 then 0 else most)/\ar s.next s s' :=by
 refine Runs.enter 11 Tryz.func108 rfl hl rfl rfl ?_
 intro f hn hf
 have h0:f.get 0=x:=hf 0
 have h1:f.get 1= .int .i64 most:=hf 1
 clear hf
 simp only[aj,ak,aa,QS,Qx,↓ab,hn,h0]
 refine(JD jn base s x l hx hb).mono ?_
 rintro _ s1 ⟨rfl,hc,aE,xG⟩
 have hmx:(if most<0 then(0:a7) else most)=(if most<0 then 0 else most):=rfl
 simp only[aj,aa,ae,QS,Qx,↓ab,hn,h1,aeI]
 refine aw ?_
 intro s2 ht aR m8
 simp only[aj,al,oneOf,QS,cc,↓ab,hn,Tryz.results108,cb,bg]
 refine⟨s1.next,rfl,⟨s.next,_,l,0,rfl,hlen,ht,hc.keeps (by omega) aR,.nil,aF.nil _,by omega,(by intro e;cases e),(by intro e;cases e),by omega,by omega,fun k hk=>by have:=hA k hk;exact⟨by omega,by omega,by omega,by intro e;cases e⟩⟩,aE.trans (aR.weaken (by omega))⟩
def sign:ao an->a7×ao an
 |[]=>(-1,[])
 |c::l=>if fZ c.toNat then sign l else(c.toNat,l)
theorem ye {lib:aA}(hl:lib.at 109=none)(hw:lib.at 156=none)(zP:lib.at 155=none)(kr:lib.at 192=none)(kW:lib.at 186=none)(jn:lib.at 209=none)(g7:lib.at 105=none)
  (A:a2->Prop) (base:a2) (s:aq) (j:a2) (r P:ao an) (M:a7) (h:mK A base s j r P M) (hb:base<=s.next):
  Runs af lib 109 [gI j] s fun v s' =>v= .int .i64 (sign r).1/\mK A base s' j (sign r).2 P M/\ar base s s' /\Still A s s' :=by
 refine Runs.enter 13 Tryz.func109 rfl hl rfl rfl ?_
 intro f hn hf
 have h0:f.get 0=gI j:=hf 0
 clear hf
 simp only[aj,QS,↓ab,hn]
 refine Comes.eZ (fun q f s' =>∃r',q=r'.length/\sign r' =sign r/\mK A base s' j r' P M/\ar base s s' /\Still A s s' /\f.n=13/\f.get 0=gI j) ⟨r,rfl,rfl,h,ar.refl _ _,Still.refl _ _,by simp only[ad,ag,↓ab,Qx,hn,h0,dd]⟩ ?_
 clear hn h0 f h
 rintro q f s1 ⟨r',rfl,hr,h,aE,anm,hn,h0⟩
 obtain⟨i,o,l,p,mO,hlen,ht,hc,ho,hF,hj,ux,fN,ua,Zx,Rh⟩:=h
 have l0:=ht.load (P:=af) aeH (off:=0) (c:=4) rfl (by simp)
 have Nu:base<=i:=hc.choose_spec.2.2.1
 have gL:base<=s1.next:=bk hb aE.next
 simp only[aj,ak,aa,QS,↓ab,hn,h0,Xu,l0]
 refine(yd zP kr kW jn g7 base s1 i l p hc gL hlen).mono ?_
 rintro _ s2 ⟨rfl,kY,dD⟩
 have oB:=dD.keeps (da Nu) gL
 have aR:ar base s s2:=aE.trans oB
 have Pj:Still A s s2:=anm.trans (fun k hk=>dD.get k (Rh k hk).1 (eD (fun e=>(Rh k hk).2.1 e.symm)))
 have iu:mK A base s2 j (l.drop (min (p+1) l.length)) P M:=⟨i,o,l,_,rfl,hlen,ht.turns dD (eD ua),kY,ho.turns dD (fun q hq=>eD (fun e=>ux (by rw[e];exact hq))),hF,hj,ux,fN,ua,a9 Zx dD.next,fun k hk=>⟨a9 (Rh k hk).1 dD.next,(Rh k hk).2⟩⟩
 simp only[aj,ak,aa,QS,↓ab,hn]
 refine(TJ hw s2 _).mono ?_
 rintro _ s2 ⟨rfl,rfl⟩
 by_cases hp:p<l.length
 ·have sQ:fc l p=((l.getD p 0).toNat:a7):=by unfold fc;rw[ca (by omega),Int.toNat_natCast]
  have FP:r' =l.getD p 0::l.drop (p+1):=by
   rw[mO,List.drop_eq_getElem_cons hp];simp[List.getD,bl hp]
  rw[dH (by omega)] at iu
  by_cases hwh:fZ ((l.getD p 0).toNat:a7)=true
  ·simp only[aj,QS,↓ab,hn,sQ,hwh]
   refine ay (l.drop (p+1)).length (by rw[FP];simp) ⟨_,rfl,?_,iu,aR,Pj,by simp only[ad,ag,↓ab,Qx,hn,h0,dd]⟩
   rw[<-hr,FP]
   simp only[sign];rw[ca hwh]
  ·have QP:sign r=(((l.getD p 0).toNat:a7),l.drop (p+1)):=by rw[<-hr,FP];simp only[sign];rw[bb hwh]
   simp only[Bool.not_eq_true] at hwh
   simp only[aj,al,oneOf,QS,Qx,↓ab,hn,sQ,hwh,QP,dT]
   exact⟨iu,aR,Pj⟩
 ·have sQ:fc l p= -1:=by unfold fc;rw[bb (by omega)]
  have FP:r' =[]:=by rw[mO];exact cz (by omega)
  have QP:sign r=(-1,[]):=by rw[<-hr,FP];rfl
  have hwh:fZ (-1)=false:=by decide
  rw[cz (by omega)] at iu
  simp only[aj,al,oneOf,QS,Qx,↓ab,hn,sQ,hwh,QP,dT]
  exact⟨iu,aR,Pj⟩
theorem tR {lib:aA}(hl:lib.at 111=none)(A:a2->Prop)(base:a2)(s:aq)(j:a2)(r P D:ao an)(M:a7)(b:bo)(h:mK A base s j r P M)(hb:base<=s.next)(hd:aN s 1 b D.length (ofBytes D))(hD:D.length<=1000)(hP:P.length<=2147483648)(TL:0<=M)(hM:M<9223372036854775808):
  Runs af lib 111 [gI j,b] s fun v s' =>v= .int .i64 (if M-P.length<D.length then 7 else 0)/\mK A base s' j r (if M-P.length<D.length then P else P++D) M/\ar base s s' /\Still A s s' :=by
 obtain⟨i,o,l,p,mO,hlen,ht,hc,ho,hF,hj,ux,fN,ua,Zx,Rh⟩:=h
 refine Runs.enter 27 Tryz.func111 rfl hl rfl rfl ?_
 intro f hn hf
 have h0:f.get 0=gI j:=hf 0
 have h1:f.get 1=b:=hf 1
 clear hf
 have l1:=ht.load (P:=af) bu (off:=1) (c:=4) rfl (by simp)
 have l2:=ht.load (P:=af) fU (off:=2) (c:=4) rfl (by simp)
 have Q4:=ho.aG
 by_cases hm:M-(P.length:a7)<D.length
 ·simp(disch:=omega)only[aj,ak,al,oneOf,aa,QS,Qx,↓ab,hn,h0,h1,hd.self,Q4.self,hd.bm a3,Q4.bm a3,Mk,qw,l1,l2,aD,a8 hm,dU]
  exact⟨⟨i,o,l,p,mO,hlen,ht,hc,ho,hF,hj,ux,fN,ua,Zx,Rh⟩,ar.refl _ _,Still.refl _ _⟩
 ·simp(disch:=omega)only[aj,ak,aa,QS,Qx,↓ab,hn,h0,h1,hd.self,Q4.self,hd.bm a3,Q4.bm a3,Mk,qw,l1,l2,aD,a1 hm]
  refine bY a3 a3 (.inl ⟨_,rfl⟩) bK jW ks rfl ho hd.src (by simp[bM]) (by decide) (dh _) (by omega) (by omega) hF hb ?_
  intro o' s2 pM ze dO Nl vz
  have ann:=ht.turns Nl fN
  have kY:=hc.turns hb hF Nl ux
  have Bc:aI o' ≠some j:=by
   rcases vz with e|⟨q,e,hq⟩
   ·rw[e];exact fN
   ·rw[e];intro q;injection q with q;have:=ht.lt;omega
  have ano:aI o' ≠some i:=by
   rcases vz with e|⟨q,e,hq⟩
   ·rw[e];exact ux
   ·rw[e];intro q;injection q with q;omega
  simp only[aj,QS,Qx,↓ab,hn,qw]
  refine aY fT ann rfl (by simp) pM.aG.aL ?_
  intro s3 jM mQ bC
  have hk3:ar base s2 s3:=ar.aK mQ bC hj
  simp only[aj,al,oneOf,QS,↓ab,hn,dU]
  refine⟨⟨i,o',l,p,mO,hlen,jM,kY.turns (bk hb dO.next) (da hj) (bt.aK mQ bC) (eD (fun e=>ua e.symm)),?_,ze,hj,ano,Bc,ua,by have:=Nl.next;omega,fun k hk=>⟨by have:=(Rh k hk).1;have:=Nl.next;omega,(Rh k hk).2.1,(Rh k hk).2.2.1,fun e=> ?_⟩⟩,dO.trans hk3,fun k hk=>(bC k (Rh k hk).2.2.1).trans (Nl.get k (Rh k hk).1 (Rh k hk).2.2.2)⟩
  rotate_left
  ·rcases vz with e' |⟨q,e',hq⟩
   ·rw[e'] at e;exact(Rh k hk).2.2.2 e
   ·rw[e'] at e;injection e with e;have:=(Rh k hk).1;omega
  rw[br,a4]
  exact pM.aK mQ bC Bc
end Go.Proofs.YtdfjfncifneocaaGreat
namespace Go.Cl.Uh
theorem aiL (P:Program)(t:TypeId)(k' :IntKind)(a:a7):cQ P .shl t (.int .i64 a) (.int k' 4)=some (.int .i64 (cp.wrap (a*16))):=by
 rw[mW P t .i64 a 4 k' (by decide)];rfl
theorem aaT {n d:a2}(hn:n<16)(hd:d<16):cp.wrap (((cA cp.bits ((n:a7)*16)|||cA cp.bits (d:a7)).toNat:a2):a7)=((n*16+d:a2):a7):=by
 have e1:cp.bits=64:=rfl
 rw[e1]
 have:(cA 64 ((n:a7)*16)|||cA 64 (d:a7)).toNat=n*16+d:=by
  have e2:((n:a7)*16)=((n*16:a2):a7):=by omega
  rw[e2,BitVec.toNat_or,c7,c7,c9,c9,dt (by omega),dt (by omega)]
  have:=Nat.shiftLeft_add_eq_or_of_lt (i:=4) (b:=d) hd n
  rw[Nat.shiftLeft_eq] at this
  exact this.symm
 rw[this,aD (by omega)]
def AU (n:a2):an:=UInt8.ofNat n
theorem HJ {n:a2}(h:n<256):((AU n).toNat:a7)=n:=by
 unfold AU;rw[UInt8.toNat_ofNat'];omega
end Go.Cl.Uh
