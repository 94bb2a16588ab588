import Derived.Test.YtdfjfncifneocaaGreatLzwS
open Nat renaming reduceLT->QS,reduceEqDiff->Qx
set_option maxHeartbeats 16000000
set_option linter.unusedSimpArgs false
set_option linter.unusedVariables false
set_option maxRecDepth 100000
namespace Go.Cl.Lz
theorem wh {A B:List UInt8}(i:Nat):(A++B).getD (A.length+i) 0=B.getD i 0:=by
 rw[List.getD_eq_getElem?_getD,List.getD_eq_getElem?_getD,List.getElem?_append_right (by omega),Nat.add_sub_cancel_left]
theorem yc {A B:List UInt8}{i:Nat}(h:i<A.length):(A++B).getD i 0=A.getD i 0:=by
 rw[List.getD_eq_getElem?_getD,List.getD_eq_getElem?_getD,List.getElem?_append_left h]
theorem vk {A:List UInt8}{k:Nat}(h:k<A.length):A.take (k+1)=A.take k++[A.getD k 0]:=by
 rw[List.take_succ_eq_append_getElem h,List.getD_eq_getElem?_getD,List.getElem?_eq_getElem h];rfl
theorem Eg {out:List UInt8}{a:Nat}:∀n,a+n<=out.length->F9 out a n=out++(out.drop a).take n
 |0,h=>by simp[F9]
 |n+1,h=>by
  rw[F9,Eg n (by omega),yc (by omega),List.append_assoc]
  congr 1
  rw[vk (by rw[List.length_drop];omega)]
  congr 2
  rw[List.getD_eq_getElem?_getD,List.getD_eq_getElem?_getD,List.getElem?_drop]
theorem Eh {out:List UInt8}{a n:Nat}(h:a+n=out.length)(hn:1<=n):F9 out a (n+1)=out++(out.drop a++(out.drop a).take 1):=by
 have hl:(out.drop a).length=n:=by rw[List.length_drop];omega
 rw[F9,Eg n (by omega),List.take_of_length_le (by omega),h]
 have e:=wh (A:=out) (B:=out.drop a) 0
 rw[Nat.add_zero] at e
 rw[e,List.append_assoc]
 congr 2
 rw[vk (by omega),List.take_zero,List.nil_append]
def tN (out:List UInt8)(rows:List (Nat×Nat))(T:List (List UInt8)):Prop:=
 rows.length=T.length/\∀(i:Nat) (q:Nat×Nat),rows[i]?=some q->1<=q.2/\q.1+q.2<=out.length/\T[i]?=some ((out.drop q.1).take q.2)
def rD (out:List UInt8)(last:Nat×Nat)(L:List UInt8):Prop:=
 (last.2=0/\L=[])\/(1<=last.2/\last.1+last.2=out.length/\L=out.drop last.1)
theorem rD.zero {out:List UInt8}{last:Nat×Nat}{L:List UInt8}(h:rD out last L):last.2=0↔L=[]:=by
 rcases h with ⟨h1,h2⟩|⟨h1,h2,h3⟩
 ·exact⟨fun _=>h2,fun _=>h1⟩
 ·refine⟨fun e=>by omega,fun e=> ?_⟩
  have:=congrArg List.length h3
  rw[e,List.length_drop,List.length_nil] at this;omega
theorem rD.next (out x:List UInt8)(hx:x≠[]):rD (out++x) (out.length,x.length) x:=
 .inr ⟨List.length_pos_iff.mpr hx,by simp,by simp⟩
def rowsOf (rows:List (Nat×Nat))(last:Nat×Nat):List (Nat×Nat):=if 0<last.2/\258+rows.length<4096 then rows++[(last.1,last.2+1)] else rows
theorem tN.grow {out x:List UInt8}{rows:List (Nat×Nat)}{T:List (List UInt8)}{last:Nat×Nat}{L:List UInt8}(h:tN out rows T)(hL:rD out last L)(hx:x≠[]):tN (out++x) (rowsOf rows last) (grow T L x):=by
 obtain⟨h1,h2⟩:=h
 have uM:=List.length_pos_iff.mpr hx
 have old:∀(i:Nat) (q:Nat×Nat),rows[i]?=some q->1<=q.2/\q.1+q.2<=(out++x).length/\T[i]?=some (((out++x).drop q.1).take q.2):=fun i q hq=>by
  obtain⟨a,b,c⟩:=h2 i q hq
  refine⟨a,by rw[List.length_append];omega,?_⟩
  rw[c,List.drop_append_of_le_length (by omega),List.take_append_of_le_length (by rw[List.length_drop];omega)]
 unfold rowsOf Lz.grow
 by_cases c1:0<last.2/\258+rows.length<4096
 ·rcases hL with ⟨q1,q2⟩|⟨q1,q2,q3⟩
  ·omega
  ·have hL0:L≠[]:=by intro e;have:=congrArg List.length q3;rw[e,List.length_drop,List.length_nil] at this;omega
   rw[if_pos c1,if_pos ⟨hL0,by rw[<-h1];exact c1.2⟩]
   refine⟨by simp[h1],fun i q hq=> ?_⟩
   by_cases hi:i<rows.length
   ·rw[List.getElem?_append_left hi] at hq
    obtain⟨a,b,c⟩:=old i q hq
    exact⟨a,b,by rw[List.getElem?_append_left (by omega)];exact c⟩
   ·rw[List.getElem?_append_right (by omega)] at hq
    cases hj:i-rows.length with
    |succ m=>rw[hj] at hq;simp at hq
    |zero=>
     rw[hj] at hq
     simp at hq
     subst hq
     refine⟨by simp,by simp only[List.length_append];omega,?_⟩
     have hLl:L.length=last.2:=by rw[q3,List.length_drop];omega
     rw[List.getElem?_append_right (by omega),show i-T.length=0 by omega]
     simp only[List.getElem?_cons_zero]
     have e1:L.take (last.2+1)=L:=List.take_of_length_le (by omega)
     rw[List.drop_append_of_le_length (by omega),<-q3,List.take_append,hLl,Nat.add_sub_cancel_left,e1]
 ·rw[if_neg c1]
  have:¬(L≠[]/\258+T.length<4096):=by
   rintro ⟨a,b⟩
   have:=hL.zero
   exact c1 ⟨by rcases Nat.eq_zero_or_pos last.2 with e|e;exact absurd (this.mp e) a;exact e,by omega⟩
  rw[if_neg this]
  exact⟨h1,old⟩
end Go.Cl.Lz
namespace Go.Proofs.YtdfjfncifneocaaGreat
open Go.Cl Go.Cl.Lz Go.Cl.Rw
theorem tO {s s' :aq}{i j:Nat}{cs:List Value}{v v' :Value}(h:ax s i cs)(k:du j v s v' s')(h1:i≠j)(h2:aI v≠some i):ax s' i cs:=by
 obtain⟨low,z,a,b⟩:=h.dZ
 refine⟨Nat.lt_of_lt_of_le h.lt k.next,low,z,?_,b⟩
 simp only[aq.bR,k.get i h.lt h1 h2]
 exact a
theorem tP:bV Tryz.prog 122=some (.agg #[.int .i64 0,.int .i64 0]):=by kernel_rfl
theorem Xo:bN (.agg #[.int .i64 0,.int .i64 0])=true:=rfl
theorem Pe:eY Tryz.prog 122=some 16:=by kernel_rfl
theorem Pf (a b:Int):bZ (.agg #[.int .i64 a,.int .i64 b]) (.agg #[.int .i64 a,.int .i64 b])=true:=by simp[bZ,fp,cN]
theorem Ei (s:aq)(a b:Int):aO Tryz.prog s 121 1 [(0,.agg #[.int .i64 a,.int .i64 b])]=aZ s [.int .i64 a,.int .i64 b] 1 2:=by
 unfold aO
 rw[Tryz.underlying121]
 simp only[fF,tP]
 rfl
theorem lN.more {base:Nat}{s s1 s2 s3:aq}{j:Nat}{bv rv ov r2:Value}{b:List UInt8}{p:Nat}{most:Int}{rows Xp:List (Nat×Nat)}{last:Nat×Nat}{out:List UInt8}(h:lN base s j bv rv ov b p most rows last out)(hb:base<=s.next)
  (h1:ar s.next s s1) (h2:Own s2 2 r2 Xp.length (lM Xp)) (Ir:aF base r2) (dD:bt rv s1 s2) (gz:aI r2=aI rv\/∃i,aI r2=some i/\s1.next<=i)
  (ht:ax s3 j [bv,.int .i64 p,.int .i64 most,r2,.int .i64 last.1,.int .i64 last.2,ov]) (hn:s3.next=s2.next) (hs:∀i,i≠j->s3.heap.get i=s2.heap.get i):
  lN base s3 j bv r2 ov b p most Xp last out/\ar base s s3:=by
 have bd:=h.cJ.lt
 have hrj:aI r2≠some j:=by
  rcases gz with e|⟨i,e,hi⟩
  ·rw[e];exact h.rj
  ·rw[e];intro q;injection q with q;have:=h1.next;omega
 have k2:=dD.keeps h.rf (Nat.le_trans hb h1.next)
 refine⟨⟨ht,((h.b.stay (h1.weaken hb)).stay k2).stay (ar.aK hn hs h.lo),h2.aK hn hs hrj,Ir,hrj,((h.out.keeps h1).turns dD (fun i hi=>h.ox i hi)).aK hn hs h.oj,h.of,h.oj,fun k hk=> ?_,h.lo⟩,((h1.weaken hb).trans k2).trans (ar.aK hn hs h.lo)⟩
 rcases gz with e|⟨i,e,hi⟩
 ·rw[e];exact h.ox k hk
 ·rw[e];intro q;injection q with q;have:=h.out.iD _ hk;have:=h1.next;omega
def mJ (base:Nat)(s:aq)(j:Nat)(bv:Value)(b:List UInt8)(p:Nat)(most:Int)(out:List UInt8)(T:List (List UInt8))(L:List UInt8)(c:Nat)(v:Value)(s' :aq):Prop:=
 ar base s s' /\match rowOf T L c with
 |none=>v= .int .i64 4
 |some x=>(most<((out.length+x.length:Nat):Int)/\v= .int .i64 7)\/(((out.length+x.length:Nat):Int)<=most/\v= .int .i64 0/\∃(rv' Y3:Value) (rows' :List (Nat×Nat)),lN base s' j bv rv' Y3 b p most rows' (out.length,x.length) (out++x)/\tN (out++x) rows' (grow T L x))
theorem mJ.put {base:Nat}{s s4:aq}{j:Nat}{bv:Value}{b:List UInt8}{p:Nat}{most:Int}{rows:List (Nat×Nat)}{last:Nat×Nat}{out:List UInt8}{T:List (List UInt8)}{L:List UInt8}{c n:Nat}{X:List UInt8}{v:Value}{x:List UInt8}
  (hx:rowOf T L c=some x) (Bo:x≠[]) (hn:x.length=n) (hX:X=out++x) (hT:tN out rows T) (hL:rD out last L) (aE:ar base s s4)
  {rv' Y3:Value} {last' :Nat×Nat} {Xm:List UInt8} (hR:lN base s4 j bv rv' Y3 b p most (rowsOf rows last) last' Xm)
  (h:(v= .int .i64 0/\((out.length+n:Nat):Int)<=most/\last' =(out.length,n)/\Xm=X)\/(v= .int .i64 7/\most<((out.length+n:Nat):Int))):mJ base s j bv b p most out T L c v s4:=by
 refine⟨aE,?_⟩
 rw[hx]
 subst hn;subst hX
 rcases h with ⟨rfl,h1,rfl,rfl⟩|⟨rfl,h1⟩
 ·exact .inr ⟨h1,rfl,rv',Y3,_,hR,hT.grow hL Bo⟩
 ·exact .inl ⟨h1,rfl⟩
theorem TG {lib:aA}(hl:lib.at 107=none)(kr:lib.at 154=none)(lV:lib.at 153=none)(base:Nat)(s:aq)(j:Nat)(bv rv ov:Value)(b:List UInt8)(p:Nat)(most:Int)(rows:List (Nat×Nat))(last:Nat×Nat)(out:List UInt8)(T:List (List UInt8))(L:List UInt8)(c:Nat)
  (h:lN base s j bv rv ov b p most rows last out) (hb:base<=s.next) (hT:tN out rows T) (hL:rD out last L) (hc:c<4096) (hc6:c≠256) (hc7:c≠257) (hr:rows.length<=4096) (ho:out.length<=20000000):
  Runs Tryz.prog lib 107 [wg j,.int .i64 c] s (mJ base s j bv b p most out T L c):=by
 refine Runs.enter 96 Tryz.func107 rfl hl rfl rfl ?_
 intro f hn hf
 have h0:f.get 0=wg j:=hf 0
 have h1:f.get 1= .int .i64 c:=hf 1
 clear hf
 have g3:=h.cJ.load (P:=Tryz.prog) zD (off:=3) (c:=8) rfl (by simp)
 have g4:aJ Tryz.prog s 122 (.pointer (some ⟨j,4,some 8⟩))=some (.agg #[.int .i64 last.1,.int .i64 last.2]):=h.cJ.xU TE fF (off:=4) (c:=8) rfl (by simp)
 have ZI:=hT.1
 have hLz:=hL.zero
 have anh:last.2<=20000000:=by
  rcases hL with ⟨a,_⟩|⟨_,a,_⟩
  ·omega
  ·omega
 simp(disch:=omega)only[aj,ak,aa,QS,Qx,↓reduceIte,hn,h0,qv,Mf,g3,g4,h.rows.aG.bm Tryz.underlying121,aD,tP,Xo]
 refine aw ?_
 intro sa aiE ON Th
 obtain⟨q,hq⟩:∃q,q=s.next:=⟨_,rfl⟩
 rw[<-hq] at aiE
 simp(disch:=omega)only[aj,QS,Qx,Nat.reduceAdd,↓reduceIte,hn,List.length_cons,List.length_nil]
 rw[<-hq]
 refine jO fF aiE rfl rfl rfl rfl (by simp) ?_
 intro s1 wi g8 kC
 have wi:ax s1 q [.int .i64 last.1,.int .i64 last.2]:=wi
 have hjq:=h.cJ.lt
 have Nm:q≠j:=by omega
 have hqo:aI ov≠some q:=fun e=>by have:=h.out.iD _ e;omega
 have AK:ar s.next s s1:=ON.trans (ar.aK g8 kC (by omega))
 have bn:ar base s s1:=AK.weaken hb
 have gL:base<=s1.next:=Nat.le_trans hb bn.next
 have pH:lN base s1 j bv rv ov b p most rows last out:=⟨h.cJ.keeps AK,h.b.stay bn,h.rows.keeps AK,h.rf,h.rj,h.out.keeps AK,h.of,h.oj,h.ox,h.lo⟩
 have oI:=h.lo
 have hof:=h.of
 have w1:=wi.load (P:=Tryz.prog) bu (off:=1) (c:=3) rfl (by simp)
 have w0:=wi.load (P:=Tryz.prog) bu (off:=0) (c:=3) rfl (by simp)
 have i0:bT Tryz.prog 122 (.pointer (some ⟨q,0,some 3⟩)) (.int .i64 0)=some (.pointer (some ⟨q,0,some 3⟩)):=Rb Tryz.underlying122 bA q 0 3 (k:=0) (by omega) .i64
 have i1:bT Tryz.prog 122 (.pointer (some ⟨q,0,some 3⟩)) (.int .i64 1)=some (.pointer (some ⟨q,1,some 3⟩)):=Rb Tryz.underlying122 bA q 0 3 (k:=1) (by omega) .i64
 by_cases c1:258+rows.length<c
 ·have uE:(258:Int)+(rows.length:Int)<(c:Int):=by omega
  simp(disch:=omega)only[aj,ak,al,oneOf,QS,Qx,↓reduceIte,undef,hn,h1,eq_true uE,Tryz.results107]
  have TH:rowOf T L c=none:=by
   unfold rowOf
   rw[if_neg (by omega)]
   split
   ·rfl
   ·rw[if_neg (by omega),List.getElem?_eq_none (by omega)]
  refine⟨bn,?_⟩;rw[TH]
 have uE:¬(258:Int)+(rows.length:Int)<(c:Int):=by omega
 by_cases c2:c=258+rows.length
 ·have D3:(c:Int)=(258:Int)+(rows.length:Int):=by omega
  by_cases c3:last.2=0
  ·have L1:(last.2:Int)=0:=by omega
   simp only[aj,ak,al,oneOf,QS,Qx,↓reduceIte,undef,hn,h1,eq_false uE,eq_true D3,eq_true L1,i1,w1,Tryz.results107]
   have TH:rowOf T L c=none:=by
    unfold rowOf
    rw[if_neg (by omega),if_pos (hLz.mp c3)]
   refine⟨bn,?_⟩;rw[TH]
  ·have L1:¬(last.2:Int)=0:=by omega
   have Y4:¬(c:Int)<256:=by omega
   rcases id hL with ⟨l1,_⟩|⟨l1,l2,l3⟩
   ·exact absurd l1 c3
   have hX:rowOf T L c=some (L++L.take 1):=by
    unfold rowOf
    rw[if_neg (by omega),if_neg (fun e=>c3 (hLz.mpr e)),if_pos (by omega)]
   have hLl:L.length=last.2:=by rw[l3,List.length_drop];omega
   have Xq:(L++L.take 1).length=last.2+1:=by rw[List.length_append,List.length_take];omega
   have hX0:L++L.take 1≠[]:=by intro e;rw[e] at Xq;simp at Xq
   simp(disch:=omega)only[aj,ak,aa,QS,Qx,↓reduceIte,undef,hn,h0,h1,eq_false uE,eq_true D3,eq_false L1,eq_false Y4,i0,i1,w0,w1,aD]
   refine(HH kr base s1 j bv rv ov b p most rows last out last.1 (last.2+1) pH gL (by omega) (by omega) (by omega)).mono ?_
   rintro v s2 ⟨ov2,acB,TF,iu,nQ,hP⟩
   refine px (fun f=>f.n=96/\f.get 0=wg j/\f.get 5= .int .i64 ((258:Int)+(rows.length:Int))/\f.get 6= .pointer (some ⟨q,0,some 3⟩)) ⟨by simp only[ag,hn],by first|simp only[ad,↓reduceIte,Qx,h0]|simp only[ad,ag,↓reduceIte,Qx],by first|simp only[ad,ag,↓reduceIte,Qx,h5]|simp only[ad,↓reduceIte,Qx],by first|simp only[ad,ag,↓reduceIte,Qx,h6]|simp only[ad,↓reduceIte,Qx]⟩ ?_
   rintro f ⟨hn,h0,h5,h6⟩
   have Xr:bZ v v=true:=by rcases hP with ⟨e,_⟩|⟨e,_⟩<;>(rw[e];exact cF _ _)
   have Bq:=tO wi nQ Nm hqo
   have w1:=Bq.load (P:=Tryz.prog) bu (off:=1) (c:=3) rfl (by simp)
   have w0:=Bq.load (P:=Tryz.prog) bu (off:=0) (c:=3) rfl (by simp)
   have dI:=Nat.le_trans gL (nQ).next
   have Ej:=bn.trans ((nQ).stay oI hof gL)
   by_cases k1:0<last.2
   ·have HF:(0:Int)<(last.2:Int):=by omega
    by_cases k2:258+rows.length<4096
    ·have J2:(258:Int)+(rows.length:Int)<4096:=by omega
     have dC:=ar.spare s2 1
     have hqS:=Bq.keeps dC
     have w1S:=hqS.load (P:=Tryz.prog) bu (off:=1) (c:=3) rfl (by simp)
     have w0S:=hqS.load (P:=Tryz.prog) bu (off:=0) (c:=3) rfl (by simp)
     have g3S:=((iu).cJ.keeps dC).load (P:=Tryz.prog) zD (off:=3) (c:=8) rfl (by simp)
     simp only[aj,ak,QS,Qx,↓reduceIte,hn,h5,h6,i1,w1,eq_true HF,eq_true J2]
     refine cX.zd 1 (by kernel_rfl) (by kernel_rfl) ?_
     simp(disch:=omega)only[aj,ak,ae,QS,Qx,↓reduceIte,hn,h0,h6,i0,i1,w0S,w1S,qv,g3S,(iu).rows.self,Mg,Ei,Pf,aD]
     refine iE (base:=(s2).next) (by rfl) (by rw[bU];omega) (Nat.le_refl _) ?_
     intro bs t2 oA qN aR m8 _
     have dE:=(ar.spare s2 1).trans aR
     simp(disch:=omega)only[aj,aa,QS,Qx,↓reduceIte,hn]
     refine kH Tryz.underlying121 Tryz.underlying121 (.inl ⟨_,rfl⟩) fF Pe tP rfl ((iu).rows.keeps dE) oA.aG.src rfl (by decide) rfl (by omega) (by omega) (iu).rf (by have:=dE.next;omega) ?_
     intro r3 t3 A8 hF3 bC jM JC
     have F5:=((iu).cJ.keeps dE).turns jM (iu).rj
     simp(disch:=omega)only[aj,QS,Qx,↓reduceIte,hn,qv]
     refine nh zC F5 rfl (by simp) A8.aG.aL ?_
     intro s4 gv vY vh
     have e1:lM rows++[.int .i64 (last.1:Nat),.int .i64 ((last.2:Int)+1)]=lM (rows++[(last.1,last.2+1)]):=by rw[tL];rfl
     have e2:rows.length+1=(rows++[(last.1,last.2+1)]).length:=by simp
     rw[e1,e2] at A8
     obtain⟨yE,dX⟩:=(iu).more dI dE A8 hF3 jM JC gv vY vh
     simp only[aj,al,oneOf,QS,Qx,↓reduceIte,hn,Tryz.results107]
     exact mJ.put hX hX0 Xq (by rw[Eh l2 l1,<-l3]) hT hL (Ej.trans dX) (rv' :=r3) (by unfold rowsOf;rw[if_pos ⟨k1,k2⟩];exact yE) hP
    ·have J2:¬(258:Int)+(rows.length:Int)<4096:=by omega
     simp only[aj,ak,al,oneOf,QS,Qx,↓reduceIte,hn,h5,h6,i1,w1,eq_true HF,eq_false J2,Tryz.results107]
     exact mJ.put hX hX0 Xq (by rw[Eh l2 l1,<-l3]) hT hL Ej (rv' :=rv) (by unfold rowsOf;rw[if_neg (fun q=>k2 q.2)];exact iu) hP
   ·have HF:¬(0:Int)<(last.2:Int):=by omega
    simp only[aj,ak,al,oneOf,QS,Qx,↓reduceIte,undef,hn,h6,i1,w1,eq_false HF,Tryz.results107]
    exact mJ.put hX hX0 Xq (by rw[Eh l2 l1,<-l3]) hT hL Ej (rv' :=rv) (by unfold rowsOf;rw[if_neg (fun q=>k1 q.1)];exact iu) hP
 have D3:¬(c:Int)=(258:Int)+(rows.length:Int):=by omega
 by_cases c4:c<256
 ·have Y4:(c:Int)<256:=by omega
  have hX:rowOf T L c=some [UInt8.ofNat c]:=by
   unfold rowOf
   rw[if_pos c4]
  simp only[aj,ak,aa,QS,Qx,↓reduceIte,undef,hn,h0,h1,eq_false uE,eq_false D3,eq_true Y4]
  refine(Pd lV base s1 j bv rv ov b p most rows last out c pH gL c4 (by omega)).mono ?_
  rintro v s2 ⟨ov2,acB,TF,iu,nQ,hP⟩
  refine px (fun f=>f.n=96/\f.get 0=wg j/\f.get 5= .int .i64 ((258:Int)+(rows.length:Int))/\f.get 6= .pointer (some ⟨q,0,some 3⟩)) ⟨by simp only[ag,hn],by first|simp only[ad,↓reduceIte,Qx,h0]|simp only[ad,ag,↓reduceIte,Qx],by first|simp only[ad,ag,↓reduceIte,Qx,h5]|simp only[ad,↓reduceIte,Qx],by first|simp only[ad,ag,↓reduceIte,Qx,h6]|simp only[ad,↓reduceIte,Qx]⟩ ?_
  rintro f ⟨hn,h0,h5,h6⟩
  have Xr:bZ v v=true:=by rcases hP with ⟨e,_⟩|⟨e,_⟩<;>(rw[e];exact cF _ _)
  have Bq:=tO wi nQ Nm hqo
  have w1:=Bq.load (P:=Tryz.prog) bu (off:=1) (c:=3) rfl (by simp)
  have w0:=Bq.load (P:=Tryz.prog) bu (off:=0) (c:=3) rfl (by simp)
  have dI:=Nat.le_trans gL (nQ).next
  have Ej:=bn.trans ((nQ).stay oI hof gL)
  by_cases k1:0<last.2
  ·have HF:(0:Int)<(last.2:Int):=by omega
   by_cases k2:258+rows.length<4096
   ·have J2:(258:Int)+(rows.length:Int)<4096:=by omega
    have dC:=ar.spare s2 1
    have hqS:=Bq.keeps dC
    have w1S:=hqS.load (P:=Tryz.prog) bu (off:=1) (c:=3) rfl (by simp)
    have w0S:=hqS.load (P:=Tryz.prog) bu (off:=0) (c:=3) rfl (by simp)
    have g3S:=((iu).cJ.keeps dC).load (P:=Tryz.prog) zD (off:=3) (c:=8) rfl (by simp)
    simp only[aj,ak,QS,Qx,↓reduceIte,hn,h5,h6,i1,w1,eq_true HF,eq_true J2]
    refine cX.zd 1 (by kernel_rfl) (by kernel_rfl) ?_
    simp(disch:=omega)only[aj,ak,ae,QS,Qx,↓reduceIte,hn,h0,h6,i0,i1,w0S,w1S,qv,g3S,(iu).rows.self,Mg,Ei,Pf,aD]
    refine iE (base:=(s2).next) (by rfl) (by rw[bU];omega) (Nat.le_refl _) ?_
    intro bs t2 oA qN aR m8 _
    have dE:=(ar.spare s2 1).trans aR
    simp(disch:=omega)only[aj,aa,QS,Qx,↓reduceIte,hn]
    refine kH Tryz.underlying121 Tryz.underlying121 (.inl ⟨_,rfl⟩) fF Pe tP rfl ((iu).rows.keeps dE) oA.aG.src rfl (by decide) rfl (by omega) (by omega) (iu).rf (by have:=dE.next;omega) ?_
    intro r3 t3 A8 hF3 bC jM JC
    have F5:=((iu).cJ.keeps dE).turns jM (iu).rj
    simp(disch:=omega)only[aj,QS,Qx,↓reduceIte,hn,qv]
    refine nh zC F5 rfl (by simp) A8.aG.aL ?_
    intro s4 gv vY vh
    have e1:lM rows++[.int .i64 (last.1:Nat),.int .i64 ((last.2:Int)+1)]=lM (rows++[(last.1,last.2+1)]):=by rw[tL];rfl
    have e2:rows.length+1=(rows++[(last.1,last.2+1)]).length:=by simp
    rw[e1,e2] at A8
    obtain⟨yE,dX⟩:=(iu).more dI dE A8 hF3 jM JC gv vY vh
    simp only[aj,al,oneOf,QS,Qx,↓reduceIte,hn,Tryz.results107]
    exact mJ.put hX (by simp) rfl rfl hT hL (Ej.trans dX) (rv' :=r3) (by unfold rowsOf;rw[if_pos ⟨k1,k2⟩];exact yE) hP
   ·have J2:¬(258:Int)+(rows.length:Int)<4096:=by omega
    simp only[aj,ak,al,oneOf,QS,Qx,↓reduceIte,hn,h5,h6,i1,w1,eq_true HF,eq_false J2,Tryz.results107]
    exact mJ.put hX (by simp) rfl rfl hT hL Ej (rv' :=rv) (by unfold rowsOf;rw[if_neg (fun q=>k2 q.2)];exact iu) hP
  ·have HF:¬(0:Int)<(last.2:Int):=by omega
   simp only[aj,ak,al,oneOf,QS,Qx,↓reduceIte,undef,hn,h6,i1,w1,eq_false HF,Tryz.results107]
   exact mJ.put hX (by simp) rfl rfl hT hL Ej (rv' :=rv) (by unfold rowsOf;rw[if_neg (fun q=>k1 q.1)];exact iu) hP
 have Y4:¬(c:Int)<256:=by omega
 by_cases c3:last.2=0
 ·have L1:(last.2:Int)=0:=by omega
  simp only[aj,ak,al,oneOf,QS,Qx,↓reduceIte,undef,hn,h1,eq_false uE,eq_false D3,eq_true L1,eq_false Y4,i1,w1,Tryz.results107]
  have TH:rowOf T L c=none:=by
   unfold rowOf
   rw[if_neg (by omega),if_pos (hLz.mp c3)]
  refine⟨bn,?_⟩;rw[TH]
 ·have L1:¬(last.2:Int)=0:=by omega
  have hci:c-258<rows.length:=by omega
  obtain⟨y,hy⟩:∃y,rows[c-258]?=some y:=⟨_,List.getElem?_eq_getElem hci⟩
  obtain⟨y1,y2,y3⟩:=hT.2 _ _ hy
  have hX:rowOf T L c=some ((out.drop y.1).take y.2):=by
   unfold rowOf
   rw[if_neg (by omega),if_neg (fun e=>c3 (hLz.mpr e)),if_neg (by omega),y3]
  have Xq:((out.drop y.1).take y.2).length=y.2:=by rw[List.length_take,List.length_drop];omega
  have hX0:(out.drop y.1).take y.2≠[]:=by intro e;rw[e] at Xq;simp at Xq;omega
  have g3:=pH.cJ.load (P:=Tryz.prog) zD (off:=3) (c:=8) rfl (by simp)
  have mY:=pH.rows.aG.indexAddr (k:= .i64) (x:=((c:Int)-258)) Tryz.underlying121 fF (by omega) (by omega)
  rw[show((c:Int)-258).toNat=c-258 by omega] at mY
  have hj0:bT Tryz.prog 122 (bc (1+1) rv (c-258)) (.int .i64 0)=some (b6 (bc (1+1) rv (c-258)) 0):=pH.rows.aG.Xj Tryz.underlying122 bA (k:=0) hci (by omega) .i64
  have Xs:bT Tryz.prog 122 (bc (1+1) rv (c-258)) (.int .i64 1)=some (b6 (bc (1+1) rv (c-258)) 1):=pH.rows.aG.Xj Tryz.underlying122 bA (k:=1) hci (by omega) .i64
  have kW:aJ Tryz.prog s1 3 (b6 (bc (1+1) rv (c-258)) 0)=some (.int .i64 (y.1:Nat)):=by
   have:=pH.rows.aG.lB (P:=Tryz.prog) bu (j:=0) hci (by omega)
   rw[Md hy] at this;exact this
  have jn:aJ Tryz.prog s1 3 (b6 (bc (1+1) rv (c-258)) 1)=some (.int .i64 (y.2:Nat)):=by
   have:=pH.rows.aG.lB (P:=Tryz.prog) bu (j:=1) hci (by omega)
   rw[Me hy] at this;exact this
  simp only[aj,ak,QS,Qx,↓reduceIte,undef,hn,h1,eq_false uE,eq_false D3,eq_false L1,eq_false Y4,i1,w1]
  refine cX.vK (by kernel_rfl) ?_
  simp(disch:=omega)only[aj,ak,aa,QS,Qx,Nat.reduceAdd,↓reduceIte,hn,h0,h1,qv,g3,pH.rows.self,aD,mY,hj0,Xs,vH,kW,jn]
  refine(HH kr base s1 j bv rv ov b p most rows last out y.1 y.2 pH gL (by omega) y1 (by omega)).mono ?_
  rintro v s2 ⟨ov2,acB,TF,iu,nQ,hP⟩
  refine FC (fun f=>f.n=96/\f.get 0=wg j/\f.get 5= .int .i64 ((258:Int)+(rows.length:Int))/\f.get 6= .pointer (some ⟨q,0,some 3⟩)) ⟨by simp only[ag,hn],by first|simp only[ad,↓reduceIte,Qx,h0]|simp only[ad,ag,↓reduceIte,Qx],by first|simp only[ad,ag,↓reduceIte,Qx,h5]|simp only[ad,↓reduceIte,Qx],by first|simp only[ad,ag,↓reduceIte,Qx,h6]|simp only[ad,↓reduceIte,Qx]⟩ ?_
  rintro f ⟨hn,h0,h5,h6⟩
  have Xr:bZ v v=true:=by rcases hP with ⟨e,_⟩|⟨e,_⟩<;>(rw[e];exact cF _ _)
  have Bq:=tO wi nQ Nm hqo
  have w1:=Bq.load (P:=Tryz.prog) bu (off:=1) (c:=3) rfl (by simp)
  have w0:=Bq.load (P:=Tryz.prog) bu (off:=0) (c:=3) rfl (by simp)
  have dI:=Nat.le_trans gL (nQ).next
  have Ej:=bn.trans ((nQ).stay oI hof gL)
  by_cases k1:0<last.2
  ·have HF:(0:Int)<(last.2:Int):=by omega
   by_cases k2:258+rows.length<4096
   ·have J2:(258:Int)+(rows.length:Int)<4096:=by omega
    have dC:=ar.spare s2 1
    have hqS:=Bq.keeps dC
    have w1S:=hqS.load (P:=Tryz.prog) bu (off:=1) (c:=3) rfl (by simp)
    have w0S:=hqS.load (P:=Tryz.prog) bu (off:=0) (c:=3) rfl (by simp)
    have g3S:=((iu).cJ.keeps dC).load (P:=Tryz.prog) zD (off:=3) (c:=8) rfl (by simp)
    simp only[aj,ak,QS,Qx,↓reduceIte,hn,h5,h6,Xr,i1,w1,eq_true HF,eq_true J2]
    refine cX.zd 1 (by kernel_rfl) (by kernel_rfl) ?_
    simp(disch:=omega)only[aj,ak,ae,QS,Qx,↓reduceIte,hn,h0,h6,i0,i1,w0S,w1S,qv,g3S,(iu).rows.self,Mg,Ei,Pf,aD]
    refine iE (base:=(s2).next) (by rfl) (by rw[bU];omega) (Nat.le_refl _) ?_
    intro bs t2 oA qN aR m8 _
    have dE:=(ar.spare s2 1).trans aR
    simp(disch:=omega)only[aj,aa,QS,Qx,↓reduceIte,hn]
    refine kH Tryz.underlying121 Tryz.underlying121 (.inl ⟨_,rfl⟩) fF Pe tP rfl ((iu).rows.keeps dE) oA.aG.src rfl (by decide) rfl (by omega) (by omega) (iu).rf (by have:=dE.next;omega) ?_
    intro r3 t3 A8 hF3 bC jM JC
    have F5:=((iu).cJ.keeps dE).turns jM (iu).rj
    simp(disch:=omega)only[aj,QS,Qx,↓reduceIte,hn,qv]
    refine nh zC F5 rfl (by simp) A8.aG.aL ?_
    intro s4 gv vY vh
    have e1:lM rows++[.int .i64 (last.1:Nat),.int .i64 ((last.2:Int)+1)]=lM (rows++[(last.1,last.2+1)]):=by rw[tL];rfl
    have e2:rows.length+1=(rows++[(last.1,last.2+1)]).length:=by simp
    rw[e1,e2] at A8
    obtain⟨yE,dX⟩:=(iu).more dI dE A8 hF3 jM JC gv vY vh
    simp only[aj,al,oneOf,QS,Qx,↓reduceIte,hn,Tryz.results107]
    exact mJ.put hX hX0 Xq (by rw[Eg _ y2]) hT hL (Ej.trans dX) (rv' :=r3) (by unfold rowsOf;rw[if_pos ⟨k1,k2⟩];exact yE) hP
   ·have J2:¬(258:Int)+(rows.length:Int)<4096:=by omega
    simp only[aj,ak,al,oneOf,QS,Qx,↓reduceIte,hn,h5,h6,Xr,i1,w1,eq_true HF,eq_false J2,Tryz.results107]
    exact mJ.put hX hX0 Xq (by rw[Eg _ y2]) hT hL Ej (rv' :=rv) (by unfold rowsOf;rw[if_neg (fun q=>k2 q.2)];exact iu) hP
  ·have HF:¬(0:Int)<(last.2:Int):=by omega
   simp only[aj,ak,al,oneOf,QS,Qx,↓reduceIte,undef,hn,h6,Xr,i1,w1,eq_false HF,Tryz.results107]
   exact mJ.put hX hX0 Xq (by rw[Eg _ y2]) hT hL Ej (rv' :=rv) (by unfold rowsOf;rw[if_neg (fun q=>k1 q.1)];exact iu) hP
end Go.Proofs.YtdfjfncifneocaaGreat
namespace Go.Proofs.YtdfjfncifneocaaGreat
open Go.Cl
def tQ (base:Nat)(s:aq)(l:List UInt8)(bad:Int)(v:Value)(s' :aq):Prop:=
 ∃B,v= .tuple #[B,.int .i64 bad]/\Own s' 1 B l.length (ofBytes l)/\aF base B/\ar base s s'
end Go.Proofs.YtdfjfncifneocaaGreat
namespace Go.Cl.Lz
structure Rd (m:Nat) (T:List (List UInt8)) (L out:List UInt8):Prop where
 rows:∀r∈T,r.length<=m
 last:L.length<=m
 out:out.length<=m*m
theorem Rd.row {m:Nat}{T:List (List UInt8)}{L out:List UInt8}(h:Rd m T L out){c:Nat}{x:List UInt8}(hx:rowOf T L c=some x):Rd (m+1) (grow T L x) x (out++x)/\x≠[]\/x=[]:=by
 by_cases Bo:x=[]
 ·exact .inr Bo
 refine .inl ⟨?_,Bo⟩
 have uM:x.length<=m+1:=by
  unfold rowOf at hx
  split at hx
  ·injection hx with hx;subst hx;simp
  ·split at hx
   ·cases hx
   ·split at hx
    ·injection hx with hx;subst hx
     have:=h.last
     rw[List.length_append,List.length_take];omega
    ·have:=h.rows x (List.mem_of_getElem? hx);omega
 have hm:(m+1)*(m+1)=m*m+m+m+1:=by rw[Nat.add_mul,Nat.mul_add];omega
 refine⟨fun r hr=> ?_,uM,by have:=h.out;rw[List.length_append,hm];omega⟩
 unfold grow at hr
 split at hr
 ·rcases List.mem_append.mp hr with hr|hr
  ·have:=h.rows r hr;omega
  ·rw[List.mem_singleton] at hr;subst hr
   have:=h.last
   rw[List.length_append,List.length_take];omega
 ·have:=h.rows r hr;omega
theorem aaQ {T:List (List UInt8)}(h:T.length<=3838)(L x:List UInt8):(grow T L x).length<=3838:=by
 unfold grow
 split
 ·rename_i q;rw[List.length_append,List.length_singleton];omega
 ·exact h
theorem Xt {out:List UInt8}{rows:List (Nat×Nat)}{T:List (List UInt8)}{L x:List UInt8}{c:Nat}(h:tN out rows T)(hr:rowOf T L c=some x):x≠[]:=by
 unfold rowOf at hr
 split at hr
 ·injection hr with hr;subst hr;simp
 ·split at hr
  ·cases hr
  ·rename_i hL
   split at hr
   ·injection hr with hr;subst hr
    intro e
    exact hL (List.append_eq_nil_iff.mp e).1
   ·have hi:c-258<T.length:=(List.getElem?_eq_some_iff.mp hr).1
    have Ki:c-258<rows.length:=by rw[h.1];exact hi
    obtain⟨a,b,d⟩:=h.2 _ _ (List.getElem?_eq_getElem Ki)
    rw[hr] at d
    injection d with d
    intro e
    have:=congrArg List.length d
    rw[e,List.length_take,List.length_drop,List.length_nil] at this
    omega
end Go.Cl.Lz
namespace Go.Proofs.YtdfjfncifneocaaGreat
open Go.Cl Go.Cl.Lz Go.Cl.Rw
theorem Pg {x:Value}(hx:aL x=true)(m:Int):cC Tryz.prog 124 [(0,x),(2,.int .i64 m)]=some (.agg #[x,.int .i64 0,.int .i64 m,.slice none 0 0,.int .i64 0,.int .i64 0,.slice none 0 0]):=by
 unfold cC;rw[Tryz.underlying124]
 have hz:bV Tryz.prog 124=some (.agg #[.slice none 0 0,.int .i64 0,.int .i64 0,.slice none 0 0,.int .i64 0,.int .i64 0,.slice none 0 0]):=by kernel_rfl
 rw[hz]
 have hc:=Mc hx
 have kY:x.cells= #[x]:=by rw[<-Array.toList_inj,hc]
 have ci:∀k n,(Value.int k n).cells= #[.int k n]:=fun _ _=>rfl
 simp[fT,bA,zC,fF,bN,gQ,fG,placeOf,bS,setAt,kY,ci]
theorem Re (a b:Value):ba (.tuple #[a,b]) 0=some a:=rfl
theorem Rf (a b:Value):ba (.tuple #[a,b]) 1=some b:=rfl
theorem aiJ:cC Tryz.prog 122 []=some (.agg #[.int .i64 0,.int .i64 0]):=by kernel_rfl
theorem Ph {lib:aA}(hl:lib.at 66=none)(jL:lib.at 106=none)(Kf:lib.at 152=none)(KM:lib.at 107=none)(kr:lib.at 154=none)(lV:lib.at 153=none)
  (s:aq) (x:Value) (b:List UInt8) (most:Int) (hx:aN s 1 x b.length (ofBytes b)) (hb:b.length<=4000000) (hbd:most<=20000000\/b.length<=5000):
  Runs Tryz.prog lib 66 [x,.int .i64 most] s (tQ s.next s (vi b most.toNat).2 (vi b most.toNat).1):=by
 obtain⟨base,zU⟩:∃base,base=s.next:=⟨_,rfl⟩
 obtain⟨R,hR⟩:∃R,R=vi b most.toNat:=⟨_,rfl⟩
 rw[<-hR]
 have Bo:Br base s 1 x b.length (ofBytes b):=by rw[zU];exact hx.low
 refine Runs.enter 46 Tryz.func66 rfl hl rfl rfl ?_
 intro f hn hf
 have h0:f.get 0=x:=hf 0
 have h1:f.get 1= .int .i64 most:=hf 1
 clear hf
 simp only[aj,ae,QS,Qx,↓reduceIte,hn,h0,h1,Pg hx.aL]
 refine aw ?_
 intro s1 wi bn iV
 obtain⟨j,hj⟩:∃j,j=s.next:=⟨_,rfl⟩
 rw[<-hj] at wi
 have gL:base<=s1.next:=by omega
 have pH:lN base s1 j x (.slice none 0 0) (.slice none 0 0) b 0 most [] (0,0) []:=⟨wi,Bo.stay (by rw[zU];exact bn),.nil,aF.nil _,(fun e=>by cases e),.nil,aF.nil _,(fun e=>by cases e),(fun k e=>by cases e),by omega⟩
 simp only[aj,QS,Nat.reduceAdd,↓reduceIte,hn,List.length_cons,List.length_nil]
 rw[<-hj]
 refine Comes.eZ (fun z f s' =>∃(p m:Nat) (T:List (List UInt8)) (L out:List UInt8) (rows:List (Nat×Nat)) (last:Nat×Nat) (rv ov:Value),lN base s' j x rv ov b p most rows last out/\tN out rows T/\rD out last L/\T.length<=3838/\Rd m T L out/\9*m<=p/\(out=[]\/(out.length:Int)<=most)/\p<=8*b.length/\8*b.length<p+z/\dec b most.toNat z p T L out=R/\ar base s s' /\f.n=46/\f.get 6=wg j)
  ⟨0,0,[],[],[],[],(0,0),_,_,pH,⟨rfl,fun i q h=>by simp at h⟩,.inl ⟨rfl,rfl⟩,by simp,⟨fun r h=>by simp at h,by simp,by simp⟩,by omega,.inl rfl,by omega,(show 8*b.length<0+(8*b.length+1) by omega),hR.symm,by rw[zU];exact bn,by simp only[ad,ag,↓reduceIte,hn,and_self]⟩ ?_
 have Rg:j=base:=by omega
 clear hn h0 h1 f pH wi iV
 rintro z f s2 ⟨p,m,T,L,out,rows,last,rv,ov,hD,hT,hL,ZI,hS,hm,hmo,hp,hz,kP,aE,hn,h6⟩
 obtain⟨z,rfl⟩:∃y,z=y+1:=⟨z-1,by omega⟩
 have dI:base<=s2.next:=Nat.le_trans (by omega) aE.next
 have mO:rows.length=T.length:=hT.1
 have Bp:out.length<=20000000:=by
  rcases hbd with h|h
  ·rcases hmo with e|e
   ·rw[e];simp
   ·omega
  ·have h1:=hS.out
   have h2:m<=4444:=by omega
   have h3:m*m<=4444*4444:=Nat.mul_le_mul h2 h2
   omega
 obtain⟨w,hw⟩:∃w,w=width (258+T.length):=⟨_,rfl⟩
 have hw9:=kO (258+T.length)
 rw[<-hw] at hw9
 simp only[aj,ak,aa,QS,↓reduceIte,hn,h6]
 refine(Pb jL Kf base s2 j x rv ov b p most rows last out hD (by omega) hp (by omega)).mono ?_
 rw[mO,<-hw]
 rintro v s3 (⟨c1,rfl,rfl⟩|⟨c1,rfl,LZ,bC⟩)
 ·have gx:=nA (most:=most.toNat) (k:=z) (last:=L) (out:=out) (by rw[<-hw];exact c1)
  rw[gx] at kP
  have cH:¬(2:Int)=0:=by decide
  simp only[aj,ak,al,oneOf,QS,Qx,↓reduceIte,hn,Re,Rf,eq_false cH,Tryz.results66]
  rw[<-kP]
  exact⟨_,rfl,.nil,aF.nil _,by rw[Rg];exact aE⟩
 ·obtain⟨c,hc⟩:∃c,c=jE b p w:=⟨_,rfl⟩
  have TC:c<4096:=by
   rw[hc]
   have h1:=D8 b p w
   have h2:2^w<=2^12:=Nat.pow_le_pow_right (by omega) hw9.2
   omega
  rw[<-hc]
  have Mh:=aE.trans bC
  have sx:=Nat.le_trans dI bC.next
  refine px (fun f=>f.n=46/\f.get 6=wg j) ⟨by simp only[ag,hn],by first|simp only[ad,↓reduceIte,Qx,h6]|simp only[ad,ag,↓reduceIte,Qx]⟩ ?_
  rintro f ⟨hn,h6⟩
  by_cases k7:c=257
  ·have k7' :(c:Int)=257:=by omega
   have gx:=xR (most:=most.toNat) (k:=z) (last:=L) (out:=out) (by rw[<-hw];exact c1) (by rw[<-hw,<-hc];exact k7)
   rw[gx] at kP
   have g6:=LZ.cJ.load (P:=Tryz.prog) fU (off:=6) (c:=8) rfl (by simp)
   simp only[aj,ak,al,oneOf,QS,Qx,↓reduceIte,hn,h6,Re,Rf,eq_true k7',tM,g6,Tryz.results66]
   rw[<-kP]
   exact⟨ov,rfl,LZ.out,by rw[Rg];exact LZ.of,by rw[Rg];exact Mh⟩
  ·have k7' :¬(c:Int)=257:=by omega
   by_cases k6:c=256
   ·have k6' :(c:Int)=256:=by omega
    have gx:=zz (most:=most.toNat) (k:=z) (last:=L) (out:=out) (by rw[<-hw];exact c1) (by rw[<-hw,<-hc];exact k6)
    rw[gx,<-hw] at kP
    simp only[aj,ak,ae,QS,Qx,↓reduceIte,hn,h6,Re,Rf,eq_false k7',eq_true k6',aiJ,qv]
    refine aY zC LZ.cJ rfl (by simp) rfl ?_
    intro s4 gv vY vh
    have hD4:lN base s4 j x (.slice none 0 0) ov b (p+w) most [] last out:=⟨gv,LZ.b.stay (ar.aK vY vh LZ.lo),.nil,aF.nil _,(fun e=>by cases e),LZ.out.aK vY vh LZ.oj,LZ.of,LZ.oj,(fun k hk e=>by cases e),LZ.lo⟩
    simp only[aj,QS,Qx,↓reduceIte,hn,Mf]
    refine jO fF hD4.cJ rfl rfl rfl rfl (by simp) ?_
    intro s5 wE hn5 Nv
    have hD5:lN base s5 j x (.slice none 0 0) ov b (p+w) most [] (0,0) out:=hD4.put wE hn5 Nv
    simp only[aj,Qx,↓reduceIte]
    refine ay z (by omega) ⟨p+w,m,[],[],out,[],(0,0),_,_,hD5,⟨rfl,fun i q h=>by simp at h⟩,.inl ⟨rfl,rfl⟩,by simp,⟨fun r h=>by simp at h,by simp,hS.out⟩,by omega,hmo,by omega,by omega,kP,(Mh.trans (ar.aK vY vh LZ.lo)).trans (ar.aK hn5 Nv LZ.lo),by simp only[ad,ag,↓reduceIte,Qx,hn,h6,and_self]⟩
   ·have k6' :¬(c:Int)=256:=by omega
    have gx:=uh (most:=most.toNat) (k:=z) (last:=L) (out:=out) (by rw[<-hw];exact c1) (by rw[<-hw,<-hc]) k7 k6
    rw[gx] at kP
    simp only[aj,ak,aa,QS,Qx,↓reduceIte,hn,h6,Re,Rf,eq_false k7',eq_false k6']
    refine(TG KM kr lV base s3 j x rv ov b (p+w) most rows last out T L c LZ sx hT hL TC k6 k7 (by omega) Bp).mono ?_
    intro v s4 hO
    obtain⟨dX,hO⟩:=hO
    cases kp:rowOf T L c with
    |none=>
     rw[kp] at hO kP
     simp only at hO kP
     subst hO
     have cH:¬(4:Int)=0:=by decide
     simp only[aj,ak,al,oneOf,QS,Qx,↓reduceIte,hn,eq_false cH,Tryz.results66]
     rw[<-kP]
     exact⟨_,rfl,.nil,aF.nil _,by rw[Rg];exact Mh.trans dX⟩
    |some r=>
     rw[kp] at hO kP
     simp only at hO kP
     have hr0:=Xt hT kp
     have asW:=List.length_pos_iff.mpr hr0
     rcases hO with ⟨o1,rfl⟩|⟨o1,rfl,rv4,ov4,aiK,hD4,hT4⟩
     ·rw[if_pos (by omega)] at kP
      have cH:¬(7:Int)=0:=by decide
      simp only[aj,ak,al,oneOf,QS,Qx,↓reduceIte,hn,eq_false cH,Tryz.results66]
      rw[<-kP]
      exact⟨_,rfl,.nil,aF.nil _,by rw[Rg];exact Mh.trans dX⟩
     ·rw[if_neg (by omega),<-hw] at kP
      simp only[aj,ak,QS,↓reduceIte,hn]
      have hS4:=hS.row kp
      rcases hS4 with ⟨hS4,_⟩|e
      ·refine ay z (by omega) ⟨p+w,m+1,grow T L r,r,out++r,aiK,(out.length,r.length),rv4,ov4,hD4,hT4,rD.next out r hr0,aaQ ZI L r,hS4,by omega,.inr (by rw[List.length_append];exact o1),by omega,by omega,kP,Mh.trans dX,by simp only[ad,ag,↓reduceIte,Qx,hn,h6,and_self]⟩
      ·exact absurd e hr0
end Go.Proofs.YtdfjfncifneocaaGreat
namespace Go.Proofs.YtdfjfncifneocaaGreat
open Go.Cl
def jG (base:Nat)(s:aq)(i:Nat)(l:List UInt8)(p:Nat):Prop:=
 ∃b,ax s i [b,.int .i64 p]/\Br base s 1 b l.length (ofBytes l)/\base<=i/\p<=l.length
def Mi (base:Nat)(s:aq)(i:Nat)(b:Value)(l:List UInt8)(p:Nat):Prop:=
 ax s i [b,.int .i64 p]/\Br base s 1 b l.length (ofBytes l)/\base<=i/\p<=l.length
theorem jG.keeps {base:Nat}{s s' :aq}{i:Nat}{l:List UInt8}{p:Nat}(h:jG base s i l p)(hb:base<=s.next)(k:ar s.next s s'):jG base s' i l p:=by
 obtain⟨b,h1,h2,h3,h4⟩:=h
 exact⟨b,h1.keeps k,h2.stay (k.weaken hb),h3,h4⟩
theorem jG.turns {base:Nat}{s s' :aq}{i:Nat}{l:List UInt8}{p:Nat}(h:jG base s i l p){v:Value}(hb:base<=s.next)(hf:aF base v)(k:bt v s s')(cH:aI v≠some i):jG base s' i l p:=by
 obtain⟨b,h1,h2,h3,h4⟩:=h
 exact⟨b,h1.turns k cH,h2.stay (k.keeps hf hb),h3,h4⟩
abbrev gm (i:Nat):Value:= .pointer (some ⟨i,0,some 3⟩)
theorem da {base i:Nat}(h:base<=i):aF base (gm i):=fun j hj=>by
 have:some i=some j:=hj
 injection this with this;omega
theorem eD {i j:Nat}(h:i≠j):aI (gm i)≠some j:=fun e=>by
 have:some i=some j:=e
 injection this with this;exact h this
theorem Mj (i o c:Nat):au Tryz.prog 173 (.pointer (some ⟨i,o,some c⟩)) 0=some (.pointer (some ⟨i,o+0,some c⟩)):=by
 unfold au;rw[Tryz.underlying173];simp[fT]
theorem HI (i o c:Nat):au Tryz.prog 173 (.pointer (some ⟨i,o,some c⟩)) 1=some (.pointer (some ⟨i,o+1,some c⟩)):=by
 unfold au;rw[Tryz.underlying173];simp[bA]
theorem aaR {v:Value}(hv:v.cells.toList=[v]):cC Tryz.prog 173 [(0,v)]=some (.agg #[v,.int .i64 0]):=by
 unfold cC;rw[Tryz.underlying173]
 have hz:bV Tryz.prog 173=some (.agg #[.slice none 0 0,.int .i64 0]):=by kernel_rfl
 rw[hz]
 simp only[fG,placeOf,hv]
 simp[fT,bA,bN,gQ,bS,setAt]
theorem JD {lib:aA}(hl:lib.at 100=none)(base:Nat)(s:aq)(x:Value)(l:List UInt8)(hx:Br base s 1 x l.length (ofBytes l))(hb:base<=s.next):
  Runs Tryz.prog lib 100 [x] s fun v s' =>v=gm s.next/\jG base s' s.next l 0/\ar s.next s s' /\s'.next=s.next+1:=by
 refine Runs.enter 11 Tryz.func100 rfl hl rfl rfl ?_
 intro f hn hf
 have h0:f.get 0=x:=hf 0
 clear hf
 obtain⟨v',hv,sZ⟩:=hx.aG.full Tryz.underlying22 bK .i64 .i64
 simp only[aj,aa,ae,ai,QS,Qx,↓reduceIte,hn,h0,hx.aG.bm Tryz.underlying22,hv,aaR (sZ _ hx.aG).tk]
 refine aw ?_
 intro s1 ht aE xG
 simp only[aj,al,oneOf,QS,Nat.reduceAdd,↓reduceIte,hn,Tryz.results100,List.length_cons,List.length_nil]
 exact⟨⟨v',ht,fun s' k=>sZ s' (hx s' ((aE.weaken hb).trans k)),hb,by omega⟩,aE,xG⟩
theorem BG {lib:aA}(hl:lib.at 105=none)(base:Nat)(s:aq)(i:Nat)(l:List UInt8)(p:Nat)(hc:jG base s i l p):
  Runs Tryz.prog lib 105 [gm i] s fun v s' =>v= .int .i64 p/\s' =s:=by
 obtain⟨b,ht,oH,hi,hp⟩:=hc
 refine Runs.enter 9 Tryz.func105 rfl hl rfl rfl ?_
 intro f hn hf
 have h0:f.get 0=gm i:=hf 0
 clear hf
 have l1:=ht.load (P:=Tryz.prog) bu (off:=1) (c:=3) rfl (by simp)
 simp only[aj,ak,al,oneOf,QS,Qx,↓reduceIte,hn,h0,cY Tryz.underlying112,HI,l1,Tryz.results105]
theorem aaS {lib:aA}(hl:lib.at 209=none)(base:Nat)(s:aq)(i:Nat)(l:List UInt8)(p:Nat)(hc:jG base s i l p):
  Runs Tryz.prog lib 209 [gm i] s fun v s' =>v= .int .i64 l.length/\s' =s:=by
 obtain⟨b,ht,oH,hi,hp⟩:=hc
 refine Runs.enter 10 Tryz.func209 rfl hl rfl rfl ?_
 intro f hn hf
 have h0:f.get 0=gm i:=hf 0
 clear hf
 have l0:=ht.load (P:=Tryz.prog) fU (off:=0) (c:=3) rfl (by simp)
 simp only[aj,ak,al,oneOf,aa,QS,Qx,↓reduceIte,hn,h0,cY Tryz.underlying112,Mj,l0,oH.aG.bm Tryz.underlying22,Tryz.results209]
theorem Ek {lib:aA}(hl:lib.at 186=none)(jn:lib.at 209=none)(g7:lib.at 105=none)(base:Nat)(s:aq)(i:Nat)(l:List UInt8)(p:Nat)(hc:jG base s i l p)(hlen:l.length<=4294967296):
  Runs Tryz.prog lib 186 [gm i] s fun v s' =>v= .int .i64 (l.length-p:Nat)/\s' =s:=by
 refine Runs.enter 8 Tryz.func186 rfl hl rfl rfl ?_
 intro f hn hf
 have h0:f.get 0=gm i:=hf 0
 clear hf
 have hp:p<=l.length:=hc.choose_spec.2.2.2
 simp only[aj,ak,aa,QS,Qx,↓reduceIte,hn,h0]
 refine(aaS jn base s i l p hc).mono ?_
 rintro _ s ⟨rfl,rfl⟩
 simp only[aj,ak,aa,QS,Qx,↓reduceIte,hn,h0]
 refine(BG g7 base s i l p hc).mono ?_
 rintro _ s ⟨rfl,rfl⟩
 have e:(l.length:Int)-p=((l.length-p:Nat):Int):=by omega
 simp(disch:=omega)only[aj,al,oneOf,QS,Qx,↓reduceIte,hn,aD,e,Tryz.results186]
def fc (l:List UInt8)(k:Int):Int:=if 0<=k/\k<l.length then((l.getD k.toNat 0).toNat:Int) else-1
theorem TI {lib:aA}(hl:lib.at 192=none)(kW:lib.at 186=none)(jn:lib.at 209=none)(g7:lib.at 105=none)(base:Nat)(s:aq)(i:Nat)(l:List UInt8)(p:Nat)(k:Int)(hc:jG base s i l p)(hlen:l.length<=4294967296):
  Runs Tryz.prog lib 192 [gm i,.int .i64 k] s fun v s' =>v= .int .i64 (fc l (p+k))/\s' =s:=by
 refine Runs.enter 29 Tryz.func192 rfl hl rfl rfl ?_
 intro f hn hf
 have h0:f.get 0=gm i:=hf 0
 have h1:f.get 1= .int .i64 k:=hf 1
 clear hf
 have hp:p<=l.length:=hc.choose_spec.2.2.2
 simp only[aj,ak,aa,QS,Qx,↓reduceIte,hn,h0,h1]
 refine(Ek kW jn g7 base s i l p hc hlen).mono ?_
 rintro _ s ⟨rfl,rfl⟩
 by_cases c1:((l.length-p:Nat):Int)<=k
 ·have hb:fc l (p+k)= -1:=by unfold fc;rw[if_neg (by omega)]
  simp only[aj,ak,al,oneOf,QS,Qx,↓reduceIte,hn,c1,hb,Tryz.results192]
 ·simp only[aj,ak,aa,QS,Qx,↓reduceIte,hn,h0,h1,c1]
  refine(BG g7 base s i l p hc).mono ?_
  rintro _ s ⟨rfl,rfl⟩
  by_cases c2:k<0-(p:Int)
  ·have hb:fc l (p+k)= -1:=by unfold fc;rw[if_neg (by omega)]
   simp(disch:=omega)only[aj,ak,al,oneOf,QS,Qx,↓reduceIte,hn,aD,c2,hb,Tryz.results192]
  ·have hb:fc l (p+k)=((l.getD ((p:Int)+k).toNat 0).toNat:Int):=by unfold fc;rw[if_pos (by omega)]
   obtain⟨b,ht,oH,hi,_⟩:=hc
   have l0:=ht.load (P:=Tryz.prog) fU (off:=0) (c:=3) rfl (by simp)
   have l1:=ht.load (P:=Tryz.prog) bu (off:=1) (c:=3) rfl (by simp)
   have hb8:=(l.getD ((p:Int)+k).toNat 0).toNat_lt
   simp(disch:=omega)only[aj,ak,al,oneOf,QS,Qx,↓reduceIte,hn,h0,h1,aD,c2,hb,Mj,HI,l0,l1,oH.aG.indexAddr Tryz.underlying22 bK,oH.aG.di kI,bw,oH.aG.self,bL Tryz.underlying5 Tryz.underlying3,Tryz.underlying3,Tryz.results192]
theorem aeG {lib:aA}(hl:lib.at 155=none)(kr:lib.at 192=none)(kW:lib.at 186=none)(jn:lib.at 209=none)(g7:lib.at 105=none)(base:Nat)(s:aq)(i:Nat)(b:Value)(l:List UInt8)(p:Nat)(hc:Mi base s i b l p)(hb:base<=s.next)(hlen:l.length<=4294967296):
  Runs Tryz.prog lib 155 [gm i] s fun v s' =>v= .int .i64 (fc l p)/\Mi base s' i b l (min (p+1) l.length)/\bt (gm i) s s' :=by
 refine Runs.enter 16 Tryz.func155 rfl hl rfl rfl ?_
 intro f hn hf
 have h0:f.get 0=gm i:=hf 0
 clear hf
 have hp:p<=l.length:=hc.2.2.2
 simp only[aj,ak,aa,QS,Qx,↓reduceIte,hn,h0]
 refine(TI kr kW jn g7 base s i l p 0 ⟨b,hc⟩ hlen).mono ?_
 rintro _ s ⟨rfl,rfl⟩
 rw[Int.add_zero]
 by_cases c:p<l.length
 ·have hv:0<=fc l p:=by unfold fc;rw[if_pos (by omega)];omega
  obtain⟨ht,oH,hi,_⟩:=hc
  have l1:=ht.load (P:=Tryz.prog) bu (off:=1) (c:=3) rfl (by simp)
  simp(disch:=omega)only[aj,ak,QS,Qx,↓reduceIte,hn,h0,hv,HI,l1,aD]
  refine aY bA ht rfl (by simp) rfl ?_
  intro s1 eK g8 bn
  simp(disch:=omega)only[aj,al,oneOf,QS,Qx,↓reduceIte,hn,Tryz.results155]
  refine⟨⟨?_,oH.stay (ar.aK g8 bn hi),hi,by omega⟩,bt.aK g8 bn⟩
  rw[Nat.min_eq_left (by omega)];exact eK
 ·have hv:¬0<=fc l p:=by unfold fc;rw[if_neg (by omega)];omega
  obtain rfl:p=l.length:=by omega
  simp only[aj,al,oneOf,QS,Qx,↓reduceIte,hn,hv,Tryz.results155]
  rw[Nat.min_eq_right (by omega)]
  exact⟨hc,Nat.le_refl _,fun _ _ _=>rfl⟩
theorem yd {lib:aA}(hl:lib.at 155=none)(kr:lib.at 192=none)(kW:lib.at 186=none)(jn:lib.at 209=none)(g7:lib.at 105=none)(base:Nat)(s:aq)(i:Nat)(l:List UInt8)(p:Nat)(hc:jG base s i l p)(hb:base<=s.next)(hlen:l.length<=4294967296):
  Runs Tryz.prog lib 155 [gm i] s fun v s' =>v= .int .i64 (fc l p)/\jG base s' i l (min (p+1) l.length)/\bt (gm i) s s' :=by
 obtain⟨b,hc⟩:=hc
 refine(aeG hl kr kW jn g7 base s i b l p hc hb hlen).mono ?_
 rintro v s' ⟨h1,h2,h3⟩
 exact⟨h1,⟨b,h2⟩,h3⟩
end Go.Proofs.YtdfjfncifneocaaGreat
namespace Go.Proofs.YtdfjfncifneocaaGreat
open Go.Cl Go.Cl.Hx
def fZ (c:Int):Bool:=decide (c=0\/c=9\/c=10\/c=12\/c=13\/c=32)
def digit (c:Int):Int:=if 48<=c/\c<=57 then c-48 else if 97<=c/\c<=102 then c-97+10 else if 65<=c/\c<=70 then c-65+10 else-1
theorem TJ {lib:aA}(hl:lib.at 156=none)(s:aq)(c:Int):
  Runs Tryz.prog lib 156 [.int .i64 c] s fun v s' =>v= .bool (fZ c)/\s' =s:=by
 refine Runs.enter 25 Tryz.func156 rfl hl rfl rfl ?_
 intro f hn hf
 have h0:f.get 0= .int .i64 c:=hf 0
 clear hf
 by_cases c0:c=0
 ·have hw:fZ c=true:=by unfold fZ;simp[c0]
  simp only[aj,ak,al,oneOf,QS,Qx,↓reduceIte,hn,h0,eq_true c0,hw,Tryz.results156]
 ·by_cases c1:c=9
  ·have hw:fZ c=true:=by unfold fZ;simp[c1]
   simp only[aj,ak,al,oneOf,QS,Qx,↓reduceIte,hn,h0,c0,eq_true c1,hw,Tryz.results156]
  ·by_cases c2:c=10
   ·have hw:fZ c=true:=by unfold fZ;simp[c2]
    simp only[aj,ak,al,oneOf,QS,Qx,↓reduceIte,hn,h0,c0,c1,eq_true c2,hw,Tryz.results156]
   ·by_cases c3:c=12
    ·have hw:fZ c=true:=by unfold fZ;simp[c3]
     simp only[aj,ak,al,oneOf,QS,Qx,↓reduceIte,hn,h0,c0,c1,c2,eq_true c3,hw,Tryz.results156]
    ·by_cases c4:c=13
     ·have hw:fZ c=true:=by unfold fZ;simp[c4]
      simp only[aj,ak,al,oneOf,QS,Qx,↓reduceIte,hn,h0,c0,c1,c2,c3,eq_true c4,hw,Tryz.results156]
     ·have hw:fZ c=decide (c=32):=by unfold fZ;simp[c0,c1,c2,c3,c4]
      simp only[aj,ak,al,oneOf,QS,Qx,↓reduceIte,hn,h0,c0,c1,c2,c3,c4,hw,Tryz.results156]
theorem TK {lib:aA}(hl:lib.at 110=none)(s:aq)(c:Int):
  Runs Tryz.prog lib 110 [.int .i64 c] s fun v s' =>v= .int .i64 (digit c)/\s' =s:=by
 refine Runs.enter 32 Tryz.func110 rfl hl rfl rfl ?_
 intro f hn hf
 have h0:f.get 0= .int .i64 c:=hf 0
 clear hf
 unfold digit
 by_cases c1:48<=c<;>by_cases c2:c<=57<;>by_cases c3:97<=c<;>by_cases c4:c<=102<;>by_cases c5:65<=c<;>by_cases c6:c<=70<;>first|(exfalso;omega)|(simp(disch:=omega)only[aj,ak,al,oneOf,QS,Qx,↓reduceIte,hn,h0,c1,c2,c3,c4,c5,c6,aD,Tryz.results110])
end Go.Proofs.YtdfjfncifneocaaGreat
namespace Go.Proofs.YtdfjfncifneocaaGreat
open Go.Cl
def Still (A:Nat->Prop)(s s' :aq):Prop:=∀k,A k->s'.heap.get k=s.heap.get k
theorem Still.refl (A:Nat->Prop)(s:aq):Still A s s:=fun _ _=>rfl
theorem Still.trans {A:Nat->Prop}{s s' yB:aq}(h:Still A s s')(k:Still A s' yB):Still A s yB:=fun i hi=>(k i hi).trans (h i hi)
def mK (A:Nat->Prop)(base:Nat)(s:aq)(j:Nat)(r P:List UInt8)(M:Int):Prop:=
 ∃i o l p,r=l.drop p/\l.length<=4294967296/\ax s j [gm i,.int .i64 M,o]/\jG base s i l p/\Own s 1 o P.length (ofBytes P)/\aF base o/\base<=j/\aI o≠some i/\aI o≠some j/\i≠j/\i<s.next/\∀k,A k->k<s.next/\k≠i/\k≠j/\aI o≠some k
theorem mK.still {A:Nat->Prop}{base:Nat}{s s' :aq}{j:Nat}{r P:List UInt8}{M:Int}(h:mK A base s j r P M)(k:ar s.next s s'):Still A s s' :=by
 obtain⟨i,o,l,p,h1,h2,h3,h4,h5,h6,h7,h8,h9,eX,sq,rX⟩:=h
 exact fun q hq=>k.get q (rX q hq).1
theorem mK.keeps {A:Nat->Prop}{base:Nat}{s s' :aq}{j:Nat}{r P:List UInt8}{M:Int}(h:mK A base s j r P M)(hb:base<=s.next)(k:ar s.next s s'):mK A base s' j r P M:=by
 obtain⟨i,o,l,p,h1,h2,h3,h4,h5,h6,h7,h8,h9,eX,sq,rX⟩:=h
 exact⟨i,o,l,p,h1,h2,h3.keeps k,h4.keeps hb k,h5.keeps k,h6,h7,h8,h9,eX,Nat.lt_of_lt_of_le sq k.next,fun q hq=>⟨Nat.lt_of_lt_of_le (rX q hq).1 k.next,(rX q hq).2⟩⟩
theorem mK.turns {A A' :Nat->Prop}{base:Nat}{s s' :aq}{j:Nat}{r P:List UInt8}{M:Int}(h:mK A base s j r P M)(hb:base<=s.next){v:Value}(hv:∀k,aI v=some k->A k)(hF:aF base v)(k:bt v s s')(hA:∀q,A' q->q<s'.next/\(A q\/s.next<=q)):mK A' base s' j r P M:=by
 obtain⟨i,o,l,p,h1,h2,h3,h4,h5,h6,h7,h8,h9,eX,sq,rX⟩:=h
 refine⟨i,o,l,p,h1,h2,h3.turns k (fun e=>(rX j (hv j e)).2.2.1 rfl),h4.turns hb hF k (fun e=>(rX i (hv i e)).2.1 rfl),h5.turns k (fun q hq e=>(rX q (hv q e)).2.2.2 hq),h6,h7,h8,h9,eX,Nat.lt_of_lt_of_le sq k.next,fun q hq=> ?_⟩
 obtain⟨g1,g2⟩:=hA q hq
 rcases g2 with g2|g2
 ·exact⟨g1,(rX q g2).2⟩
 ·refine⟨g1,by omega,by have:=h3.lt;omega,fun e=>by have:=h5.iD q e;omega⟩
abbrev gI (j:Nat):Value:= .pointer (some ⟨j,0,some 4⟩)
theorem aeH:bX Tryz.prog 112=some false:=by kernel_rfl
theorem JE:aX Tryz.prog 112=some 1:=by kernel_rfl
theorem Xu (i o c:Nat):au Tryz.prog 132 (.pointer (some ⟨i,o,some c⟩)) 0=some (.pointer (some ⟨i,o+0,some c⟩)):=by
 unfold au;rw[Tryz.underlying132];simp[JE]
theorem Mk (i o c:Nat):au Tryz.prog 132 (.pointer (some ⟨i,o,some c⟩)) 1=some (.pointer (some ⟨i,o+1,some c⟩)):=by
 unfold au;rw[Tryz.underlying132];simp[bA]
theorem qw (i o c:Nat):au Tryz.prog 132 (.pointer (some ⟨i,o,some c⟩)) 2=some (.pointer (some ⟨i,o+2,some c⟩)):=by
 unfold au;rw[Tryz.underlying132];simp[fT]
theorem aeI (i:Nat)(m:Int):cC Tryz.prog 132 [(0,gm i),(1,.int .i64 m)]=some (.agg #[gm i,.int .i64 m,.slice none 0 0]):=by
 unfold cC;rw[Tryz.underlying132]
 have hz:bV Tryz.prog 132=some (.agg #[.pointer none,.int .i64 0,.slice none 0 0]):=by kernel_rfl
 rw[hz]
 have c1:(gm i).cells.toList=[gm i]:=rfl
 have c2:(Value.int .i64 m).cells.toList=[.int .i64 m]:=rfl
 simp only[fG,placeOf,c1,c2]
 simp[JE,bA,fT,bN,gQ,bS,setAt]
theorem AS {lib:aA}(A:Nat->Prop)(hl:lib.at 108=none)(jn:lib.at 100=none)(base:Nat)(s:aq)(x:Value)(l:List UInt8)(most:Int)(hx:Br base s 1 x l.length (ofBytes l))(hb:base<=s.next)(hlen:l.length<=4294967296)(hA:∀k,A k->k<s.next):
  Runs Tryz.prog lib 108 [x,.int .i64 most] s fun v s' =>∃j,v=gI j/\mK A base s' j l [] (if most<0 then 0 else most)/\ar s.next s s' :=by
 refine Runs.enter 11 Tryz.func108 rfl hl rfl rfl ?_
 intro f hn hf
 have h0:f.get 0=x:=hf 0
 have h1:f.get 1= .int .i64 most:=hf 1
 clear hf
 simp only[aj,ak,aa,QS,Qx,↓reduceIte,hn,h0]
 refine(JD jn base s x l hx hb).mono ?_
 rintro _ s1 ⟨rfl,hc,aE,xG⟩
 have hmx:(if most<0 then(0:Int) else most)=(if most<0 then 0 else most):=rfl
 simp only[aj,aa,ae,QS,Qx,↓reduceIte,hn,h1,aeI]
 refine aw ?_
 intro s2 ht aR m8
 simp only[aj,al,oneOf,QS,Nat.reduceAdd,↓reduceIte,hn,Tryz.results108,List.length_cons,List.length_nil]
 refine⟨s1.next,rfl,⟨s.next,_,l,0,rfl,hlen,ht,hc.keeps (by omega) aR,.nil,aF.nil _,by omega,(by intro e;cases e),(by intro e;cases e),by omega,by omega,fun k hk=>by have:=hA k hk;exact⟨by omega,by omega,by omega,by intro e;cases e⟩⟩,aE.trans (aR.weaken (by omega))⟩
def sign:List UInt8->Int×List UInt8
 |[]=>(-1,[])
 |c::l=>if fZ c.toNat then sign l else(c.toNat,l)
theorem ye {lib:aA}(hl:lib.at 109=none)(hw:lib.at 156=none)(zP:lib.at 155=none)(kr:lib.at 192=none)(kW:lib.at 186=none)(jn:lib.at 209=none)(g7:lib.at 105=none)
  (A:Nat->Prop) (base:Nat) (s:aq) (j:Nat) (r P:List UInt8) (M:Int) (h:mK A base s j r P M) (hb:base<=s.next):
  Runs Tryz.prog lib 109 [gI j] s fun v s' =>v= .int .i64 (sign r).1/\mK A base s' j (sign r).2 P M/\ar base s s' /\Still A s s' :=by
 refine Runs.enter 13 Tryz.func109 rfl hl rfl rfl ?_
 intro f hn hf
 have h0:f.get 0=gI j:=hf 0
 clear hf
 simp only[aj,QS,↓reduceIte,hn]
 refine Comes.eZ (fun q f s' =>∃r',q=r'.length/\sign r' =sign r/\mK A base s' j r' P M/\ar base s s' /\Still A s s' /\f.n=13/\f.get 0=gI j) ⟨r,rfl,rfl,h,ar.refl _ _,Still.refl _ _,by simp only[ad,ag,↓reduceIte,Qx,hn,h0,and_self]⟩ ?_
 clear hn h0 f h
 rintro q f s1 ⟨r',rfl,hr,h,aE,anm,hn,h0⟩
 obtain⟨i,o,l,p,mO,hlen,ht,hc,ho,hF,hj,ux,fN,ua,Zx,Rh⟩:=h
 have l0:=ht.load (P:=Tryz.prog) aeH (off:=0) (c:=4) rfl (by simp)
 have Nu:base<=i:=hc.choose_spec.2.2.1
 have gL:base<=s1.next:=Nat.le_trans hb aE.next
 simp only[aj,ak,aa,QS,↓reduceIte,hn,h0,Xu,l0]
 refine(yd zP kr kW jn g7 base s1 i l p hc gL hlen).mono ?_
 rintro _ s2 ⟨rfl,kY,dD⟩
 have oB:=dD.keeps (da Nu) gL
 have aR:ar base s s2:=aE.trans oB
 have Pj:Still A s s2:=anm.trans (fun k hk=>dD.get k (Rh k hk).1 (eD (fun e=>(Rh k hk).2.1 e.symm)))
 have iu:mK A base s2 j (l.drop (min (p+1) l.length)) P M:=⟨i,o,l,_,rfl,hlen,ht.turns dD (eD ua),kY,ho.turns dD (fun q hq=>eD (fun e=>ux (by rw[e];exact hq))),hF,hj,ux,fN,ua,Nat.lt_of_lt_of_le Zx dD.next,fun k hk=>⟨Nat.lt_of_lt_of_le (Rh k hk).1 dD.next,(Rh k hk).2⟩⟩
 simp only[aj,ak,aa,QS,↓reduceIte,hn]
 refine(TJ hw s2 _).mono ?_
 rintro _ s2 ⟨rfl,rfl⟩
 by_cases hp:p<l.length
 ·have sQ:fc l p=((l.getD p 0).toNat:Int):=by unfold fc;rw[if_pos (by omega),Int.toNat_natCast]
  have FP:r' =l.getD p 0::l.drop (p+1):=by
   rw[mO,List.drop_eq_getElem_cons hp];simp[List.getD,List.getElem?_eq_getElem hp]
  rw[Nat.min_eq_left (by omega)] at iu
  by_cases hwh:fZ ((l.getD p 0).toNat:Int)=true
  ·simp only[aj,QS,↓reduceIte,hn,sQ,hwh]
   refine ay (l.drop (p+1)).length (by rw[FP];simp) ⟨_,rfl,?_,iu,aR,Pj,by simp only[ad,ag,↓reduceIte,Qx,hn,h0,and_self]⟩
   rw[<-hr,FP]
   simp only[sign];rw[if_pos hwh]
  ·have QP:sign r=(((l.getD p 0).toNat:Int),l.drop (p+1)):=by rw[<-hr,FP];simp only[sign];rw[if_neg hwh]
   simp only[Bool.not_eq_true] at hwh
   simp only[aj,al,oneOf,QS,Qx,↓reduceIte,hn,sQ,hwh,QP,Tryz.results109]
   exact⟨iu,aR,Pj⟩
 ·have sQ:fc l p= -1:=by unfold fc;rw[if_neg (by omega)]
  have FP:r' =[]:=by rw[mO];exact List.drop_eq_nil_of_le (by omega)
  have QP:sign r=(-1,[]):=by rw[<-hr,FP];rfl
  have hwh:fZ (-1)=false:=by decide
  rw[List.drop_eq_nil_of_le (by omega)] at iu
  simp only[aj,al,oneOf,QS,Qx,↓reduceIte,hn,sQ,hwh,QP,Tryz.results109]
  exact⟨iu,aR,Pj⟩
theorem tR {lib:aA}(hl:lib.at 111=none)(A:Nat->Prop)(base:Nat)(s:aq)(j:Nat)(r P D:List UInt8)(M:Int)(b:Value)(h:mK A base s j r P M)(hb:base<=s.next)(hd:aN s 1 b D.length (ofBytes D))(hD:D.length<=1000)(hP:P.length<=2147483648)(TL:0<=M)(hM:M<9223372036854775808):
  Runs Tryz.prog lib 111 [gI j,b] s fun v s' =>v= .int .i64 (if M-P.length<D.length then 7 else 0)/\mK A base s' j r (if M-P.length<D.length then P else P++D) M/\ar base s s' /\Still A s s' :=by
 obtain⟨i,o,l,p,mO,hlen,ht,hc,ho,hF,hj,ux,fN,ua,Zx,Rh⟩:=h
 refine Runs.enter 27 Tryz.func111 rfl hl rfl rfl ?_
 intro f hn hf
 have h0:f.get 0=gI j:=hf 0
 have h1:f.get 1=b:=hf 1
 clear hf
 have l1:=ht.load (P:=Tryz.prog) bu (off:=1) (c:=4) rfl (by simp)
 have l2:=ht.load (P:=Tryz.prog) fU (off:=2) (c:=4) rfl (by simp)
 have Q4:=ho.aG
 by_cases hm:M-(P.length:Int)<D.length
 ·simp(disch:=omega)only[aj,ak,al,oneOf,aa,QS,Qx,↓reduceIte,hn,h0,h1,hd.self,Q4.self,hd.bm Tryz.underlying22,Q4.bm Tryz.underlying22,Mk,qw,l1,l2,aD,eq_true hm,Tryz.results111]
  exact⟨⟨i,o,l,p,mO,hlen,ht,hc,ho,hF,hj,ux,fN,ua,Zx,Rh⟩,ar.refl _ _,Still.refl _ _⟩
 ·simp(disch:=omega)only[aj,ak,aa,QS,Qx,↓reduceIte,hn,h0,h1,hd.self,Q4.self,hd.bm Tryz.underlying22,Q4.bm Tryz.underlying22,Mk,qw,l1,l2,aD,eq_false hm]
  refine bY Tryz.underlying22 Tryz.underlying22 (.inl ⟨_,rfl⟩) bK jW ks rfl ho hd.src (by simp[bM]) (by decide) (dh _) (by omega) (by omega) hF hb ?_
  intro o' s2 pM ze dO Nl vz
  have ann:=ht.turns Nl fN
  have kY:=hc.turns hb hF Nl ux
  have Bc:aI o' ≠some j:=by
   rcases vz with e|⟨q,e,hq⟩
   ·rw[e];exact fN
   ·rw[e];intro q;injection q with q;have:=ht.lt;omega
  have ano:aI o' ≠some i:=by
   rcases vz with e|⟨q,e,hq⟩
   ·rw[e];exact ux
   ·rw[e];intro q;injection q with q;omega
  simp only[aj,QS,Qx,↓reduceIte,hn,qw]
  refine aY fT ann rfl (by simp) pM.aG.aL ?_
  intro s3 jM mQ bC
  have hk3:ar base s2 s3:=ar.aK mQ bC hj
  simp only[aj,al,oneOf,QS,↓reduceIte,hn,Tryz.results111]
  refine⟨⟨i,o',l,p,mO,hlen,jM,kY.turns (Nat.le_trans hb dO.next) (da hj) (bt.aK mQ bC) (eD (fun e=>ua e.symm)),?_,ze,hj,ano,Bc,ua,by have:=Nl.next;omega,fun k hk=>⟨by have:=(Rh k hk).1;have:=Nl.next;omega,(Rh k hk).2.1,(Rh k hk).2.2.1,fun e=> ?_⟩⟩,dO.trans hk3,fun k hk=>(bC k (Rh k hk).2.2.1).trans (Nl.get k (Rh k hk).1 (Rh k hk).2.2.2)⟩
  rotate_left
  ·rcases vz with e' |⟨q,e',hq⟩
   ·rw[e'] at e;exact(Rh k hk).2.2.2 e
   ·rw[e'] at e;injection e with e;have:=(Rh k hk).1;omega
  rw[br,List.length_append]
  exact pM.aK mQ bC Bc
end Go.Proofs.YtdfjfncifneocaaGreat
namespace Go.Cl.Uh
theorem aiL (P:Program)(t:TypeId)(k' :IntKind)(a:Int):cQ P .shl t (.int .i64 a) (.int k' 4)=some (.int .i64 (IntKind.i64.wrap (a*16))):=by
 rw[mW P t .i64 a 4 k' (by decide)];rfl
theorem aaT {n d:Nat}(hn:n<16)(hd:d<16):IntKind.i64.wrap (((BitVec.ofInt IntKind.i64.bits ((n:Int)*16)|||BitVec.ofInt IntKind.i64.bits (d:Int)).toNat:Nat):Int)=((n*16+d:Nat):Int):=by
 have e1:IntKind.i64.bits=64:=rfl
 rw[e1]
 have:(BitVec.ofInt 64 ((n:Int)*16)|||BitVec.ofInt 64 (d:Int)).toNat=n*16+d:=by
  have e2:((n:Int)*16)=((n*16:Nat):Int):=by omega
  rw[e2,BitVec.toNat_or,BitVec.ofInt_natCast,BitVec.ofInt_natCast,BitVec.toNat_ofNat,BitVec.toNat_ofNat,Nat.mod_eq_of_lt (by omega),Nat.mod_eq_of_lt (by omega)]
  have:=Nat.shiftLeft_add_eq_or_of_lt (i:=4) (b:=d) hd n
  rw[Nat.shiftLeft_eq] at this
  exact this.symm
 rw[this,aD (by omega)]
def AU (n:Nat):UInt8:=UInt8.ofNat n
theorem HJ {n:Nat}(h:n<256):((AU n).toNat:Int)=n:=by
 unfold AU;rw[UInt8.toNat_ofNat'];omega
end Go.Cl.Uh
