import Derived.Test.YtdfjfncifneocaaGreatLzwS
import Derived.Test.YtdfjfncifneocaaGreatLooseA
import Derived.Test.YtdfjfncifneocaaGreatHex
import Derived.Test.YtdfjfncifneocaaGreatNum
import Derived.Test.YtdfjfncifneocaaGreatMem
open Nat renaming reduceLT->QS,reduceEqDiff->WP
set_option linter.unusedSimpArgs false
set_option linter.unusedVariables false
set_option maxRecDepth 100000
namespace Go.Cl.Lz
theorem vf {A B:List UInt8}(i:Nat):(A++B).getD (A.length+i) 0=B.getD i 0:=by
 rw[List.getD_eq_getElem?_getD,List.getD_eq_getElem?_getD,List.getElem?_append_right (by omega),Nat.add_sub_cancel_left]
theorem w6 {A B:List UInt8}{i:Nat}(h:i<A.length):(A++B).getD i 0=A.getD i 0:=by
 rw[List.getD_eq_getElem?_getD,List.getD_eq_getElem?_getD,List.getElem?_append_left h]
theorem um {A:List UInt8}{k:Nat}(h:k<A.length):A.take (k+1)=A.take k++[A.getD k 0]:=by
 rw[List.take_succ_eq_append_getElem h,List.getD_eq_getElem?_getD,List.getElem?_eq_getElem h];rfl
theorem Df {out:List UInt8}{a:Nat}:∀n,a+n<=out.length->EI out a n=out++(out.drop a).take n
 |0,h=>by simp[EI]
 |n+1,h=>by
  rw[EI,Df n (by omega),w6 (by omega),List.append_assoc]
  congr 1
  rw[um (by rw[List.length_drop];omega)]
  congr 2
  rw[List.getD_eq_getElem?_getD,List.getD_eq_getElem?_getD,List.getElem?_drop]
theorem Dg {out:List UInt8}{a n:Nat}(h:a+n=out.length)(hn:1<=n):EI out a (n+1)=out++(out.drop a++(out.drop a).take 1):=by
 have hl:(out.drop a).length=n:=by rw[List.length_drop];omega
 rw[EI,Df n (by omega),List.take_of_length_le (by omega),h]
 have e:=vf (A:=out) (B:=out.drop a) 0
 rw[Nat.add_zero] at e
 rw[e,List.append_assoc]
 congr 2
 rw[um (by omega),List.take_zero,List.nil_append]
def sU (out:List UInt8)(rows:List (Nat×Nat))(T:List (List UInt8)):Prop:=
 rows.length=T.length/\∀(i:Nat) (q:Nat×Nat),rows[i]?=some q->1<=q.2/\q.1+q.2<=out.length/\T[i]?=some ((out.drop q.1).take q.2)
def qB (out:List UInt8)(last:Nat×Nat)(L:List UInt8):Prop:=
 (last.2=0/\L=[])\/(1<=last.2/\last.1+last.2=out.length/\L=out.drop last.1)
theorem qB.zero {out:List UInt8}{last:Nat×Nat}{L:List UInt8}(h:qB out last L):last.2=0↔L=[]:=by
 rcases h with ⟨h1,h2⟩|⟨h1,h2,h3⟩
 ·exact⟨fun _=>h2,fun _=>h1⟩
 ·refine⟨fun e=>by omega,fun e=> ?_⟩
  have:=congrArg List.length h3
  rw[e,List.length_drop,List.length_nil] at this;omega
theorem qB.next (out x:List UInt8)(hx:x≠[]):qB (out++x) (out.length,x.length) x:=
 .inr ⟨List.length_pos_iff.mpr hx,by simp,by simp⟩
def rowsOf (rows:List (Nat×Nat))(last:Nat×Nat):List (Nat×Nat):=if 0<last.2/\258+rows.length<4096 then rows++[(last.1,last.2+1)] else rows
theorem sU.grow {out x:List UInt8}{rows:List (Nat×Nat)}{T:List (List UInt8)}{last:Nat×Nat}{L:List UInt8}(h:sU out rows T)(hL:qB out last L)(hx:x≠[]):sU (out++x) (rowsOf rows last) (grow T L x):=by
 obtain⟨h1,h2⟩:=h
 have vq:=List.length_pos_iff.mpr hx
 have old:∀(i:Nat) (q:Nat×Nat),rows[i]?=some q->1<=q.2/\q.1+q.2<=(out++x).length/\T[i]?=some (((out++x).drop q.1).take q.2):=fun i q hq=>by
  obtain⟨a,b,c⟩:=h2 i q hq
  refine⟨a,by rw[List.length_append];omega,?_⟩
  rw[c,List.drop_append_of_le_length (by omega),List.take_append_of_le_length (by rw[List.length_drop];omega)]
 unfold rowsOf Lz.grow
 by_cases c1:0<last.2/\258+rows.length<4096
 ·rcases hL with ⟨q1,q2⟩|⟨q1,q2,q3⟩
  ·omega
  ·have hL0:L≠[]:=by intro e;have:=congrArg List.length q3;rw[e,List.length_drop,List.length_nil] at this;omega
   rw[if_pos c1,if_pos ⟨hL0,by rw[<-h1];exact c1.2⟩]
   refine⟨by simp[h1],fun i q hq=> ?_⟩
   by_cases hi:i<rows.length
   ·rw[List.getElem?_append_left hi] at hq
    obtain⟨a,b,c⟩:=old i q hq
    exact⟨a,b,by rw[List.getElem?_append_left (by omega)];exact c⟩
   ·rw[List.getElem?_append_right (by omega)] at hq
    cases hj:i-rows.length with
    |succ m=>rw[hj] at hq;simp at hq
    |zero=>
     rw[hj] at hq
     simp at hq
     subst hq
     refine⟨by simp,by simp only[List.length_append];omega,?_⟩
     have hLl:L.length=last.2:=by rw[q3,List.length_drop];omega
     rw[List.getElem?_append_right (by omega),show i-T.length=0 by omega]
     simp only[List.getElem?_cons_zero]
     have e1:L.take (last.2+1)=L:=List.take_of_length_le (by omega)
     rw[List.drop_append_of_le_length (by omega),<-q3,List.take_append,hLl,Nat.add_sub_cancel_left,e1]
 ·rw[if_neg c1]
  have:¬(L≠[]/\258+T.length<4096):=by
   rintro ⟨a,b⟩
   have:=hL.zero
   exact c1 ⟨by rcases Nat.eq_zero_or_pos last.2 with e|e;exact absurd (this.mp e) a;exact e,by omega⟩
  rw[if_neg this]
  exact⟨h1,old⟩
end Go.Cl.Lz
namespace Go.Proofs.YtdfjfncifneocaaGreat
open Go.Cl Go.Cl.Lz Go.Cl.Rw
theorem sV {s s' :aq}{i j:Nat}{cs:List Value}{v v' :Value}(h:av s i cs)(k:cZ j v s v' s')(h1:i≠j)(h2:aE v≠some i):av s' i cs:=by
 obtain⟨low,z,a,b⟩:=h.dK
 refine⟨Nat.lt_of_lt_of_le h.lt k.next,low,z,?_,b⟩
 simp only[aq.bA,k.get i h.lt h1 h2]
 exact a
theorem sW:bW Tryz.prog 122=some (.agg #[.int .i64 0,.int .i64 0]):=by kernel_rfl
theorem Vr:bP (.agg #[.int .i64 0,.int .i64 0])=true:=rfl
theorem Nw:fe Tryz.prog 122=some 16:=by kernel_rfl
theorem Nx (a b:Int):cf (.agg #[.int .i64 a,.int .i64 b]) (.agg #[.int .i64 a,.int .i64 b])=true:=by simp[cf,fK,cN]
theorem Dh (s:aq)(a b:Int):aL Tryz.prog s 121 1 [(0,.agg #[.int .i64 a,.int .i64 b])]=aZ s [.int .i64 a,.int .i64 b] 1 2:=by
 unfold aL
 rw[Tryz.underlying121]
 simp only[fi,sW]
 rfl
theorem kR.more {base:Nat}{s s1 s2 s3:aq}{j:Nat}{bv rv ov r2:Value}{b:List UInt8}{p:Nat}{most:Int}{rows Vs:List (Nat×Nat)}{last:Nat×Nat}{out:List UInt8}(h:kR base s j bv rv ov b p most rows last out)(hb:base<=s.next)
  (h1:ar s.next s s1) (h2:Own s2 2 r2 Vs.length (kQ Vs)) (Hi:aH base r2) (dZ:aY rv s1 s2) (gn:aE r2=aE rv\/∃i,aE r2=some i/\s1.next<=i)
  (ht:av s3 j [bv,.int .i64 p,.int .i64 most,r2,.int .i64 last.1,.int .i64 last.2,ov]) (hn:s3.next=s2.next) (hs:∀i,i≠j->s3.heap.get i=s2.heap.get i):
  kR base s3 j bv r2 ov b p most Vs last out/\ar base s s3:=by
 have bc:=h.cu.lt
 have hrj:aE r2≠some j:=by
  rcases gn with e|⟨i,e,hi⟩
  ·rw[e];exact h.rj
  ·rw[e];intro q;injection q with q;have:=h1.next;omega
 have k2:=dZ.keeps h.rf (Nat.le_trans hb h1.next)
 refine⟨⟨ht,((h.b.stay (h1.weaken hb)).stay k2).stay (ar.aI hn hs h.lo),h2.aI hn hs hrj,Hi,hrj,((h.out.keeps h1).turns dZ (fun i hi=>h.ox i hi)).aI hn hs h.oj,h.of,h.oj,fun k hk=> ?_,h.lo⟩,((h1.weaken hb).trans k2).trans (ar.aI hn hs h.lo)⟩
 rcases gn with e|⟨i,e,hi⟩
 ·rw[e];exact h.ox k hk
 ·rw[e];intro q;injection q with q;have:=h.out.g8 _ hk;have:=h1.next;omega
def lZ (base:Nat)(s:aq)(j:Nat)(bv:Value)(b:List UInt8)(p:Nat)(most:Int)(out:List UInt8)(T:List (List UInt8))(L:List UInt8)(c:Nat)(v:Value)(s' :aq):Prop:=
 ar base s s' /\match rowOf T L c with
 |none=>v= .int .i64 4
 |some x=>(most<((out.length+x.length:Nat):Int)/\v= .int .i64 7)\/(((out.length+x.length:Nat):Int)<=most/\v= .int .i64 0/\∃(rv' WT:Value) (rows' :List (Nat×Nat)),kR base s' j bv rv' WT b p most rows' (out.length,x.length) (out++x)/\sU (out++x) rows' (grow T L x))
theorem lZ.put {base:Nat}{s s4:aq}{j:Nat}{bv:Value}{b:List UInt8}{p:Nat}{most:Int}{rows:List (Nat×Nat)}{last:Nat×Nat}{out:List UInt8}{T:List (List UInt8)}{L:List UInt8}{c n:Nat}{X:List UInt8}{v:Value}{x:List UInt8}
  (hx:rowOf T L c=some x) (Aw:x≠[]) (hn:x.length=n) (hX:X=out++x) (hT:sU out rows T) (hL:qB out last L) (aD:ar base s s4)
  {rv' WT:Value} {last' :Nat×Nat} {Vp:List UInt8} (hR:kR base s4 j bv rv' WT b p most (rowsOf rows last) last' Vp)
  (h:(v= .int .i64 0/\((out.length+n:Nat):Int)<=most/\last' =(out.length,n)/\Vp=X)\/(v= .int .i64 7/\most<((out.length+n:Nat):Int))):lZ base s j bv b p most out T L c v s4:=by
 refine⟨aD,?_⟩
 rw[hx]
 subst hn;subst hX
 rcases h with ⟨rfl,h1,rfl,rfl⟩|⟨rfl,h1⟩
 ·exact .inr ⟨h1,rfl,rv',WT,_,hR,hT.grow hL Aw⟩
 ·exact .inl ⟨h1,rfl⟩
set_option maxRecDepth 100000 in
set_option maxHeartbeats 16000000 in
theorem RS {lib:az}(hl:lib.at 107=none)(jQ:lib.at 154=none)(lj:lib.at 153=none)(base:Nat)(s:aq)(j:Nat)(bv rv ov:Value)(b:List UInt8)(p:Nat)(most:Int)(rows:List (Nat×Nat))(last:Nat×Nat)(out:List UInt8)(T:List (List UInt8))(L:List UInt8)(c:Nat)
  (h:kR base s j bv rv ov b p most rows last out) (hb:base<=s.next) (hT:sU out rows T) (hL:qB out last L) (hc:c<4096) (Z1:c≠256) (hc7:c≠257) (hr:rows.length<=4096) (ho:out.length<=20000000):
  Runs Tryz.prog lib 107 [vd j,.int .i64 c] s (lZ base s j bv b p most out T L c):=by
 refine Runs.enter 96 Tryz.func107 rfl hl rfl rfl ?_
 intro f hn hf
 have h0:f.get 0=vd j:=hf 0
 have h1:f.get 1= .int .i64 c:=hf 1
 clear hf
 have g3:=h.cu.load (P:=Tryz.prog) yD (off:=3) (c:=8) rfl (by simp)
 have g4:aR Tryz.prog s 122 (.pointer (some ⟨j,4,some 8⟩))=some (.agg #[.int .i64 last.1,.int .i64 last.2]):=h.cu.wM RQ fi (off:=4) (c:=8) rfl (by simp)
 have hTl:=hT.1
 have hLz:=hL.zero
 have akv:last.2<=20000000:=by
  rcases hL with ⟨a,_⟩|⟨_,a,_⟩
  ·omega
  ·omega
 simp-implicitDefEqProofs(disch:=omega)only[aj,ak,ad,QS,WP,↓reduceIte,hn,h0,pN,KE,g3,g4,h.rows.aG.bh Tryz.underlying121,aB,sW,Vr]
 refine ax ?_
 intro sa agf MX Rz
 obtain⟨q,hq⟩:∃q,q=s.next:=⟨_,rfl⟩
 rw[<-hq] at agf
 simp-implicitDefEqProofs(disch:=omega)only[aj,QS,WP,Nat.reduceAdd,↓reduceIte,hn,List.length_cons,List.length_nil]
 rw[<-hq]
 refine jv fi agf rfl rfl rfl rfl (by simp) ?_
 intro s1 vg iJ jZ
 have vg:av s1 q [.int .i64 last.1,.int .i64 last.2]:=vg
 have hjq:=h.cu.lt
 have LJ:q≠j:=by omega
 have hqo:aE ov≠some q:=fun e=>by have:=h.out.g8 _ e;omega
 have zN:ar s.next s s1:=MX.trans (ar.aI iJ jZ (by omega))
 have bm:ar base s s1:=zN.weaken hb
 have gu:base<=s1.next:=Nat.le_trans hb bm.next
 have oV:kR base s1 j bv rv ov b p most rows last out:=⟨h.cu.keeps zN,h.b.stay bm,h.rows.keeps zN,h.rf,h.rj,h.out.keeps zN,h.of,h.oj,h.ox,h.lo⟩
 have ra:=h.lo
 have hof:=h.of
 have w1:=vg.load (P:=Tryz.prog) bC (off:=1) (c:=3) rfl (by simp)
 have w0:=vg.load (P:=Tryz.prog) bC (off:=0) (c:=3) rfl (by simp)
 have i0:bQ Tryz.prog 122 (.pointer (some ⟨q,0,some 3⟩)) (.int .i64 0)=some (.pointer (some ⟨q,0,some 3⟩)):=Pz Tryz.underlying122 bB q 0 3 (k:=0) (by omega) .i64
 have i1:bQ Tryz.prog 122 (.pointer (some ⟨q,0,some 3⟩)) (.int .i64 1)=some (.pointer (some ⟨q,1,some 3⟩)):=Pz Tryz.underlying122 bB q 0 3 (k:=1) (by omega) .i64
 by_cases c1:258+rows.length<c
 ·have tJ:(258:Int)+(rows.length:Int)<(c:Int):=by omega
  simp-implicitDefEqProofs(disch:=omega)only[aj,ak,al,oneOf,QS,WP,↓reduceIte,undef,hn,h1,eq_true tJ,Tryz.results107]
  have RT:rowOf T L c=none:=by
   unfold rowOf
   rw[if_neg (by omega)]
   split
   ·rfl
   ·rw[if_neg (by omega),List.getElem?_eq_none (by omega)]
  refine⟨bm,?_⟩;rw[RT]
 have tJ:¬(258:Int)+(rows.length:Int)<(c:Int):=by omega
 by_cases c2:c=258+rows.length
 ·have C3:(c:Int)=(258:Int)+(rows.length:Int):=by omega
  by_cases c3:last.2=0
  ·have Ks:(last.2:Int)=0:=by omega
   simp-implicitDefEqProofs(disch:=omega)only[aj,ak,al,oneOf,QS,WP,↓reduceIte,undef,hn,h1,eq_false tJ,eq_true C3,eq_true Ks,i1,w1,Tryz.results107]
   have RT:rowOf T L c=none:=by
    unfold rowOf
    rw[if_neg (by omega),if_pos (hLz.mp c3)]
   refine⟨bm,?_⟩;rw[RT]
  ·have Ks:¬(last.2:Int)=0:=by omega
   have WU:¬(c:Int)<256:=by omega
   rcases id hL with ⟨l1,_⟩|⟨l1,l2,l3⟩
   ·exact absurd l1 c3
   have hX:rowOf T L c=some (L++L.take 1):=by
    unfold rowOf
    rw[if_neg (by omega),if_neg (fun e=>c3 (hLz.mpr e)),if_pos (by omega)]
   have hLl:L.length=last.2:=by rw[l3,List.length_drop];omega
   have Vt:(L++L.take 1).length=last.2+1:=by rw[List.length_append,List.length_take];omega
   have hX0:L++L.take 1≠[]:=by intro e;rw[e] at Vt;simp at Vt
   simp-implicitDefEqProofs(disch:=omega)only[aj,ak,ad,QS,WP,↓reduceIte,undef,hn,h0,h1,eq_false tJ,eq_true C3,eq_false Ks,eq_false WU,i0,i1,w0,w1,aB]
   refine(GA jQ base s1 j bv rv ov b p most rows last out last.1 (last.2+1) oV gu (by omega) (by omega) (by omega)).mono ?_
   rintro v s2 ⟨ov2,aab,RR,gR,ni,hP⟩
   refine oH (fun f=>f.n=96/\f.get 0=vd j/\f.get 5= .int .i64 ((258:Int)+(rows.length:Int))/\f.get 6= .pointer (some ⟨q,0,some 3⟩)) ⟨by simp only[ag,hn],by first|simp only[aa,↓reduceIte,WP,h0]|simp only[aa,ag,↓reduceIte,WP],by first|simp only[aa,ag,↓reduceIte,WP,h5]|simp only[aa,↓reduceIte,WP],by first|simp only[aa,ag,↓reduceIte,WP,h6]|simp only[aa,↓reduceIte,WP]⟩ ?_
   rintro f ⟨hn,h0,h5,h6⟩
   have Vu:cf v v=true:=by rcases hP with ⟨e,_⟩|⟨e,_⟩<;>(rw[e];exact cR _ _)
   have Ax:=sV vg ni LJ hqo
   have w1:=Ax.load (P:=Tryz.prog) bC (off:=1) (c:=3) rfl (by simp)
   have w0:=Ax.load (P:=Tryz.prog) bC (off:=0) (c:=3) rfl (by simp)
   have dB:=Nat.le_trans gu (ni).next
   have Di:=bm.trans ((ni).stay ra hof gu)
   by_cases k1:0<last.2
   ·have Gy:(0:Int)<(last.2:Int):=by omega
    by_cases k2:258+rows.length<4096
    ·have IH:(258:Int)+(rows.length:Int)<4096:=by omega
     have eI:=ar.spare s2 1
     have hqS:=Ax.keeps eI
     have w1S:=hqS.load (P:=Tryz.prog) bC (off:=1) (c:=3) rfl (by simp)
     have w0S:=hqS.load (P:=Tryz.prog) bC (off:=0) (c:=3) rfl (by simp)
     have g3S:=((gR).cu.keeps eI).load (P:=Tryz.prog) yD (off:=3) (c:=8) rfl (by simp)
     simp-implicitDefEqProofs(disch:=omega)only[aj,ak,QS,WP,↓reduceIte,hn,h5,h6,i1,w1,eq_true Gy,eq_true IH]
     refine da.x9 1 (by kernel_rfl) (by kernel_rfl) ?_
     simp-implicitDefEqProofs(disch:=omega)only[aj,ak,ae,QS,WP,↓reduceIte,hn,h0,h6,i0,i1,w0S,w1S,pN,g3S,(gR).rows.self,KF,Dh,Nx,aB]
     refine hI (base:=(s2).next) (by rfl) (by rw[bU];omega) (Nat.le_refl _) ?_
     intro bs t2 m8 qb aU oN _
     have dn:=(ar.spare s2 1).trans aU
     simp-implicitDefEqProofs(disch:=omega)only[aj,ad,QS,WP,↓reduceIte,hn]
     refine j8 Tryz.underlying121 Tryz.underlying121 (.inl ⟨_,rfl⟩) fi Nw sW rfl ((gR).rows.keeps dn) m8.aG.src rfl (by decide) rfl (by omega) (by omega) (gR).rf (by have:=dn.next;omega) ?_
     intro r3 t3 Ag hF3 bH jt Ij
     have EF:=((gR).cu.keeps dn).turns jt (gR).rj
     simp-implicitDefEqProofs(disch:=omega)only[aj,QS,WP,↓reduceIte,hn,pN]
     refine mJ yC EF rfl (by simp) Ag.aG.aJ ?_
     intro s4 ie u0 ru
     have e1:kQ rows++[.int .i64 (last.1:Nat),.int .i64 ((last.2:Int)+1)]=kQ (rows++[(last.1,last.2+1)]):=by rw[sR];rfl
     have e2:rows.length+1=(rows++[(last.1,last.2+1)]).length:=by simp
     rw[e1,e2] at Ag
     obtain⟨xD,dY⟩:=(gR).more dB dn Ag hF3 jt Ij ie u0 ru
     simp-implicitDefEqProofs(disch:=omega)only[aj,al,oneOf,QS,WP,↓reduceIte,hn,Tryz.results107]
     exact lZ.put hX hX0 Vt (by rw[Dg l2 l1,<-l3]) hT hL (Di.trans dY) (rv' :=r3) (by unfold rowsOf;rw[if_pos ⟨k1,k2⟩];exact xD) hP
    ·have IH:¬(258:Int)+(rows.length:Int)<4096:=by omega
     simp-implicitDefEqProofs(disch:=omega)only[aj,ak,al,oneOf,QS,WP,↓reduceIte,hn,h5,h6,i1,w1,eq_true Gy,eq_false IH,Tryz.results107]
     exact lZ.put hX hX0 Vt (by rw[Dg l2 l1,<-l3]) hT hL Di (rv' :=rv) (by unfold rowsOf;rw[if_neg (fun q=>k2 q.2)];exact gR) hP
   ·have Gy:¬(0:Int)<(last.2:Int):=by omega
    simp-implicitDefEqProofs(disch:=omega)only[aj,ak,al,oneOf,QS,WP,↓reduceIte,undef,hn,h6,i1,w1,eq_false Gy,Tryz.results107]
    exact lZ.put hX hX0 Vt (by rw[Dg l2 l1,<-l3]) hT hL Di (rv' :=rv) (by unfold rowsOf;rw[if_neg (fun q=>k1 q.1)];exact gR) hP
 have C3:¬(c:Int)=(258:Int)+(rows.length:Int):=by omega
 by_cases c4:c<256
 ·have WU:(c:Int)<256:=by omega
  have hX:rowOf T L c=some [UInt8.ofNat c]:=by
   unfold rowOf
   rw[if_pos c4]
  simp-implicitDefEqProofs(disch:=omega)only[aj,ak,ad,QS,WP,↓reduceIte,undef,hn,h0,h1,eq_false tJ,eq_false C3,eq_true WU]
  refine(Nv lj base s1 j bv rv ov b p most rows last out c oV gu c4 (by omega)).mono ?_
  rintro v s2 ⟨ov2,aab,RR,gR,ni,hP⟩
  refine oH (fun f=>f.n=96/\f.get 0=vd j/\f.get 5= .int .i64 ((258:Int)+(rows.length:Int))/\f.get 6= .pointer (some ⟨q,0,some 3⟩)) ⟨by simp only[ag,hn],by first|simp only[aa,↓reduceIte,WP,h0]|simp only[aa,ag,↓reduceIte,WP],by first|simp only[aa,ag,↓reduceIte,WP,h5]|simp only[aa,↓reduceIte,WP],by first|simp only[aa,ag,↓reduceIte,WP,h6]|simp only[aa,↓reduceIte,WP]⟩ ?_
  rintro f ⟨hn,h0,h5,h6⟩
  have Vu:cf v v=true:=by rcases hP with ⟨e,_⟩|⟨e,_⟩<;>(rw[e];exact cR _ _)
  have Ax:=sV vg ni LJ hqo
  have w1:=Ax.load (P:=Tryz.prog) bC (off:=1) (c:=3) rfl (by simp)
  have w0:=Ax.load (P:=Tryz.prog) bC (off:=0) (c:=3) rfl (by simp)
  have dB:=Nat.le_trans gu (ni).next
  have Di:=bm.trans ((ni).stay ra hof gu)
  by_cases k1:0<last.2
  ·have Gy:(0:Int)<(last.2:Int):=by omega
   by_cases k2:258+rows.length<4096
   ·have IH:(258:Int)+(rows.length:Int)<4096:=by omega
    have eI:=ar.spare s2 1
    have hqS:=Ax.keeps eI
    have w1S:=hqS.load (P:=Tryz.prog) bC (off:=1) (c:=3) rfl (by simp)
    have w0S:=hqS.load (P:=Tryz.prog) bC (off:=0) (c:=3) rfl (by simp)
    have g3S:=((gR).cu.keeps eI).load (P:=Tryz.prog) yD (off:=3) (c:=8) rfl (by simp)
    simp-implicitDefEqProofs(disch:=omega)only[aj,ak,QS,WP,↓reduceIte,hn,h5,h6,i1,w1,eq_true Gy,eq_true IH]
    refine da.x9 1 (by kernel_rfl) (by kernel_rfl) ?_
    simp-implicitDefEqProofs(disch:=omega)only[aj,ak,ae,QS,WP,↓reduceIte,hn,h0,h6,i0,i1,w0S,w1S,pN,g3S,(gR).rows.self,KF,Dh,Nx,aB]
    refine hI (base:=(s2).next) (by rfl) (by rw[bU];omega) (Nat.le_refl _) ?_
    intro bs t2 m8 qb aU oN _
    have dn:=(ar.spare s2 1).trans aU
    simp-implicitDefEqProofs(disch:=omega)only[aj,ad,QS,WP,↓reduceIte,hn]
    refine j8 Tryz.underlying121 Tryz.underlying121 (.inl ⟨_,rfl⟩) fi Nw sW rfl ((gR).rows.keeps dn) m8.aG.src rfl (by decide) rfl (by omega) (by omega) (gR).rf (by have:=dn.next;omega) ?_
    intro r3 t3 Ag hF3 bH jt Ij
    have EF:=((gR).cu.keeps dn).turns jt (gR).rj
    simp-implicitDefEqProofs(disch:=omega)only[aj,QS,WP,↓reduceIte,hn,pN]
    refine mJ yC EF rfl (by simp) Ag.aG.aJ ?_
    intro s4 ie u0 ru
    have e1:kQ rows++[.int .i64 (last.1:Nat),.int .i64 ((last.2:Int)+1)]=kQ (rows++[(last.1,last.2+1)]):=by rw[sR];rfl
    have e2:rows.length+1=(rows++[(last.1,last.2+1)]).length:=by simp
    rw[e1,e2] at Ag
    obtain⟨xD,dY⟩:=(gR).more dB dn Ag hF3 jt Ij ie u0 ru
    simp-implicitDefEqProofs(disch:=omega)only[aj,al,oneOf,QS,WP,↓reduceIte,hn,Tryz.results107]
    exact lZ.put hX (by simp) rfl rfl hT hL (Di.trans dY) (rv' :=r3) (by unfold rowsOf;rw[if_pos ⟨k1,k2⟩];exact xD) hP
   ·have IH:¬(258:Int)+(rows.length:Int)<4096:=by omega
    simp-implicitDefEqProofs(disch:=omega)only[aj,ak,al,oneOf,QS,WP,↓reduceIte,hn,h5,h6,i1,w1,eq_true Gy,eq_false IH,Tryz.results107]
    exact lZ.put hX (by simp) rfl rfl hT hL Di (rv' :=rv) (by unfold rowsOf;rw[if_neg (fun q=>k2 q.2)];exact gR) hP
  ·have Gy:¬(0:Int)<(last.2:Int):=by omega
   simp-implicitDefEqProofs(disch:=omega)only[aj,ak,al,oneOf,QS,WP,↓reduceIte,undef,hn,h6,i1,w1,eq_false Gy,Tryz.results107]
   exact lZ.put hX (by simp) rfl rfl hT hL Di (rv' :=rv) (by unfold rowsOf;rw[if_neg (fun q=>k1 q.1)];exact gR) hP
 have WU:¬(c:Int)<256:=by omega
 by_cases c3:last.2=0
 ·have Ks:(last.2:Int)=0:=by omega
  simp-implicitDefEqProofs(disch:=omega)only[aj,ak,al,oneOf,QS,WP,↓reduceIte,undef,hn,h1,eq_false tJ,eq_false C3,eq_true Ks,eq_false WU,i1,w1,Tryz.results107]
  have RT:rowOf T L c=none:=by
   unfold rowOf
   rw[if_neg (by omega),if_pos (hLz.mp c3)]
  refine⟨bm,?_⟩;rw[RT]
 ·have Ks:¬(last.2:Int)=0:=by omega
  have hci:c-258<rows.length:=by omega
  obtain⟨y,hy⟩:∃y,rows[c-258]?=some y:=⟨_,List.getElem?_eq_getElem hci⟩
  obtain⟨y1,y2,y3⟩:=hT.2 _ _ hy
  have hX:rowOf T L c=some ((out.drop y.1).take y.2):=by
   unfold rowOf
   rw[if_neg (by omega),if_neg (fun e=>c3 (hLz.mpr e)),if_neg (by omega),y3]
  have Vt:((out.drop y.1).take y.2).length=y.2:=by rw[List.length_take,List.length_drop];omega
  have hX0:(out.drop y.1).take y.2≠[]:=by intro e;rw[e] at Vt;simp at Vt;omega
  have g3:=oV.cu.load (P:=Tryz.prog) yD (off:=3) (c:=8) rfl (by simp)
  have uO:=oV.rows.aG.indexAddr (k:= .i64) (x:=((c:Int)-258)) Tryz.underlying121 fi (by omega) (by omega)
  rw[show((c:Int)-258).toNat=c-258 by omega] at uO
  have hj0:bQ Tryz.prog 122 (bJ (1+1) rv (c-258)) (.int .i64 0)=some (ft (bJ (1+1) rv (c-258)) 0):=oV.rows.aG.Vm Tryz.underlying122 bB (k:=0) hci (by omega) .i64
  have Vv:bQ Tryz.prog 122 (bJ (1+1) rv (c-258)) (.int .i64 1)=some (ft (bJ (1+1) rv (c-258)) 1):=oV.rows.aG.Vm Tryz.underlying122 bB (k:=1) hci (by omega) .i64
  have m9:aR Tryz.prog s1 3 (ft (bJ (1+1) rv (c-258)) 0)=some (.int .i64 (y.1:Nat)):=by
   have:=oV.rows.aG.Gb (P:=Tryz.prog) bC (j:=0) hci (by omega)
   rw[KC hy] at this;exact this
  have kX:aR Tryz.prog s1 3 (ft (bJ (1+1) rv (c-258)) 1)=some (.int .i64 (y.2:Nat)):=by
   have:=oV.rows.aG.Gb (P:=Tryz.prog) bC (j:=1) hci (by omega)
   rw[KD hy] at this;exact this
  simp-implicitDefEqProofs(disch:=omega)only[aj,ak,QS,WP,↓reduceIte,undef,hn,h1,eq_false tJ,eq_false C3,eq_false Ks,eq_false WU,i1,w1]
  refine da.uL (by kernel_rfl) ?_
  simp-implicitDefEqProofs(disch:=omega)only[aj,ak,ad,QS,WP,Nat.reduceAdd,↓reduceIte,hn,h0,h1,pN,g3,oV.rows.self,aB,uO,hj0,Vv,CL,m9,kX]
  refine(GA jQ base s1 j bv rv ov b p most rows last out y.1 y.2 oV gu (by omega) y1 (by omega)).mono ?_
  rintro v s2 ⟨ov2,aab,RR,gR,ni,hP⟩
  refine Ej (fun f=>f.n=96/\f.get 0=vd j/\f.get 5= .int .i64 ((258:Int)+(rows.length:Int))/\f.get 6= .pointer (some ⟨q,0,some 3⟩)) ⟨by simp only[ag,hn],by first|simp only[aa,↓reduceIte,WP,h0]|simp only[aa,ag,↓reduceIte,WP],by first|simp only[aa,ag,↓reduceIte,WP,h5]|simp only[aa,↓reduceIte,WP],by first|simp only[aa,ag,↓reduceIte,WP,h6]|simp only[aa,↓reduceIte,WP]⟩ ?_
  rintro f ⟨hn,h0,h5,h6⟩
  have Vu:cf v v=true:=by rcases hP with ⟨e,_⟩|⟨e,_⟩<;>(rw[e];exact cR _ _)
  have Ax:=sV vg ni LJ hqo
  have w1:=Ax.load (P:=Tryz.prog) bC (off:=1) (c:=3) rfl (by simp)
  have w0:=Ax.load (P:=Tryz.prog) bC (off:=0) (c:=3) rfl (by simp)
  have dB:=Nat.le_trans gu (ni).next
  have Di:=bm.trans ((ni).stay ra hof gu)
  by_cases k1:0<last.2
  ·have Gy:(0:Int)<(last.2:Int):=by omega
   by_cases k2:258+rows.length<4096
   ·have IH:(258:Int)+(rows.length:Int)<4096:=by omega
    have eI:=ar.spare s2 1
    have hqS:=Ax.keeps eI
    have w1S:=hqS.load (P:=Tryz.prog) bC (off:=1) (c:=3) rfl (by simp)
    have w0S:=hqS.load (P:=Tryz.prog) bC (off:=0) (c:=3) rfl (by simp)
    have g3S:=((gR).cu.keeps eI).load (P:=Tryz.prog) yD (off:=3) (c:=8) rfl (by simp)
    simp-implicitDefEqProofs(disch:=omega)only[aj,ak,QS,WP,↓reduceIte,hn,h5,h6,Vu,i1,w1,eq_true Gy,eq_true IH]
    refine da.x9 1 (by kernel_rfl) (by kernel_rfl) ?_
    simp-implicitDefEqProofs(disch:=omega)only[aj,ak,ae,QS,WP,↓reduceIte,hn,h0,h6,i0,i1,w0S,w1S,pN,g3S,(gR).rows.self,KF,Dh,Nx,aB]
    refine hI (base:=(s2).next) (by rfl) (by rw[bU];omega) (Nat.le_refl _) ?_
    intro bs t2 m8 qb aU oN _
    have dn:=(ar.spare s2 1).trans aU
    simp-implicitDefEqProofs(disch:=omega)only[aj,ad,QS,WP,↓reduceIte,hn]
    refine j8 Tryz.underlying121 Tryz.underlying121 (.inl ⟨_,rfl⟩) fi Nw sW rfl ((gR).rows.keeps dn) m8.aG.src rfl (by decide) rfl (by omega) (by omega) (gR).rf (by have:=dn.next;omega) ?_
    intro r3 t3 Ag hF3 bH jt Ij
    have EF:=((gR).cu.keeps dn).turns jt (gR).rj
    simp-implicitDefEqProofs(disch:=omega)only[aj,QS,WP,↓reduceIte,hn,pN]
    refine mJ yC EF rfl (by simp) Ag.aG.aJ ?_
    intro s4 ie u0 ru
    have e1:kQ rows++[.int .i64 (last.1:Nat),.int .i64 ((last.2:Int)+1)]=kQ (rows++[(last.1,last.2+1)]):=by rw[sR];rfl
    have e2:rows.length+1=(rows++[(last.1,last.2+1)]).length:=by simp
    rw[e1,e2] at Ag
    obtain⟨xD,dY⟩:=(gR).more dB dn Ag hF3 jt Ij ie u0 ru
    simp-implicitDefEqProofs(disch:=omega)only[aj,al,oneOf,QS,WP,↓reduceIte,hn,Tryz.results107]
    exact lZ.put hX hX0 Vt (by rw[Df _ y2]) hT hL (Di.trans dY) (rv' :=r3) (by unfold rowsOf;rw[if_pos ⟨k1,k2⟩];exact xD) hP
   ·have IH:¬(258:Int)+(rows.length:Int)<4096:=by omega
    simp-implicitDefEqProofs(disch:=omega)only[aj,ak,al,oneOf,QS,WP,↓reduceIte,hn,h5,h6,Vu,i1,w1,eq_true Gy,eq_false IH,Tryz.results107]
    exact lZ.put hX hX0 Vt (by rw[Df _ y2]) hT hL Di (rv' :=rv) (by unfold rowsOf;rw[if_neg (fun q=>k2 q.2)];exact gR) hP
  ·have Gy:¬(0:Int)<(last.2:Int):=by omega
   simp-implicitDefEqProofs(disch:=omega)only[aj,ak,al,oneOf,QS,WP,↓reduceIte,undef,hn,h6,Vu,i1,w1,eq_false Gy,Tryz.results107]
   exact lZ.put hX hX0 Vt (by rw[Df _ y2]) hT hL Di (rv' :=rv) (by unfold rowsOf;rw[if_neg (fun q=>k1 q.1)];exact gR) hP
end Go.Proofs.YtdfjfncifneocaaGreat
set_option linter.unusedSimpArgs false
set_option linter.unusedVariables false
set_option maxRecDepth 100000
namespace Go.Proofs.YtdfjfncifneocaaGreat
open Go.Cl
def Ny (base:Nat)(s:aq)(i:Nat)(l:List UInt8)(most bad:Int):Prop:=
 ∃B,av s i [B,.int .i64 most,.int .i64 bad]/\Own s 1 B l.length (ofBytes l)/\aH base B/\aE B≠some i/\base<=i
theorem Ny.keeps {base:Nat}{s s' :aq}{i:Nat}{l:List UInt8}{most bad:Int}(h:Ny base s i l most bad)(k:ar s.next s s'):Ny base s' i l most bad:=by
 obtain⟨B,h1,h2,h3,h4,h5⟩:=h
 exact⟨B,h1.keeps k,h2.keeps k,h3,h4,h5⟩
def sX (base:Nat)(s:aq)(l:List UInt8)(bad:Int)(v:Value)(s' :aq):Prop:=
 ∃B,v= .tuple #[B,.int .i64 bad]/\Own s' 1 B l.length (ofBytes l)/\aH base B/\ar base s s'
end Go.Proofs.YtdfjfncifneocaaGreat
set_option linter.unusedSimpArgs false
set_option linter.unusedVariables false
set_option maxRecDepth 100000
namespace Go.Cl.Lz
structure PB (m:Nat) (T:List (List UInt8)) (L out:List UInt8):Prop where
 rows:∀r∈T,r.length<=m
 last:L.length<=m
 out:out.length<=m*m
theorem PB.row {m:Nat}{T:List (List UInt8)}{L out:List UInt8}(h:PB m T L out){c:Nat}{x:List UInt8}(hx:rowOf T L c=some x):PB (m+1) (grow T L x) x (out++x)/\x≠[]\/x=[]:=by
 by_cases Aw:x=[]
 ·exact .inr Aw
 refine .inl ⟨?_,Aw⟩
 have vq:x.length<=m+1:=by
  unfold rowOf at hx
  split at hx
  ·injection hx with hx;subst hx;simp
  ·split at hx
   ·cases hx
   ·split at hx
    ·injection hx with hx;subst hx
     have:=h.last
     rw[List.length_append,List.length_take];omega
    ·have:=h.rows x (List.mem_of_getElem? hx);omega
 have hm:(m+1)*(m+1)=m*m+m+m+1:=by rw[Nat.add_mul,Nat.mul_add];omega
 refine⟨fun r hr=> ?_,vq,by have:=h.out;rw[List.length_append,hm];omega⟩
 unfold grow at hr
 split at hr
 ·rcases List.mem_append.mp hr with hr|hr
  ·have:=h.rows r hr;omega
  ·rw[List.mem_singleton] at hr;subst hr
   have:=h.last
   rw[List.length_append,List.length_take];omega
 ·have:=h.rows r hr;omega
theorem Yx {T:List (List UInt8)}(h:T.length<=3838)(L x:List UInt8):(grow T L x).length<=3838:=by
 unfold grow
 split
 ·rename_i q;rw[List.length_append,List.length_singleton];omega
 ·exact h
theorem Vw {out:List UInt8}{rows:List (Nat×Nat)}{T:List (List UInt8)}{L x:List UInt8}{c:Nat}(h:sU out rows T)(hr:rowOf T L c=some x):x≠[]:=by
 unfold rowOf at hr
 split at hr
 ·injection hr with hr;subst hr;simp
 ·split at hr
  ·cases hr
  ·rename_i hL
   split at hr
   ·injection hr with hr;subst hr
    intro e
    exact hL (List.append_eq_nil_iff.mp e).1
   ·have hi:c-258<T.length:=(List.getElem?_eq_some_iff.mp hr).1
    have IF:c-258<rows.length:=by rw[h.1];exact hi
    obtain⟨a,b,d⟩:=h.2 _ _ (List.getElem?_eq_getElem IF)
    rw[hr] at d
    injection d with d
    intro e
    have:=congrArg List.length d
    rw[e,List.length_take,List.length_drop,List.length_nil] at this
    omega
end Go.Cl.Lz
namespace Go.Proofs.YtdfjfncifneocaaGreat
open Go.Cl Go.Cl.Lz Go.Cl.Rw
theorem Nz {x:Value}(hx:aJ x=true)(m:Int):cE Tryz.prog 124 [(0,x),(2,.int .i64 m)]=some (.agg #[x,.int .i64 0,.int .i64 m,.slice none 0 0,.int .i64 0,.int .i64 0,.slice none 0 0]):=by
 unfold cE;rw[Tryz.underlying124]
 have hz:bW Tryz.prog 124=some (.agg #[.slice none 0 0,.int .i64 0,.int .i64 0,.slice none 0 0,.int .i64 0,.int .i64 0,.slice none 0 0]):=by kernel_rfl
 rw[hz]
 have hc:=KB hx
 have lI:x.cells= #[x]:=by rw[<-Array.toList_inj,hc]
 have ci:∀k n,(Value.int k n).cells= #[.int k n]:=fun _ _=>rfl
 simp[gv,bB,yC,fi,bP,gS,fI,placeOf,bO,setAt,lI,ci]
theorem PC (a b:Value):ba (.tuple #[a,b]) 0=some a:=rfl
theorem PD (a b:Value):ba (.tuple #[a,b]) 1=some b:=rfl
theorem agl:cE Tryz.prog 122 []=some (.agg #[.int .i64 0,.int .i64 0]):=by kernel_rfl
set_option maxRecDepth 100000 in
set_option maxHeartbeats 16000000 in
theorem NA {lib:az}(hl:lib.at 66=none)(js:lib.at 106=none)(IP:lib.at 152=none)(Jo:lib.at 107=none)(jQ:lib.at 154=none)(lj:lib.at 153=none)
  (s:aq) (x:Value) (b:List UInt8) (most:Int) (hx:aN s 1 x b.length (ofBytes b)) (hb:b.length<=100000) (hbd:most<=20000000\/b.length<=5000):
  Runs Tryz.prog lib 66 [x,.int .i64 most] s (sX s.next s (sP b most.toNat).2 (sP b most.toNat).1):=by
 obtain⟨base,yU⟩:∃base,base=s.next:=⟨_,rfl⟩
 obtain⟨R,hR⟩:∃R,R=sP b most.toNat:=⟨_,rfl⟩
 rw[<-hR]
 have Aw:x6 base s 1 x b.length (ofBytes b):=by rw[yU];exact hx.low
 refine Runs.enter 46 Tryz.func66 rfl hl rfl rfl ?_
 intro f hn hf
 have h0:f.get 0=x:=hf 0
 have h1:f.get 1= .int .i64 most:=hf 1
 clear hf
 simp-implicitDefEqProofs(disch:=omega)only[aj,ae,QS,WP,↓reduceIte,hn,h0,h1,Nz hx.aJ]
 refine ax ?_
 intro s1 vg bm iY
 obtain⟨j,hj⟩:∃j,j=s.next:=⟨_,rfl⟩
 rw[<-hj] at vg
 have gu:base<=s1.next:=by omega
 have oV:kR base s1 j x (.slice none 0 0) (.slice none 0 0) b 0 most [] (0,0) []:=⟨vg,Aw.stay (by rw[yU];exact bm),.nil,aH.nil _,(fun e=>by cases e),.nil,aH.nil _,(fun e=>by cases e),(fun k e=>by cases e),by omega⟩
 simp-implicitDefEqProofs(disch:=omega)only[aj,QS,Nat.reduceAdd,↓reduceIte,hn,List.length_cons,List.length_nil]
 rw[<-hj]
 refine Comes.eU (fun z f s' =>∃(p m:Nat) (T:List (List UInt8)) (L out:List UInt8) (rows:List (Nat×Nat)) (last:Nat×Nat) (rv ov:Value),kR base s' j x rv ov b p most rows last out/\sU out rows T/\qB out last L/\T.length<=3838/\PB m T L out/\9*m<=p/\(out=[]\/(out.length:Int)<=most)/\p<=8*b.length/\8*b.length<p+z/\dec b most.toNat z p T L out=R/\ar base s s' /\f.n=46/\f.get 6=vd j)
  ⟨0,0,[],[],[],[],(0,0),_,_,oV,⟨rfl,fun i q h=>by simp at h⟩,.inl ⟨rfl,rfl⟩,by simp,⟨fun r h=>by simp at h,by simp,by simp⟩,by omega,.inl rfl,by omega,(show 8*b.length<0+(8*b.length+1) by omega),hR.symm,by rw[yU];exact bm,by simp only[ag,hn],by simp only[aa,↓reduceIte]⟩ ?_
 have PE:j=base:=by omega
 clear hn h0 h1 f oV vg iY
 rintro z f s2 ⟨p,m,T,L,out,rows,last,rv,ov,hD,hT,hL,hTl,hS,hm,ZL,hp,hz,kS,aD,hn,h6⟩
 obtain⟨z,rfl⟩:∃y,z=y+1:=⟨z-1,by omega⟩
 have dB:base<=s2.next:=Nat.le_trans (by omega) aD.next
 have oC:rows.length=T.length:=hT.1
 have EW:out.length<=20000000:=by
  rcases hbd with h|h
  ·rcases ZL with e|e
   ·rw[e];simp
   ·omega
  ·have h1:=hS.out
   have h2:m<=4444:=by omega
   have h3:m*m<=4444*4444:=Nat.mul_le_mul h2 h2
   omega
 obtain⟨w,hw⟩:∃w,w=width (258+T.length):=⟨_,rfl⟩
 have hw9:=pE (258+T.length)
 rw[<-hw] at hw9
 simp-implicitDefEqProofs(disch:=omega)only[aj,ak,ad,QS,↓reduceIte,hn,h6]
 refine(Nt js IP base s2 j x rv ov b p most rows last out hD (by omega) hp (by omega)).mono ?_
 rw[oC,<-hw]
 rintro v s3 (⟨c1,rfl,rfl⟩|⟨c1,rfl,Kp,bH⟩)
 ·have gr:=mQ (most:=most.toNat) (k:=z) (last:=L) (out:=out) (by rw[<-hw];exact c1)
  rw[gr] at kS
  have ck:¬(2:Int)=0:=by decide
  simp-implicitDefEqProofs(disch:=omega)only[aj,ak,al,oneOf,QS,WP,↓reduceIte,hn,PC,PD,eq_false ck,Tryz.results66]
  rw[<-kS]
  exact⟨_,rfl,.nil,aH.nil _,by rw[PE];exact aD⟩
 ·obtain⟨c,hc⟩:∃c,c=jh b p w:=⟨_,rfl⟩
  have Vx:c<4096:=by
   rw[hc]
   have h1:=C8 b p w
   have h2:2^w<=2^12:=Nat.pow_le_pow_right (by omega) hw9.2
   omega
  rw[<-hc]
  have KG:=aD.trans bH
  have rz:=Nat.le_trans dB bH.next
  refine oH (fun f=>f.n=46/\f.get 6=vd j) ⟨by simp only[ag,hn],by first|simp only[aa,↓reduceIte,WP,h6]|simp only[aa,ag,↓reduceIte,WP]⟩ ?_
  rintro f ⟨hn,h6⟩
  by_cases k7:c=257
  ·have k7' :(c:Int)=257:=by omega
   have gr:=wK (most:=most.toNat) (k:=z) (last:=L) (out:=out) (by rw[<-hw];exact c1) (by rw[<-hw,<-hc];exact k7)
   rw[gr] at kS
   have g6:=Kp.cu.load (P:=Tryz.prog) gw (off:=6) (c:=8) rfl (by simp)
   simp-implicitDefEqProofs(disch:=omega)only[aj,ak,al,oneOf,QS,WP,↓reduceIte,hn,h6,PC,PD,eq_true k7',sS,g6,Tryz.results66]
   rw[<-kS]
   exact⟨ov,rfl,Kp.out,by rw[PE];exact Kp.of,by rw[PE];exact KG⟩
  ·have k7' :¬(c:Int)=257:=by omega
   by_cases k6:c=256
   ·have k6' :(c:Int)=256:=by omega
    have gr:=yB (most:=most.toNat) (k:=z) (last:=L) (out:=out) (by rw[<-hw];exact c1) (by rw[<-hw,<-hc];exact k6)
    rw[gr,<-hw] at kS
    simp-implicitDefEqProofs(disch:=omega)only[aj,ak,ae,QS,WP,↓reduceIte,hn,h6,PC,PD,eq_false k7',eq_true k6',agl,pN]
    refine aX yC Kp.cu rfl (by simp) rfl ?_
    intro s4 ie u0 ru
    have hD4:kR base s4 j x (.slice none 0 0) ov b (p+w) most [] last out:=⟨ie,Kp.b.stay (ar.aI u0 ru Kp.lo),.nil,aH.nil _,(fun e=>by cases e),Kp.out.aI u0 ru Kp.oj,Kp.of,Kp.oj,(fun k hk e=>by cases e),Kp.lo⟩
    simp-implicitDefEqProofs(disch:=omega)only[aj,QS,WP,↓reduceIte,hn,KE]
    refine jv fi hD4.cu rfl rfl rfl rfl (by simp) ?_
    intro s5 vv WO IM
    have hD5:kR base s5 j x (.slice none 0 0) ov b (p+w) most [] (0,0) out:=hD4.put vv WO IM
    simp-implicitDefEqProofs(disch:=omega)only[aj,WP,↓reduceIte]
    refine au z (by omega) ⟨p+w,m,[],[],out,[],(0,0),_,_,hD5,⟨rfl,fun i q h=>by simp at h⟩,.inl ⟨rfl,rfl⟩,by simp,⟨fun r h=>by simp at h,by simp,hS.out⟩,by omega,ZL,by omega,by omega,kS,(KG.trans (ar.aI u0 ru Kp.lo)).trans (ar.aI WO IM Kp.lo),by simp only[ag,hn],by simp only[aa,↓reduceIte,WP,h6]⟩
   ·have k6' :¬(c:Int)=256:=by omega
    have gr:=qu (most:=most.toNat) (k:=z) (last:=L) (out:=out) (by rw[<-hw];exact c1) (by rw[<-hw,<-hc]) k7 k6
    rw[gr] at kS
    simp-implicitDefEqProofs(disch:=omega)only[aj,ak,ad,QS,WP,↓reduceIte,hn,h6,PC,PD,eq_false k7',eq_false k6']
    refine(RS Jo jQ lj base s3 j x rv ov b (p+w) most rows last out T L c Kp rz hT hL Vx k6 k7 (by omega) EW).mono ?_
    intro v s4 hO
    obtain⟨dY,hO⟩:=hO
    cases qq:rowOf T L c with
    |none=>
     rw[qq] at hO kS
     simp only at hO kS
     subst hO
     have ck:¬(4:Int)=0:=by decide
     simp-implicitDefEqProofs(disch:=omega)only[aj,ak,al,oneOf,QS,WP,↓reduceIte,hn,eq_false ck,Tryz.results66]
     rw[<-kS]
     exact⟨_,rfl,.nil,aH.nil _,by rw[PE];exact KG.trans dY⟩
    |some r=>
     rw[qq] at hO kS
     simp only at hO kS
     have hr0:=Vw hT qq
     have apC:=List.length_pos_iff.mpr hr0
     rcases hO with ⟨o1,rfl⟩|⟨o1,rfl,rv4,ov4,agm,hD4,hT4⟩
     ·rw[if_pos (by omega)] at kS
      have ck:¬(7:Int)=0:=by decide
      simp-implicitDefEqProofs(disch:=omega)only[aj,ak,al,oneOf,QS,WP,↓reduceIte,hn,eq_false ck,Tryz.results66]
      rw[<-kS]
      exact⟨_,rfl,.nil,aH.nil _,by rw[PE];exact KG.trans dY⟩
     ·rw[if_neg (by omega),<-hw] at kS
      simp-implicitDefEqProofs(disch:=omega)only[aj,ak,QS,↓reduceIte,hn]
      have hS4:=hS.row qq
      rcases hS4 with ⟨hS4,_⟩|e
      ·refine au z (by omega) ⟨p+w,m+1,grow T L r,r,out++r,agm,(out.length,r.length),rv4,ov4,hD4,hT4,qB.next out r hr0,Yx hTl L r,hS4,by omega,.inr (by rw[List.length_append];exact o1),by omega,by omega,kS,KG.trans dY,by simp only[ag,hn],by simp only[aa,↓reduceIte,WP,h6]⟩
      ·exact absurd e hr0
end Go.Proofs.YtdfjfncifneocaaGreat
set_option linter.unusedSimpArgs false
set_option linter.unusedVariables false
set_option maxRecDepth 100000
namespace Go.Proofs.YtdfjfncifneocaaGreat
open Go.Cl
def ji (base:Nat)(s:aq)(i:Nat)(l:List UInt8)(p:Nat):Prop:=
 ∃b,av s i [b,.int .i64 p]/\x6 base s 1 b l.length (ofBytes l)/\base<=i/\p<=l.length
def KH (base:Nat)(s:aq)(i:Nat)(b:Value)(l:List UInt8)(p:Nat):Prop:=
 av s i [b,.int .i64 p]/\x6 base s 1 b l.length (ofBytes l)/\base<=i/\p<=l.length
theorem ji.keeps {base:Nat}{s s' :aq}{i:Nat}{l:List UInt8}{p:Nat}(h:ji base s i l p)(hb:base<=s.next)(k:ar s.next s s'):ji base s' i l p:=by
 obtain⟨b,h1,h2,h3,h4⟩:=h
 exact⟨b,h1.keeps k,h2.stay (k.weaken hb),h3,h4⟩
theorem ji.turns {base:Nat}{s s' :aq}{i:Nat}{l:List UInt8}{p:Nat}(h:ji base s i l p){v:Value}(hb:base<=s.next)(hf:aH base v)(k:aY v s s')(ck:aE v≠some i):ji base s' i l p:=by
 obtain⟨b,h1,h2,h3,h4⟩:=h
 exact⟨b,h1.turns k ck,h2.stay (k.keeps hf hb),h3,h4⟩
abbrev fO (i:Nat):Value:= .pointer (some ⟨i,0,some 3⟩)
theorem cQ {base i:Nat}(h:base<=i):aH base (fO i):=fun j hj=>by
 have:some i=some j:=hj
 injection this with this;omega
theorem dO {i j:Nat}(h:i≠j):aE (fO i)≠some j:=fun e=>by
 have:some i=some j:=e
 injection this with this;exact h this
theorem KI (i o c:Nat):ay Tryz.prog 173 (.pointer (some ⟨i,o,some c⟩)) 0=some (.pointer (some ⟨i,o+0,some c⟩)):=by
 unfold ay;rw[Tryz.underlying173];simp[gv]
theorem GB (i o c:Nat):ay Tryz.prog 173 (.pointer (some ⟨i,o,some c⟩)) 1=some (.pointer (some ⟨i,o+1,some c⟩)):=by
 unfold ay;rw[Tryz.underlying173];simp[bB]
theorem Yy {v:Value}(hv:v.cells.toList=[v]):cE Tryz.prog 173 [(0,v)]=some (.agg #[v,.int .i64 0]):=by
 unfold cE;rw[Tryz.underlying173]
 have hz:bW Tryz.prog 173=some (.agg #[.slice none 0 0,.int .i64 0]):=by kernel_rfl
 rw[hz]
 simp only[fI,placeOf,hv]
 simp[gv,bB,bP,gS,bO,setAt]
theorem Ik {lib:az}(hl:lib.at 100=none)(base:Nat)(s:aq)(x:Value)(l:List UInt8)(hx:x6 base s 1 x l.length (ofBytes l))(hb:base<=s.next):
  Runs Tryz.prog lib 100 [x] s fun v s' =>v=fO s.next/\ji base s' s.next l 0/\ar s.next s s' /\s'.next=s.next+1:=by
 refine Runs.enter 11 Tryz.func100 rfl hl rfl rfl ?_
 intro f hn hf
 have h0:f.get 0=x:=hf 0
 clear hf
 obtain⟨v',hv,sd⟩:=hx.aG.full Tryz.underlying22 bL .i64 .i64
 simp only[aj,ad,ae,ai,QS,WP,↓reduceIte,hn,h0,hx.aG.bh Tryz.underlying22,hv,Yy (sd _ hx.aG).su]
 refine ax ?_
 intro s1 ht aD DQ
 simp only[aj,al,oneOf,QS,Nat.reduceAdd,↓reduceIte,hn,Tryz.results100,List.length_cons,List.length_nil]
 exact⟨⟨v',ht,fun s' k=>sd s' (hx s' ((aD.weaken hb).trans k)),hb,by omega⟩,aD,DQ⟩
theorem AL {lib:az}(hl:lib.at 105=none)(base:Nat)(s:aq)(i:Nat)(l:List UInt8)(p:Nat)(hc:ji base s i l p):
  Runs Tryz.prog lib 105 [fO i] s fun v s' =>v= .int .i64 p/\s' =s:=by
 obtain⟨b,ht,nP,hi,hp⟩:=hc
 refine Runs.enter 9 Tryz.func105 rfl hl rfl rfl ?_
 intro f hn hf
 have h0:f.get 0=fO i:=hf 0
 clear hf
 have l1:=ht.load (P:=Tryz.prog) bC (off:=1) (c:=3) rfl (by simp)
 simp only[aj,ak,al,oneOf,QS,WP,↓reduceIte,hn,h0,cP Tryz.underlying112,GB,l1,Tryz.results105]
theorem Yz {lib:az}(hl:lib.at 209=none)(base:Nat)(s:aq)(i:Nat)(l:List UInt8)(p:Nat)(hc:ji base s i l p):
  Runs Tryz.prog lib 209 [fO i] s fun v s' =>v= .int .i64 l.length/\s' =s:=by
 obtain⟨b,ht,nP,hi,hp⟩:=hc
 refine Runs.enter 10 Tryz.func209 rfl hl rfl rfl ?_
 intro f hn hf
 have h0:f.get 0=fO i:=hf 0
 clear hf
 have l0:=ht.load (P:=Tryz.prog) gw (off:=0) (c:=3) rfl (by simp)
 simp only[aj,ak,al,oneOf,ad,QS,WP,↓reduceIte,hn,h0,cP Tryz.underlying112,KI,l0,nP.aG.bh Tryz.underlying22,Tryz.results209]
theorem Dj {lib:az}(hl:lib.at 186=none)(kX:lib.at 209=none)(jS:lib.at 105=none)(base:Nat)(s:aq)(i:Nat)(l:List UInt8)(p:Nat)(hc:ji base s i l p)(hlen:l.length<=4294967296):
  Runs Tryz.prog lib 186 [fO i] s fun v s' =>v= .int .i64 (l.length-p:Nat)/\s' =s:=by
 refine Runs.enter 8 Tryz.func186 rfl hl rfl rfl ?_
 intro f hn hf
 have h0:f.get 0=fO i:=hf 0
 clear hf
 have hp:p<=l.length:=hc.choose_spec.2.2.2
 simp only[aj,ak,ad,QS,WP,↓reduceIte,hn,h0]
 refine(Yz kX base s i l p hc).mono ?_
 rintro _ s ⟨rfl,rfl⟩
 simp only[aj,ak,ad,QS,WP,↓reduceIte,hn,h0]
 refine(AL jS base s i l p hc).mono ?_
 rintro _ s ⟨rfl,rfl⟩
 have e:(l.length:Int)-p=((l.length-p:Nat):Int):=by omega
 simp-implicitDefEqProofs(disch:=omega)only[aj,al,oneOf,QS,WP,↓reduceIte,hn,aB,e,Tryz.results186]
def eG (l:List UInt8)(k:Int):Int:=if 0<=k/\k<l.length then((l.getD k.toNat 0).toNat:Int) else-1
theorem RU {lib:az}(hl:lib.at 192=none)(m9:lib.at 186=none)(kX:lib.at 209=none)(jS:lib.at 105=none)(base:Nat)(s:aq)(i:Nat)(l:List UInt8)(p:Nat)(k:Int)(hc:ji base s i l p)(hlen:l.length<=4294967296):
  Runs Tryz.prog lib 192 [fO i,.int .i64 k] s fun v s' =>v= .int .i64 (eG l (p+k))/\s' =s:=by
 refine Runs.enter 29 Tryz.func192 rfl hl rfl rfl ?_
 intro f hn hf
 have h0:f.get 0=fO i:=hf 0
 have h1:f.get 1= .int .i64 k:=hf 1
 clear hf
 have hp:p<=l.length:=hc.choose_spec.2.2.2
 simp only[aj,ak,ad,QS,WP,↓reduceIte,hn,h0,h1]
 refine(Dj m9 kX jS base s i l p hc hlen).mono ?_
 rintro _ s ⟨rfl,rfl⟩
 by_cases c1:((l.length-p:Nat):Int)<=k
 ·have hb:eG l (p+k)= -1:=by unfold eG;rw[if_neg (by omega)]
  simp-implicitDefEqProofs(disch:=omega)only[aj,ak,al,oneOf,QS,WP,↓reduceIte,hn,c1,hb,Tryz.results192]
 ·simp-implicitDefEqProofs(disch:=omega)only[aj,ak,ad,QS,WP,↓reduceIte,hn,h0,h1,c1]
  refine(AL jS base s i l p hc).mono ?_
  rintro _ s ⟨rfl,rfl⟩
  by_cases c2:k<0-(p:Int)
  ·have hb:eG l (p+k)= -1:=by unfold eG;rw[if_neg (by omega)]
   simp-implicitDefEqProofs(disch:=omega)only[aj,ak,al,oneOf,QS,WP,↓reduceIte,hn,aB,c2,hb,Tryz.results192]
  ·have hb:eG l (p+k)=((l.getD ((p:Int)+k).toNat 0).toNat:Int):=by unfold eG;rw[if_pos (by omega)]
   obtain⟨b,ht,nP,hi,_⟩:=hc
   have l0:=ht.load (P:=Tryz.prog) gw (off:=0) (c:=3) rfl (by simp)
   have l1:=ht.load (P:=Tryz.prog) bC (off:=1) (c:=3) rfl (by simp)
   have hb8:=(l.getD ((p:Int)+k).toNat 0).toNat_lt
   simp-implicitDefEqProofs(disch:=omega)only[aj,ak,al,oneOf,QS,WP,↓reduceIte,hn,h0,h1,aB,c2,hb,KI,GB,l0,l1,nP.aG.indexAddr Tryz.underlying22 bL,nP.aG.dJ mB,bG,nP.aG.self,bR Tryz.underlying5 Tryz.underlying3,Tryz.underlying3,Tryz.results192]
theorem aci {lib:az}(hl:lib.at 155=none)(jQ:lib.at 192=none)(m9:lib.at 186=none)(kX:lib.at 209=none)(jS:lib.at 105=none)(base:Nat)(s:aq)(i:Nat)(b:Value)(l:List UInt8)(p:Nat)(hc:KH base s i b l p)(hb:base<=s.next)(hlen:l.length<=4294967296):
  Runs Tryz.prog lib 155 [fO i] s fun v s' =>v= .int .i64 (eG l p)/\KH base s' i b l (min (p+1) l.length)/\aY (fO i) s s' :=by
 refine Runs.enter 16 Tryz.func155 rfl hl rfl rfl ?_
 intro f hn hf
 have h0:f.get 0=fO i:=hf 0
 clear hf
 have hp:p<=l.length:=hc.2.2.2
 simp only[aj,ak,ad,QS,WP,↓reduceIte,hn,h0]
 refine(RU jQ m9 kX jS base s i l p 0 ⟨b,hc⟩ hlen).mono ?_
 rintro _ s ⟨rfl,rfl⟩
 rw[Int.add_zero]
 by_cases c:p<l.length
 ·have hv:0<=eG l p:=by unfold eG;rw[if_pos (by omega)];omega
  obtain⟨ht,nP,hi,_⟩:=hc
  have l1:=ht.load (P:=Tryz.prog) bC (off:=1) (c:=3) rfl (by simp)
  simp-implicitDefEqProofs(disch:=omega)only[aj,ak,QS,WP,↓reduceIte,hn,h0,hv,GB,l1,aB]
  refine aX bB ht rfl (by simp) rfl ?_
  intro s1 eO iJ bm
  simp-implicitDefEqProofs(disch:=omega)only[aj,al,oneOf,QS,WP,↓reduceIte,hn,Tryz.results155]
  refine⟨⟨?_,nP.stay (ar.aI iJ bm hi),hi,by omega⟩,aY.aI iJ bm⟩
  rw[Nat.min_eq_left (by omega)];exact eO
 ·have hv:¬0<=eG l p:=by unfold eG;rw[if_neg (by omega)];omega
  obtain rfl:p=l.length:=by omega
  simp-implicitDefEqProofs(disch:=omega)only[aj,al,oneOf,QS,WP,↓reduceIte,hn,hv,Tryz.results155]
  rw[Nat.min_eq_right (by omega)]
  exact⟨hc,Nat.le_refl _,fun _ _ _=>rfl⟩
theorem w7 {lib:az}(hl:lib.at 155=none)(jQ:lib.at 192=none)(m9:lib.at 186=none)(kX:lib.at 209=none)(jS:lib.at 105=none)(base:Nat)(s:aq)(i:Nat)(l:List UInt8)(p:Nat)(hc:ji base s i l p)(hb:base<=s.next)(hlen:l.length<=4294967296):
  Runs Tryz.prog lib 155 [fO i] s fun v s' =>v= .int .i64 (eG l p)/\ji base s' i l (min (p+1) l.length)/\aY (fO i) s s' :=by
 obtain⟨b,hc⟩:=hc
 refine(aci hl jQ m9 kX jS base s i b l p hc hb hlen).mono ?_
 rintro v s' ⟨h1,h2,h3⟩
 exact⟨h1,⟨b,h2⟩,h3⟩
end Go.Proofs.YtdfjfncifneocaaGreat
set_option linter.unusedSimpArgs false
set_option linter.unusedVariables false
set_option maxRecDepth 100000
namespace Go.Proofs.YtdfjfncifneocaaGreat
open Go.Cl Go.Cl.Hx
def fF (c:Int):Bool:=decide (c=0\/c=9\/c=10\/c=12\/c=13\/c=32)
def digit (c:Int):Int:=if 48<=c/\c<=57 then c-48 else if 97<=c/\c<=102 then c-97+10 else if 65<=c/\c<=70 then c-65+10 else-1
theorem RV {lib:az}(hl:lib.at 156=none)(s:aq)(c:Int):
  Runs Tryz.prog lib 156 [.int .i64 c] s fun v s' =>v= .bool (fF c)/\s' =s:=by
 refine Runs.enter 25 Tryz.func156 rfl hl rfl rfl ?_
 intro f hn hf
 have h0:f.get 0= .int .i64 c:=hf 0
 clear hf
 by_cases c0:c=0
 ·have hw:fF c=true:=by unfold fF;simp[c0]
  simp-implicitDefEqProofs(disch:=omega)only[aj,ak,al,oneOf,QS,WP,↓reduceIte,hn,h0,eq_true c0,hw,Tryz.results156]
 ·by_cases c1:c=9
  ·have hw:fF c=true:=by unfold fF;simp[c1]
   simp-implicitDefEqProofs(disch:=omega)only[aj,ak,al,oneOf,QS,WP,↓reduceIte,hn,h0,c0,eq_true c1,hw,Tryz.results156]
  ·by_cases c2:c=10
   ·have hw:fF c=true:=by unfold fF;simp[c2]
    simp-implicitDefEqProofs(disch:=omega)only[aj,ak,al,oneOf,QS,WP,↓reduceIte,hn,h0,c0,c1,eq_true c2,hw,Tryz.results156]
   ·by_cases c3:c=12
    ·have hw:fF c=true:=by unfold fF;simp[c3]
     simp-implicitDefEqProofs(disch:=omega)only[aj,ak,al,oneOf,QS,WP,↓reduceIte,hn,h0,c0,c1,c2,eq_true c3,hw,Tryz.results156]
    ·by_cases c4:c=13
     ·have hw:fF c=true:=by unfold fF;simp[c4]
      simp-implicitDefEqProofs(disch:=omega)only[aj,ak,al,oneOf,QS,WP,↓reduceIte,hn,h0,c0,c1,c2,c3,eq_true c4,hw,Tryz.results156]
     ·have hw:fF c=decide (c=32):=by unfold fF;simp[c0,c1,c2,c3,c4]
      simp-implicitDefEqProofs(disch:=omega)only[aj,ak,al,oneOf,QS,WP,↓reduceIte,hn,h0,c0,c1,c2,c3,c4,hw,Tryz.results156]
theorem RW {lib:az}(hl:lib.at 110=none)(s:aq)(c:Int):
  Runs Tryz.prog lib 110 [.int .i64 c] s fun v s' =>v= .int .i64 (digit c)/\s' =s:=by
 refine Runs.enter 32 Tryz.func110 rfl hl rfl rfl ?_
 intro f hn hf
 have h0:f.get 0= .int .i64 c:=hf 0
 clear hf
 unfold digit
 by_cases c1:48<=c<;>by_cases c2:c<=57<;>by_cases c3:97<=c<;>by_cases c4:c<=102<;>by_cases c5:65<=c<;>by_cases c6:c<=70<;>first|(exfalso;omega)|(simp-implicitDefEqProofs(disch:=omega)only[aj,ak,al,oneOf,QS,WP,↓reduceIte,hn,h0,c1,c2,c3,c4,c5,c6,aB,Tryz.results110])
end Go.Proofs.YtdfjfncifneocaaGreat
set_option linter.unusedSimpArgs false
set_option linter.unusedVariables false
set_option maxRecDepth 100000
namespace Go.Proofs.YtdfjfncifneocaaGreat
open Go.Cl
def Still (A:Nat->Prop)(s s' :aq):Prop:=∀k,A k->s'.heap.get k=s.heap.get k
theorem Still.refl (A:Nat->Prop)(s:aq):Still A s s:=fun _ _=>rfl
theorem Still.trans {A:Nat->Prop}{s s' ss:aq}(h:Still A s s')(k:Still A s' ss):Still A s ss:=fun i hi=>(k i hi).trans (h i hi)
def l5 (A:Nat->Prop)(base:Nat)(s:aq)(j:Nat)(r P:List UInt8)(M:Int):Prop:=
 ∃i o l p,r=l.drop p/\l.length<=4294967296/\av s j [fO i,.int .i64 M,o]/\ji base s i l p/\Own s 1 o P.length (ofBytes P)/\aH base o/\base<=j/\aE o≠some i/\aE o≠some j/\i≠j/\i<s.next/\∀k,A k->k<s.next/\k≠i/\k≠j/\aE o≠some k
theorem l5.still {A:Nat->Prop}{base:Nat}{s s' :aq}{j:Nat}{r P:List UInt8}{M:Int}(h:l5 A base s j r P M)(k:ar s.next s s'):Still A s s' :=by
 obtain⟨i,o,l,p,h1,h2,h3,h4,h5,h6,h7,h8,h9,gK,AH,AJ⟩:=h
 exact fun q hq=>k.get q (AJ q hq).1
theorem l5.keeps {A:Nat->Prop}{base:Nat}{s s' :aq}{j:Nat}{r P:List UInt8}{M:Int}(h:l5 A base s j r P M)(hb:base<=s.next)(k:ar s.next s s'):l5 A base s' j r P M:=by
 obtain⟨i,o,l,p,h1,h2,h3,h4,h5,h6,h7,h8,h9,gK,AH,AJ⟩:=h
 exact⟨i,o,l,p,h1,h2,h3.keeps k,h4.keeps hb k,h5.keeps k,h6,h7,h8,h9,gK,Nat.lt_of_lt_of_le AH k.next,fun q hq=>⟨Nat.lt_of_lt_of_le (AJ q hq).1 k.next,(AJ q hq).2⟩⟩
theorem l5.turns {A A' :Nat->Prop}{base:Nat}{s s' :aq}{j:Nat}{r P:List UInt8}{M:Int}(h:l5 A base s j r P M)(hb:base<=s.next){v:Value}(hv:∀k,aE v=some k->A k)(hF:aH base v)(k:aY v s s')(hA:∀q,A' q->q<s'.next/\(A q\/s.next<=q)):l5 A' base s' j r P M:=by
 obtain⟨i,o,l,p,h1,h2,h3,h4,h5,h6,h7,h8,h9,gK,AH,AJ⟩:=h
 refine⟨i,o,l,p,h1,h2,h3.turns k (fun e=>(AJ j (hv j e)).2.2.1 rfl),h4.turns hb hF k (fun e=>(AJ i (hv i e)).2.1 rfl),h5.turns k (fun q hq e=>(AJ q (hv q e)).2.2.2 hq),h6,h7,h8,h9,gK,Nat.lt_of_lt_of_le AH k.next,fun q hq=> ?_⟩
 obtain⟨g1,g2⟩:=hA q hq
 rcases g2 with g2|g2
 ·exact⟨g1,(AJ q g2).2⟩
 ·refine⟨g1,by omega,by have:=h3.lt;omega,fun e=>by have:=h5.g8 q e;omega⟩
abbrev gl (j:Nat):Value:= .pointer (some ⟨j,0,some 4⟩)
theorem acj:bY Tryz.prog 112=some false:=by kernel_rfl
theorem Il:aW Tryz.prog 112=some 1:=by kernel_rfl
theorem Vy (i o c:Nat):ay Tryz.prog 132 (.pointer (some ⟨i,o,some c⟩)) 0=some (.pointer (some ⟨i,o+0,some c⟩)):=by
 unfold ay;rw[Tryz.underlying132];simp[Il]
theorem KJ (i o c:Nat):ay Tryz.prog 132 (.pointer (some ⟨i,o,some c⟩)) 1=some (.pointer (some ⟨i,o+1,some c⟩)):=by
 unfold ay;rw[Tryz.underlying132];simp[bB]
theorem pO (i o c:Nat):ay Tryz.prog 132 (.pointer (some ⟨i,o,some c⟩)) 2=some (.pointer (some ⟨i,o+2,some c⟩)):=by
 unfold ay;rw[Tryz.underlying132];simp[gv]
theorem ack (i:Nat)(m:Int):cE Tryz.prog 132 [(0,fO i),(1,.int .i64 m)]=some (.agg #[fO i,.int .i64 m,.slice none 0 0]):=by
 unfold cE;rw[Tryz.underlying132]
 have hz:bW Tryz.prog 132=some (.agg #[.pointer none,.int .i64 0,.slice none 0 0]):=by kernel_rfl
 rw[hz]
 have c1:(fO i).cells.toList=[fO i]:=rfl
 have c2:(Value.int .i64 m).cells.toList=[.int .i64 m]:=rfl
 simp only[fI,placeOf,c1,c2]
 simp[Il,bB,gv,bP,gS,bO,setAt]
theorem zU {lib:az}(A:Nat->Prop)(hl:lib.at 108=none)(kX:lib.at 100=none)(base:Nat)(s:aq)(x:Value)(l:List UInt8)(most:Int)(hx:x6 base s 1 x l.length (ofBytes l))(hb:base<=s.next)(hlen:l.length<=4294967296)(hA:∀k,A k->k<s.next):
  Runs Tryz.prog lib 108 [x,.int .i64 most] s fun v s' =>∃j,v=gl j/\l5 A base s' j l [] (if most<0 then 0 else most)/\ar s.next s s' :=by
 refine Runs.enter 11 Tryz.func108 rfl hl rfl rfl ?_
 intro f hn hf
 have h0:f.get 0=x:=hf 0
 have h1:f.get 1= .int .i64 most:=hf 1
 clear hf
 simp-implicitDefEqProofs(disch:=omega)only[aj,ak,ad,QS,WP,↓reduceIte,hn,h0]
 refine(Ik kX base s x l hx hb).mono ?_
 rintro _ s1 ⟨rfl,hc,aD,DQ⟩
 have Wy:(if most<0 then(0:Int) else most)=(if most<0 then 0 else most):=rfl
 simp-implicitDefEqProofs(disch:=omega)only[aj,ad,ae,QS,WP,↓reduceIte,hn,h1,ack]
 refine ax ?_
 intro s2 ht aU oN
 simp-implicitDefEqProofs(disch:=omega)only[aj,al,oneOf,QS,Nat.reduceAdd,↓reduceIte,hn,Tryz.results108,List.length_cons,List.length_nil]
 refine⟨s1.next,rfl,⟨s.next,_,l,0,rfl,hlen,ht,hc.keeps (by omega) aU,.nil,aH.nil _,by omega,(by intro e;cases e),(by intro e;cases e),by omega,by omega,fun k hk=>by have:=hA k hk;exact⟨by omega,by omega,by omega,by intro e;cases e⟩⟩,aD.trans (aU.weaken (by omega))⟩
def sign:List UInt8->Int×List UInt8
 |[]=>(-1,[])
 |c::l=>if fF c.toNat then sign l else(c.toNat,l)
theorem w8 {lib:az}(hl:lib.at 109=none)(hw:lib.at 156=none)(yQ:lib.at 155=none)(jQ:lib.at 192=none)(m9:lib.at 186=none)(kX:lib.at 209=none)(jS:lib.at 105=none)
  (A:Nat->Prop) (base:Nat) (s:aq) (j:Nat) (r P:List UInt8) (M:Int) (h:l5 A base s j r P M) (hb:base<=s.next):
  Runs Tryz.prog lib 109 [gl j] s fun v s' =>v= .int .i64 (sign r).1/\l5 A base s' j (sign r).2 P M/\ar base s s' /\Still A s s' :=by
 refine Runs.enter 13 Tryz.func109 rfl hl rfl rfl ?_
 intro f hn hf
 have h0:f.get 0=gl j:=hf 0
 clear hf
 simp-implicitDefEqProofs(disch:=omega)only[aj,QS,↓reduceIte,hn]
 refine Comes.eU (fun q f s' =>∃r',q=r'.length/\sign r' =sign r/\l5 A base s' j r' P M/\ar base s s' /\Still A s s' /\f.n=13/\f.get 0=gl j) ⟨r,rfl,rfl,h,ar.refl _ _,Still.refl _ _,by simp only[ag,hn],by simp only[aa,↓reduceIte,WP,h0]⟩ ?_
 clear hn h0 f h
 rintro q f s1 ⟨r',rfl,hr,h,aD,akA,hn,h0⟩
 obtain⟨i,o,l,p,oC,hlen,ht,hc,ho,hF,hj,tE,fx,th,Xj,PF⟩:=h
 have l0:=ht.load (P:=Tryz.prog) acj (off:=0) (c:=4) rfl (by simp)
 have LP:base<=i:=hc.choose_spec.2.2.1
 have gu:base<=s1.next:=Nat.le_trans hb aD.next
 simp-implicitDefEqProofs(disch:=omega)only[aj,ak,ad,QS,↓reduceIte,hn,h0,Vy,l0]
 refine(w7 yQ jQ m9 kX jS base s1 i l p hc gu hlen).mono ?_
 rintro _ s2 ⟨rfl,lI,dZ⟩
 have mv:=dZ.keeps (cQ LP) gu
 have aU:ar base s s2:=aD.trans mv
 have NB:Still A s s2:=akA.trans (fun k hk=>dZ.get k (PF k hk).1 (dO (fun e=>(PF k hk).2.1 e.symm)))
 have gR:l5 A base s2 j (l.drop (min (p+1) l.length)) P M:=⟨i,o,l,_,rfl,hlen,ht.turns dZ (dO th),lI,ho.turns dZ (fun q hq=>dO (fun e=>tE (by rw[e];exact hq))),hF,hj,tE,fx,th,Nat.lt_of_lt_of_le Xj dZ.next,fun k hk=>⟨Nat.lt_of_lt_of_le (PF k hk).1 dZ.next,(PF k hk).2⟩⟩
 simp-implicitDefEqProofs(disch:=omega)only[aj,ak,ad,QS,↓reduceIte,hn]
 refine(RV hw s2 _).mono ?_
 rintro _ s2 ⟨rfl,rfl⟩
 by_cases hp:p<l.length
 ·have rS:eG l p=((l.getD p 0).toNat:Int):=by unfold eG;rw[if_pos (by omega),Int.toNat_natCast]
  have F5:r' =l.getD p 0::l.drop (p+1):=by
   rw[oC,List.drop_eq_getElem_cons hp];simp[List.getD,List.getElem?_eq_getElem hp]
  rw[Nat.min_eq_left (by omega)] at gR
  by_cases hwh:fF ((l.getD p 0).toNat:Int)=true
  ·simp-implicitDefEqProofs(disch:=omega)only[aj,QS,↓reduceIte,hn,rS,hwh]
   refine au (l.drop (p+1)).length (by rw[F5];simp) ⟨_,rfl,?_,gR,aU,NB,by simp only[ag,hn],by simp only[aa,↓reduceIte,WP,h0]⟩
   rw[<-hr,F5]
   simp only[sign];rw[if_pos hwh]
  ·have Pb:sign r=(((l.getD p 0).toNat:Int),l.drop (p+1)):=by rw[<-hr,F5];simp only[sign];rw[if_neg hwh]
   simp only[Bool.not_eq_true] at hwh
   simp-implicitDefEqProofs(disch:=omega)only[aj,al,oneOf,QS,WP,↓reduceIte,hn,rS,hwh,Pb,Tryz.results109]
   exact⟨gR,aU,NB⟩
 ·have rS:eG l p= -1:=by unfold eG;rw[if_neg (by omega)]
  have F5:r' =[]:=by rw[oC];exact List.drop_eq_nil_of_le (by omega)
  have Pb:sign r=(-1,[]):=by rw[<-hr,F5];rfl
  have hwh:fF (-1)=false:=by decide
  rw[List.drop_eq_nil_of_le (by omega)] at gR
  simp-implicitDefEqProofs(disch:=omega)only[aj,al,oneOf,QS,WP,↓reduceIte,hn,rS,hwh,Pb,Tryz.results109]
  exact⟨gR,aU,NB⟩
theorem sY {lib:az}(hl:lib.at 111=none)(A:Nat->Prop)(base:Nat)(s:aq)(j:Nat)(r P D:List UInt8)(M:Int)(b:Value)(h:l5 A base s j r P M)(hb:base<=s.next)(hd:aN s 1 b D.length (ofBytes D))(hD:D.length<=1000)(hP:P.length<=2147483648)(RX:0<=M)(hM:M<9223372036854775808):
  Runs Tryz.prog lib 111 [gl j,b] s fun v s' =>v= .int .i64 (if M-P.length<D.length then 7 else 0)/\l5 A base s' j r (if M-P.length<D.length then P else P++D) M/\ar base s s' /\Still A s s' :=by
 obtain⟨i,o,l,p,oC,hlen,ht,hc,ho,hF,hj,tE,fx,th,Xj,PF⟩:=h
 refine Runs.enter 27 Tryz.func111 rfl hl rfl rfl ?_
 intro f hn hf
 have h0:f.get 0=gl j:=hf 0
 have h1:f.get 1=b:=hf 1
 clear hf
 have l1:=ht.load (P:=Tryz.prog) bC (off:=1) (c:=4) rfl (by simp)
 have l2:=ht.load (P:=Tryz.prog) gw (off:=2) (c:=4) rfl (by simp)
 have Pu:=ho.aG
 by_cases hm:M-(P.length:Int)<D.length
 ·simp-implicitDefEqProofs(disch:=omega)only[aj,ak,al,oneOf,ad,QS,WP,↓reduceIte,hn,h0,h1,hd.self,Pu.self,hd.bh Tryz.underlying22,Pu.bh Tryz.underlying22,KJ,pO,l1,l2,aB,eq_true hm,Tryz.results111]
  exact⟨⟨i,o,l,p,oC,hlen,ht,hc,ho,hF,hj,tE,fx,th,Xj,PF⟩,ar.refl _ _,Still.refl _ _⟩
 ·simp-implicitDefEqProofs(disch:=omega)only[aj,ak,ad,QS,WP,↓reduceIte,hn,h0,h1,hd.self,Pu.self,hd.bh Tryz.underlying22,Pu.bh Tryz.underlying22,KJ,pO,l1,l2,aB,eq_false hm]
  refine bV Tryz.underlying22 Tryz.underlying22 (.inl ⟨_,rfl⟩) bL kG lh rfl ho hd.src (by simp[bF]) (by decide) (dj _) (by omega) (by omega) hF hb ?_
  intro o' s2 rZ HO dC LI uA
  have akB:=ht.turns LI fx
  have lI:=hc.turns hb hF LI tE
  have Aj:aE o' ≠some j:=by
   rcases uA with e|⟨q,e,hq⟩
   ·rw[e];exact fx
   ·rw[e];intro q;injection q with q;have:=ht.lt;omega
  have akC:aE o' ≠some i:=by
   rcases uA with e|⟨q,e,hq⟩
   ·rw[e];exact tE
   ·rw[e];intro q;injection q with q;omega
  simp-implicitDefEqProofs(disch:=omega)only[aj,QS,WP,↓reduceIte,hn,pO]
  refine aX gv akB rfl (by simp) rZ.aG.aJ ?_
  intro s3 jt mm bH
  have hk3:ar base s2 s3:=ar.aI mm bH hj
  simp-implicitDefEqProofs(disch:=omega)only[aj,al,oneOf,QS,↓reduceIte,hn,Tryz.results111]
  refine⟨⟨i,o',l,p,oC,hlen,jt,lI.turns (Nat.le_trans hb dC.next) (cQ hj) (aY.aI mm bH) (dO (fun e=>th e.symm)),?_,HO,hj,akC,Aj,th,by have:=LI.next;omega,fun k hk=>⟨by have:=(PF k hk).1;have:=LI.next;omega,(PF k hk).2.1,(PF k hk).2.2.1,fun e=> ?_⟩⟩,dC.trans hk3,fun k hk=>(bH k (PF k hk).2.2.1).trans (LI.get k (PF k hk).1 (PF k hk).2.2.2)⟩
  rotate_left
  ·rcases uA with e' |⟨q,e',hq⟩
   ·rw[e'] at e;exact(PF k hk).2.2.2 e
   ·rw[e'] at e;injection e with e;have:=(PF k hk).1;omega
  rw[bn,List.length_append]
  exact rZ.aI mm bH Aj
end Go.Proofs.YtdfjfncifneocaaGreat
namespace Go.Cl.Uh
theorem agn (P:Program)(t:TypeId)(k' :IntKind)(a:Int):cI P .shl t (.int .i64 a) (.int k' 4)=some (.int .i64 (IntKind.i64.wrap (a*16))):=by
 rw[my P t .i64 a 4 k' (by decide)];rfl
theorem YA {n d:Nat}(hn:n<16)(hd:d<16):IntKind.i64.wrap (((BitVec.ofInt IntKind.i64.bits ((n:Int)*16)|||BitVec.ofInt IntKind.i64.bits (d:Int)).toNat:Nat):Int)=((n*16+d:Nat):Int):=by
 have e1:IntKind.i64.bits=64:=rfl
 rw[e1]
 have:(BitVec.ofInt 64 ((n:Int)*16)|||BitVec.ofInt 64 (d:Int)).toNat=n*16+d:=by
  have e2:((n:Int)*16)=((n*16:Nat):Int):=by omega
  rw[e2,BitVec.toNat_or,BitVec.ofInt_natCast,BitVec.ofInt_natCast,BitVec.toNat_ofNat,BitVec.toNat_ofNat,Nat.mod_eq_of_lt (by omega),Nat.mod_eq_of_lt (by omega)]
  have:=Nat.shiftLeft_add_eq_or_of_lt (i:=4) (b:=d) hd n
  rw[Nat.shiftLeft_eq] at this
  exact this.symm
 rw[this,aB (by omega)]
def zV (n:Nat):UInt8:=UInt8.ofNat n
theorem GC {n:Nat}(h:n<256):((zV n).toNat:Int)=n:=by
 unfold zV;rw[UInt8.toNat_ofNat'];omega
end Go.Cl.Uh
