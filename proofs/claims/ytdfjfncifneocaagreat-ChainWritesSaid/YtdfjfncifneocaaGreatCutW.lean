import Derived.Test.YtdfjfncifneocaaGreatLzwD
import Derived.Test.YtdfjfncifneocaaGreatStands
import Derived.Test.YtdfjfncifneocaaGreatRuns1
import Derived.Test.YtdfjfncifneocaaGreatCutA
import Derived.Test.YtdfjfncifneocaaGreatPrA
set_option linter.unusedSimpArgs false
set_option linter.unusedVariables false
set_option maxRecDepth 100000
namespace Go.Cl.Lz
theorem IF {b:List UInt8}{fD:Nat}(h:fD<=b.length)(t:List UInt8):(fD+t.length<=b.length/\(b.drop fD).take t.length=t)↔(b.drop fD).take t.length=t:=by
 constructor
 ·exact fun h=>h.2
 ·intro q
  refine⟨?_,q⟩
  have:=congrArg List.length q
  rw[List.length_take,List.length_drop] at this
  omega
end Go.Cl.Lz
namespace Go.Proofs.YtdfjfncifneocaaGreat
open Go.Cl Go.Cl.Lz Go.Cl.Rw
theorem CD:bq Tryz.prog 9=some 1:=by kernel_rfl
theorem KU:eW Tryz.prog 9=some 16:=by kernel_rfl
theorem Mq:cE Tryz.prog 9=some (.string ⟨#[]⟩):=by kernel_rfl
theorem Xr:cw Tryz.prog 9=some false:=by kernel_rfl
def pG (T:qF):List Value:=T.map fun e=> .string ⟨e.1.toArray⟩
theorem KV {T:qF}{i:Nat}{e:List UInt8×Int}(h:T[i]?=some e):(pG T).getD i undef=Xq e.1:=by
 simp[pG,List.getD_eq_getElem?_getD,h]
structure Gq (base:Nat) (s:aq) (v tv:Value) (L:List Nat) (T:qF):Prop where
 bits:Own s 1 v L.length (ofBytes (pF L))
 I6:Own s 1 tv T.length (pG T)
 bf:aN base v
 tf:aN base tv
 bt:∀k,aJ v=some k->aJ tv≠some k
theorem Gq.wrote {base:Nat}{s s' :aq}{v v' tv:Value}{L L' :List Nat}{T:qF}(h:Gq base s v tv L T)(ho:Own s' 1 v' L'.length (ofBytes (pF L')))(hf:aN base v')(hg:Grown v s v' s'):Gq base s' v' tv L' T:=by
 refine⟨ho,h.I6.turns hg.turns (fun i hi e=>h.bt i e hi),hf,h.tf,fun k hk=> ?_⟩
 rcases hg.id with e|⟨i,e,hi⟩
 ·rw[e] at hk;exact h.bt k hk
 ·rw[e] at hk;injection hk with hk;subst hk
  intro q;have:=h.I6.jh _ q;omega
theorem Gq.KW {base:Nat}{s s1 s' :aq}{v tv tv' :Value}{L:List Nat}{T T' :qF}(h:Gq base s v tv L T)(h1:ar s.next s s1)(ho:Own s' 1 tv' T'.length (pG T'))(hf:aN base tv')(ht:bm tv s1 s')(fc:aJ tv' =aJ tv\/∃i,aJ tv' =some i/\s1.next<=i):Gq base s' v tv' L T' :=by
 refine⟨(h.bits.keeps h1).turns ht (fun i hi=>h.bt i hi),ho,h.bf,hf,fun k hk=> ?_⟩
 rcases fc with e|⟨i,e,hi⟩
 ·rw[e];exact h.bt k hk
 ·rw[e];intro q;injection q with q;have:=h.bits.jh _ hk;have:=h1.next;omega
theorem CE {L:List Nat}(h:∀x∈L,x<2){i:Nat}(hi:i<L.length):(ofBytes (pF L)).getD i undef= .int .u8 ((((((L.getD i 0:Nat):Int))%2).toNat:Nat):Int):=by
 have hx:L.getD i 0<2:=by rw[List.getD_eq_getElem?_getD,List.getElem?_eq_getElem hi];exact h _ (List.getElem_mem _)
 rw[aZ (by simpa [pF] using hi)]
 have:(pF L).getD i 0=UInt8.ofNat (L.getD i 0):=by simp[pF,List.getD_eq_getElem?_getD,List.getElem?_eq_getElem hi]
 rw[this,UInt8.toNat_ofNat']
 congr 1;omega
set_option maxRecDepth 100000 in
set_option maxHeartbeats 16000000 in
theorem RE {lib:ay}(hl:lib.at 95=none)(hZ:lib.at 146=none)(OW:lib.at 120=none)(I5:lib.at 147=none)
  (s:aq) (x:Value) (b:List UInt8) (hx:aM s 1 x b.length (ofBytes b)) (hb:b.length<=4000000):
  Runs Tryz.prog lib 95 [x] s fun w s' =>bU s w s' (GC b):=by
 obtain⟨base,yj⟩:∃base,base=s.next:=⟨_,rfl⟩
 have wT:base<=s.next:=by omega
 have GU:Df base s 1 x b.length (ofBytes b):=by rw[yj];exact hx.low
 have dS:=B2 b
 have hlen:∀(L E:List Nat),tD b=L++E->L.length<=100000000:=fun L E h=>by
  have:=congrArg List.length h
  rw[List.length_append] at this;omega
 refine Runs.enter 130 Tryz.func95 rfl hl rfl rfl ?_
 intro f hn hf
 have h0:f.get 0=x:=hf 0
 clear hf
 simp-implicitDefEqProofs(disch:=omega)only[ai,aj,ad,Nat.reduceLT,↓reduceIte,hn]
 refine(mH hZ base s (.slice none 0 0) [] 256 9 .nil (aN.nil _) wT (by omega) (by simp) (by omega)).mono ?_
 rintro v1 s1 ⟨UE,VM,bB,hg1⟩
 rw[List.nil_append] at UE
 have Oo:Gq base s1 v1 (.slice none 0 0) (dD 256 9) []:=⟨UE,.nil,VM,aN.nil _,fun k hk e=>by cases e⟩
 simp-implicitDefEqProofs(disch:=omega)only[ai,Nat.reduceLT,↓reduceIte,hn]
 refine Comes.bC (fun z f s' =>∃(k fD:Nat) (T:qF) (rd:Nat) (fst:Bool) (L:List Nat) (v tv:Value),z=b.length-fD/\fD<=b.length/\(b.drop fD).length<k/\tD b=L++enc k (b.drop fD) T rd fst/\Lz.Good T/\Rh T/\(∀e∈T,e.1.length<=b.length)/\rd<=4096/\Gq base s' v tv L T/\ar base s s' /\f.n=130/\f.get 0=x/\f.get 3=v/\f.get 4=tv/\f.get 5= .int .i64 ((258+T.length:Nat):Int)/\f.get 6= .int .i64 rd/\f.get 7= .bool fst/\f.get 8= .int .i64 fD)
  (fun y f s' =>y= .exit 0/\∃(rd:Nat) (L:List Nat) (v tv:Value),tD b=L++dD 257 (width rd)/\rd<=4096/\Gq base s' v tv L []/\ar base s s' /\f.n=130/\f.get 3=v/\f.get 6= .int .i64 rd)
  ⟨b.length+1,0,[],258,true,dD 256 9,v1,_,rfl,by omega,by simp,by rw[List.drop_zero];rfl,Lz.Good.nil,Rh.nil,(fun e h=>by cases h),by omega,Oo,bB,by simp only[ae,hn],by simp only[aa,↓reduceIte,Nat.reduceEqDiff,h0],by simp only[aa,↓reduceIte,Nat.reduceEqDiff],by simp only[aa,↓reduceIte,Nat.reduceEqDiff],by simp only[aa,↓reduceIte,Nat.reduceEqDiff];rfl,by simp only[aa,↓reduceIte,Nat.reduceEqDiff];rfl,by simp only[aa,↓reduceIte,Nat.reduceEqDiff],by simp only[aa,↓reduceIte];rfl⟩ ?_ ?_
 ·clear hn h0 f Oo UE VM hg1 bB
  rintro Q hQ z f s4 ⟨k,fD,T,rd,fst,L,v,tv,rfl,WV,hk,wY,hG,hN,Xs,Sq,hE,hS,hn,h0,h3,h4,h5,h6,h7,h8⟩
  have pS:=Nat.le_trans wT hS.next
  have hL:=GU.stay hS
  have tF:=hL.aH
  have hTl:=hG.len
  by_cases oN:fD<b.length
  ·have c1:(fD:Int)<(b.length:Int):=by omega
   obtain⟨l,I0⟩:∃l,l=b.drop fD:=⟨_,rfl⟩
   rw[<-I0] at hk wY
   have nA:l.length=b.length-fD:=by rw[I0,List.length_drop]
   have pT:l≠[]:=by intro e;rw[e] at nA;simp at nA;omega
   have hd0:b.getD fD 0=l.getD 0 0:=by rw[I0,List.getD_eq_getElem?_getD,List.getD_eq_getElem?_getD,List.getElem?_drop,Nat.add_zero]
   obtain⟨p,hp⟩:∃p,p=bZ l T (1,((l.getD 0 0).toNat:Int)):=⟨_,rfl⟩
   have hF:=hG.found pT
   rw[<-hp] at hF
   have U2:((l.getD 0 0).toNat:Int)<256:=by have:=(l.getD 0 0).toNat_lt;omega
   simp-implicitDefEqProofs(disch:=omega)only[ai,ad,Nat.reduceLT,Nat.reduceEqDiff,↓reduceIte,hn,h0,h8,tF.aV Tryz.underlying22,eq_true c1,tF.indexAddr Tryz.underlying22 bh,tF.cU gZ,aZ,hd0,bd Tryz.underlying5 Tryz.underlying3,aD]
   refine Comes.bC (fun z f s' =>∃(j:Nat) (q:Nat×Int),z=T.length-j/\j<=T.length/\bZ l (T.drop j) q=p/\s' =s4/\f.n=130/\f.get 0=x/\f.get 3=v/\f.get 4=tv/\f.get 5= .int .i64 ((258+T.length:Nat):Int)/\f.get 6= .int .i64 rd/\f.get 7= .bool fst/\f.get 8= .int .i64 fD/\f.get 9= .int .i64 q.2/\f.get 10= .int .i64 q.1/\f.get 11= .int .i64 j)
    (fun y f s' =>y= .exit 2/\s' =s4/\f.n=130/\f.get 0=x/\f.get 3=v/\f.get 4=tv/\f.get 5= .int .i64 ((258+T.length:Nat):Int)/\f.get 6= .int .i64 rd/\f.get 7= .bool fst/\f.get 8= .int .i64 fD/\f.get 9= .int .i64 p.2/\f.get 10= .int .i64 p.1)
    ⟨0,(1,((l.getD 0 0).toNat:Int)),rfl,by omega,by rw[List.drop_zero,hp],rfl,by simp only[ae,hn],by simp only[aa,↓reduceIte,Nat.reduceEqDiff,h0],by simp only[aa,↓reduceIte,Nat.reduceEqDiff,h3],by simp only[aa,↓reduceIte,Nat.reduceEqDiff,h4],by simp only[aa,↓reduceIte,Nat.reduceEqDiff,h5],by simp only[aa,↓reduceIte,Nat.reduceEqDiff,h6],by simp only[aa,↓reduceIte,Nat.reduceEqDiff,h7],by simp only[aa,↓reduceIte,Nat.reduceEqDiff,h8],by simp only[aa,↓reduceIte,Nat.reduceEqDiff],by simp only[aa,↓reduceIte,Nat.reduceEqDiff];rfl,by simp only[aa,↓reduceIte];rfl⟩ ?_ ?_
   ·clear hn h0 h3 h4 h5 h6 h7 h8 f
    rintro Q2 Qf z f s5 ⟨j,q,rfl,hj,wH,vX,hn,h0,h3,h4,h5,h6,h7,h8,h9,dz,gX⟩
    subst vX
    by_cases hjT:j<T.length
    ·have c2:(j:Int)<(T.length:Int):=by omega
     obtain⟨e,he⟩:∃e,T[j]?=some e:=⟨_,List.getElem?_eq_getElem hjT⟩
     have hdj:T.drop j=e::T.drop (j+1):=by
      rw[List.drop_eq_getElem_cons hjT]
      rw[List.getElem?_eq_getElem hjT] at he;injection he with he;rw[he]
     rw[hdj,bZ] at wH
     have pe:=hE.I6.aH.indexAddr (k:= .i64) (x:=(j:Int)) Tryz.underlying27 CD (by omega) (by omega)
     rw[Int.toNat_natCast] at pe
     have fM:=hE.I6.aH.cU (P:=Tryz.prog) Xr hjT
     rw[KV he] at fM
     have he2:e.2=((258+j:Nat):Int):=hN j e he
     by_cases c3:q.1<e.1.length
     ·have Gg:(q.1:Int)<(e.1.length:Int):=by omega
      have het:e.1.length<9223372036854775808:=by
       have:=Xs e (List.mem_of_getElem? he);omega
      simp-implicitDefEqProofs(disch:=omega)only[ai,aj,ad,Nat.reduceLT,Nat.reduceEqDiff,↓reduceIte,hn,h0,h4,h8,dz,gX,hE.I6.aH.aV Tryz.underlying27,eq_true c2,pe,fM,qa Tryz.underlying9,eq_true Gg]
      refine(KT I5 s5 x b fD e.1 tF (by omega) WV het).mono ?_
      rintro _ s6 ⟨rfl,Ie⟩
      subst Ie
      have UB:(iX b fD e.1)↔l.take e.1.length=e.1:=by rw[I0];exact IF WV e.1
      by_cases c4:iX b fD e.1
      ·rw[if_pos ⟨c3,UB.mp c4⟩] at wH
       simp-implicitDefEqProofs(disch:=omega)only[ai,ad,Nat.reduceLT,Nat.reduceEqDiff,↓reduceIte,hn,h4,gX,decide_eq_true c4,hE.I6.self,pe,fM,qa Tryz.underlying9,aD]
       refine au (T.length-(j+1)) (by omega) ⟨j+1,(e.1.length,e.2),rfl,by omega,wH,rfl,by simp only[ae,hn],by simp only[aa,↓reduceIte,Nat.reduceEqDiff,h0],by simp only[aa,↓reduceIte,Nat.reduceEqDiff,h3],by simp only[aa,↓reduceIte,Nat.reduceEqDiff,h4],by simp only[aa,↓reduceIte,Nat.reduceEqDiff,h5],by simp only[aa,↓reduceIte,Nat.reduceEqDiff,h6],by simp only[aa,↓reduceIte,Nat.reduceEqDiff,h7],by simp only[aa,↓reduceIte,Nat.reduceEqDiff,h8],by simp only[aa,↓reduceIte,Nat.reduceEqDiff];rw[he2];rfl,by simp only[aa,↓reduceIte,Nat.reduceEqDiff],by simp only[aa,↓reduceIte];rfl⟩
      ·rw[if_neg (fun w=>c4 (UB.mpr w.2))] at wH
       simp-implicitDefEqProofs(disch:=omega)only[ai,Nat.reduceLT,Nat.reduceEqDiff,↓reduceIte,hn,gX,decide_eq_false c4,aD]
       refine au (T.length-(j+1)) (by omega) ⟨j+1,q,rfl,by omega,wH,rfl,by simp only[ae,hn],by simp only[aa,↓reduceIte,Nat.reduceEqDiff,h0],by simp only[aa,↓reduceIte,Nat.reduceEqDiff,h3],by simp only[aa,↓reduceIte,Nat.reduceEqDiff,h4],by simp only[aa,↓reduceIte,Nat.reduceEqDiff,h5],by simp only[aa,↓reduceIte,Nat.reduceEqDiff,h6],by simp only[aa,↓reduceIte,Nat.reduceEqDiff,h7],by simp only[aa,↓reduceIte,Nat.reduceEqDiff,h8],by simp only[aa,↓reduceIte,Nat.reduceEqDiff,h9],by simp only[aa,↓reduceIte,Nat.reduceEqDiff,dz],by simp only[aa,↓reduceIte];rfl⟩
     ·have Gg:¬(q.1:Int)<(e.1.length:Int):=by omega
      rw[if_neg (fun w=>c3 w.1)] at wH
      simp-implicitDefEqProofs(disch:=omega)only[ai,aj,ad,Nat.reduceLT,Nat.reduceEqDiff,↓reduceIte,undef,hn,h4,dz,gX,hE.I6.aH.aV Tryz.underlying27,eq_true c2,pe,fM,qa Tryz.underlying9,eq_false Gg,aD]
      refine au (T.length-(j+1)) (by omega) ⟨j+1,q,rfl,by omega,wH,rfl,by simp only[ae,hn],by simp only[aa,↓reduceIte,Nat.reduceEqDiff,h0],by simp only[aa,↓reduceIte,Nat.reduceEqDiff,h3],by simp only[aa,↓reduceIte,Nat.reduceEqDiff,h4],by simp only[aa,↓reduceIte,Nat.reduceEqDiff,h5],by simp only[aa,↓reduceIte,Nat.reduceEqDiff,h6],by simp only[aa,↓reduceIte,Nat.reduceEqDiff,h7],by simp only[aa,↓reduceIte,Nat.reduceEqDiff,h8],by simp only[aa,↓reduceIte,Nat.reduceEqDiff,h9],by simp only[aa,↓reduceIte,Nat.reduceEqDiff,dz],by simp only[aa,↓reduceIte];rfl⟩
    ·obtain rfl:j=T.length:=by omega
     have c2:¬(T.length:Int)<(T.length:Int):=by omega
     rw[List.drop_length,bZ] at wH
     subst wH
     simp-implicitDefEqProofs(disch:=omega)only[ai,ad,Nat.reduceLT,Nat.reduceEqDiff,↓reduceIte,hn,h4,gX,hE.I6.aH.aV Tryz.underlying27,eq_false c2]
     exact Qf _ _ _ ⟨rfl,rfl,by simp only[ae,hn],by simp only[aa,↓reduceIte,Nat.reduceEqDiff,h0],by simp only[aa,↓reduceIte,Nat.reduceEqDiff,h3],by simp only[aa,↓reduceIte,Nat.reduceEqDiff,h4],by simp only[aa,↓reduceIte,Nat.reduceEqDiff,h5],by simp only[aa,↓reduceIte,Nat.reduceEqDiff,h6],by simp only[aa,↓reduceIte,Nat.reduceEqDiff,h7],by simp only[aa,↓reduceIte,Nat.reduceEqDiff,h8],by simp only[aa,↓reduceIte,Nat.reduceEqDiff,h9],by simp only[aa,↓reduceIte,Nat.reduceEqDiff,dz]⟩
   ·clear hn h0 h3 h4 h5 h6 h7 h8 f
    rintro _ f s5 ⟨rfl,vX,hn,h0,h3,h4,h5,h6,h7,h8,h9,dz⟩
    subst vX
    obtain⟨c,hc⟩:∃c:Nat,p.2=(c:Int):=⟨p.2.toNat,by have:=hF.lo;omega⟩
    have Dt:p.2.toNat=c:=by omega
    have UM:c<100000000:=by have:=hF.hi;omega
    have aaJ:=hlen _ _ wY
    rw[hc] at h9
    simp-implicitDefEqProofs(disch:=omega)only[ai,aj,ad,Nat.reduceLT,Nat.reduceEqDiff,↓reduceIte,hn,h3,h6,h9]
    refine(nw OW s5 rd).mono ?_
    rintro _ s6 ⟨rfl,Ie⟩
    subst Ie
    simp-implicitDefEqProofs(disch:=omega)only[ai,aj,ad,Nat.reduceLT,Nat.reduceEqDiff,↓reduceIte,hn]
    have aeK:=nm rd
    refine(mH hZ base s6 v L c (width rd) hE.bits hE.bf pS (by omega) (by omega) UM).mono ?_
    rintro v7 s7 ⟨Mr,hF7,fH,hg7⟩
    have OZ:=hE.wrote Mr hF7 hg7
    have Ja:base<=s7.next:=Nat.le_trans pS fH.next
    have Sv:=hS.trans fH
    have yb:=(GU.stay Sv).aH
    have Oq:=L4 Sq fst
    have nD:=hF.one
    have Tg:=hF.le
    have Gz:(l.drop p.1)=b.drop (fD+p.1):=by rw[I0,List.drop_drop]
    obtain⟨k,rfl⟩:∃m,k=m+1:=⟨k-1,by omega⟩
    have hrr:(if fst then rd else if rd<4096 then rd+1 else rd)=fu rd fst:=by
     unfold fu
     cases fst with
     |true=>rfl
     |false=>simp only[Bool.false_eq_true,if_false];split<;>omega
    by_cases aP:p.1<l.length
    ·have c2:(fD:Int)+(p.1:Int)<(b.length:Int):=by omega
     have dA:=yb.lL (lo:=fD) (hi:=fD+p.1+1) (by omega) (by omega)
     rw[show fD+p.1+1-fD=p.1+1 by omega,<-I0] at dA
     have e1:((fD:Int)+(p.1:Int)+1).toNat=fD+p.1+1:=by omega
     have hbV:=fun s=>LJ (P:=Tryz.prog) (s:=s) (t:=27) (e:=9) (zv:= .string ⟨#[]⟩) (v:=Xq (l.take (p.1+1))) Tryz.underlying27 CD Mq rfl ⟨_,rfl⟩ rfl
     cases fst with
     |true=>
      simp-implicitDefEqProofs(disch:=omega)only[ai,aj,ad,ag,ah,Nat.reduceLT,Nat.reduceEqDiff,↓reduceIte,undef,hn,h0,h4,h7,h8,dz,yb.aV Tryz.underlying22,eq_true c2,aD,yb.mF Tryz.underlying22 bh,e1,dA.str Tryz.underlying22 Tryz.underlying9 Tryz.underlying5,hbV]
      refine aQ (by rfl) ?_
      intro bs s8 RF hF8 jL
      have RG:=OZ.I6.keeps jL
      simp-implicitDefEqProofs(disch:=omega)only[ai,ad,Nat.reduceLT,Nat.reduceEqDiff,↓reduceIte,hn]
      refine bG Tryz.underlying27 Tryz.underlying27 (.inl ⟨_,rfl⟩) CD KU Mq rfl RG RF.aH.src rfl (by decide) rfl (by omega) (by omega) OZ.tf (by have:=jL.next;omega) ?_
      intro tv9 s9 IG I8 nv RH KX
      have e2:pG T++[Xq (l.take (p.1+1))]=pG (T++[(l.take (p.1+1),((258+T.length:Nat):Int))]):=by simp[pG]
      have e3:T.length+1=(T++[(l.take (p.1+1),((258+T.length:Nat):Int))]).length:=by simp
      rw[e2,e3] at IG
      have Ms:=OZ.KW jL IG I8 RH KX
      have Mt:=(Sv.trans (jL.weaken Ja)).trans nv
      have hb9:=Nat.le_trans wT Mt.next
      by_cases cx:258+T.length=4095
      ·have KN:((258+T.length:Nat):Int)+1=4096:=by omega
       have lV:=wY
       rw[tj pT hp aP cx,Dt,<-List.append_assoc] at lV
       have hL9:=hlen _ _ lV
       have Se:f.get 6=f.get 6:=rfl
       simp-implicitDefEqProofs(disch:=omega)only[ai,aj,ad,Nat.reduceLT,Nat.reduceEqDiff,↓reduceIte,hn,h5,h6,aD,eq_true KN]
       have aaM:∃y:Int,y=((fu rd true:Nat):Int):=⟨_,rfl⟩
       skip
       refine(nw OW s9 (fu rd true)).mono ?_
       rintro _ Vj ⟨rfl,RI⟩
       subst RI
       simp-implicitDefEqProofs(disch:=omega)only[ai,aj,ad,Nat.reduceLT,Nat.reduceEqDiff,↓reduceIte,hn]
       have aaN:=nm (fu rd true)
       refine(mH hZ base Vj v7 _ 256 (width (fu rd true)) Ms.bits Ms.bf hb9 (by omega) (by rw[List.length_append,fq];omega) (by omega)).mono ?_
       rintro v11 s11 ⟨RJ,RK,IH,RL⟩
       have II:=Ms.wrote RJ RK RL
       have IJ:=lV
       rw[<-List.append_assoc,Gz] at IJ
       simp-implicitDefEqProofs(disch:=omega)only[ai,Nat.reduceLT,Nat.reduceEqDiff,↓reduceIte,hn,h8,dz,aD]
       refine au (b.length-(fD+p.1)) (by omega) ⟨k,fD+p.1,[],258,true,_,v11,.slice none 0 0,rfl,by omega,by rw[List.length_drop];omega,IJ,Lz.Good.nil,Rh.nil,(fun e h=>by cases h),by omega,⟨II.bits,.nil,II.bf,aN.nil _,fun k hk e=>by cases e⟩,Mt.trans IH,by simp only[ae,hn],by simp only[aa,↓reduceIte,Nat.reduceEqDiff,h0],by simp only[aa,↓reduceIte,Nat.reduceEqDiff],by simp only[aa,↓reduceIte,Nat.reduceEqDiff],by simp only[aa,↓reduceIte,Nat.reduceEqDiff];rfl,by simp only[aa,↓reduceIte,Nat.reduceEqDiff];rfl,by simp only[aa,↓reduceIte,Nat.reduceEqDiff],by simp only[aa,↓reduceIte];rfl⟩
      ·have KN:¬((258+T.length:Nat):Int)+1=4096:=by omega
       have lV:=wY
       rw[v8 pT hp aP cx,Dt,<-List.append_assoc,Gz] at lV
       simp-implicitDefEqProofs(disch:=omega)only[ai,Nat.reduceLT,Nat.reduceEqDiff,↓reduceIte,hn,h5,h8,dz,aD,eq_false KN]
       refine au (b.length-(fD+p.1)) (by omega) ⟨k,fD+p.1,_,fu rd true,false,_,v7,tv9,rfl,by omega,by rw[List.length_drop];omega,lV,hF.more aP cx,hN.snoc _,?_,Oq,Ms,Mt,by simp only[ae,hn],by simp only[aa,↓reduceIte,Nat.reduceEqDiff,h0],by simp only[aa,↓reduceIte,Nat.reduceEqDiff],by simp only[aa,↓reduceIte,Nat.reduceEqDiff],by simp only[aa,↓reduceIte,Nat.reduceEqDiff];rw[<-e3];rfl,by simp only[aa,↓reduceIte,Nat.reduceEqDiff,h6]<;>first|rfl|(congr 1;try (unfold fu;simp only[Bool.false_eq_true,if_false];omega)),by simp only[aa,↓reduceIte,Nat.reduceEqDiff],by simp only[aa,↓reduceIte];rfl⟩
       intro e he
       rcases List.mem_append.mp he with he|he
       ·exact Xs e he
       ·rw[List.mem_singleton] at he;subst he
        simp only;rw[List.length_take];omega
     |false=>
      by_cases c3:rd<4096
      ·have Gg:(rd:Int)<4096:=by omega
       have hrF:(rd:Int)+1=((fu rd false:Nat):Int):=by(unfold fu;simp only[Bool.false_eq_true,if_false];omega)
       simp-implicitDefEqProofs(disch:=omega)only[ai,aj,ad,ag,ah,Nat.reduceLT,Nat.reduceEqDiff,↓reduceIte,hn,h0,h4,h6,h7,h8,dz,eq_true Gg,yb.aV Tryz.underlying22,eq_true c2,aD,yb.mF Tryz.underlying22 bh,e1,dA.str Tryz.underlying22 Tryz.underlying9 Tryz.underlying5,hbV]
       refine aQ (by rfl) ?_
       intro bs s8 RF hF8 jL
       have RG:=OZ.I6.keeps jL
       simp-implicitDefEqProofs(disch:=omega)only[ai,ad,Nat.reduceLT,Nat.reduceEqDiff,↓reduceIte,hn]
       refine bG Tryz.underlying27 Tryz.underlying27 (.inl ⟨_,rfl⟩) CD KU Mq rfl RG RF.aH.src rfl (by decide) rfl (by omega) (by omega) OZ.tf (by have:=jL.next;omega) ?_
       intro tv9 s9 IG I8 nv RH KX
       have e2:pG T++[Xq (l.take (p.1+1))]=pG (T++[(l.take (p.1+1),((258+T.length:Nat):Int))]):=by simp[pG]
       have e3:T.length+1=(T++[(l.take (p.1+1),((258+T.length:Nat):Int))]).length:=by simp
       rw[e2,e3] at IG
       have Ms:=OZ.KW jL IG I8 RH KX
       have Mt:=(Sv.trans (jL.weaken Ja)).trans nv
       have hb9:=Nat.le_trans wT Mt.next
       by_cases cx:258+T.length=4095
       ·have KN:((258+T.length:Nat):Int)+1=4096:=by omega
        have lV:=wY
        rw[tj pT hp aP cx,Dt,<-List.append_assoc] at lV
        have hL9:=hlen _ _ lV
        have Se:f.get 6=f.get 6:=rfl
        simp-implicitDefEqProofs(disch:=omega)only[ai,aj,ad,Nat.reduceLT,Nat.reduceEqDiff,↓reduceIte,hn,h5,aD,eq_true KN]
        have aaM:∃y:Int,y=((fu rd false:Nat):Int):=⟨_,rfl⟩
        rw[hrF]
        refine(nw OW s9 (fu rd false)).mono ?_
        rintro _ Vj ⟨rfl,RI⟩
        subst RI
        simp-implicitDefEqProofs(disch:=omega)only[ai,aj,ad,Nat.reduceLT,Nat.reduceEqDiff,↓reduceIte,hn]
        have aaN:=nm (fu rd false)
        refine(mH hZ base Vj v7 _ 256 (width (fu rd false)) Ms.bits Ms.bf hb9 (by omega) (by rw[List.length_append,fq];omega) (by omega)).mono ?_
        rintro v11 s11 ⟨RJ,RK,IH,RL⟩
        have II:=Ms.wrote RJ RK RL
        have IJ:=lV
        rw[<-List.append_assoc,Gz] at IJ
        simp-implicitDefEqProofs(disch:=omega)only[ai,Nat.reduceLT,Nat.reduceEqDiff,↓reduceIte,hn,h8,dz,aD]
        refine au (b.length-(fD+p.1)) (by omega) ⟨k,fD+p.1,[],258,true,_,v11,.slice none 0 0,rfl,by omega,by rw[List.length_drop];omega,IJ,Lz.Good.nil,Rh.nil,(fun e h=>by cases h),by omega,⟨II.bits,.nil,II.bf,aN.nil _,fun k hk e=>by cases e⟩,Mt.trans IH,by simp only[ae,hn],by simp only[aa,↓reduceIte,Nat.reduceEqDiff,h0],by simp only[aa,↓reduceIte,Nat.reduceEqDiff],by simp only[aa,↓reduceIte,Nat.reduceEqDiff],by simp only[aa,↓reduceIte,Nat.reduceEqDiff];rfl,by simp only[aa,↓reduceIte,Nat.reduceEqDiff];rfl,by simp only[aa,↓reduceIte,Nat.reduceEqDiff],by simp only[aa,↓reduceIte];rfl⟩
       ·have KN:¬((258+T.length:Nat):Int)+1=4096:=by omega
        have lV:=wY
        rw[v8 pT hp aP cx,Dt,<-List.append_assoc,Gz] at lV
        simp-implicitDefEqProofs(disch:=omega)only[ai,Nat.reduceLT,Nat.reduceEqDiff,↓reduceIte,hn,h5,h8,dz,aD,eq_false KN]
        refine au (b.length-(fD+p.1)) (by omega) ⟨k,fD+p.1,_,fu rd false,false,_,v7,tv9,rfl,by omega,by rw[List.length_drop];omega,lV,hF.more aP cx,hN.snoc _,?_,Oq,Ms,Mt,by simp only[ae,hn],by simp only[aa,↓reduceIte,Nat.reduceEqDiff,h0],by simp only[aa,↓reduceIte,Nat.reduceEqDiff],by simp only[aa,↓reduceIte,Nat.reduceEqDiff],by simp only[aa,↓reduceIte,Nat.reduceEqDiff];rw[<-e3];rfl,by simp only[aa,↓reduceIte,Nat.reduceEqDiff]<;>first|rfl|(congr 1;try (unfold fu;simp only[Bool.false_eq_true,if_false];omega)),by simp only[aa,↓reduceIte,Nat.reduceEqDiff],by simp only[aa,↓reduceIte];rfl⟩
        intro e he
        rcases List.mem_append.mp he with he|he
        ·exact Xs e he
        ·rw[List.mem_singleton] at he;subst he
         simp only;rw[List.length_take];omega
      ·have Gg:¬(rd:Int)<4096:=by omega
       have hrF:(rd:Int)=((fu rd false:Nat):Int):=by(unfold fu;simp only[Bool.false_eq_true,if_false];omega)
       simp-implicitDefEqProofs(disch:=omega)only[ai,aj,ad,ag,ah,Nat.reduceLT,Nat.reduceEqDiff,↓reduceIte,hn,h0,h4,h6,h7,h8,dz,eq_false Gg,yb.aV Tryz.underlying22,eq_true c2,aD,yb.mF Tryz.underlying22 bh,e1,dA.str Tryz.underlying22 Tryz.underlying9 Tryz.underlying5,hbV]
       refine aQ (by rfl) ?_
       intro bs s8 RF hF8 jL
       have RG:=OZ.I6.keeps jL
       simp-implicitDefEqProofs(disch:=omega)only[ai,ad,Nat.reduceLT,Nat.reduceEqDiff,↓reduceIte,hn]
       refine bG Tryz.underlying27 Tryz.underlying27 (.inl ⟨_,rfl⟩) CD KU Mq rfl RG RF.aH.src rfl (by decide) rfl (by omega) (by omega) OZ.tf (by have:=jL.next;omega) ?_
       intro tv9 s9 IG I8 nv RH KX
       have e2:pG T++[Xq (l.take (p.1+1))]=pG (T++[(l.take (p.1+1),((258+T.length:Nat):Int))]):=by simp[pG]
       have e3:T.length+1=(T++[(l.take (p.1+1),((258+T.length:Nat):Int))]).length:=by simp
       rw[e2,e3] at IG
       have Ms:=OZ.KW jL IG I8 RH KX
       have Mt:=(Sv.trans (jL.weaken Ja)).trans nv
       have hb9:=Nat.le_trans wT Mt.next
       by_cases cx:258+T.length=4095
       ·have KN:((258+T.length:Nat):Int)+1=4096:=by omega
        have lV:=wY
        rw[tj pT hp aP cx,Dt,<-List.append_assoc] at lV
        have hL9:=hlen _ _ lV
        have Se:f.get 6=f.get 6:=rfl
        simp-implicitDefEqProofs(disch:=omega)only[ai,aj,ad,Nat.reduceLT,Nat.reduceEqDiff,↓reduceIte,hn,h5,h6,aD,eq_true KN]
        have aaM:∃y:Int,y=((fu rd false:Nat):Int):=⟨_,rfl⟩
        rw[hrF]
        refine(nw OW s9 (fu rd false)).mono ?_
        rintro _ Vj ⟨rfl,RI⟩
        subst RI
        simp-implicitDefEqProofs(disch:=omega)only[ai,aj,ad,Nat.reduceLT,Nat.reduceEqDiff,↓reduceIte,hn]
        have aaN:=nm (fu rd false)
        refine(mH hZ base Vj v7 _ 256 (width (fu rd false)) Ms.bits Ms.bf hb9 (by omega) (by rw[List.length_append,fq];omega) (by omega)).mono ?_
        rintro v11 s11 ⟨RJ,RK,IH,RL⟩
        have II:=Ms.wrote RJ RK RL
        have IJ:=lV
        rw[<-List.append_assoc,Gz] at IJ
        simp-implicitDefEqProofs(disch:=omega)only[ai,Nat.reduceLT,Nat.reduceEqDiff,↓reduceIte,hn,h8,dz,aD]
        refine au (b.length-(fD+p.1)) (by omega) ⟨k,fD+p.1,[],258,true,_,v11,.slice none 0 0,rfl,by omega,by rw[List.length_drop];omega,IJ,Lz.Good.nil,Rh.nil,(fun e h=>by cases h),by omega,⟨II.bits,.nil,II.bf,aN.nil _,fun k hk e=>by cases e⟩,Mt.trans IH,by simp only[ae,hn],by simp only[aa,↓reduceIte,Nat.reduceEqDiff,h0],by simp only[aa,↓reduceIte,Nat.reduceEqDiff],by simp only[aa,↓reduceIte,Nat.reduceEqDiff],by simp only[aa,↓reduceIte,Nat.reduceEqDiff];rfl,by simp only[aa,↓reduceIte,Nat.reduceEqDiff];rfl,by simp only[aa,↓reduceIte,Nat.reduceEqDiff],by simp only[aa,↓reduceIte];rfl⟩
       ·have KN:¬((258+T.length:Nat):Int)+1=4096:=by omega
        have lV:=wY
        rw[v8 pT hp aP cx,Dt,<-List.append_assoc,Gz] at lV
        simp-implicitDefEqProofs(disch:=omega)only[ai,Nat.reduceLT,Nat.reduceEqDiff,↓reduceIte,hn,h5,h8,dz,aD,eq_false KN]
        refine au (b.length-(fD+p.1)) (by omega) ⟨k,fD+p.1,_,fu rd false,false,_,v7,tv9,rfl,by omega,by rw[List.length_drop];omega,lV,hF.more aP cx,hN.snoc _,?_,Oq,Ms,Mt,by simp only[ae,hn],by simp only[aa,↓reduceIte,Nat.reduceEqDiff,h0],by simp only[aa,↓reduceIte,Nat.reduceEqDiff],by simp only[aa,↓reduceIte,Nat.reduceEqDiff],by simp only[aa,↓reduceIte,Nat.reduceEqDiff];rw[<-e3];rfl,by simp only[aa,↓reduceIte,Nat.reduceEqDiff,h6]<;>first|rfl|(congr 1;try (unfold fu;simp only[Bool.false_eq_true,if_false];omega)),by simp only[aa,↓reduceIte,Nat.reduceEqDiff],by simp only[aa,↓reduceIte];rfl⟩
        intro e he
        rcases List.mem_append.mp he with he|he
        ·exact Xs e he
        ·rw[List.mem_singleton] at he;subst he
         simp only;rw[List.length_take];omega
    ·have lV:=wY
     rw[L3 pT hp aP,Dt,<-List.append_assoc,Gz] at lV
     have c2:¬(fD:Int)+(p.1:Int)<(b.length:Int):=by omega
     cases fst with
     |true=>
      simp-implicitDefEqProofs(disch:=omega)only[ai,aj,ad,Nat.reduceLT,Nat.reduceEqDiff,↓reduceIte,undef,hn,h0,h7,h8,dz,yb.aV Tryz.underlying22,eq_false c2,aD]
      have Se:fu rd true=fu rd true:=rfl
      refine au (b.length-(fD+p.1)) (by omega) ⟨k,fD+p.1,T,fu rd true,false,_,v7,tv,rfl,by omega,by rw[List.length_drop];omega,lV,hG,hN,Xs,Oq,OZ,Sv,by simp only[ae,hn],by simp only[aa,↓reduceIte,Nat.reduceEqDiff,h0],by simp only[aa,↓reduceIte,Nat.reduceEqDiff],by simp only[aa,↓reduceIte,Nat.reduceEqDiff,h4],by simp only[aa,↓reduceIte,Nat.reduceEqDiff,h5],by simp only[aa,↓reduceIte,Nat.reduceEqDiff,h6]<;>first|rfl|(congr 1;try (unfold fu;simp only[Bool.false_eq_true,if_false];omega)),by simp only[aa,↓reduceIte,Nat.reduceEqDiff],by simp only[aa,↓reduceIte];rfl⟩
     |false=>
      by_cases c3:rd<4096
      ·have Gg:(rd:Int)<4096:=by omega
       simp-implicitDefEqProofs(disch:=omega)only[ai,aj,ad,Nat.reduceLT,Nat.reduceEqDiff,↓reduceIte,hn,h0,h6,h7,h8,dz,eq_true Gg,yb.aV Tryz.underlying22,eq_false c2,aD]
       have Se:fu rd false=fu rd false:=rfl
       refine au (b.length-(fD+p.1)) (by omega) ⟨k,fD+p.1,T,fu rd false,false,_,v7,tv,rfl,by omega,by rw[List.length_drop];omega,lV,hG,hN,Xs,Oq,OZ,Sv,by simp only[ae,hn],by simp only[aa,↓reduceIte,Nat.reduceEqDiff,h0],by simp only[aa,↓reduceIte,Nat.reduceEqDiff],by simp only[aa,↓reduceIte,Nat.reduceEqDiff,h4],by simp only[aa,↓reduceIte,Nat.reduceEqDiff,h5],by simp only[aa,↓reduceIte,Nat.reduceEqDiff]<;>first|rfl|(congr 1;try (unfold fu;simp only[Bool.false_eq_true,if_false];omega)),by simp only[aa,↓reduceIte,Nat.reduceEqDiff],by simp only[aa,↓reduceIte];rfl⟩
      ·have Gg:¬(rd:Int)<4096:=by omega
       simp-implicitDefEqProofs(disch:=omega)only[ai,aj,ad,Nat.reduceLT,Nat.reduceEqDiff,↓reduceIte,hn,h0,h6,h7,h8,dz,eq_false Gg,yb.aV Tryz.underlying22,eq_false c2,aD]
       have Se:fu rd false=fu rd false:=rfl
       refine au (b.length-(fD+p.1)) (by omega) ⟨k,fD+p.1,T,fu rd false,false,_,v7,tv,rfl,by omega,by rw[List.length_drop];omega,lV,hG,hN,Xs,Oq,OZ,Sv,by simp only[ae,hn],by simp only[aa,↓reduceIte,Nat.reduceEqDiff,h0],by simp only[aa,↓reduceIte,Nat.reduceEqDiff],by simp only[aa,↓reduceIte,Nat.reduceEqDiff,h4],by simp only[aa,↓reduceIte,Nat.reduceEqDiff,h5],by simp only[aa,↓reduceIte,Nat.reduceEqDiff,h6]<;>first|rfl|(congr 1;try (unfold fu;simp only[Bool.false_eq_true,if_false];omega)),by simp only[aa,↓reduceIte,Nat.reduceEqDiff],by simp only[aa,↓reduceIte];rfl⟩
  ·have c1:¬(fD:Int)<(b.length:Int):=by omega
   obtain rfl:fD=b.length:=by omega
   rw[List.drop_length,L2] at wY
   simp-implicitDefEqProofs(disch:=omega)only[ai,ad,Nat.reduceLT,Nat.reduceEqDiff,↓reduceIte,hn,h0,h8,tF.aV Tryz.underlying22,eq_false c1]
   exact hQ _ _ _ ⟨rfl,rd,L,v,.slice none 0 0,wY,Sq,⟨hE.bits,.nil,hE.bf,aN.nil _,fun k hk e=>by cases e⟩,hS,by simp only[ae,hn],by simp only[aa,↓reduceIte,Nat.reduceEqDiff,h3],by simp only[aa,↓reduceIte,Nat.reduceEqDiff,h6]⟩
 ·clear hn h0 f Oo UE VM hg1 bB
  rintro _ f s4 ⟨rfl,rd,L,v,tv,wY,Sq,hE,hS,hn,h3,h6⟩
  have pS:=Nat.le_trans wT hS.next
  have aaJ:=hlen _ _ wY
  simp-implicitDefEqProofs(disch:=omega)only[ai,aj,ad,Nat.reduceLT,Nat.reduceEqDiff,↓reduceIte,hn,h3,h6]
  refine(nw OW s4 rd).mono ?_
  rintro _ s5 ⟨rfl,vX⟩
  subst vX
  simp-implicitDefEqProofs(disch:=omega)only[ai,aj,ad,Nat.reduceLT,Nat.reduceEqDiff,↓reduceIte,hn]
  have aeK:=nm rd
  refine(mH hZ base s5 v L 257 (width rd) hE.bits hE.bf pS (by omega) (by omega) (by omega)).mono ?_
  rintro v7 s7 ⟨Mr,hF7,fH,_⟩
  rw[<-wY] at Mr
  obtain⟨A,hA⟩:∃A,A=tD b:=⟨_,rfl⟩
  have hAb:∀x∈A,x<2:=by rw[hA];exact HW b
  have ef:A.length<=100000000:=by rw[hA];omega
  have hAz:pack A=GC b:=by rw[hA];rfl
  rw[<-hA] at Mr
  have Sv:=hS.trans fH
  have Ja:=Nat.le_trans wT Sv.next
  simp-implicitDefEqProofs(disch:=omega)only[ai,Nat.reduceLT,↓reduceIte,hn]
  refine Comes.bC (fun z f s' =>∃(i:Nat) (ov:Value),z=A.length-i/\i<=A.length/\Own s' 1 v7 A.length (ofBytes (pF A))/\Own s' 1 ov (laid A i).length (ofBytes (laid A i))/\aN base ov/\(∀k,aJ ov=some k->aJ v7≠some k)/\ar base s s' /\f.n=130/\f.get 3=v7/\f.get 12=ov/\f.get 13= .int .i64 i)
   (fun y f s' =>y= .exit 4/\∃(ov:Value),Own s' 1 ov (GC b).length (ofBytes (GC b))/\aN base ov/\ar base s s' /\f.n=130/\f.get 12=ov)
   ⟨0,.slice none 0 0,rfl,by omega,Mr,(by have:laid A 0=[]:=by(unfold laid;rw[List.take_zero];exact lB)
                                          rw[this];exact .nil),aN.nil _,(fun k hk e=>by cases hk),Sv,by simp only[ae,hn],by simp only[aa,↓reduceIte,Nat.reduceEqDiff],by simp only[aa,↓reduceIte,Nat.reduceEqDiff],by simp only[aa,↓reduceIte];rfl⟩ ?_ ?_
  ·clear hn h3 h6 f hE Mr
   rintro Q hQ z f s8 ⟨i,ov,rfl,hi,hv,ho,Yi,hov,Xt,hn,h3,pB,Rx⟩
   have XQ:=Nat.le_trans wT Xt.next
   by_cases OG:i<A.length
   ·have c1:(i:Int)<(A.length:Int):=by omega
    have hm8:i%8<8:=Nat.mod_lt _ (by omega)
    obtain⟨aP,za⟩:=On hAb OG
    have CF:=Om OG
    have agn:(laid A i).length<=100000000:=by
     have:=oi (A.take i).length (A.take i) (Nat.le_refl _)
     have h2:(A.take i).length<=A.length:=by rw[List.length_take];omega
     show(pack (A.take i)).length<=_
     omega
    by_cases hz:i%8=0
    ·have pR:((i%8:Nat):Int)=0:=by omega
     rw[if_pos hz] at CF
     simp-implicitDefEqProofs(disch:=omega)only[ai,aj,ad,ag,Nat.reduceLT,Nat.reduceEqDiff,↓reduceIte,hn,h3,pB,Rx,hv.aH.aV Tryz.underlying22,eq_true c1,cK,tC,eq_true pR,gN Tryz.underlying22 bh gR]
     refine a9 Tryz.underlying22 bh gh gR rfl ho (by simp only[aa,↓reduceIte]) (by decide) (by simp only[ae,hn];decide) (by simp only[ae,hn];decide) (by rfl) (by decide) rfl (by omega) (by omega) Yi XQ ?_
     intro bs o9 s9 ho9 I8 nv RH KX
     have e1:ofBytes (laid A i)++[.int .u8 0]=ofBytes (roomy A i):=by rw[CF,aK];rfl
     have e2:(laid A i).length+1=(roomy A i).length:=by rw[CF,List.length_append];rfl
     rw[e1,e2] at ho9
     have hv9:=hv.turns RH (fun k hk e=>hov k e hk)
     have aaQ:∀k,aJ o9=some k->aJ v7≠some k:=fun k hk=>by
      rcases KX with e|⟨q,e,hq⟩
      ·rw[e] at hk;exact hov k hk
      ·rw[e] at hk;injection hk with hk;subst hk
       intro w;have:=hv.jh _ w;omega
     have Mt:=Xt.trans nv
     have Xu:i/8<(roomy A i).length:=aP
     have IK:=(ho9).aH.indexAddr (k:= .i64) (x:=((i/8:Nat):Int)) Tryz.underlying22 bh (by omega) (by omega)
     rw[Int.toNat_natCast] at IK
     have RM:=(ho9).aH.cU (P:=Tryz.prog) gZ Xu
     rw[aZ Xu] at RM
     have IL:=(hv9).aH.indexAddr (k:= .i64) (x:=(i:Int)) Tryz.underlying22 bh (by omega) (by omega)
     rw[Int.toNat_natCast] at IL
     have RN:=(hv9).aH.cU (P:=Tryz.prog) gZ OG
     rw[CE hAb OG] at RN
     have e7:(7:Int)-((i%8:Nat):Int)=((7-i%8:Nat):Int):=by omega
     have h78:7-i%8<8:=by omega
     try (simp-implicitDefEqProofs(disch:=omega)only[ai,Nat.reduceLT,↓reduceIte,hn])
     refine cF.p9 (by kernel_rfl) ?_
     simp-implicitDefEqProofs(disch:=omega)only[ai,Nat.reduceLT,Nat.reduceEqDiff,↓reduceIte,hn,h3,Rx,ej,HG,cK,tC,IK,IL,RM,RN,(ho9).self,(hv9).self,aD,e7,bd Tryz.underlying3 Tryz.underlying115,Cs,HF,mS,UW]
     refine ei bh ho9 Xu rfl ?_
     intro sE Xv TV
     have XS:uA ((roomy A i).getD (i/8) 0) ((A.getD i 0:Nat):Int) (7-i%8)=(roomy A i).getD (i/8) 0|||UInt8.ofNat (A.getD i 0*2^(7-i%8)):=by
      have hx:A.getD i 0<2:=by rw[List.getD_eq_getElem?_getD,List.getElem?_eq_getElem OG];exact hAb _ (List.getElem_mem _)
      unfold uA
      rw[show((((A.getD i 0:Nat):Int))%2).toNat=A.getD i 0 by omega]
     rw[XS,my,za] at Xv
     have hle:(roomy A i).length=(laid A (i+1)).length:=by rw[<-za,List.length_set]
     rw[hle] at Xv
     simp-implicitDefEqProofs(disch:=omega)only[ai,Nat.reduceLT,Nat.reduceEqDiff,↓reduceIte,hn,Rx,aD]
     refine au (A.length-(i+1)) (by omega) ⟨i+1,o9,rfl,by omega,(hv9).turns TV (fun k hk e=>aaQ k e hk),Xv,I8,aaQ,(Mt).trans (TV.keeps I8 (Nat.le_trans wT (Mt).next)),by simp only[ae,hn],by simp only[aa,↓reduceIte,Nat.reduceEqDiff,h3],by simp only[aa,↓reduceIte,Nat.reduceEqDiff],by simp only[aa,↓reduceIte];rfl⟩
    ·have pR:¬((i%8:Nat):Int)=0:=by omega
     rw[if_neg hz] at CF
     rw[<-CF] at ho
     simp-implicitDefEqProofs(disch:=omega)only[ai,aj,ad,Nat.reduceLT,Nat.reduceEqDiff,↓reduceIte,hn,h3,Rx,hv.aH.aV Tryz.underlying22,eq_true c1,cK,tC,eq_false pR]
     have Xu:i/8<(roomy A i).length:=aP
     have IK:=(ho).aH.indexAddr (k:= .i64) (x:=((i/8:Nat):Int)) Tryz.underlying22 bh (by omega) (by omega)
     rw[Int.toNat_natCast] at IK
     have RM:=(ho).aH.cU (P:=Tryz.prog) gZ Xu
     rw[aZ Xu] at RM
     have IL:=(hv).aH.indexAddr (k:= .i64) (x:=(i:Int)) Tryz.underlying22 bh (by omega) (by omega)
     rw[Int.toNat_natCast] at IL
     have RN:=(hv).aH.cU (P:=Tryz.prog) gZ OG
     rw[CE hAb OG] at RN
     have e7:(7:Int)-((i%8:Nat):Int)=((7-i%8:Nat):Int):=by omega
     have h78:7-i%8<8:=by omega
     try (simp-implicitDefEqProofs(disch:=omega)only[ai,aj,oneOf,ad,ag,ah,Nat.reduceLT,Nat.reduceLeDiff,Nat.reduceEqDiff,Nat.reduceAdd,↓reduceIte,hn,h3,pB,Rx])
     refine cF.p9 (by kernel_rfl) ?_
     simp-implicitDefEqProofs(disch:=omega)only[ai,Nat.reduceLT,Nat.reduceEqDiff,↓reduceIte,hn,h3,pB,Rx,ej,HG,cK,tC,IK,IL,RM,RN,(ho).self,(hv).self,aD,e7,bd Tryz.underlying3 Tryz.underlying115,Cs,HF,mS,UW]
     refine ei bh ho Xu rfl ?_
     intro sE Xv TV
     have XS:uA ((roomy A i).getD (i/8) 0) ((A.getD i 0:Nat):Int) (7-i%8)=(roomy A i).getD (i/8) 0|||UInt8.ofNat (A.getD i 0*2^(7-i%8)):=by
      have hx:A.getD i 0<2:=by rw[List.getD_eq_getElem?_getD,List.getElem?_eq_getElem OG];exact hAb _ (List.getElem_mem _)
      unfold uA
      rw[show((((A.getD i 0:Nat):Int))%2).toNat=A.getD i 0 by omega]
     rw[XS,my,za] at Xv
     have hle:(roomy A i).length=(laid A (i+1)).length:=by rw[<-za,List.length_set]
     rw[hle] at Xv
     simp-implicitDefEqProofs(disch:=omega)only[ai,Nat.reduceLT,Nat.reduceEqDiff,↓reduceIte,hn,Rx,aD]
     refine au (A.length-(i+1)) (by omega) ⟨i+1,ov,rfl,by omega,(hv).turns TV (fun k hk e=>hov k e hk),Xv,Yi,hov,(Xt).trans (TV.keeps Yi (Nat.le_trans wT (Xt).next)),by simp only[ae,hn],by simp only[aa,↓reduceIte,Nat.reduceEqDiff,h3],by simp only[aa,↓reduceIte,Nat.reduceEqDiff,pB],by simp only[aa,↓reduceIte];rfl⟩
   ·obtain rfl:i=A.length:=by omega
    have c1:¬(A.length:Int)<(A.length:Int):=by omega
    simp-implicitDefEqProofs(disch:=omega)only[ai,aj,ad,Nat.reduceLT,Nat.reduceEqDiff,↓reduceIte,hn,h3,Rx,hv.aH.aV Tryz.underlying22,eq_false c1]
    have e:laid A A.length=GC b:=by unfold laid;rw[List.take_length,hAz]
    rw[e] at ho
    exact hQ _ _ _ ⟨rfl,ov,ho,Yi,Xt,by simp only[ae,hn],by simp only[aa,↓reduceIte,Nat.reduceEqDiff,pB]⟩
  ·clear hn h3 h6 f
   rintro _ f s8 ⟨rfl,ov,ho,Yi,Xt,hn,pB⟩
   simp-implicitDefEqProofs(disch:=omega)only[ai,al,oneOf,Nat.reduceLT,↓reduceIte,hn,pB,Tryz.results95]
   exact⟨ho,by rw[<-yj];exact Yi,by rw[<-yj];exact Xt⟩
end Go.Proofs.YtdfjfncifneocaaGreat
set_option linter.unusedSimpArgs false
set_option linter.unusedVariables false
set_option maxRecDepth 100000
namespace Go.Proofs.YtdfjfncifneocaaGreat
open Go.Cl Go.Cl.B85
theorem IM (s:aq):eu Tryz.prog s 22 (.int .i64 5) (.int .i64 5)=aX s [.int .u8 0,.int .u8 0,.int .u8 0,.int .u8 0,.int .u8 0] 5 1:=vF Tryz.underlying22 bh gR gh (n:=5) (by decide) (by decide)
theorem Ot (l0:List UInt8)(i n:Nat)(hn:n=min 4 (l0.length-i))(h:i<l0.length):(l0.drop i).drop n=l0.drop (i+4):=by
 rw[List.drop_drop]
 by_cases h4:i+4<=l0.length
 ·rw[show n=4 by omega]
 ·rw[List.drop_eq_nil_of_le (by omega),List.drop_eq_nil_of_le (by omega)]
theorem Ou (l0:List UInt8)(i k:Nat):(l0.drop i).getD k 0=l0.getD (i+k) 0:=by
 rw[List.getD_eq_getElem?_getD,List.getD_eq_getElem?_getD,List.getElem?_drop]
set_option maxRecDepth 100000 in
set_option maxHeartbeats 4000000 in
theorem IP {lib:ay}(hl:lib.at 91=none)(s:aq)(x:Value)(l0:List UInt8)(hx:aM s 1 x l0.length (ofBytes l0))(hlen:l0.length<=1073741824):
  Runs Tryz.prog lib 91 [x] s fun v s' =>bU s v s' (GD l0):=by
 refine Runs.enter 71 Tryz.func91 rfl hl rfl rfl ?_
 intro f hn hf
 have h0:f.get 0=x:=hf 0
 clear hf
 simp-implicitDefEqProofs(disch:=omega)only[ai,Nat.reduceLT,↓reduceIte,hn]
 refine Comes.eY (fun q f s' =>∃(i:Nat) (o:Value) (P:List UInt8),q=l0.length-i/\i<=l0.length+4/\P.length+2*(l0.length-i)<=2*l0.length/\P++GD (l0.drop i)=GD l0/\Df s.next s' 1 x l0.length (ofBytes l0)/\Own s' 1 o P.length (ofBytes P)/\aN s.next o/\ar s.next s s' /\f.n=71/\f.get 0=x/\f.get 3=o/\f.get 4= .int .i64 i) ⟨0,_,[],rfl,by omega,by simp,rfl,hx.low,.nil,aN.nil _,ar.refl _ _,by simp only[ae,hn],by simp only[aa,↓reduceIte,Nat.reduceEqDiff,h0],by simp only[aa,↓reduceIte,Nat.reduceEqDiff],by simp only[aa,↓reduceIte];rfl⟩ ?_
 clear hn h0 f
 rintro q f s1 ⟨i,o,P,rfl,OG,hP,jq,hb,ho,l5,aA,hn,h0,h3,h4⟩
 by_cases LI:l0.length<=i
 ·have Xw:¬(i:Int)<l0.length:=by omega
  simp-implicitDefEqProofs(disch:=omega)only[ai,ad,ag,Nat.reduceLT,Nat.reduceEqDiff,↓reduceIte,hn,h0,h3,h4,hb.aH.aV Tryz.underlying22,eq_false Xw,uw Tryz.underlying22 bh gR]
  refine a9 Tryz.underlying22 bh gh gR rfl ho (by simp only[aa,↓reduceIte]) (by decide) (by simp only[ae,hn];decide) (by simp only[ae,hn];decide) (by rfl) (by decide) rfl (by omega) (by omega) l5 aA.next ?_
  intro bs o' s2 j8 jD cI _ _
  simp-implicitDefEqProofs(disch:=omega)only[ai,al,oneOf,Nat.reduceLT,↓reduceIte,hn,Tryz.results91]
  rw[List.drop_eq_nil_of_le LI,zP] at jq
  refine⟨?_,jD,aA.trans cI⟩
  rw[<-jq,aK,List.length_append];exact j8
 ·have Xw:(i:Int)<l0.length:=by omega
  obtain⟨l,hl⟩:∃l,l=l0.drop i:=⟨_,rfl⟩
  have nA:l.length=l0.length-i:=by rw[hl,List.length_drop]
  have Xx:l≠[]:=by intro h;rw[h] at nA;simp at nA;omega
  rw[<-hl] at jq
  obtain⟨n,sK⟩:∃n,n=min 4 l.length:=⟨_,rfl⟩
  have Fe:(if((l0.length:Int)-(i:Int))<4 then((l0.length:Int)-(i:Int)) else(4:Int))=(n:Int):=by split<;>omega
  have za:l.drop n=l0.drop (i+4):=by rw[hl];exact Ot l0 i n (by omega) (by omega)
  simp-implicitDefEqProofs(disch:=omega)only[ai,ad,Nat.reduceLT,Nat.reduceEqDiff,↓reduceIte,hn,h0,h4,hb.aH.aV Tryz.underlying22,eq_true Xw,aD,Fe]
  refine Comes.bC (fun q f s' =>∃k:Nat,q=4-k/\k<=4/\f.n=71/\f.get 0=x/\f.get 3=o/\f.get 4= .int .i64 i/\f.get 5= .int .i64 n/\f.get 6= .int .u32 (val l k)/\f.get 7= .int .i64 k/\s' =s1)
   (fun y f s' =>y= .exit 2/\f.n=71/\f.get 0=x/\f.get 3=o/\f.get 4= .int .i64 i/\f.get 5= .int .i64 n/\f.get 6= .int .u32 (val l 4)/\s' =s1)
   ⟨0,rfl,by omega,by simp only[ae,hn],by simp only[aa,↓reduceIte,Nat.reduceEqDiff,h0],by simp only[aa,↓reduceIte,Nat.reduceEqDiff,h3],by simp only[aa,↓reduceIte,Nat.reduceEqDiff,h4],by simp only[aa,↓reduceIte,Nat.reduceEqDiff],by simp only[aa,↓reduceIte,Nat.reduceEqDiff];rfl,by simp only[aa,↓reduceIte];rfl,rfl⟩ ?_ ?_
  ·clear hn h0 h3 h4 f
   rintro Q hQ q f s1 ⟨k,rfl,hk,hn,h0,h3,h4,h5,h6,h7,rfl⟩
   by_cases hk4:k<4
   ·have Um:(k:Int)<4:=by omega
    have hv:=L5 l hk4
    by_cases OQ:k<n
    ·have Cy:val l k*256+(l0.getD (i+k) 0).toNat=val l (k+1):=by simp only[val];rw[if_pos (by omega),hl,Ou]
     have aeO:(k:Int)<n:=by omega
     have dI:((i:Int)+(k:Int)).toNat=i+k:=by omega
     simp-implicitDefEqProofs(disch:=omega)only[ai,Nat.reduceLT,Nat.reduceEqDiff,↓reduceIte,hn,h0,h4,h5,h6,h7,eq_true Um,eq_true aeO,L7,jw,L8,aD,hb.aH.indexAddr Tryz.underlying22 bh,dI,hb.aH.cU gZ,aZ,bd Tryz.underlying5 Tryz.underlying117,H0,mS,QC,Cy]
     refine au (4-(k+1)) (by omega) ⟨k+1,rfl,by omega,by simp only[ae,hn],by simp only[aa,↓reduceIte,Nat.reduceEqDiff,h0],by simp only[aa,↓reduceIte,Nat.reduceEqDiff,h3],by simp only[aa,↓reduceIte,Nat.reduceEqDiff,h4],by simp only[aa,↓reduceIte,Nat.reduceEqDiff,h5],by simp only[aa,↓reduceIte,Nat.reduceEqDiff],by simp only[aa,↓reduceIte];rfl,rfl⟩
    ·have Cy:((val l k:Nat):Int)*256=((val l (k+1):Nat):Int):=by simp only[val];rw[if_neg (by omega)];omega
     have lU:((val l (k+1):Nat):Int)%4294967296=((val l (k+1):Nat):Int):=by omega
     simp-implicitDefEqProofs(disch:=omega)only[ai,Nat.reduceLT,Nat.reduceEqDiff,↓reduceIte,hn,h5,h6,h7,eq_true Um,OQ,L7,jw,Cy,lU,aD]
     refine au (4-(k+1)) (by omega) ⟨k+1,rfl,by omega,by simp only[ae,hn],by simp only[aa,↓reduceIte,Nat.reduceEqDiff,h0],by simp only[aa,↓reduceIte,Nat.reduceEqDiff,h3],by simp only[aa,↓reduceIte,Nat.reduceEqDiff,h4],by simp only[aa,↓reduceIte,Nat.reduceEqDiff,h5],by simp only[aa,↓reduceIte,Nat.reduceEqDiff],by simp only[aa,↓reduceIte];rfl,rfl⟩
   ·have Um:¬(k:Int)<4:=by omega
    obtain rfl:k=4:=by omega
    simp-implicitDefEqProofs(disch:=omega)only[ai,Nat.reduceLT,↓reduceIte,hn,h7,eq_false Um]
    exact hQ _ _ _ ⟨rfl,by simp only[ae,hn],by simp only[aa,↓reduceIte,Nat.reduceEqDiff,h0],by simp only[aa,↓reduceIte,Nat.reduceEqDiff,h3],by simp only[aa,↓reduceIte,Nat.reduceEqDiff,h4],by simp only[aa,↓reduceIte,Nat.reduceEqDiff,h5],by simp only[aa,↓reduceIte,Nat.reduceEqDiff,h6],rfl⟩
  ·clear hn h0 h3 h4 f
   rintro _ f s1 ⟨rfl,hn,h0,h3,h4,h5,h6,rfl⟩
   obtain⟨X,hX⟩:∃X,X=val l 4:=⟨_,rfl⟩
   have Gk:X<4294967296:=by rw[hX];exact L6 l
   rw[<-hX] at h6
   by_cases hz:n=4/\X=0
   ·have Dq:(n:Int)=4:=by omega
    have GX:(X:Int)=0:=by omega
    simp-implicitDefEqProofs(disch:=omega)only[ai,aj,ag,Nat.reduceLT,Nat.reduceEqDiff,↓reduceIte,hn,h3,h5,h6,eq_true Dq,eq_true GX,gN Tryz.underlying22 bh gR]
    refine a9 Tryz.underlying22 bh gh gR rfl ho (by simp only[aa,↓reduceIte]) (by decide) (by simp only[ae,hn];decide) (by simp only[ae,hn];decide) (by rfl) (by decide) rfl (by omega) (by omega) l5 aA.next ?_
    intro bs o' s2 j8 jD cI _ _
    simp-implicitDefEqProofs(disch:=omega)only[ai,Nat.reduceLT,Nat.reduceEqDiff,↓reduceIte,hn,h4,aD]
    refine au (l0.length-(i+4)) (by omega) ⟨i+4,o',P++[122],rfl,by omega,by simp;omega,?_,hb.stay cI,?_,jD,aA.trans cI,by simp only[ae,hn],by simp only[aa,↓reduceIte,Nat.reduceEqDiff,h0],by simp only[aa,↓reduceIte,Nat.reduceEqDiff],by simp only[aa,↓reduceIte];rfl⟩
    ·rw[QB Xx (by rw[<-sK,<-hX];exact hz),<-sK,za] at jq
     simpa using jq
    ·rw[aK,List.length_append];exact j8
   ·by_cases hX0:X=0
    ·have Dq:¬(n:Int)=4:=by omega
     have GX:(X:Int)=0:=by omega
     simp-implicitDefEqProofs(disch:=omega)only[ai,aj,Nat.reduceLT,Nat.reduceEqDiff,↓reduceIte,hn,h5,h6,eq_false Dq,eq_true GX,IM]
     refine aQ (by simp) ?_
     intro a s2 ha Sd bD
     have fK:=ho.keeps bD
     simp-implicitDefEqProofs(disch:=omega)only[ai,Nat.reduceLT,↓reduceIte,hn]
     have HM:ofBytes (laid X 0)=[.int .u8 0,.int .u8 0,.int .u8 0,.int .u8 0,.int .u8 0]:=by rw[tk];rfl
     rw[<-HM] at ha
     refine Comes.bC (fun q f s' =>∃j:Nat,q=5-j/\j<=5/\Own s' 1 a 5 (ofBytes (laid X j))/\bm a s2 s' /\f.n=71/\f.get 0=x/\f.get 3=o/\f.get 4= .int .i64 i/\f.get 5= .int .i64 n/\f.get 6= .int .u32 (X/85^j:Nat)/\f.get 8=a/\f.get 9= .int .i64 (4-(j:Int)))
      (fun y f s' =>y= .exit 4/\Own s' 1 a 5 (ofBytes (py X))/\bm a s2 s' /\f.n=71/\f.get 0=x/\f.get 3=o/\f.get 4= .int .i64 i/\f.get 5= .int .i64 n/\f.get 8=a)
      ⟨0,rfl,by omega,ha,⟨Nat.le_refl _,fun _ _ _=>rfl⟩,by simp only[ae,hn],by simp only[aa,↓reduceIte,Nat.reduceEqDiff,h0],by simp only[aa,↓reduceIte,Nat.reduceEqDiff,h3],by simp only[aa,↓reduceIte,Nat.reduceEqDiff,h4],by simp only[aa,↓reduceIte,Nat.reduceEqDiff,h5],by simp only[aa,↓reduceIte,Nat.reduceEqDiff,h6];rw[Nat.pow_zero,Nat.div_one],by simp only[aa,↓reduceIte,Nat.reduceEqDiff],by simp only[aa,↓reduceIte];rfl⟩ ?_ ?_
     ·clear hn h0 h3 h4 h5 h6 f ha
      rintro Q hQ q f s3 ⟨j,rfl,hj,ha,ht,hn,h0,h3,h4,h5,h6,h8,h9⟩
      by_cases Rk:j<5
      ·have uO:(0:Int)<=4-j:=by omega
       have hd:X/85^j<4294967296:=Nat.lt_of_le_of_lt (Nat.div_le_self _ _) Gk
       have dI:((4:Int)-j).toNat=4-j:=by omega
       simp-implicitDefEqProofs(disch:=omega)only[ai,Nat.reduceLT,Nat.reduceEqDiff,↓reduceIte,hn,h6,h8,h9,eq_true uO,cK,Mh,jw,Mj,bd Tryz.underlying117 Tryz.underlying5,eZ,zN X j Rk,ha.aH.indexAddr Tryz.underlying22 bh,dI]
       refine dq bh ha (by omega) rfl ?_
       intro s4 Ml fU
       have uS:=Gj X j
       have lU:=Mk (Nat.lt_of_le_of_lt (Nat.div_le_self X (85^(j+1))) Gk)
       simp-implicitDefEqProofs(disch:=omega)only[ai,Nat.reduceLT,Nat.reduceEqDiff,↓reduceIte,hn,h6,h9,ej,Mi,jw,uS,lU,aD]
       refine au (5-(j+1)) (by omega) ⟨j+1,rfl,by omega,?_,⟨Nat.le_trans ht.next fU.next,fun i hi cD=>(fU.get i (Nat.lt_of_lt_of_le hi ht.next) cD).trans (ht.get i hi cD)⟩,by simp only[ae,hn],by simp only[aa,↓reduceIte,Nat.reduceEqDiff,h0],by simp only[aa,↓reduceIte,Nat.reduceEqDiff,h3],by simp only[aa,↓reduceIte,Nat.reduceEqDiff,h4],by simp only[aa,↓reduceIte,Nat.reduceEqDiff,h5],by simp only[aa,↓reduceIte,Nat.reduceEqDiff],by simp only[aa,↓reduceIte,Nat.reduceEqDiff,h8],by simp only[aa,↓reduceIte];congr 1;omega⟩
       rw[iG,wh X Rk] at Ml
       exact Ml
      ·obtain rfl:j=5:=by omega
       have uO:¬(0:Int)<=4-((5:Nat):Int):=by omega
       simp-implicitDefEqProofs(disch:=omega)only[ai,Nat.reduceLT,↓reduceIte,hn,h9,eq_false uO]
       rw[tl] at ha
       exact hQ _ _ _ ⟨rfl,ha,ht,by simp only[ae,hn],by simp only[aa,↓reduceIte,Nat.reduceEqDiff,h0],by simp only[aa,↓reduceIte,Nat.reduceEqDiff,h3],by simp only[aa,↓reduceIte,Nat.reduceEqDiff,h4],by simp only[aa,↓reduceIte,Nat.reduceEqDiff,h5],by simp only[aa,↓reduceIte,Nat.reduceEqDiff,h8]⟩
     ·clear hn h0 h3 h4 h5 h6 f ha
      rintro _ f s3 ⟨rfl,ha,ht,hn,h0,h3,h4,h5,h8⟩
      have cf:ar s1.next s1 s3:=bD.trans (ht.keeps Sd bD.next)
      have mm:=ho.keeps cf
      have dA:=ha.aH.lL (l:=py X) (lo:=0) (hi:=n+1) (by omega) (by show n+1<=5;omega)
      rw[List.drop_zero,Nat.sub_zero] at dA
      have kX:((n:Int)+1).toNat=n+1:=by omega
      have Vl:(n:Int)+1<=5:=by omega
      have zL:((py X).take (n+1)).length=n+1:=by rw[List.length_take];show min (n+1) 5=_;omega
      simp-implicitDefEqProofs(disch:=omega)only[ai,ad,ah,Nat.reduceLT,Nat.reduceEqDiff,↓reduceIte,hn,h3,h5,h8,aD,ha.aH.gw Tryz.underlying22 bh,kX]
      refine bG Tryz.underlying22 Tryz.underlying22 (.inl ⟨_,rfl⟩) bh gh gR rfl mm dA.src (by simp[br]) (by decide) (cX _) (by omega) (by omega) l5 (by have:=aA.next;have:=cf.next;omega) ?_
      intro o' s4 j8 jD cI _ _
      simp-implicitDefEqProofs(disch:=omega)only[ai,Nat.reduceLT,Nat.reduceEqDiff,↓reduceIte,hn,h4,aD]
      have iH:=(cf.weaken aA.next).trans cI
      refine au (l0.length-(i+4)) (by omega) ⟨i+4,o',P++(py X).take (n+1),rfl,by omega,by rw[List.length_append,zL];omega,?_,hb.stay iH,?_,jD,aA.trans iH,by simp only[ae,hn],by simp only[aa,↓reduceIte,Nat.reduceEqDiff,h0],by simp only[aa,↓reduceIte,Nat.reduceEqDiff],by simp only[aa,↓reduceIte];rfl⟩
      ·rw[sk Xx (by rw[<-sK,<-hX];exact hz),<-sK,<-hX,za] at jq
       simpa using jq
      ·rw[aK,List.length_append];exact j8
    ·have GX:¬(X:Int)=0:=by omega
     simp-implicitDefEqProofs(disch:=omega)only[ai,aj,Nat.reduceLT,Nat.reduceEqDiff,↓reduceIte,hn,h6,eq_false GX,IM]
     refine aQ (by simp) ?_
     intro a s2 ha Sd bD
     have fK:=ho.keeps bD
     simp-implicitDefEqProofs(disch:=omega)only[ai,Nat.reduceLT,↓reduceIte,hn]
     have HM:ofBytes (laid X 0)=[.int .u8 0,.int .u8 0,.int .u8 0,.int .u8 0,.int .u8 0]:=by rw[tk];rfl
     rw[<-HM] at ha
     refine Comes.bC (fun q f s' =>∃j:Nat,q=5-j/\j<=5/\Own s' 1 a 5 (ofBytes (laid X j))/\bm a s2 s' /\f.n=71/\f.get 0=x/\f.get 3=o/\f.get 4= .int .i64 i/\f.get 5= .int .i64 n/\f.get 6= .int .u32 (X/85^j:Nat)/\f.get 8=a/\f.get 9= .int .i64 (4-(j:Int)))
      (fun y f s' =>y= .exit 4/\Own s' 1 a 5 (ofBytes (py X))/\bm a s2 s' /\f.n=71/\f.get 0=x/\f.get 3=o/\f.get 4= .int .i64 i/\f.get 5= .int .i64 n/\f.get 8=a)
      ⟨0,rfl,by omega,ha,⟨Nat.le_refl _,fun _ _ _=>rfl⟩,by simp only[ae,hn],by simp only[aa,↓reduceIte,Nat.reduceEqDiff,h0],by simp only[aa,↓reduceIte,Nat.reduceEqDiff,h3],by simp only[aa,↓reduceIte,Nat.reduceEqDiff,h4],by simp only[aa,↓reduceIte,Nat.reduceEqDiff,h5],by simp only[aa,↓reduceIte,Nat.reduceEqDiff,h6];rw[Nat.pow_zero,Nat.div_one],by simp only[aa,↓reduceIte,Nat.reduceEqDiff],by simp only[aa,↓reduceIte];rfl⟩ ?_ ?_
     ·clear hn h0 h3 h4 h5 h6 f ha
      rintro Q hQ q f s3 ⟨j,rfl,hj,ha,ht,hn,h0,h3,h4,h5,h6,h8,h9⟩
      by_cases Rk:j<5
      ·have uO:(0:Int)<=4-j:=by omega
       have hd:X/85^j<4294967296:=Nat.lt_of_le_of_lt (Nat.div_le_self _ _) Gk
       have dI:((4:Int)-j).toNat=4-j:=by omega
       simp-implicitDefEqProofs(disch:=omega)only[ai,Nat.reduceLT,Nat.reduceEqDiff,↓reduceIte,hn,h6,h8,h9,eq_true uO,cK,Mh,jw,Mj,bd Tryz.underlying117 Tryz.underlying5,eZ,zN X j Rk,ha.aH.indexAddr Tryz.underlying22 bh,dI]
       refine dq bh ha (by omega) rfl ?_
       intro s4 Ml fU
       have uS:=Gj X j
       have lU:=Mk (Nat.lt_of_le_of_lt (Nat.div_le_self X (85^(j+1))) Gk)
       simp-implicitDefEqProofs(disch:=omega)only[ai,Nat.reduceLT,Nat.reduceEqDiff,↓reduceIte,hn,h6,h9,ej,Mi,jw,uS,lU,aD]
       refine au (5-(j+1)) (by omega) ⟨j+1,rfl,by omega,?_,⟨Nat.le_trans ht.next fU.next,fun i hi cD=>(fU.get i (Nat.lt_of_lt_of_le hi ht.next) cD).trans (ht.get i hi cD)⟩,by simp only[ae,hn],by simp only[aa,↓reduceIte,Nat.reduceEqDiff,h0],by simp only[aa,↓reduceIte,Nat.reduceEqDiff,h3],by simp only[aa,↓reduceIte,Nat.reduceEqDiff,h4],by simp only[aa,↓reduceIte,Nat.reduceEqDiff,h5],by simp only[aa,↓reduceIte,Nat.reduceEqDiff],by simp only[aa,↓reduceIte,Nat.reduceEqDiff,h8],by simp only[aa,↓reduceIte];congr 1;omega⟩
       rw[iG,wh X Rk] at Ml
       exact Ml
      ·obtain rfl:j=5:=by omega
       have uO:¬(0:Int)<=4-((5:Nat):Int):=by omega
       simp-implicitDefEqProofs(disch:=omega)only[ai,Nat.reduceLT,↓reduceIte,hn,h9,eq_false uO]
       rw[tl] at ha
       exact hQ _ _ _ ⟨rfl,ha,ht,by simp only[ae,hn],by simp only[aa,↓reduceIte,Nat.reduceEqDiff,h0],by simp only[aa,↓reduceIte,Nat.reduceEqDiff,h3],by simp only[aa,↓reduceIte,Nat.reduceEqDiff,h4],by simp only[aa,↓reduceIte,Nat.reduceEqDiff,h5],by simp only[aa,↓reduceIte,Nat.reduceEqDiff,h8]⟩
     ·clear hn h0 h3 h4 h5 h6 f ha
      rintro _ f s3 ⟨rfl,ha,ht,hn,h0,h3,h4,h5,h8⟩
      have cf:ar s1.next s1 s3:=bD.trans (ht.keeps Sd bD.next)
      have mm:=ho.keeps cf
      have dA:=ha.aH.lL (l:=py X) (lo:=0) (hi:=n+1) (by omega) (by show n+1<=5;omega)
      rw[List.drop_zero,Nat.sub_zero] at dA
      have kX:((n:Int)+1).toNat=n+1:=by omega
      have Vl:(n:Int)+1<=5:=by omega
      have zL:((py X).take (n+1)).length=n+1:=by rw[List.length_take];show min (n+1) 5=_;omega
      simp-implicitDefEqProofs(disch:=omega)only[ai,ad,ah,Nat.reduceLT,Nat.reduceEqDiff,↓reduceIte,hn,h3,h5,h8,aD,ha.aH.gw Tryz.underlying22 bh,kX]
      refine bG Tryz.underlying22 Tryz.underlying22 (.inl ⟨_,rfl⟩) bh gh gR rfl mm dA.src (by simp[br]) (by decide) (cX _) (by omega) (by omega) l5 (by have:=aA.next;have:=cf.next;omega) ?_
      intro o' s4 j8 jD cI _ _
      simp-implicitDefEqProofs(disch:=omega)only[ai,Nat.reduceLT,Nat.reduceEqDiff,↓reduceIte,hn,h4,aD]
      have iH:=(cf.weaken aA.next).trans cI
      refine au (l0.length-(i+4)) (by omega) ⟨i+4,o',P++(py X).take (n+1),rfl,by omega,by rw[List.length_append,zL];omega,?_,hb.stay iH,?_,jD,aA.trans iH,by simp only[ae,hn],by simp only[aa,↓reduceIte,Nat.reduceEqDiff,h0],by simp only[aa,↓reduceIte,Nat.reduceEqDiff],by simp only[aa,↓reduceIte];rfl⟩
      ·rw[sk Xx (by rw[<-sK,<-hX];exact hz),<-sK,<-hX,za] at jq
       simpa using jq
      ·rw[aK,List.length_append];exact j8
end Go.Proofs.YtdfjfncifneocaaGreat
set_option linter.unusedSimpArgs false
set_option linter.unusedVariables false
set_option maxRecDepth 100000
namespace Go.Proofs.YtdfjfncifneocaaGreat
open Go.Cl Go.Cl.Hx
theorem Un {lib:ay}(hl:lib.at 178=none)(s:aq)(c:UInt8):
  Runs Tryz.prog lib 178 [.int .u8 c.toNat] s fun v s' =>v= .string ⟨(two c).toArray⟩/\s' =s:=by
 refine Runs.enter 16 Tryz.func178 rfl hl rfl rfl ?_
 intro f hn hf
 have h0:f.get 0= .int .u8 c.toNat:=hf 0
 clear hf
 have hc:=c.toNat_lt
 have a1:(((c.toNat/16:Nat):Int)+1)%256=((c.toNat/16+1:Nat):Int):=by omega
 have a2:(((c.toNat%16:Nat):Int)+1)%256=((c.toNat%16+1:Nat):Int):=by omega
 have i1:c.toNat/16<16:=by omega
 have i2:c.toNat%16<16:=by omega
 have cut:∀n,n<16->(([48,49,50,51,52,53,54,55,56,57,97,98,99,100,101,102]:List UInt8).take (n+1)).drop n=[digits.getD n 0]:=by decide
 have aaR:=cut _ i1
 have aaS:=cut _ i2
 generalize hd:([48,49,50,51,52,53,54,55,56,57,97,98,99,100,101,102]:List UInt8)=D at aaR aaS
 have hDl:D.length=16:=by rw[<-hd];rfl
 simp-implicitDefEqProofs(disch:=omega)only[ai,aj,al,oneOf,ah,Nat.reduceLT,Nat.reduceEqDiff,↓reduceIte,hn,h0,Zq,ia,Wz,eZ,a1,a2,str_slice Tryz.underlying9,aaR,aaS,FH (a:=[digits.getD (c.toNat/16) 0]) (b:=[digits.getD (c.toNat%16) 0]) (by simp),Tryz.results178]
 first|done|rfl
theorem KY {lib:ay}(hl:lib.at 141=none)(oP:lib.at 178=none)(s:aq)(x:Value)(l:List UInt8)(hx:aM s 1 x l.length (ofBytes l))(hlen:l.length<=1073741824):
  Runs Tryz.prog lib 141 [x] s fun v s' =>v= .string ⟨(uH l).toArray⟩/\s' =s:=by
 refine Runs.enter 19 Tryz.func141 rfl hl rfl rfl ?_
 intro f hn hf
 have h0:f.get 0=x:=hf 0
 clear hf
 simp-implicitDefEqProofs(disch:=omega)only[ai,Nat.reduceLT,↓reduceIte,hn]
 refine Comes.eY (fun k f s' =>∃i:Nat,k=l.length-i/\i<=l.length/\f.n=19/\f.get 0=x/\f.get 3= .string ⟨(uH (l.take i)).toArray⟩/\f.get 4= .int .i64 i/\s' =s) ⟨0,rfl,by omega,by simp only[ae,hn],by simp only[aa,↓reduceIte,Nat.reduceEqDiff,h0],by simp only[aa,↓reduceIte,Nat.reduceEqDiff];rfl,by simp only[aa,↓reduceIte];rfl,rfl⟩ ?_
 clear hn h0 f
 rintro k f s ⟨i,rfl,hi,hn,h0,h3,h4,rfl⟩
 by_cases aP:i<l.length
 ·have hc8:=(l.getD i 0).toNat_lt
  have u7:(uH (l.take i)).length=2*i:=by rw[nY,List.length_take];omega
  simp-implicitDefEqProofs(disch:=omega)only[ai,aj,ad,Nat.reduceLT,Nat.reduceEqDiff,↓reduceIte,hn,h0,h3,h4,aP,hx.aV Tryz.underlying22,hx.indexAddr Tryz.underlying22 bh,hx.cU gZ,aZ]
  refine(Un oP s _).mono ?_
  rintro _ s1 ⟨rfl,hs⟩
  subst hs
  have ir:uH (l.take i)++two (l.getD i 0)=uH (l.take (i+1)):=by rw[sU aP,Ew]
  have hle:(uH (l.take i)).length+(two (l.getD i 0)).length<=4294967296:=by rw[u7,B5];omega
  simp-implicitDefEqProofs(disch:=omega)only[ai,Nat.reduceLT,Nat.reduceEqDiff,↓reduceIte,hn,h4,FH hle,ir,aD]
  refine au (l.length-(i+1)) (by omega) ⟨i+1,rfl,by omega,by simp only[ae,hn],by simp only[aa,↓reduceIte,Nat.reduceEqDiff,h0],by simp only[aa,↓reduceIte,Nat.reduceEqDiff],by simp only[aa,↓reduceIte];rfl,rfl⟩
 ·simp-implicitDefEqProofs(disch:=omega)only[ai,al,oneOf,ad,Nat.reduceLT,Nat.reduceEqDiff,↓reduceIte,hn,h0,h3,h4,aP,hx.aV Tryz.underlying22,Tryz.results141]
  rw[List.take_of_length_le (by omega)]
theorem RO {lib:ay}(hl:lib.at 90=none)(nF:lib.at 141=none)(oP:lib.at 178=none)(s:aq)(x:Value)(l:List UInt8)(hx:aM s 1 x l.length (ofBytes l))(hlen:l.length<=1073741824):
  Runs Tryz.prog lib 90 [x] s fun v s' =>bU s v s' (hex l):=by
 refine Runs.enter 7 Tryz.func90 rfl hl rfl rfl ?_
 intro f hn hf
 have h0:f.get 0=x:=hf 0
 clear hf
 simp-implicitDefEqProofs(disch:=omega)only[ai,aj,ad,Nat.reduceLT,Nat.reduceEqDiff,↓reduceIte,hn,h0]
 refine(KY nF oP s x l hx hlen).mono ?_
 rintro _ s1 ⟨rfl,hs⟩
 subst hs
 have hle:(uH l).length+([62]:List UInt8).length<=4294967296:=by rw[nY];simp;omega
 have Xy:(uH l++[62]).length<=4294967296:=by rw[List.length_append];exact hle
 simp-implicitDefEqProofs(disch:=omega)only[ai,Nat.reduceLT,↓reduceIte,hn,FH hle,xq Tryz.underlying9 Tryz.underlying22 Tryz.underlying5 (Nat.le_trans Xy (by decide))]
 refine aQ (by rw[br,Nat.mul_one]) ?_
 intro b s2 hb hF aA
 simp-implicitDefEqProofs(disch:=omega)only[ai,al,oneOf,Nat.reduceLT,↓reduceIte,hn,Tryz.results90]
 exact⟨hb,hF,aA⟩
end Go.Proofs.YtdfjfncifneocaaGreat
namespace Go.Cl
theorem tu {f:aR}{d:Option Tmp}{v:Value}{K K' :aR->Prop}(h:cO f d v K)(k:∀f,K f->K' f):cO f d v K' :=by
 unfold cO at h|-
 split at h
 ·exact k _ h
 ·exact h.elim
theorem zb {P:Program}{all:List Oper}:∀{r:List Oper} {f:aR} {s:aq} {Q Q' :aR->Prop},iy P all r f s Q->(∀f,Q f->Q' f)->iy P all r f s Q' :=by
 intro r
 induction r with
 |nil=>intro f s Q Q' h k;exact k _ h
 |cons o r ih=>
  intro f s Q Q' h k
  rw[nR] at h|-
  cases hw:b9 all o f with
  |false=>
   rw[hw] at h
   exact tu h fun f h=>ih h k
  |true=>
   rw[hw] at h
   simp only[tQ] at h|-
   unfold AE at h|-
   split at h
   ·exact⟨h.1,tu h.2 fun f h=>ih h k⟩
   ·exact h.elim
end Go.Cl
