import Derived.Test.YtdfjfncifneocaaGreatLzwD
import Derived.Test.YtdfjfncifneocaaGreatObjB
import Derived.Test.YtdfjfncifneocaaGreatCutA
set_option linter.unusedSimpArgs false
set_option linter.unusedVariables false
set_option maxRecDepth 100000
namespace Go.Proofs.YtdfjfncifneocaaGreat
open Go.Cl Go.Cl.Lz Go.Cl.Rw
theorem Cx:∀(L:List Nat) (p:List UInt8×List Nat),(∀x∈L,x<2)->Cv p->Cv (fW p L)
 |[],p,_,h=>h
 |b::L,p,hL,h=>by
  show Cv (fW (sC p b) L)
  exact Cx L _ (fun x hx=>hL x (List.mem_cons_of_mem _ hx)) (x7 h (hL b (List.mem_cons_self ..)))
theorem EH:∀(L:List Nat) (p:List UInt8×List Nat),(fW p L).1.length<=p.1.length+L.length
 |[],p=>by simp[fW]
 |b::L,p=>by
  show(fW (sC p b) L).1.length<=_
  have h1:=EH L (sC p b)
  have h2:=Iv p b
  simp only[List.length_cons];omega
theorem qs (p:List UInt8×List Nat)(L M:List Nat):fW p (L++M)=fW (fW p L) M:=List.foldl_append ..
theorem Vo:Cv ([],[]):=⟨by simp,fun i=>by simp⟩
theorem mz.stay {base:Nat}{s s' :aq}{j:Nat}{v bv v' iB:Value}{q:List UInt8×List Nat}{next:Nat}{begun:Bool}(h:Wr base s j v bv q next begun)(k:mz j v bv s v' iB s')(hb:base<=s.next):ar base s s' :=
 ⟨k.next,fun i hi=>k.get i (by omega) (by have:=h.row.lo;omega) (fun e=>by have:=h.row.fresh i e;omega) (fun e=>by have:=h.bf i e;omega)⟩
structure qH (base:Nat) (s:aq) (j r:Nat) (v bv:Value) (q:List UInt8×List Nat) (T:qF) (next:Nat) (begun:Bool):Prop where
 wr:Wr base s j v bv q next begun
 map:jn s r T
 rj:r≠j
 rv:aJ v≠some r
 rb:aJ bv≠some r
 lo:base<=r
section
variable {base:Nat} {s s' :aq} {j r:Nat} {v bv v' iB:Value} {q q' :List UInt8×List Nat} {T:qF} {next next' :Nat} {begun Ri:Bool}
theorem qH.wrote (h:qH base s j r v bv q T next begun)(hw:Wr base s' j v' iB q' next' Ri)(k:mz j v bv s v' iB s'):qH base s' j r v' iB q' T next' Ri:=by
 have aP:=h.map.lt
 refine⟨hw,⟨Nat.lt_of_lt_of_le aP k.next,?_⟩,h.rj,?_,?_,h.lo⟩
 ·have:=h.map.map
  simp only[aq.dR,k.get r aP h.rj h.rv h.rb] at this|-
  exact this
 ·rcases k.iv with e|⟨i,e,hi⟩
  ·rw[e];exact h.rv
  ·rw[e];intro q;injection q with q;omega
 ·rcases k.ib with e|e|⟨i,e,hi⟩
  ·rw[e];intro q;cases q
  ·rw[e];exact h.rb
  ·rw[e];intro q;injection q with q;omega
theorem qH.put {T' :qF}(h:qH base s j r v bv q T next begun)(hm:jn s' r T')(hn:s'.next=s.next)(hs:∀i,i≠r->s'.heap.get i=s.heap.get i):qH base s' j r v bv q T' next begun:=by
 have ht:bm (.pointer (some ⟨r,0,some 0⟩)) s s' :=bm.bc hn hs
 refine⟨⟨⟨h.wr.row.iP.turns ht (fun e=>h.rj (by injection e)),h.wr.row.own.bc hn hs h.rv,h.wr.row.fresh,h.wr.row.ne,h.wr.row.lo,h.wr.row.ok⟩,h.wr.bits.bc hn hs h.rb,h.wr.bf,h.wr.bj,h.wr.bx⟩,hm,h.rj,h.rv,h.rb,h.lo⟩
theorem qH.fresh {r' :Nat}(h:Wr base s j v bv q next begun)(hb:base<=s.next)(hm:jn s' s.next [])(k:ar s.next s s'):qH base s' j s.next v bv q [] next begun:=by
 refine⟨⟨⟨h.row.iP.keeps k,h.row.own.keeps k,h.row.fresh,h.row.ne,h.row.lo,h.row.ok⟩,h.bits.keeps k,h.bf,h.bj,h.bx⟩,hm,?_,?_,?_,hb⟩
 ·have:=h.row.iP.lt;omega
 ·intro e;have:=h.row.own.jh _ e;omega
 ·intro e;have:=h.bits.jh _ e;omega
end
theorem T3:dM Tryz.prog 164 [(2,.int .i64 258)]=some (.agg #[.slice none 0 0,.int .i64 0,.slice none 0 0,.int .i64 258,.bool false]):=by kernel_rfl
theorem bU.after {s s1 s' :aq}{w:Value}{l:List UInt8}{base:Nat}(h:bU s1 w s' l)(k:ar base s s1)(hb:base=s.next):bU s w s' l:=by
 subst hb
 exact⟨h.own,fun i hi=>Nat.le_trans k.next (h.fresh i hi),k.trans (h.stay.weaken k.next)⟩
end Go.Proofs.YtdfjfncifneocaaGreat
namespace Go.Proofs.YtdfjfncifneocaaGreat
open Go.Cl Go.Cl.Lz Go.Cl.Rw
theorem Rj (s:aq):jn (s.new (.map [])) s.next []:=by
 refine⟨by rw[vB];omega,?_⟩
 simp only[aq.dR,aq.new,Tr.bu _ _ _ _ (deep (by omega))]
 rfl
theorem Vp (a b:Value):cN (.tuple #[a,b]) 0=some a:=rfl
theorem Vq (a b:Value):cN (.tuple #[a,b]) 1=some b:=rfl
theorem Xa:Tryz.prog.underlying 166=some (.map 9 3):=Tryz.underlying166
theorem Mg {l:List UInt8}{n:Nat}:(l.drop 0).take (n-0)=l.take n:=by rw[List.drop_zero,Nat.sub_zero]
theorem T4 {l:List UInt8}{n:Nat}:(l.drop n).take (l.length-n)=l.drop n:=List.take_of_length_le (by rw[List.length_drop];omega)
theorem Df.lL {base:Nat}{s:aq}{v:Value}{l:List UInt8}(h:Df base s 1 v l.length (ofBytes l)){lo hi:Nat}(h1:lo<=hi)(h2:hi<=l.length):Df base s 1 (ez 1 v lo hi) ((l.drop lo).take (hi-lo)).length (ofBytes ((l.drop lo).take (hi-lo))):=fun s' k=>(h s' k).lL h1 h2
theorem Oe {c:Nat}(h6:c≠256)(h7:c≠257)(rd:Nat)(fst:Bool):ny c rd (!fst)=fu rd fst/\mA c (!fst)=true:=by
 unfold ny mA fu
 rw[if_neg h6,if_neg h7,if_neg h6,if_neg h7]
 cases fst<;>exact⟨rfl,rfl⟩
theorem Of {q:List UInt8×List Nat}(h0:q.2≠[])(h7:q.2.length<=7):(sC q 0).1++pack (sC q 0).2=q.1++pack q.2:=by
 have hz:=HV q.2 1
 rw[show List.replicate 1 0=[0] from rfl] at hz
 unfold sC
 by_cases h:q.2.length=7
 ·rw[if_pos h]
  simp only
  rw[lB,List.append_nil,hz,nn h0 (by omega)]
 ·rw[if_neg h]
  simp only
  rw[nn h0 (by omega),nn (by simp) (by rw[List.length_append,List.length_singleton];omega),hz]
set_option maxRecDepth 100000 in
set_option maxHeartbeats 8000000 in
theorem KL {lib:ay}(hl:lib.at 84=none)(hZ:lib.at 136=none)(OW:lib.at 152=none)(Cw:lib.at 137=none)(kx:lib.at 170=none)(nd:lib.at 200=none)(aef:lib.at 138=none)(Dr:lib.at 36=none)(s:aq)(x:Value)(b:List UInt8)(hx:aM s 1 x b.length (ofBytes b))(hb:b.length<=4000000):
  Runs Tryz.prog lib 84 [x] s fun w s' =>bU s w s' (GC b):=by
 obtain⟨base,yj⟩:∃base,base=s.next:=⟨_,rfl⟩
 have GU:Df base s 1 x b.length (ofBytes b):=by rw[yj];exact hx.low
 have wT:base<=s.next:=by omega
 have hD:∀(D E:List Nat),tD b=D++E->Cv (fW ([],[]) D)/\(fW ([],[]) D).1.length<=100000000:=fun D E h=>by
  refine⟨Cx _ _ (fun x hx=>HW b x (by rw[h];exact List.mem_append_left _ hx)) Vo,?_⟩
  have h1:=EH D ([],[])
  have h2:=B2 b
  rw[h,List.length_append] at h2
  simp only[List.length_nil] at h1;omega
 refine Runs.enter 80 Tryz.func84 rfl hl rfl rfl ?_
 intro f hn hf
 have h0:f.get 0=x:=hf 0
 clear hf
 simp-implicitDefEqProofs(disch:=omega)only[ai,ag,Nat.reduceLT,↓reduceIte,hn,T3]
 refine aw ?_
 intro s1 R9 bB jb
 obtain⟨j,hj⟩:∃j,j=s.next:=⟨_,rfl⟩
 rw[<-hj] at R9
 have hW1:Wr base s1 j (.slice none 0 0) (.slice none 0 0) ([],[]) 258 false:=⟨⟨R9,.nil,aN.nil _,(fun e=>by cases e),by omega,⟨Nat.le_refl _,by simp⟩⟩,.nil,aN.nil _,(fun e=>by cases e),fun _ e=>by cases e⟩
 have jv:base<=s1.next:=by omega
 simp-implicitDefEqProofs(disch:=omega)only[ai,aj,ad,Nat.reduceLT,Nat.reduceAdd,↓reduceIte,hn,List.length_cons,List.length_nil]
 rw[<-hj]
 refine(tq hZ OW Cw kx nd base s1 j _ _ ([],[]) 258 false 256 hW1 jv Vo (by simp) (by omega) (by omega)).mono ?_
 rintro _ s2 ⟨v2,b2,VO,xD⟩
 have bD:=xD.stay hW1 jv
 have eR:base<=s2.next:=Nat.le_trans jv bD.next
 obtain⟨s3,ij⟩:∃s3,s3=s2.new (.map []):=⟨_,rfl⟩
 have hm3:jn s3 s2.next []:=by rw[ij];exact Rj s2
 have cf:ar s2.next s2 s3:=by rw[ij];exact ar.new s2 _
 have hE3:qH base s3 j s2.next v2 b2 (fW ([],[]) (dD 256 9)) [] 258 false:=qH.fresh (r' :=0) VO eR hm3 cf
 have hS3:ar base s s3:=((bB.weaken wT).trans bD).trans (cf.weaken eR)
 have U8:=GU.stay hS3
 simp-implicitDefEqProofs(disch:=omega)only[ai,Nat.reduceLT,↓reduceIte,hn]
 rw[<-ij]
 refine Comes.bC (fun z f s' =>∃(k:Nat) (l:List UInt8) (T:qF) (rd:Nat) (fst:Bool) (D:List Nat) (r:Nat) (v bv xv:Value),z=l.length/\l.length<k/\l.length<=b.length/\tD b=D++enc k l T rd fst/\Lz.Good T/\rd<=4096/\qH base s' j r v bv (fW ([],[]) D) T rd (!fst)/\ar base s s' /\Df base s' 1 xv l.length (ofBytes l)/\f.n=80/\f.get 0=xv/\f.get 3=nx j/\f.get 4= .map (some r))
  (fun y f s' =>y= .exit 0/\∃(rd:Nat) (begun:Bool) (D:List Nat) (v bv:Value),rd<=4096/\tD b=D++dD 257 (width rd)/\Wr base s' j v bv (fW ([],[]) D) rd begun/\ar base s s' /\f.n=80/\f.get 3=nx j)
  ⟨b.length+1,b,[],258,true,dD 256 9,s2.next,v2,b2,x,rfl,by omega,by omega,rfl,Lz.Good.nil,by omega,hE3,hS3,U8,by simp only[ae,hn],by simp only[aa,↓reduceIte,Nat.reduceEqDiff,h0],by simp only[aa,↓reduceIte,Nat.reduceEqDiff],by simp only[aa,↓reduceIte]⟩ ?_ ?_
 ·clear hn h0 f hE3 hS3 U8 hm3 cf ij s3 VO xD bD eR hW1 jv R9 bB jb s1 GU v2 b2 s2
  rintro Q hQ z f s4 ⟨k,l,T,rd,fst,D,r,v,bv,xv,rfl,hk,ah5,dS,hG,Sq,hE,hS,hL,hn,h0,h3,h4⟩
  have pS:=Nat.le_trans wT hS.next
  have tF:=hL.aH
  by_cases pT:l=[]
  ·subst pT
   have c1:¬(0:Int)<((([]:List UInt8).length:Nat):Int):=by simp
   simp-implicitDefEqProofs(disch:=omega)only[ai,ad,Nat.reduceLT,↓reduceIte,hn,h0,tF.aV Tryz.underlying22,eq_false c1]
   rw[L2] at dS
   exact hQ _ _ _ ⟨rfl,rd,_,D,v,bv,Sq,dS,hE.wr,hS,by simp only[ae,hn],by simp only[aa,↓reduceIte,Nat.reduceEqDiff,h3]⟩
  ·have E3:0<l.length:=List.length_pos_iff.mpr pT
   have c1:(0:Int)<(l.length:Int):=by omega
   obtain⟨p,hp⟩:∃p,p=bZ l T (1,((l.getD 0 0).toNat:Int)):=⟨_,rfl⟩
   have hF:=hG.found pT
   rw[<-hp] at hF
   have U2:((l.getD 0 0).toNat:Int)<256:=by have:=(l.getD 0 0).toNat_lt;omega
   simp-implicitDefEqProofs(disch:=omega)only[ai,ad,Nat.reduceLT,Nat.reduceEqDiff,↓reduceIte,hn,h0,tF.aV Tryz.underlying22,eq_true c1,Tryz.underlying3,tF.self,tF.indexAddr Tryz.underlying22 bh,tF.cU gZ,aZ,bd Tryz.underlying5 Tryz.underlying3,aD,Int.toNat_zero]
   refine Comes.bC (fun z f s' =>∃(n:Nat) (c:Int),z=l.length-n/\1<=n/\n<=l.length/\ext T l (l.length-n) n c=p/\f.n=80/\f.get 0=xv/\f.get 3=nx j/\f.get 4= .map (some r)/\f.get 5= .int .i64 n/\f.get 6= .int .i64 c/\s' =s4)
    (fun y f s' =>y= .exit 2/\f.n=80/\f.get 0=xv/\f.get 3=nx j/\f.get 4= .map (some r)/\f.get 5= .int .i64 p.1/\f.get 6= .int .i64 p.2/\s' =s4)
    ⟨1,((l.getD 0 0).toNat:Int),rfl,by omega,by omega,hF.eq,by simp only[ae,hn],by simp only[aa,↓reduceIte,Nat.reduceEqDiff,h0],by simp only[aa,↓reduceIte,Nat.reduceEqDiff,h3],by simp only[aa,↓reduceIte,Nat.reduceEqDiff,h4],by simp only[aa,↓reduceIte,Nat.reduceEqDiff];rfl,by simp only[aa,↓reduceIte],rfl⟩ ?_ ?_
   ·clear hn h0 h3 h4 f
    rintro Q2 Qf z f _ ⟨n,c,rfl,kX,I1,lJ,hn,h0,h3,h4,h5,h6,rfl⟩
    by_cases aP:n<l.length
    ·have c2:(n:Int)<(l.length:Int):=by omega
     have e1:((n:Int)+1).toNat=n+1:=by omega
     have dA:=tF.lL (lo:=0) (hi:=n+1) (by omega) (by omega)
     rw[Mg] at dA
     simp-implicitDefEqProofs(disch:=omega)only[ai,ad,ah,Nat.reduceLT,Nat.reduceEqDiff,↓reduceIte,hn,h0,h4,h5,tF.aV Tryz.underlying22,eq_true c2,aD,tF.gw Tryz.underlying22 bh,e1,dA.str Tryz.underlying22 Tryz.underlying9 Tryz.underlying5,hE.map.lookup Xa Tryz.underlying9 Wb]
     have qM:ext T l (l.length-n) n c=(match kT (l.take (n+1)) T with|some x=>ext T l (l.length-(n+1)) (n+1) x|none=>(n,c)):=by
      rw[show l.length-n=(l.length-(n+1))+1 by omega,ext]
      rfl
     rw[qM] at lJ
     cases hsk:kT (l.take (n+1)) T with
     |none=>
      rw[hsk] at lJ
      obtain rfl:p=(n,c):=lJ.symm
      simp-implicitDefEqProofs(disch:=omega)only[ai,Nat.reduceLT,Nat.reduceEqDiff,↓reduceIte,hn,Vp,Vq,Option.getD_none,Option.isSome_none]
      exact Qf _ _ _ ⟨rfl,by simp only[ae,hn],by simp only[aa,↓reduceIte,Nat.reduceEqDiff,h0],by simp only[aa,↓reduceIte,Nat.reduceEqDiff,h3],by simp only[aa,↓reduceIte,Nat.reduceEqDiff,h4],by simp only[aa,↓reduceIte,Nat.reduceEqDiff,h5],by simp only[aa,↓reduceIte,Nat.reduceEqDiff,h6],rfl⟩
     |some y=>
      rw[hsk] at lJ
      simp-implicitDefEqProofs(disch:=omega)only[ai,Nat.reduceLT,Nat.reduceEqDiff,↓reduceIte,hn,h5,Vp,Vq,Option.getD_some,Option.isSome_some,aD]
      refine au (l.length-(n+1)) (by omega) ⟨n+1,y,rfl,by omega,by omega,lJ,by simp only[ae,hn],by simp only[aa,↓reduceIte,Nat.reduceEqDiff,h0],by simp only[aa,↓reduceIte,Nat.reduceEqDiff,h3],by simp only[aa,↓reduceIte,Nat.reduceEqDiff,h4],by simp only[aa,↓reduceIte,Nat.reduceEqDiff];rfl,by simp only[aa,↓reduceIte],rfl⟩
    ·obtain rfl:n=l.length:=by omega
     have c2:¬(l.length:Int)<(l.length:Int):=by omega
     rw[Nat.sub_self] at lJ
     simp-implicitDefEqProofs(disch:=omega)only[ai,ad,Nat.reduceLT,Nat.reduceEqDiff,↓reduceIte,hn,h0,h5,tF.aV Tryz.underlying22,eq_false c2]
     obtain rfl:p=(l.length,c):=lJ.symm
     exact Qf _ _ _ ⟨rfl,by simp only[ae,hn],by simp only[aa,↓reduceIte,Nat.reduceEqDiff,h0],by simp only[aa,↓reduceIte,Nat.reduceEqDiff,h3],by simp only[aa,↓reduceIte,Nat.reduceEqDiff,h4],by simp only[aa,↓reduceIte,Nat.reduceEqDiff,h5],by simp only[aa,↓reduceIte,Nat.reduceEqDiff,h6],rfl⟩
   ·clear hn h0 h3 h4 f
    rintro _ f _ ⟨rfl,hn,h0,h3,h4,h5,h6,rfl⟩
    obtain⟨c,hc⟩:∃c:Nat,p.2=(c:Int):=⟨p.2.toNat,by have:=hF.lo;omega⟩
    have Dt:p.2.toNat=c:=by omega
    have hc6:c≠256:=by have:=hF.n6;omega
    have hc7:c≠257:=by have:=hF.n7;omega
    have UM:c<100000000:=by have:=hF.hi;omega
    obtain⟨Fj,Gy⟩:=hD _ _ dS
    rw[hc] at h6
    simp-implicitDefEqProofs(disch:=omega)only[ai,aj,ad,Nat.reduceLT,Nat.reduceEqDiff,↓reduceIte,hn,h3,h6]
    refine(tq hZ OW Cw kx nd base _ j v bv (fW ([],[]) D) rd (!fst) c hE.wr pS Fj Gy UM Sq).mono ?_
    rintro _ s5 ⟨v5,b5,Sr,Cu⟩
    obtain⟨e5,e6⟩:=Oe hc6 hc7 rd fst
    rw[e5,e6,<-qs] at Sr
    have hE5:=hE.wrote Sr Cu
    have xW:=Cu.stay hE.wr pS
    have TX:base<=s5.next:=Nat.le_trans pS xW.next
    have ZB:=hL.stay xW
    have KM:=ZB.aH
    have Ye:=hS.trans xW
    have Xb:=L4 Sq fst
    have nD:=hF.one
    have Tg:=hF.le
    have Sa:=Df.lL ZB (lo:=p.1) (hi:=l.length) Tg (Nat.le_refl _)
    rw[T4] at Sa
    have Gz:(l.drop p.1).length=l.length-p.1:=List.length_drop
    by_cases aP:p.1<l.length
    ·have c2:(p.1:Int)<(l.length:Int):=by omega
     have dA:=KM.lL (lo:=0) (hi:=p.1+1) (by omega) (by omega)
     rw[Mg] at dA
     have e1:((p.1:Int)+1).toNat=p.1+1:=by omega
     have hTl:=hG.len
     simp-implicitDefEqProofs(disch:=omega)only[ai,ad,ah,Nat.reduceLT,Nat.reduceEqDiff,↓reduceIte,hn,h0,h4,h5,KM.aV Tryz.underlying22,eq_true c2,hE5.map.len Xa,aD,KM.gw Tryz.underlying22 bh,e1,dA.str Tryz.underlying22 Tryz.underlying9 Tryz.underlying5]
     refine zm Xa Tryz.underlying9 hE5.map (l.take (p.1+1)) (258+(T.length:Int)) (hF.kT aP) ?_
     intro s6 hm6 F3 Ie
     have hE6:=hE5.put hm6 F3 Ie
     have dF:ar base s5 s6:=ar.bc F3 Ie hE5.lo
     have hb6:base<=s6.next:=Nat.le_trans TX dF.next
     have nK:=ZB.stay dF
     by_cases cx:258+T.length=4095
     ·have KN:(258:Int)+(T.length:Int)=4095:=by omega
      have ud:=dS
      rw[show k=(k-1)+1 by omega,tj pT hp aP cx,Dt,<-List.append_assoc] at ud
      obtain⟨hd5,il⟩:=hD _ _ ud
      simp-implicitDefEqProofs(disch:=omega)only[ai,aj,ad,Nat.reduceLT,Nat.reduceEqDiff,↓reduceIte,hn,h3,eq_true KN]
      refine(tq hZ OW Cw kx nd base _ j v5 b5 _ (fu rd fst) true 256 hE6.wr hb6 hd5 il (by omega) Xb).mono ?_
      rintro _ s7 ⟨v7,b7,hW7,aek⟩
      have fH:=aek.stay hE6.wr hb6
      have Ja:base<=s7.next:=Nat.le_trans hb6 fH.next
      rw[<-qs] at hW7
      obtain⟨s8,WY⟩:∃s8,s8=s7.new (.map []):=⟨_,rfl⟩
      have hm8:jn s8 s7.next []:=by rw[WY];exact Rj s7
      have jL:ar s7.next s7 s8:=by rw[WY];exact ar.new s7 _
      have Yf:=qH.fresh (r' :=0) hW7 Ja hm8 jL
      have hL8:=(nK.stay fH).stay (jL.weaken Ja)
      have aad:=hL8.aH
      have ael:Df base s8 1 (ez 1 xv p.1 l.length) (l.drop p.1).length (ofBytes (l.drop p.1)):=((Sa.stay dF).stay fH).stay (jL.weaken Ja)
      simp-implicitDefEqProofs(disch:=omega)only[ai,ah,Nat.reduceLT,Nat.reduceEqDiff,↓reduceIte,hn,h0,h5]
      rw[<-WY]
      simp-implicitDefEqProofs(disch:=omega)only[ai,Nat.reduceLT,↓reduceIte,hn,aad.fz Tryz.underlying22 bh]
      refine au (l.drop p.1).length (by omega) ⟨k-1,l.drop p.1,[],258,true,_,s7.next,v7,b7,ez 1 xv p.1 l.length,rfl,by omega,by omega,by rw[List.append_assoc] at ud|-;rw[List.append_assoc];exact ud,Lz.Good.nil,by omega,Yf,((Ye.trans dF).trans fH).trans (jL.weaken Ja),ael,by simp only[ae,hn],by simp only[aa,↓reduceIte],by simp only[aa,↓reduceIte,Nat.reduceEqDiff,h3],by simp only[aa,↓reduceIte,Nat.reduceEqDiff]⟩
     ·have KN:¬(258:Int)+(T.length:Int)=4095:=by omega
      have ud:=dS
      rw[show k=(k-1)+1 by omega,v8 pT hp aP cx,Dt,<-List.append_assoc] at ud
      have aae:=nK.aH
      simp-implicitDefEqProofs(disch:=omega)only[ai,ah,Nat.reduceLT,Nat.reduceEqDiff,↓reduceIte,hn,h0,h5,eq_false KN,aae.fz Tryz.underlying22 bh]
      refine au (l.drop p.1).length (by omega) ⟨k-1,l.drop p.1,_,fu rd fst,false,_,r,v5,b5,ez 1 xv p.1 l.length,rfl,by omega,by omega,ud,hF.more aP cx,Xb,hE6,Ye.trans dF,Sa.stay dF,by simp only[ae,hn],by simp only[aa,↓reduceIte],by simp only[aa,↓reduceIte,Nat.reduceEqDiff,h3],by simp only[aa,↓reduceIte,Nat.reduceEqDiff,h4]⟩
    ·have c2:¬(p.1:Int)<(l.length:Int):=by omega
     have ud:=dS
     rw[show k=(k-1)+1 by omega,L3 pT hp aP,Dt,<-List.append_assoc] at ud
     simp-implicitDefEqProofs(disch:=omega)only[ai,ad,ah,Nat.reduceLT,Nat.reduceEqDiff,↓reduceIte,hn,h0,h5,KM.aV Tryz.underlying22,eq_false c2,KM.fz Tryz.underlying22 bh]
     refine au (l.drop p.1).length (by omega) ⟨k-1,l.drop p.1,T,fu rd fst,false,_,r,v5,b5,ez 1 xv p.1 l.length,rfl,by omega,by omega,ud,hG,Xb,hE5,Ye,Sa,by simp only[ae,hn],by simp only[aa,↓reduceIte],by simp only[aa,↓reduceIte,Nat.reduceEqDiff,h3],by simp only[aa,↓reduceIte,Nat.reduceEqDiff,h4]⟩
 ·clear hn h0 f hE3 hS3 U8 hm3 cf ij s3 VO xD bD eR hW1 jv R9 bB jb s1 GU v2 b2 s2
  rintro _ f s4 ⟨rfl,rd,begun,D,v,bv,Sq,dS,hW,hS,hn,h3⟩
  have pS:=Nat.le_trans wT hS.next
  obtain⟨Fj,Gy⟩:=hD _ _ dS
  simp-implicitDefEqProofs(disch:=omega)only[ai,aj,ad,Nat.reduceLT,↓reduceIte,hn,h3]
  refine(tq hZ OW Cw kx nd base _ j v bv _ rd begun 257 hW pS Fj Gy (by omega) Sq).mono ?_
  rintro _ s5 ⟨v5,b5,Sr,Cu⟩
  have xW:=Cu.stay hW pS
  have TX:base<=s5.next:=Nat.le_trans pS xW.next
  rw[<-qs,<-dS] at Sr
  obtain⟨hd5,il⟩:=hD (tD b) [] (by simp)
  have Ye:=hS.trans xW
  have UY:=ql (tD b) ([],[]) (by simp)
  obtain⟨pq,hpq⟩:∃pq,pq=fW ([],[]) (tD b):=⟨_,rfl⟩
  have aaf:pq.1++pack pq.2=GC b:=by rw[hpq];exact UY.1
  rw[<-hpq] at Sr hd5 il
  have aen:(GC b).length<=100000000:=by have h1:=KK b;have h2:=B2 b;omega
  simp-implicitDefEqProofs(disch:=omega)only[ai,Nat.reduceLT,↓reduceIte,hn]
  refine Comes.bC (fun z f s' =>∃(q:List UInt8×List Nat) (rd:Nat) (bg:Bool) (v bv:Value),z=(if q.2=[] then 0 else 8-q.2.length)/\Wr base s' j v bv q rd bg/\Cv q/\q.1++pack q.2=GC b/\ar base s s' /\f.n=80/\f.get 3=nx j)
   (fun y f s' =>y= .exit 4/\∃(rd:Nat) (bg:Bool) (v bv:Value),Wr base s' j v bv (GC b,[]) rd bg/\ar base s s' /\f.n=80/\f.get 3=nx j)
   ⟨pq,_,_,v5,b5,rfl,Sr,hd5,aaf,Ye,by simp only[ae,hn],by simp only[aa,↓reduceIte,Nat.reduceEqDiff,h3]⟩ ?_ ?_
  ·clear hn h3 f Sr hd5 il aaf hpq UY Cu xW TX Ye pS Fj Gy hW hS dS Sq
   rintro Q hQ z f s4 ⟨q,rd,bg,v,bv,rfl,hW,hH,hq,hS,hn,h3⟩
   have pS:=Nat.le_trans wT hS.next
   have g2:=hW.row.iP.load (P:=Tryz.prog) Gi (off:=2) (c:=6) rfl (by simp)
   have hq1:q.1.length<=100000000:=by rw[<-hq,List.length_append] at aen;omega
   by_cases TZ:q.2=[]
   ·have c1:¬(0:Int)<((q.2.length:Nat):Int):=by rw[TZ];simp
    simp-implicitDefEqProofs(disch:=omega)only[ai,aj,ad,Nat.reduceLT,↓reduceIte,hn,h3,y8,g2,hW.bits.aH.aV Tryz.underlying134,eq_false c1]
    refine hQ _ _ _ ⟨rfl,rd,bg,v,bv,?_,hS,by simp only[ae,hn],by simp only[aa,↓reduceIte,Nat.reduceEqDiff,h3]⟩
    rw[TZ,lB,List.append_nil] at hq
    obtain⟨q1,q2⟩:=q
    simp only at hq TZ
    rw[<-hq,<-TZ]
    exact hW
   ·have c1:(0:Int)<((q.2.length:Nat):Int):=by have:=List.length_pos_iff.mpr TZ;omega
    simp-implicitDefEqProofs(disch:=omega)only[ai,aj,ad,Nat.reduceLT,Nat.reduceEqDiff,↓reduceIte,hn,h3,y8,g2,hW.bits.aH.aV Tryz.underlying134,eq_true c1]
    refine(Iw Cw kx nd base s4 j v bv q rd bg 0 hW pS hH (by omega)).mono ?_
    rintro _ s5 ⟨v5,b5,Sr,Cu⟩
    rw[show((0:Int)%2).toNat=0 from rfl] at Sr
    simp-implicitDefEqProofs(disch:=omega)only[ai,Nat.reduceLT,↓reduceIte,hn]
    refine au _ ?_ ⟨sC q 0,rd,bg,v5,b5,rfl,Sr,x7 hH (by omega),by rw[Of TZ hH.1];exact hq,hS.trans (Cu.stay hW pS),by simp only[ae,hn],by simp only[aa,↓reduceIte,Nat.reduceEqDiff,h3]⟩
    have hh:=hH.1
    have pT:=List.length_pos_iff.mpr TZ
    rw[if_neg TZ]
    unfold sC
    by_cases h7:q.2.length=7
    ·rw[if_pos h7,if_pos rfl];omega
    ·rw[if_neg h7,if_neg (by simp),List.length_append,List.length_singleton];omega
  ·clear hn h3 f
   rintro _ f s6 ⟨rfl,rd6,bg6,v6,bv6,hW6,hS6,hn,h3⟩
   simp-implicitDefEqProofs(disch:=omega)only[ai,aj,ad,Nat.reduceLT,↓reduceIte,hn,h3,Vn]
   refine(Gf aef Dr base s6 j [bv6,.int .i64 rd6,.bool bg6] v6 (GC b,8*(GC b).length) hW6.row (by simp only;omega)).mono ?_
   intro w s7 hw
   simp-implicitDefEqProofs(disch:=omega)only[ai,al,oneOf,Nat.reduceLT,↓reduceIte,hn,Tryz.results84]
   exact bU.after hw hS6 yj
end Go.Proofs.YtdfjfncifneocaaGreat
set_option linter.unusedSimpArgs false
set_option linter.unusedVariables false
set_option maxRecDepth 100000
namespace Go.Proofs.YtdfjfncifneocaaGreat
open Go.Cl Go.Cl.B85
theorem Vr:cE Tryz.prog 157=some (.agg #[.int .u8 0,.int .u8 0,.int .u8 0,.int .u8 0,.int .u8 0]):=by kernel_rfl
theorem Vs:cH (.agg #[.int .u8 0,.int .u8 0,.int .u8 0,.int .u8 0,.int .u8 0])=true:=by kernel_rfl
theorem Vt:zW Tryz.prog 157=1:=by kernel_rfl
theorem Mh (x:Nat):((x:Int)).tmod 85=((x%85:Nat):Int):=by rw[Int.tmod_eq_emod_of_nonneg (by omega)];omega
theorem Mi (x:Nat):((x:Int)).tdiv 85=((x/85:Nat):Int):=by rw[Int.tdiv_eq_ediv_of_nonneg (by omega)];omega
theorem Mj (x:Nat):((33:Int)+((x%85:Nat):Int))%4294967296=33+((x%85:Nat):Int):=by omega
theorem Mk {x:Nat}(h:x<4294967296):((x:Nat):Int)%4294967296=((x:Nat):Int):=by omega
theorem Gj (x j:Nat):x/85^j/85=x/85^(j+1):=by rw[Nat.div_div_eq_div_mul,Nat.pow_succ]
theorem T5 {base:Nat}{s:aq}{v:Value}{l:List UInt8}(h:Df base s 1 v l.length (ofBytes l)){n:Nat}(hn:n<=l.length):Df base s 1 (ez 1 v n l.length) (l.drop n).length (ofBytes (l.drop n)):=fun s' k=>by
 have:=(h s' k).lL (lo:=n) (hi:=l.length) hn (Nat.le_refl _)
 rw[List.take_of_length_le (by rw[List.length_drop];exact Nat.le_refl _)] at this
 exact this
set_option maxRecDepth 100000 in
set_option maxHeartbeats 4000000 in
theorem KO {lib:ay}(hl:lib.at 80=none)(s:aq)(x:Value)(l0:List UInt8)(hx:aM s 1 x l0.length (ofBytes l0))(hlen:l0.length<=1073741824):
  Runs Tryz.prog lib 80 [x] s fun v s' =>bU s v s' (GD l0):=by
 refine Runs.enter 63 Tryz.func80 rfl hl rfl rfl ?_
 intro f hn hf
 have h0:f.get 0=x:=hf 0
 clear hf
 simp-implicitDefEqProofs(disch:=omega)only[ai,Nat.reduceLT,↓reduceIte,hn]
 refine Comes.eY (fun q f s' =>∃(l:List UInt8) (b o:Value) (P:List UInt8),q=l.length/\l.length<=l0.length/\P.length+2*l.length<=2*l0.length/\P++GD l=GD l0/\Df s.next s' 1 b l.length (ofBytes l)/\Own s' 1 o P.length (ofBytes P)/\aN s.next o/\ar s.next s s' /\f.n=63/\f.get 0=b/\f.get 3=o) ⟨l0,x,_,[],rfl,by omega,by simp,rfl,hx.low,.nil,aN.nil _,ar.refl _ _,by simp only[ae,hn],by simp only[aa,↓reduceIte,Nat.reduceEqDiff,h0],by simp only[aa,↓reduceIte]⟩ ?_
 clear hn h0 f
 rintro q f s1 ⟨l,b,o,P,rfl,nA,hP,jq,hb,ho,l5,aA,hn,h0,h3⟩
 by_cases pT:l=[]
 ·subst pT
  simp-implicitDefEqProofs(disch:=omega)only[ai,ad,ag,Nat.reduceLT,Nat.reduceEqDiff,↓reduceIte,hn,h0,h3,hb.aH.aV Tryz.underlying22,List.length_nil,Int.natCast_zero,Int.lt_irrefl,uw Tryz.underlying22 bh gR]
  refine a9 Tryz.underlying22 bh gh gR rfl ho (by simp only[aa,↓reduceIte]) (by decide) (by simp only[ae,hn];decide) (by simp only[ae,hn];decide) (by rfl) (by decide) rfl (by omega) (by omega) l5 aA.next ?_
  intro bs o' s2 j8 jD cI _ _
  simp-implicitDefEqProofs(disch:=omega)only[ai,al,oneOf,Nat.reduceLT,↓reduceIte,hn,Tryz.results80]
  rw[zP] at jq
  refine⟨?_,jD,aA.trans cI⟩
  rw[<-jq,aK,List.length_append];exact j8
 ·have hp:0<l.length:=List.length_pos_iff.mpr pT
  have Jz:(0:Int)<l.length:=by omega
  obtain⟨n,sK⟩:∃n,n=min 4 l.length:=⟨_,rfl⟩
  have Fe:(if(4:Int)<(l.length:Int) then(4:Int) else(l.length:Int))=(n:Int):=by split<;>omega
  simp-implicitDefEqProofs(disch:=omega)only[ai,ad,Nat.reduceLT,Nat.reduceEqDiff,↓reduceIte,hn,h0,hb.aH.aV Tryz.underlying22,Jz,Fe]
  refine Comes.bC (fun q f s' =>∃i:Nat,q=4-i/\i<=4/\f.n=63/\f.get 0=b/\f.get 3=o/\f.get 4= .int .i64 n/\f.get 5= .int .u32 (val l i)/\f.get 15= .int .i64 i/\s' =s1)
   (fun x f s' =>x= .exit 2/\f.n=63/\f.get 0=b/\f.get 3=o/\f.get 4= .int .i64 n/\f.get 5= .int .u32 (val l 4)/\s' =s1)
   ⟨0,rfl,by omega,by simp only[ae,hn],by simp only[aa,↓reduceIte,Nat.reduceEqDiff,h0],by simp only[aa,↓reduceIte,Nat.reduceEqDiff,h3],by simp only[aa,↓reduceIte,Nat.reduceEqDiff],by simp only[aa,↓reduceIte,Nat.reduceEqDiff];rfl,by simp only[aa,↓reduceIte];rfl,rfl⟩ ?_ ?_
  ·clear hn h0 h3 f
   rintro Q hQ q f s1 ⟨i,rfl,hi,hn,h0,h3,h4,h5,lI,rfl⟩
   by_cases hi4:i<4
   ·have T6:(i:Int)<4:=by omega
    have hv:=L5 l hi4
    by_cases zx:i<n
    ·have Cy:val l i*256+(l.getD i 0).toNat=val l (i+1):=by simp only[val];rw[if_pos (by omega)]
     simp-implicitDefEqProofs(disch:=omega)only[ai,Nat.reduceLT,Nat.reduceEqDiff,↓reduceIte,hn,h0,h4,h5,lI,T6,zx,L7,jw,L8,hb.aH.indexAddr Tryz.underlying22 bh,hb.aH.cU gZ,aZ,bd Tryz.underlying5 Tryz.underlying117,H0,mS,QC,Cy,aD]
     refine au (4-(i+1)) (by omega) ⟨i+1,rfl,by omega,by simp only[ae,hn],by simp only[aa,↓reduceIte,Nat.reduceEqDiff,h0],by simp only[aa,↓reduceIte,Nat.reduceEqDiff,h3],by simp only[aa,↓reduceIte,Nat.reduceEqDiff,h4],by simp only[aa,↓reduceIte,Nat.reduceEqDiff],by simp only[aa,↓reduceIte];rfl,rfl⟩
    ·have Cy:((val l i:Nat):Int)*256=((val l (i+1):Nat):Int):=by simp only[val];rw[if_neg (by omega)];omega
     have lU:((val l (i+1):Nat):Int)%4294967296=((val l (i+1):Nat):Int):=by omega
     simp-implicitDefEqProofs(disch:=omega)only[ai,Nat.reduceLT,Nat.reduceEqDiff,↓reduceIte,hn,h4,h5,lI,T6,zx,L7,jw,Cy,lU,aD]
     refine au (4-(i+1)) (by omega) ⟨i+1,rfl,by omega,by simp only[ae,hn],by simp only[aa,↓reduceIte,Nat.reduceEqDiff,h0],by simp only[aa,↓reduceIte,Nat.reduceEqDiff,h3],by simp only[aa,↓reduceIte,Nat.reduceEqDiff,h4],by simp only[aa,↓reduceIte,Nat.reduceEqDiff],by simp only[aa,↓reduceIte];rfl,rfl⟩
   ·have T6:¬(i:Int)<4:=by omega
    obtain rfl:i=4:=by omega
    simp-implicitDefEqProofs(disch:=omega)only[ai,Nat.reduceLT,↓reduceIte,hn,lI,T6]
    exact hQ _ _ _ ⟨rfl,by simp only[ae,hn],by simp only[aa,↓reduceIte,Nat.reduceEqDiff,h0],by simp only[aa,↓reduceIte,Nat.reduceEqDiff,h3],by simp only[aa,↓reduceIte,Nat.reduceEqDiff,h4],by simp only[aa,↓reduceIte,Nat.reduceEqDiff,h5],rfl⟩
  ·clear hn h0 h3 f
   rintro _ f s1 ⟨rfl,hn,h0,h3,h4,h5,rfl⟩
   obtain⟨X,hX⟩:∃X,X=val l 4:=⟨_,rfl⟩
   have Gk:X<4294967296:=by rw[hX];exact L6 l
   rw[<-hX] at h5
   have Gz:=T5 hb (n:=n) (by omega)
   have hdn:(l.drop n).length=l.length-n:=List.length_drop
   by_cases hz:n=4/\X=0
   ·have Dq:(n:Int)=4:=by omega
    have GX:(X:Int)=0:=by omega
    simp-implicitDefEqProofs(disch:=omega)only[ai,aj,ag,ah,Nat.reduceLT,Nat.reduceEqDiff,↓reduceIte,hn,h0,h3,h4,h5,hb.aH.fz Tryz.underlying22 bh,eq_true Dq,eq_true GX,gN Tryz.underlying22 bh gR]
    refine a9 Tryz.underlying22 bh gh gR rfl ho (by simp only[aa,↓reduceIte]) (by decide) (by simp only[ae,hn];decide) (by simp only[ae,hn];decide) (by rfl) (by decide) rfl (by omega) (by omega) l5 aA.next ?_
    intro bs o' s2 j8 jD cI _ _
    simp-implicitDefEqProofs(disch:=omega)only[ai,Nat.reduceLT,↓reduceIte,hn]
    refine au (l.drop n).length (by omega) ⟨l.drop n,_,o',P++[122],rfl,by omega,by simp;omega,?_,Gz.stay cI,?_,jD,aA.trans cI,by simp only[ae,hn],by simp only[aa,↓reduceIte,Nat.reduceEqDiff],by simp only[aa,↓reduceIte]⟩
    ·rw[QB pT (by rw[<-sK,<-hX];exact hz),<-sK] at jq
     simpa using jq
    ·rw[aK,List.length_append];exact j8
   ·have pR:¬((n:Int)=4/\(X:Int)=0):=by omega
    by_cases h4n:n=4
    ·have Dq:(n:Int)=4:=by omega
     have GX:¬(X:Int)=0:=by omega
     simp-implicitDefEqProofs(disch:=omega)only[ai,aj,ah,Nat.reduceLT,Nat.reduceEqDiff,↓reduceIte,hn,h0,h4,h5,hb.aH.fz Tryz.underlying22 bh,eq_true Dq,eq_false GX,Vr,Vs,Vt]
     refine vG (n:=5) rfl ?_
     intro a s2 ha Sd bD
     have fK:=ho.keeps bD
     simp-implicitDefEqProofs(disch:=omega)only[ai,Nat.reduceLT,↓reduceIte,hn]
     have HM:ofBytes (laid X 0)=[.int .u8 0,.int .u8 0,.int .u8 0,.int .u8 0,.int .u8 0]:=by rw[tk];rfl
     rw[<-HM] at ha
     refine Comes.bC (fun q f s' =>∃j:Nat,q=5-j/\j<=5/\Own s' 1 a 5 (ofBytes (laid X j))/\bm a s2 s' /\f.n=63/\f.get 0=ez 1 b n l.length/\f.get 3=o/\f.get 4= .int .i64 n/\f.get 5= .int .u32 (X/85^j:Nat)/\f.get 7=oH a/\f.get 8= .int .i64 (4-(j:Int)))
      (fun x f s' =>x= .exit 4/\Own s' 1 a 5 (ofBytes (py X))/\bm a s2 s' /\f.n=63/\f.get 0=ez 1 b n l.length/\f.get 3=o/\f.get 4= .int .i64 n/\f.get 7=oH a)
      ⟨0,rfl,by omega,ha,⟨Nat.le_refl _,fun _ _ _=>rfl⟩,by simp only[ae,hn],by simp only[aa,↓reduceIte,Nat.reduceEqDiff],by simp only[aa,↓reduceIte,Nat.reduceEqDiff,h3],by simp only[aa,↓reduceIte,Nat.reduceEqDiff,h4],by simp only[aa,↓reduceIte,Nat.reduceEqDiff,h5];rw[Nat.pow_zero,Nat.div_one],by simp only[aa,↓reduceIte,Nat.reduceEqDiff],by simp only[aa,↓reduceIte];rfl⟩ ?_ ?_
     ·clear hn h0 h3 h4 h5 f ha
      rintro Q hQ q f s3 ⟨j,rfl,hj,ha,ht,hn,h0,h3,h4,h5,h7,h8⟩
      by_cases Rk:j<5
      ·have uO:(0:Int)<=4-j:=by omega
       have hd:X/85^j<4294967296:=Nat.lt_of_le_of_lt (Nat.div_le_self _ _) Gk
       have dI:((4:Int)-j).toNat=4-j:=by omega
       simp-implicitDefEqProofs(disch:=omega)only[ai,Nat.reduceLT,Nat.reduceEqDiff,↓reduceIte,hn,h5,h7,h8,eq_true uO,cK,Mh,jw,Mj,bd Tryz.underlying117 Tryz.underlying5,eZ,zN X j Rk,ha.Hs Tryz.underlying157 bh,dI]
       refine dq bh ha (by omega) rfl ?_
       intro s4 Ml fU
       have uS:=Gj X j
       have lU:=Mk (Nat.lt_of_le_of_lt (Nat.div_le_self X (85^(j+1))) Gk)
       simp-implicitDefEqProofs(disch:=omega)only[ai,Nat.reduceLT,Nat.reduceEqDiff,↓reduceIte,hn,h5,h8,ej,Mi,jw,uS,lU,aD]
       refine au (5-(j+1)) (by omega) ⟨j+1,rfl,by omega,?_,⟨Nat.le_trans ht.next fU.next,fun i hi cD=>(fU.get i (Nat.lt_of_lt_of_le hi ht.next) cD).trans (ht.get i hi cD)⟩,by simp only[ae,hn],by simp only[aa,↓reduceIte,Nat.reduceEqDiff,h0],by simp only[aa,↓reduceIte,Nat.reduceEqDiff,h3],by simp only[aa,↓reduceIte,Nat.reduceEqDiff,h4],by simp only[aa,↓reduceIte,Nat.reduceEqDiff],by simp only[aa,↓reduceIte,Nat.reduceEqDiff,h7],by simp only[aa,↓reduceIte];congr 1;omega⟩
       rw[iG,wh X Rk] at Ml
       exact Ml
      ·obtain rfl:j=5:=by omega
       have uO:¬(0:Int)<=4-((5:Nat):Int):=by omega
       simp-implicitDefEqProofs(disch:=omega)only[ai,Nat.reduceLT,↓reduceIte,hn,h8,eq_false uO]
       rw[tl] at ha
       exact hQ _ _ _ ⟨rfl,ha,ht,by simp only[ae,hn],by simp only[aa,↓reduceIte,Nat.reduceEqDiff,h0],by simp only[aa,↓reduceIte,Nat.reduceEqDiff,h3],by simp only[aa,↓reduceIte,Nat.reduceEqDiff,h4],by simp only[aa,↓reduceIte,Nat.reduceEqDiff,h7]⟩
     ·clear hn h0 h3 h4 h5 f ha
      rintro _ f s3 ⟨rfl,ha,ht,hn,h0,h3,h4,h7⟩
      have cf:ar s1.next s1 s3:=bD.trans (ht.keeps Sd bD.next)
      have mm:=ho.keeps cf
      have dA:=ha.aH.lL (l:=py X) (lo:=0) (hi:=n+1) (by omega) (by show n+1<=5;omega)
      rw[List.drop_zero,Nat.sub_zero] at dA
      have kX:((n:Int)+1).toNat=n+1:=by omega
      have Vl:(n:Int)+1<=5:=by omega
      have zL:((py X).take (n+1)).length=n+1:=by rw[List.length_take];show min (n+1) 5=_;omega
      simp-implicitDefEqProofs(disch:=omega)only[ai,ad,ah,Nat.reduceLT,Nat.reduceEqDiff,↓reduceIte,hn,h3,h4,h7,aD,ha.Ht Tryz.underlying157 bh (by decide),kX]
      refine bG Tryz.underlying22 Tryz.underlying22 (.inl ⟨_,rfl⟩) bh gh gR rfl mm dA.src (by simp[br]) (by decide) (cX _) (by omega) (by omega) l5 (by have:=aA.next;have:=cf.next;omega) ?_
      intro o' s4 j8 jD cI _ _
      simp-implicitDefEqProofs(disch:=omega)only[ai,Nat.reduceLT,↓reduceIte,hn]
      have iH:=(cf.weaken aA.next).trans cI
      refine au (l.drop n).length (by omega) ⟨l.drop n,_,o',P++(py X).take (n+1),rfl,by omega,by rw[List.length_append,zL];omega,?_,Gz.stay iH,?_,jD,aA.trans iH,by simp only[ae,hn],by simp only[aa,↓reduceIte,Nat.reduceEqDiff,h0],by simp only[aa,↓reduceIte]⟩
      ·rw[sk pT (by rw[<-sK,<-hX];exact hz),<-sK,<-hX] at jq
       simpa using jq
      ·rw[aK,List.length_append];exact j8
    ·have Dq:¬(n:Int)=4:=by omega
     simp-implicitDefEqProofs(disch:=omega)only[ai,aj,ah,Nat.reduceLT,Nat.reduceEqDiff,↓reduceIte,hn,h0,h4,hb.aH.fz Tryz.underlying22 bh,eq_false Dq,Vr,Vs,Vt]
     refine vG (n:=5) rfl ?_
     intro a s2 ha Sd bD
     have fK:=ho.keeps bD
     simp-implicitDefEqProofs(disch:=omega)only[ai,Nat.reduceLT,↓reduceIte,hn]
     have HM:ofBytes (laid X 0)=[.int .u8 0,.int .u8 0,.int .u8 0,.int .u8 0,.int .u8 0]:=by rw[tk];rfl
     rw[<-HM] at ha
     refine Comes.bC (fun q f s' =>∃j:Nat,q=5-j/\j<=5/\Own s' 1 a 5 (ofBytes (laid X j))/\bm a s2 s' /\f.n=63/\f.get 0=ez 1 b n l.length/\f.get 3=o/\f.get 4= .int .i64 n/\f.get 5= .int .u32 (X/85^j:Nat)/\f.get 7=oH a/\f.get 8= .int .i64 (4-(j:Int)))
      (fun x f s' =>x= .exit 4/\Own s' 1 a 5 (ofBytes (py X))/\bm a s2 s' /\f.n=63/\f.get 0=ez 1 b n l.length/\f.get 3=o/\f.get 4= .int .i64 n/\f.get 7=oH a)
      ⟨0,rfl,by omega,ha,⟨Nat.le_refl _,fun _ _ _=>rfl⟩,by simp only[ae,hn],by simp only[aa,↓reduceIte,Nat.reduceEqDiff],by simp only[aa,↓reduceIte,Nat.reduceEqDiff,h3],by simp only[aa,↓reduceIte,Nat.reduceEqDiff,h4],by simp only[aa,↓reduceIte,Nat.reduceEqDiff,h5];rw[Nat.pow_zero,Nat.div_one],by simp only[aa,↓reduceIte,Nat.reduceEqDiff],by simp only[aa,↓reduceIte];rfl⟩ ?_ ?_
     ·clear hn h0 h3 h4 h5 f ha
      rintro Q hQ q f s3 ⟨j,rfl,hj,ha,ht,hn,h0,h3,h4,h5,h7,h8⟩
      by_cases Rk:j<5
      ·have uO:(0:Int)<=4-j:=by omega
       have hd:X/85^j<4294967296:=Nat.lt_of_le_of_lt (Nat.div_le_self _ _) Gk
       have dI:((4:Int)-j).toNat=4-j:=by omega
       simp-implicitDefEqProofs(disch:=omega)only[ai,Nat.reduceLT,Nat.reduceEqDiff,↓reduceIte,hn,h5,h7,h8,eq_true uO,cK,Mh,jw,Mj,bd Tryz.underlying117 Tryz.underlying5,eZ,zN X j Rk,ha.Hs Tryz.underlying157 bh,dI]
       refine dq bh ha (by omega) rfl ?_
       intro s4 Ml fU
       have uS:=Gj X j
       have lU:=Mk (Nat.lt_of_le_of_lt (Nat.div_le_self X (85^(j+1))) Gk)
       simp-implicitDefEqProofs(disch:=omega)only[ai,Nat.reduceLT,Nat.reduceEqDiff,↓reduceIte,hn,h5,h8,ej,Mi,jw,uS,lU,aD]
       refine au (5-(j+1)) (by omega) ⟨j+1,rfl,by omega,?_,⟨Nat.le_trans ht.next fU.next,fun i hi cD=>(fU.get i (Nat.lt_of_lt_of_le hi ht.next) cD).trans (ht.get i hi cD)⟩,by simp only[ae,hn],by simp only[aa,↓reduceIte,Nat.reduceEqDiff,h0],by simp only[aa,↓reduceIte,Nat.reduceEqDiff,h3],by simp only[aa,↓reduceIte,Nat.reduceEqDiff,h4],by simp only[aa,↓reduceIte,Nat.reduceEqDiff],by simp only[aa,↓reduceIte,Nat.reduceEqDiff,h7],by simp only[aa,↓reduceIte];congr 1;omega⟩
       rw[iG,wh X Rk] at Ml
       exact Ml
      ·obtain rfl:j=5:=by omega
       have uO:¬(0:Int)<=4-((5:Nat):Int):=by omega
       simp-implicitDefEqProofs(disch:=omega)only[ai,Nat.reduceLT,↓reduceIte,hn,h8,eq_false uO]
       rw[tl] at ha
       exact hQ _ _ _ ⟨rfl,ha,ht,by simp only[ae,hn],by simp only[aa,↓reduceIte,Nat.reduceEqDiff,h0],by simp only[aa,↓reduceIte,Nat.reduceEqDiff,h3],by simp only[aa,↓reduceIte,Nat.reduceEqDiff,h4],by simp only[aa,↓reduceIte,Nat.reduceEqDiff,h7]⟩
     ·clear hn h0 h3 h4 h5 f ha
      rintro _ f s3 ⟨rfl,ha,ht,hn,h0,h3,h4,h7⟩
      have cf:ar s1.next s1 s3:=bD.trans (ht.keeps Sd bD.next)
      have mm:=ho.keeps cf
      have dA:=ha.aH.lL (l:=py X) (lo:=0) (hi:=n+1) (by omega) (by show n+1<=5;omega)
      rw[List.drop_zero,Nat.sub_zero] at dA
      have kX:((n:Int)+1).toNat=n+1:=by omega
      have Vl:(n:Int)+1<=5:=by omega
      have zL:((py X).take (n+1)).length=n+1:=by rw[List.length_take];show min (n+1) 5=_;omega
      simp-implicitDefEqProofs(disch:=omega)only[ai,ad,ah,Nat.reduceLT,Nat.reduceEqDiff,↓reduceIte,hn,h3,h4,h7,aD,ha.Ht Tryz.underlying157 bh (by decide),kX]
      refine bG Tryz.underlying22 Tryz.underlying22 (.inl ⟨_,rfl⟩) bh gh gR rfl mm dA.src (by simp[br]) (by decide) (cX _) (by omega) (by omega) l5 (by have:=aA.next;have:=cf.next;omega) ?_
      intro o' s4 j8 jD cI _ _
      simp-implicitDefEqProofs(disch:=omega)only[ai,Nat.reduceLT,↓reduceIte,hn]
      have iH:=(cf.weaken aA.next).trans cI
      refine au (l.drop n).length (by omega) ⟨l.drop n,_,o',P++(py X).take (n+1),rfl,by omega,by rw[List.length_append,zL];omega,?_,Gz.stay iH,?_,jD,aA.trans iH,by simp only[ae,hn],by simp only[aa,↓reduceIte,Nat.reduceEqDiff,h0],by simp only[aa,↓reduceIte]⟩
      ·rw[sk pT (by rw[<-sK,<-hX];exact hz),<-sK,<-hX] at jq
       simpa using jq
      ·rw[aK,List.length_append];exact j8
end Go.Proofs.YtdfjfncifneocaaGreat
set_option linter.unusedSimpArgs false
set_option linter.unusedVariables false
set_option maxRecDepth 100000
namespace Go.Proofs.YtdfjfncifneocaaGreat
open Go.Cl Go.Cl.Hx
theorem T7 {lib:ay}(hl:lib.at 79=none)(s:aq)(x:Value)(l:List UInt8)(hx:aM s 1 x l.length (ofBytes l))(hlen:l.length<=1073741824):
  Runs Tryz.prog lib 79 [x] s fun v s' =>bU s v s' (hex l):=by
 refine Runs.enter 25 Tryz.func79 rfl hl rfl rfl ?_
 intro f hn hf
 have h0:f.get 0=x:=hf 0
 clear hf
 simp-implicitDefEqProofs(disch:=omega)only[ai,ad,Nat.reduceLT,Nat.reduceEqDiff,↓reduceIte,hn,h0,hx.aV Tryz.underlying22]
 refine Comes.eY (fun k f s' =>∃(i:Nat) (o:Value),k=l.length-i/\i<=l.length/\Own s' 1 o (2*i) (ofBytes (uH (l.take i)))/\aN s.next o/\ar s.next s s' /\f.n=25/\f.get 3=o/\f.get 6=x/\f.get 7= .int .i64 l.length/\f.get 8= .int .i64 i) ⟨0,_,rfl,by omega,.nil,aN.nil _,ar.refl _ _,by simp only[ae,hn],by simp only[aa,↓reduceIte,Nat.reduceEqDiff],by simp only[aa,↓reduceIte,Nat.reduceEqDiff],by simp only[aa,↓reduceIte,Nat.reduceEqDiff],by simp only[aa,↓reduceIte];rfl⟩ ?_
 clear hn h0 f
 rintro k f s1 ⟨i,o,rfl,hi,ho,l5,aA,hn,h3,h6,h7,h8⟩
 have iU:=hx.keeps aA
 by_cases aP:i<l.length
 ·have hc8:=(l.getD i 0).toNat_lt
  simp-implicitDefEqProofs(disch:=omega)only[ai,Nat.reduceLT,Nat.reduceEqDiff,↓reduceIte,hn,h6,h7,h8,aP,iU.indexAddr Tryz.underlying22 bh,iU.cU gZ,aZ]
  refine cF.PV 1 (by kernel_rfl) (by kernel_rfl) ?_
  have xI:(l.getD i 0).toNat/16<16:=by omega
  have EX:(l.getD i 0).toNat%16<16:=by omega
  simp-implicitDefEqProofs(disch:=omega)only[ai,ag,Nat.reduceLT,Nat.reduceEqDiff,↓reduceIte,hn,h3,Zq,ia,U9,Qz Tryz.underlying9,ho.self,uw Tryz.underlying22 bh gR]
  refine Bp (base:=s1.next) (by rfl) (by rw[bT];omega) (Nat.le_refl _) ?_
  intro b s2 hb fc bD uS _
  have Cz:=(ar.spare s1 1).trans bD
  have fK:=ho.keeps Cz
  simp-implicitDefEqProofs(disch:=omega)only[ai,ad,Nat.reduceLT,Nat.reduceEqDiff,↓reduceIte,hn]
  refine FD Tryz.underlying22 Tryz.underlying22 (.inl ⟨_,rfl⟩) bh gh gR rfl fK hb.aH.src rfl (by decide) rfl (by omega) (by omega) l5 (by have:=aA.next;have:=Cz.next;omega) ?_
  intro o' s3 j8 jD cf _ _
  simp-implicitDefEqProofs(disch:=omega)only[ai,Nat.reduceLT,Nat.reduceEqDiff,↓reduceIte,hn,h8,j8.self,aD]
  refine au (l.length-(i+1)) (by omega) ⟨i+1,o',rfl,by omega,?_,jD,(aA.trans (Cz.weaken aA.next)).trans cf,by simp only[ae,hn],by simp only[aa,↓reduceIte,Nat.reduceEqDiff],by simp only[aa,↓reduceIte,Nat.reduceEqDiff,h6],by simp only[aa,↓reduceIte,Nat.reduceEqDiff,h7],by simp only[aa,↓reduceIte];rfl⟩
  rw[sU aP,Ew,aK];exact j8
 ·obtain rfl:i=l.length:=by omega
  simp-implicitDefEqProofs(disch:=omega)only[ai,ag,Nat.reduceLT,Nat.reduceEqDiff,↓reduceIte,hn,h3,h7,h8,aP,gN Tryz.underlying22 bh gR]
  rw[List.take_of_length_le (Nat.le_refl _)] at ho
  refine a9 Tryz.underlying22 bh gh gR rfl ho (by simp only[aa,↓reduceIte]) (by decide) (by simp only[ae,hn];decide) (by simp only[ae,hn];decide) (by rfl) (by decide) rfl (by omega) (by omega) l5 aA.next ?_
  intro bs o' s2 j8 jD cI _ _
  simp-implicitDefEqProofs(disch:=omega)only[ai,al,oneOf,Nat.reduceLT,↓reduceIte,hn,Tryz.results79]
  refine⟨?_,jD,aA.trans cI⟩
  rw[hex,aK,List.length_append,nY];exact j8
end Go.Proofs.YtdfjfncifneocaaGreat
set_option linter.unusedSimpArgs false
set_option linter.unusedVariables false
set_option maxRecDepth 100000
namespace Go.Proofs.YtdfjfncifneocaaGreat
open Go.Cl Go.Cl.Runs
theorem wE {lib:ay}(hl:lib.at 131=none)(s:aq)(x:Value)(l:List UInt8)(fD:Nat)(hx:aM s 1 x l.length (ofBytes l))(hlen:l.length<=4294967296)(WV:fD<l.length):
  Runs Tryz.prog lib 131 [x,.int .i64 fD] s fun v s' =>v= .int .i64 (rowOf (l.drop fD))/\s' =s:=by
 refine Runs.enter 32 Tryz.func131 rfl hl rfl rfl ?_
 intro f hn hf
 have h0:f.get 0=x:=hf 0
 have h1:f.get 1= .int .i64 fD:=hf 1
 clear hf
 simp only[ai,Nat.reduceLT,↓reduceIte,hn]
 refine Comes.eY (fun k f s' =>∃n:Nat,k=128-n/\n<=128/\fD+n<=l.length/\(∀j,j<n->l.getD (fD+j) 0=l.getD fD 0)/\f.n=32/\f.get 0=x/\f.get 1= .int .i64 fD/\f.get 5= .int .i64 n/\s' =s) ⟨1,rfl,by omega,by omega,fun j hj=>by(first|omega|(obtain rfl:j=0:=by omega);rfl),by simp only[ae,hn],by simp only[aa,↓reduceIte,Nat.reduceEqDiff,h0],by simp only[aa,↓reduceIte,Nat.reduceEqDiff,h1],by simp only[aa,↓reduceIte];rfl,rfl⟩ ?_
 clear hn h0 h1 f
 rintro k f _ ⟨n,rfl,kX,nH,dS,hn,h0,h1,h5,rfl⟩
 have out:∀(s:aq) (f:aR),f.n=32->f.get 5= .int .i64 n->(n=128\/fD+n=l.length\/l.getD (fD+n) 0≠l.getD fD 0)->S3 Tryz.prog (Tryz.f131).results.toList (fun v s' =>v= .int .i64 (rowOf (l.drop fD))/\s' =s) .ret (f.put 4 (.int .i64 n)) s:=by
  intro s f hn h5 he
  simp only[ai,al,oneOf,Nat.reduceLT,↓reduceIte,hn,Tryz.results131,HX kX nH dS he]
 by_cases c1:n<128
 ·by_cases c2:fD+n<l.length
  ·have wD:(fD:Int)+n<l.length:=by omega
   have e2:((fD:Int)+n).toNat=fD+n:=by omega
   have qG:(n:Int)<128:=by omega
   simp (disch:=omega) only[ai,aj,ad,Nat.reduceLT,Nat.reduceEqDiff,↓reduceIte,hn,h0,h1,h5,qG,hx.aV Tryz.underlying22,aD,wD,hx.indexAddr Tryz.underlying22 bh,e2,hx.cU gZ,aZ,hx.self]
   refine fI (fun h=> ?_) (fun h=> ?_)
   ·have he:l.getD (fD+n) 0=l.getD fD 0:=by simpa [UInt8.toNat_inj] using h
    simp (disch:=omega) only[ai,Nat.reduceLT,Nat.reduceEqDiff,↓reduceIte,hn,h5,aD]
    refine au (128-(n+1)) (by omega) ⟨n+1,rfl,by omega,by omega,fun j hj=> ?_,by simp only[ae,hn],by simp only[aa,↓reduceIte,Nat.reduceEqDiff,h0],by simp only[aa,↓reduceIte,Nat.reduceEqDiff,h1],by simp only[aa,↓reduceIte];rfl,rfl⟩
    by_cases UJ:j=n
    ·subst UJ;exact he
    ·exact dS j (by omega)
   ·have he:l.getD (fD+n) 0≠l.getD fD 0:=by simpa [UInt8.toNat_inj] using h
    simp (disch:=omega) only[ai,Nat.reduceLT,Nat.reduceEqDiff,↓reduceIte,hn,h5]
    exact out _ _ (by simp only[ae,hn]) (by simp only[aa,↓reduceIte,Nat.reduceEqDiff,h5]) (.inr (.inr he))
  ·have wD:¬(fD:Int)+n<l.length:=by omega
   have qG:(n:Int)<128:=by omega
   simp (disch:=omega) only[ai,aj,ad,Nat.reduceLT,Nat.reduceEqDiff,↓reduceIte,hn,h0,h1,h5,qG,hx.aV Tryz.underlying22,aD,wD,hx.self]
   exact out _ _ (by simp only[ae,hn]) (by simp only[aa,↓reduceIte,Nat.reduceEqDiff,h5]) (.inr (.inl (by omega)))
 ·have qG:¬(n:Int)<128:=by omega
  simp (disch:=omega) only[ai,aj,Nat.reduceLT,Nat.reduceEqDiff,↓reduceIte,hn,h5,qG]
  exact out _ _ (by simp only[ae,hn]) (by simp only[aa,↓reduceIte,Nat.reduceEqDiff,h5]) (.inl (by omega))
theorem Mm {lib:ay}(hl:lib.at 142=none)(s:aq)(x:Value)(l:List UInt8)(fD:Nat)(hx:aM s 1 x l.length (ofBytes l))(hlen:l.length<=4294967296)(WV:fD<l.length):
  Runs Tryz.prog lib 142 [x,.int .i64 fD] s fun v s' =>v= .int .i64 (rowOf (l.drop fD))/\s' =s:=by
 refine Runs.enter 32 Tryz.func142 rfl hl rfl rfl ?_
 intro f hn hf
 have h0:f.get 0=x:=hf 0
 have h1:f.get 1= .int .i64 fD:=hf 1
 clear hf
 simp only[ai,Nat.reduceLT,↓reduceIte,hn]
 refine Comes.eY (fun k f s' =>∃n:Nat,k=128-n/\n<=128/\fD+n<=l.length/\(∀j,j<n->l.getD (fD+j) 0=l.getD fD 0)/\f.n=32/\f.get 0=x/\f.get 1= .int .i64 fD/\f.get 5= .int .i64 n/\s' =s) ⟨0,rfl,by omega,by omega,fun j hj=>by(first|omega|(obtain rfl:j=0:=by omega);rfl),by simp only[ae,hn],by simp only[aa,↓reduceIte,Nat.reduceEqDiff,h0],by simp only[aa,↓reduceIte,Nat.reduceEqDiff,h1],by simp only[aa,↓reduceIte];rfl,rfl⟩ ?_
 clear hn h0 h1 f
 rintro k f _ ⟨n,rfl,kX,nH,dS,hn,h0,h1,h5,rfl⟩
 have out:∀(s:aq) (f:aR),f.n=32->f.get 5= .int .i64 n->(n=128\/fD+n=l.length\/l.getD (fD+n) 0≠l.getD fD 0)->S3 Tryz.prog (Tryz.f142).results.toList (fun v s' =>v= .int .i64 (rowOf (l.drop fD))/\s' =s) .ret (f.put 4 (.int .i64 n)) s:=by
  intro s f hn h5 he
  simp only[ai,al,oneOf,Nat.reduceLT,↓reduceIte,hn,Tryz.results142,HX kX nH dS he]
 by_cases c1:n<128
 ·by_cases c2:fD+n<l.length
  ·have wD:(fD:Int)+n<l.length:=by omega
   have e2:((fD:Int)+n).toNat=fD+n:=by omega
   have qG:(n:Int)<128:=by omega
   simp (disch:=omega) only[ai,aj,ad,Nat.reduceLT,Nat.reduceEqDiff,↓reduceIte,hn,h0,h1,h5,qG,hx.aV Tryz.underlying22,aD,wD,hx.indexAddr Tryz.underlying22 bh,e2,hx.cU gZ,aZ,hx.self]
   refine fI (fun h=> ?_) (fun h=> ?_)
   ·have he:l.getD (fD+n) 0=l.getD fD 0:=by simpa [UInt8.toNat_inj] using h
    simp (disch:=omega) only[ai,Nat.reduceLT,Nat.reduceEqDiff,↓reduceIte,hn,h5,aD]
    refine au (128-(n+1)) (by omega) ⟨n+1,rfl,by omega,by omega,fun j hj=> ?_,by simp only[ae,hn],by simp only[aa,↓reduceIte,Nat.reduceEqDiff,h0],by simp only[aa,↓reduceIte,Nat.reduceEqDiff,h1],by simp only[aa,↓reduceIte];rfl,rfl⟩
    by_cases UJ:j=n
    ·subst UJ;exact he
    ·exact dS j (by omega)
   ·have he:l.getD (fD+n) 0≠l.getD fD 0:=by simpa [UInt8.toNat_inj] using h
    simp (disch:=omega) only[ai,Nat.reduceLT,Nat.reduceEqDiff,↓reduceIte,hn,h5]
    exact out _ _ (by simp only[ae,hn]) (by simp only[aa,↓reduceIte,Nat.reduceEqDiff,h5]) (.inr (.inr he))
  ·have wD:¬(fD:Int)+n<l.length:=by omega
   have qG:(n:Int)<128:=by omega
   simp (disch:=omega) only[ai,aj,ad,Nat.reduceLT,Nat.reduceEqDiff,↓reduceIte,hn,h0,h1,h5,qG,hx.aV Tryz.underlying22,aD,wD,hx.self]
   exact out _ _ (by simp only[ae,hn]) (by simp only[aa,↓reduceIte,Nat.reduceEqDiff,h5]) (.inr (.inl (by omega)))
 ·have qG:¬(n:Int)<128:=by omega
  simp (disch:=omega) only[ai,aj,Nat.reduceLT,Nat.reduceEqDiff,↓reduceIte,hn,h5,qG]
  exact out _ _ (by simp only[ae,hn]) (by simp only[aa,↓reduceIte,Nat.reduceEqDiff,h5]) (.inl (by omega))
end Go.Proofs.YtdfjfncifneocaaGreat
