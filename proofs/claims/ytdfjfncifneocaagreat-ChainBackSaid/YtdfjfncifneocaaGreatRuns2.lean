import Derived.Test.YtdfjfncifneocaaGreatLzwD
import Derived.Test.YtdfjfncifneocaaGreatCosD
open _root_ renaming reduceIte->ab,Int->a2,List->a3,and_self->a5,Nat->a8,UInt8->a9,eq_false->b8,eq_true->cb,if_neg->cA,true_and->c6,Bool->dC,if_pos->dD
open Go.Proofs.Tryz renaming underlying22->af,underlying5->a0,prog->a4,underlying9->bk,underlying157->bq,underlying137->bz,underlying3->b4,underlying117->cd,underlying134->c0
open List renaming length_append->an,length_drop->ao,append_assoc->a1,take_of_length_le->a7,length_pos_iff->bl,drop_drop->cf,length_take->cg,append_nil->cm,length_nil->cp,length_singleton->cv,drop_zero->cz,flatten_append->cR,mem_singleton->c4,length_cons->c7,not_mem_nil->c8,map_append->dc,mem_cons->dd
open Nat renaming le_trans->av,le_refl->a6,lt_of_le_of_lt->bo,div_le_self->ca,lt_of_lt_of_le->cc,sub_zero->c5,pow_zero->ds,div_one->dt,zero_le->dv
open Go renaming Value->bb
open UInt8 renaming ofNat->cB,toNat_ofNat'->c3,toNat_inj->c9
open Nat renaming reduceLT->QS,reduceEqDiff->Qx
set_option maxHeartbeats 8000000
set_option linter.unusedSimpArgs false
set_option linter.unusedVariables false
set_option maxRecDepth 100000
namespace Go.Proofs.YtdfjfncifneocaaGreat
open Go.Cl Go.Cl.Lz Go.Cl.Rw
theorem Ec:∀(L:a3 a8) (p:a3 a9×a3 a8),(∀x∈L,x<2)->D6 p->D6 (fL p L)
 |[],p,_,h=>h
 |b::L,p,hL,h=>by
  show D6 (fL (tK p b) L)
  exact Ec L _ (fun x hx=>hL x (List.mem_cons_of_mem _ hx)) (zy h (hL b (List.mem_cons_self ..)))
theorem HG:∀(L:a3 a8) (p:a3 a9×a3 a8),(fL p L).1.length<=p.1.length+L.length
 |[],p=>by simp[fL]
 |b::L,p=>by
  show(fL (tK p b) L).1.length<=_
  have h1:=HG L (tK p b)
  have h2:=L2 p b
  simp only[c7];omega
theorem rB (p:a3 a9×a3 a8)(L M:a3 a8):fL p (L++M)=fL (fL p L) M:=List.foldl_append ..
theorem aco:D6 ([],[]):=⟨by simp,fun i=>by simp⟩
theorem na.stay {base:a8}{s s' :aq}{j:a8}{v bv v' ny:bb}{q:a3 a9×a3 a8}{next:a8}{begun:dC}(h:Wr base s j v bv q next begun)(k:na j v bv s v' ny s')(hb:base<=s.next):ar base s s' :=
 ⟨k.next,fun i hi=>k.get i (by omega) (by have:=h.row.lo;omega) (fun e=>by have:=h.row.fresh i e;omega) (fun e=>by have:=h.bf i e;omega)⟩
structure rY (base:a8) (s:aq) (j r:a8) (v bv:bb) (q:a3 a9×a3 a8) (T:qD) (next:a8) (begun:dC):Prop where
 wr:Wr base s j v bv q next begun
 map:nT s r T
 rj:r≠j
 rv:aI v≠some r
 rb:aI bv≠some r
 lo:base<=r
section
variable {base:a8} {s s' :aq} {j r:a8} {v bv v' ny:bb} {q q' :a3 a9×a3 a8} {T:qD} {next next' :a8} {begun Xd:dC}
theorem rY.wrote (h:rY base s j r v bv q T next begun)(hw:Wr base s' j v' ny q' next' Xd)(k:na j v bv s v' ny s'):rY base s' j r v' ny q' T next' Xd:=by
 have bd:=h.map.lt
 refine⟨hw,⟨cc bd k.next,?_⟩,h.rj,?_,?_,h.lo⟩
 ·have:=h.map.map
  simp only[aq.dN,k.get r bd h.rj h.rv h.rb] at this|-
  exact this
 ·rcases k.iv with e|⟨i,e,hi⟩
  ·rw[e];exact h.rv
  ·rw[e];intro q;injection q with q;omega
 ·rcases k.ib with e|e|⟨i,e,hi⟩
  ·rw[e];intro q;cases q
  ·rw[e];exact h.rb
  ·rw[e];intro q;injection q with q;omega
theorem rY.put {T' :qD}(h:rY base s j r v bv q T next begun)(hm:nT s' r T')(hn:s'.next=s.next)(hs:∀i,i≠r->s'.heap.get i=s.heap.get i):rY base s' j r v bv q T' next begun:=by
 have ht:bt (.pointer (some ⟨r,0,some 0⟩)) s s' :=bt.aK hn hs
 refine⟨⟨⟨h.wr.row.cJ.turns ht (fun e=>h.rj (by injection e)),h.wr.row.own.aK hn hs h.rv,h.wr.row.fresh,h.wr.row.ne,h.wr.row.lo,h.wr.row.ok⟩,h.wr.bits.aK hn hs h.rb,h.wr.bf,h.wr.bj,h.wr.bx⟩,hm,h.rj,h.rv,h.rb,h.lo⟩
theorem rY.fresh {r' :a8}(h:Wr base s j v bv q next begun)(hb:base<=s.next)(hm:nT s' s.next [])(k:ar s.next s s'):rY base s' j s.next v bv q [] next begun:=by
 refine⟨⟨⟨h.row.cJ.keeps k,h.row.own.keeps k,h.row.fresh,h.row.ne,h.row.lo,h.row.ok⟩,h.bits.keeps k,h.bf,h.bj,h.bx⟩,hm,?_,?_,?_,hb⟩
 ·have:=h.row.cJ.lt;omega
 ·intro e;have:=h.row.own.iD _ e;omega
 ·intro e;have:=h.bits.iD _ e;omega
end
theorem aaG:cC a4 164 [(2,.int .i64 258)]=some (.agg #[.slice none 0 0,.int .i64 0,.slice none 0 0,.int .i64 258,.bool false]):=by kernel_rfl
theorem cM.after {s s1 s' :aq}{w:bb}{l:a3 a9}{base:a8}(h:cM s1 w s' l)(k:ar base s s1)(hb:base=s.next):cM s w s' l:=by
 subst hb
 exact⟨h.own,fun i hi=>av k.next (h.fresh i hi),k.trans (h.stay.weaken k.next)⟩
theorem Xe (s:aq):nT (s.new (.map [])) s.next []:=by
 refine⟨by rw[xq];omega,?_⟩
 simp only[aq.dN,aq.new,Tr.bD _ _ _ _ (deep (by omega))]
 rfl
theorem acp (a b:bb):ba (.tuple #[a,b]) 0=some a:=rfl
theorem acq (a b:bb):ba (.tuple #[a,b]) 1=some b:=rfl
theorem aer:a4.underlying 166=some (.map 9 3):=Tryz.underlying166
theorem Q7 {l:a3 a9}{n:a8}:(l.drop 0).take (n-0)=l.take n:=by rw[cz,c5]
theorem aaH {l:a3 a9}{n:a8}:(l.drop n).take (l.length-n)=l.drop n:=a7 (by rw[ao];omega)
theorem Br.p9 {base:a8}{s:aq}{v:bb}{l:a3 a9}(h:Br base s 1 v l.length (ofBytes l)){lo hi:a8}(h1:lo<=hi)(h2:hi<=l.length):Br base s 1 (dJ 1 v lo hi) ((l.drop lo).take (hi-lo)).length (ofBytes ((l.drop lo).take (hi-lo))):=fun s' k=>(h s' k).p9 h1 h2
theorem Tx {c:a8}(h6:c≠256)(h7:c≠257)(rd:a8)(fst:dC):og c rd (!fst)=mf rd fst/\nd c (!fst)=true:=by
 unfold og nd mf
 rw[cA h6,cA h7,cA h6,cA h7]
 cases fst<;>exact⟨rfl,rfl⟩
theorem Ty {q:a3 a9×a3 a8}(h0:q.2≠[])(h7:q.2.length<=7):(tK q 0).1++pack (tK q 0).2=q.1++pack q.2:=by
 have hz:=Ly q.2 1
 rw[show List.replicate 1 0=[0] from rfl] at hz
 unfold tK
 by_cases h:q.2.length=7
 ·rw[dD h]
  simp only
  rw[tD,cm,hz,vU h0 (by omega)]
 ·rw[cA h]
  simp only
  rw[vU h0 (by omega),vU (by simp) (by rw[an,cv];omega),hz]
theorem O7 {lib:aA}(hl:lib.at 84=none)(jL:lib.at 136=none)(Kf:lib.at 152=none)(D7:lib.at 137=none)(kr:lib.at 170=none)(lV:lib.at 200=none)(amT:lib.at 138=none)(Bf:lib.at 36=none)(s:aq)(x:bb)(b:a3 a9)(hx:aN s 1 x b.length (ofBytes b))(hb:b.length<=4000000):
  Runs a4 lib 84 [x] s fun w s' =>cM s w s' (E5 b):=by
 obtain⟨base,zU⟩:∃base,base=s.next:=⟨_,rfl⟩
 have Bo:Br base s 1 x b.length (ofBytes b):=by rw[zU];exact hx.low
 have oH:base<=s.next:=by omega
 have hD:∀(D E:a3 a8),lH b=D++E->D6 (fL ([],[]) D)/\(fL ([],[]) D).1.length<=100000000:=fun D E h=>by
  refine⟨Ec _ _ (fun x hx=>LD b x (by rw[h];exact List.mem_append_left _ hx)) aco,?_⟩
  have h1:=HG D ([],[])
  have h2:=LF b
  rw[h,an] at h2
  simp only[cp] at h1;omega
 refine Runs.enter 80 Tryz.func84 rfl hl rfl rfl ?_
 intro f hn hf
 have h0:f.get 0=x:=hf 0
 clear hf
 simp only[aj,ae,QS,↓ab,hn,aaG]
 refine aw ?_
 intro s1 Nq bn iV
 obtain⟨j,hj⟩:∃j,j=s.next:=⟨_,rfl⟩
 rw[<-hj] at Nq
 have hW1:Wr base s1 j (.slice none 0 0) (.slice none 0 0) ([],[]) 258 false:=⟨⟨Nq,.nil,aF.nil _,(fun e=>by cases e),by omega,⟨a6 _,by simp⟩⟩,.nil,aF.nil _,(fun e=>by cases e),fun _ e=>by cases e⟩
 have gL:base<=s1.next:=by omega
 simp only[aj,ak,aa,QS,Nat.reduceAdd,↓ab,hn,c7,cp]
 rw[<-hj]
 refine(um jL Kf D7 kr lV base s1 j _ _ ([],[]) 258 false 256 hW1 gL aco (by simp) (by omega) (by omega)).mono ?_
 rintro _ s2 ⟨v2,b2,hW2,nQ⟩
 have aR:=nQ.stay hW1 gL
 have dI:base<=s2.next:=av gL aR.next
 obtain⟨s3,fB⟩:∃s3,s3=s2.new (.map []):=⟨_,rfl⟩
 have hm3:nT s3 s2.next []:=by rw[fB];exact Xe s2
 have bC:ar s2.next s2 s3:=by rw[fB];exact ar.new s2 _
 have hE3:rY base s3 j s2.next v2 b2 (fL ([],[]) (dw 256 9)) [] 258 false:=rY.fresh (r' :=0) hW2 dI hm3 bC
 have hS3:ar base s s3:=((bn.weaken oH).trans aR).trans (bC.weaken dI)
 have hx3:=Bo.stay hS3
 simp only[aj,QS,↓ab,hn]
 rw[<-fB]
 refine Comes.bQ (fun z f s' =>∃(k:a8) (l:a3 a9) (T:qD) (rd:a8) (fst:dC) (D:a3 a8) (r:a8) (v bv xv:bb),z=l.length/\l.length<k/\l.length<=b.length/\lH b=D++enc k l T rd fst/\Lz.Good T/\rd<=4096/\rY base s' j r v bv (fL ([],[]) D) T rd (!fst)/\ar base s s' /\Br base s' 1 xv l.length (ofBytes l)/\f.n=80/\f.get 0=xv/\f.get 3=nZ j/\f.get 4= .map (some r))
  (fun y f s' =>y= .exit 0/\∃(rd:a8) (begun:dC) (D:a3 a8) (v bv:bb),rd<=4096/\lH b=D++dw 257 (width rd)/\Wr base s' j v bv (fL ([],[]) D) rd begun/\ar base s s' /\f.n=80/\f.get 3=nZ j)
  ⟨b.length+1,b,[],258,true,dw 256 9,s2.next,v2,b2,x,rfl,by omega,by omega,rfl,Lz.Good.nil,by omega,hE3,hS3,hx3,by simp only[ad,ag,↓ab,Qx,hn,h0,a5]⟩ ?_ ?_
 ·clear hn h0 f hE3 hS3 hx3 hm3 bC fB s3 hW2 nQ aR dI hW1 gL Nq bn iV s1 Bo v2 b2 s2
  rintro Q hQ z f s4 ⟨k,l,T,rd,fst,D,r,v,bv,xv,rfl,hk,asv,eC,hG,Ny,hE,hS,hL,hn,h0,h3,h4⟩
  have oA:=av oH hS.next
  have F3:=hL.aG
  by_cases kW:l=[]
  ·subst kW
   have c1:¬(0:a2)<((([]:a3 a9).length:a8):a2):=by simp
   simp only[aj,aa,QS,↓ab,hn,h0,F3.bm af,b8 c1]
   rw[BC] at eC
   exact hQ _ _ _ ⟨rfl,rd,_,D,v,bv,Ny,eC,hE.wr,hS,by simp only[ad,ag,↓ab,Qx,hn,h3,a5]⟩
  ·have BV:0<l.length:=bl.mpr kW
   have c1:(0:a2)<(l.length:a2):=by omega
   obtain⟨p,hp⟩:∃p,p=db l T (1,((l.getD 0 0).toNat:a2)):=⟨_,rfl⟩
   have hF:=hG.found kW
   rw[<-hp] at hF
   have apG:((l.getD 0 0).toNat:a2)<256:=by have:=(l.getD 0 0).toNat_lt;omega
   simp(disch:=omega)only[aj,aa,QS,Qx,↓ab,hn,h0,F3.bm af,cb c1,b4,F3.self,F3.indexAddr af bK,F3.di kI,bw,bL a0 b4,aD,Int.toNat_zero]
   refine Comes.bQ (fun z f s' =>∃(n:a8) (c:a2),z=l.length-n/\1<=n/\n<=l.length/\ext T l (l.length-n) n c=p/\f.n=80/\f.get 0=xv/\f.get 3=nZ j/\f.get 4= .map (some r)/\f.get 5= .int .i64 n/\f.get 6= .int .i64 c/\s' =s4)
    (fun y f s' =>y= .exit 2/\f.n=80/\f.get 0=xv/\f.get 3=nZ j/\f.get 4= .map (some r)/\f.get 5= .int .i64 p.1/\f.get 6= .int .i64 p.2/\s' =s4)
    ⟨1,((l.getD 0 0).toNat:a2),rfl,by omega,by omega,hF.eq,by simp only[ag,hn],by simp only[ad,↓ab,Qx,h0],by simp only[ad,↓ab,Qx,h3],by simp only[ad,↓ab,Qx,h4],by simp only[ad,↓ab,Qx];rfl,by simp only[ad,↓ab],rfl⟩ ?_ ?_
   ·clear hn h0 h3 h4 f
    rintro Q2 hQ2 z f _ ⟨n,c,rfl,g8,J1,mz,hn,h0,h3,h4,h5,h6,rfl⟩
    by_cases bd:n<l.length
    ·have c2:(n:a2)<(l.length:a2):=by omega
     have e1:((n:a2)+1).toNat=n+1:=by omega
     have dx:=F3.p9 (lo:=0) (hi:=n+1) (by omega) (by omega)
     rw[Q7] at dx
     simp(disch:=omega)only[aj,aa,ai,QS,Qx,↓ab,hn,h0,h4,h5,F3.bm af,cb c2,aD,F3.iS af bK,e1,dx.str af bk a0,hE.map.lookup aer bk VL]
     have wA:ext T l (l.length-n) n c=(match me (l.take (n+1)) T with|some x=>ext T l (l.length-(n+1)) (n+1) x|none=>(n,c)):=by
      rw[show l.length-n=(l.length-(n+1))+1 by omega,ext]
      rfl
     rw[wA] at mz
     cases hsk:me (l.take (n+1)) T with
     |none=>
      rw[hsk] at mz
      obtain rfl:p=(n,c):=mz.symm
      simp(disch:=omega)only[aj,QS,Qx,↓ab,hn,acp,acq,Option.getD_none,Option.isSome_none]
      exact hQ2 _ _ _ ⟨rfl,by simp only[ag,hn],by simp only[ad,↓ab,Qx,h0],by simp only[ad,↓ab,Qx,h3],by simp only[ad,↓ab,Qx,h4],by simp only[ad,↓ab,Qx,h5],by simp only[ad,↓ab,Qx,h6],rfl⟩
     |some y=>
      rw[hsk] at mz
      simp(disch:=omega)only[aj,QS,Qx,↓ab,hn,h5,acp,acq,Option.getD_some,Option.isSome_some,aD]
      refine ay (l.length-(n+1)) (by omega) ⟨n+1,y,rfl,by omega,by omega,mz,by simp only[ag,hn],by simp only[ad,↓ab,Qx,h0],by simp only[ad,↓ab,Qx,h3],by simp only[ad,↓ab,Qx,h4],by simp only[ad,↓ab,Qx];rfl,by simp only[ad,↓ab],rfl⟩
    ·obtain rfl:n=l.length:=by omega
     have c2:¬(l.length:a2)<(l.length:a2):=by omega
     rw[Nat.sub_self] at mz
     simp only[aj,aa,QS,Qx,↓ab,hn,h0,h5,F3.bm af,b8 c2]
     obtain rfl:p=(l.length,c):=mz.symm
     exact hQ2 _ _ _ ⟨rfl,by simp only[ag,hn],by simp only[ad,↓ab,Qx,h0],by simp only[ad,↓ab,Qx,h3],by simp only[ad,↓ab,Qx,h4],by simp only[ad,↓ab,Qx,h5],by simp only[ad,↓ab,Qx,h6],rfl⟩
   ·clear hn h0 h3 h4 f
    rintro _ f _ ⟨rfl,hn,h0,h3,h4,h5,h6,rfl⟩
    obtain⟨c,hc⟩:∃c:a8,p.2=(c:a2):=⟨p.2.toNat,by have:=hF.lo;omega⟩
    have S5:p.2.toNat=c:=by omega
    have hc6:c≠256:=by have:=hF.n6;omega
    have hc7:c≠257:=by have:=hF.n7;omega
    have hcm:c<100000000:=by have:=hF.hi;omega
    obtain⟨uR,vC⟩:=hD _ _ eC
    rw[hc] at h6
    simp only[aj,ak,aa,QS,Qx,↓ab,hn,h3,h6]
    refine(um jL Kf D7 kr lV base _ j v bv (fL ([],[]) D) rd (!fst) c hE.wr oA uR vC hcm Ny).mono ?_
    rintro _ s5 ⟨v5,b5,Y2,D5⟩
    obtain⟨e5,e6⟩:=Tx hc6 hc7 rd fst
    rw[e5,e6,<-rB] at Y2
    have hE5:=hE.wrote Y2 D5
    have ry:=D5.stay hE.wr oA
    have hb5:base<=s5.next:=av oA ry.next
    have hL5:=hL.stay ry
    have O8:=hL5.aG
    have hS5:=hS.trans ry
    have aes:=aac Ny fst
    have qJ:=hF.one
    have Ns:=hF.le
    have hcd:=Br.p9 hL5 (lo:=p.1) (hi:=l.length) Ns (a6 _)
    rw[aaH] at hcd
    have YS:(l.drop p.1).length=l.length-p.1:=ao
    by_cases bd:p.1<l.length
    ·have c2:(p.1:a2)<(l.length:a2):=by omega
     have dx:=O8.p9 (lo:=0) (hi:=p.1+1) (by omega) (by omega)
     rw[Q7] at dx
     have e1:((p.1:a2)+1).toNat=p.1+1:=by omega
     have ZI:=hG.len
     simp(disch:=omega)only[aj,aa,ai,QS,Qx,↓ab,hn,h0,h4,h5,O8.bm af,cb c2,hE5.map.len aer,aD,O8.iS af bK,e1,dx.str af bk a0]
     refine Bh aer bk hE5.map (l.take (p.1+1)) (258+(T.length:a2)) (hF.me bd) ?_
     intro s6 hm6 YU Tk
     have hE6:=hE5.put hm6 YU Tk
     have dY:ar base s5 s6:=ar.aK YU Tk hE5.lo
     have hb6:base<=s6.next:=av hb5 dY.next
     have WE:=hL5.stay dY
     by_cases cx:258+T.length=4095
     ·have cx' :(258:a2)+(T.length:a2)=4095:=by omega
      have vj:=eC
      rw[show k=(k-1)+1 by omega,zn kW hp bd cx,S5,<-a1] at vj
      obtain⟨hd5,mh⟩:=hD _ _ vj
      simp only[aj,ak,aa,QS,Qx,↓ab,hn,h3,cb cx']
      refine(um jL Kf D7 kr lV base _ j v5 b5 _ (mf rd fst) true 256 hE6.wr hb6 hd5 mh (by omega) aes).mono ?_
      rintro _ s7 ⟨v7,b7,hW7,amY⟩
      have jX:=amY.stay hE6.wr hb6
      have hb7:base<=s7.next:=av hb6 jX.next
      rw[<-rB] at hW7
      obtain⟨s8,WQ⟩:∃s8,s8=s7.new (.map []):=⟨_,rfl⟩
      have hm8:nT s8 s7.next []:=by rw[WQ];exact Xe s7
      have Jm:ar s7.next s7 s8:=by rw[WQ];exact ar.new s7 _
      have hE8:=rY.fresh (r' :=0) hW7 hb7 hm8 Jm
      have hL8:=(WE.stay jX).stay (Jm.weaken hb7)
      have air:=hL8.aG
      have amZ:Br base s8 1 (dJ 1 xv p.1 l.length) (l.drop p.1).length (ofBytes (l.drop p.1)):=((hcd.stay dY).stay jX).stay (Jm.weaken hb7)
      simp only[aj,ai,QS,Qx,↓ab,hn,h0,h5]
      rw[<-WQ]
      simp(disch:=omega)only[aj,QS,↓ab,hn,air.ff af bK]
      refine ay (l.drop p.1).length (by omega) ⟨k-1,l.drop p.1,[],258,true,_,s7.next,v7,b7,dJ 1 xv p.1 l.length,rfl,by omega,by omega,by rw[a1] at vj|-;rw[a1];exact vj,Lz.Good.nil,by omega,hE8,((hS5.trans dY).trans jX).trans (Jm.weaken hb7),amZ,by simp only[ad,ag,↓ab,Qx,hn,h3,a5]⟩
     ·have cx' :¬(258:a2)+(T.length:a2)=4095:=by omega
      have vj:=eC
      rw[show k=(k-1)+1 by omega,DH kW hp bd cx,S5,<-a1] at vj
      have ais:=WE.aG
      simp(disch:=omega)only[aj,ai,QS,Qx,↓ab,hn,h0,h5,b8 cx',ais.ff af bK]
      refine ay (l.drop p.1).length (by omega) ⟨k-1,l.drop p.1,_,mf rd fst,false,_,r,v5,b5,dJ 1 xv p.1 l.length,rfl,by omega,by omega,vj,hF.more bd cx,aes,hE6,hS5.trans dY,hcd.stay dY,by simp only[ad,ag,↓ab,Qx,hn,h3,h4,a5]⟩
    ·have c2:¬(p.1:a2)<(l.length:a2):=by omega
     have vj:=eC
     rw[show k=(k-1)+1 by omega,Jf kW hp bd,S5,<-a1] at vj
     simp(disch:=omega)only[aj,aa,ai,QS,Qx,↓ab,hn,h0,h5,O8.bm af,b8 c2,O8.ff af bK]
     refine ay (l.drop p.1).length (by omega) ⟨k-1,l.drop p.1,T,mf rd fst,false,_,r,v5,b5,dJ 1 xv p.1 l.length,rfl,by omega,by omega,vj,hG,aes,hE5,hS5,hcd,by simp only[ad,ag,↓ab,Qx,hn,h3,h4,a5]⟩
 ·clear hn h0 f hE3 hS3 hx3 hm3 bC fB s3 hW2 nQ aR dI hW1 gL Nq bn iV s1 Bo v2 b2 s2
  rintro _ f s4 ⟨rfl,rd,begun,D,v,bv,Ny,eC,hW,hS,hn,h3⟩
  have oA:=av oH hS.next
  obtain⟨uR,vC⟩:=hD _ _ eC
  simp only[aj,ak,aa,QS,↓ab,hn,h3]
  refine(um jL Kf D7 kr lV base _ j v bv _ rd begun 257 hW oA uR vC (by omega) Ny).mono ?_
  rintro _ s5 ⟨v5,b5,Y2,D5⟩
  have ry:=D5.stay hW oA
  have hb5:base<=s5.next:=av oA ry.next
  rw[<-rB,<-eC] at Y2
  obtain⟨hd5,mh⟩:=hD (lH b) [] (by simp)
  have hS5:=hS.trans ry
  have hpk:=vT (lH b) ([],[]) (by simp)
  obtain⟨pq,hpq⟩:∃pq,pq=fL ([],[]) (lH b):=⟨_,rfl⟩
  have ait:pq.1++pack pq.2=E5 b:=by rw[hpq];exact hpk.1
  rw[<-hpq] at Y2 hd5 mh
  have am1:(E5 b).length<=100000000:=by have h1:=Eb b;have h2:=LF b;omega
  simp only[aj,QS,↓ab,hn]
  refine Comes.bQ (fun z f s' =>∃(q:a3 a9×a3 a8) (rd:a8) (bg:dC) (v bv:bb),z=(if q.2=[] then 0 else 8-q.2.length)/\Wr base s' j v bv q rd bg/\D6 q/\q.1++pack q.2=E5 b/\ar base s s' /\f.n=80/\f.get 3=nZ j)
   (fun y f s' =>y= .exit 4/\∃(rd:a8) (bg:dC) (v bv:bb),Wr base s' j v bv (E5 b,[]) rd bg/\ar base s s' /\f.n=80/\f.get 3=nZ j)
   ⟨pq,_,_,v5,b5,rfl,Y2,hd5,ait,hS5,by simp only[ad,ag,↓ab,Qx,hn,h3,a5]⟩ ?_ ?_
  ·clear hn h3 f Y2 hd5 mh ait hpq hpk D5 ry hb5 hS5 oA uR vC hW hS eC Ny
   rintro Q hQ z f s4 ⟨q,rd,bg,v,bv,rfl,hW,hH,hq,hS,hn,h3⟩
   have oA:=av oH hS.next
   have g2:=hW.row.cJ.load (P:=a4) Jw (off:=2) (c:=6) rfl (by simp)
   have hq1:q.1.length<=100000000:=by rw[<-hq,an] at am1;omega
   by_cases Y0:q.2=[]
   ·have c1:¬(0:a2)<((q.2.length:a8):a2):=by rw[Y0];simp
    simp only[aj,ak,aa,QS,↓ab,hn,h3,AN,g2,hW.bits.aG.bm c0,b8 c1]
    refine hQ _ _ _ ⟨rfl,rd,bg,v,bv,?_,hS,by simp only[ad,ag,↓ab,Qx,hn,h3,a5]⟩
    rw[Y0,tD,cm] at hq
    obtain⟨q1,q2⟩:=q
    simp only at hq Y0
    rw[<-hq,<-Y0]
    exact hW
   ·have c1:(0:a2)<((q.2.length:a8):a2):=by have:=bl.mpr Y0;omega
    simp only[aj,ak,aa,QS,Qx,↓ab,hn,h3,AN,g2,hW.bits.aG.bm c0,cb c1]
    refine(L3 D7 kr lV base s4 j v bv q rd bg 0 hW oA hH (by omega)).mono ?_
    rintro _ s5 ⟨v5,b5,Y2,D5⟩
    rw[show((0:a2)%2).toNat=0 from rfl] at Y2
    simp only[aj,QS,↓ab,hn]
    refine ay _ ?_ ⟨tK q 0,rd,bg,v5,b5,rfl,Y2,zy hH (by omega),by rw[Ty Y0 hH.1];exact hq,hS.trans (D5.stay hW oA),by simp only[ad,ag,↓ab,Qx,hn,h3,a5]⟩
    have hh:=hH.1
    have kW:=bl.mpr Y0
    rw[cA Y0]
    unfold tK
    by_cases h7:q.2.length=7
    ·rw[dD h7,dD rfl];omega
    ·rw[cA h7,cA (by simp),an,cv];omega
  ·clear hn h3 f
   rintro _ f s6 ⟨rfl,rd6,bg6,v6,bv6,hW6,hS6,hn,h3⟩
   simp only[aj,ak,aa,QS,↓ab,hn,h3,acm]
   refine(Ju amT Bf base s6 j [bv6,.int .i64 rd6,.bool bg6] v6 (E5 b,8*(E5 b).length) hW6.row (by simp only;omega)).mono ?_
   intro w s7 hw
   simp only[aj,al,oneOf,QS,↓ab,hn,Tryz.results84]
   exact cM.after hw hS6 zU
end Go.Proofs.YtdfjfncifneocaaGreat
namespace Go.Proofs.YtdfjfncifneocaaGreat
open Go.Cl Go.Cl.B85
theorem acs:bV a4 157=some (.agg #[.int .u8 0,.int .u8 0,.int .u8 0,.int .u8 0,.int .u8 0]):=by kernel_rfl
theorem acu:bN (.agg #[.int .u8 0,.int .u8 0,.int .u8 0,.int .u8 0,.int .u8 0])=true:=by kernel_rfl
theorem acv:BM a4 157=1:=by kernel_rfl
theorem acw (x:a8):((x:a2)).tmod 85=((x%85:a8):a2):=by rw[Int.tmod_eq_emod_of_nonneg (by omega)];omega
theorem acx (x:a8):((x:a2)).tdiv 85=((x/85:a8):a2):=by rw[Int.tdiv_eq_ediv_of_nonneg (by omega)];omega
theorem acy (x:a8):((33:a2)+((x%85:a8):a2))%4294967296=33+((x%85:a8):a2):=by omega
theorem acz {x:a8}(h:x<4294967296):((x:a8):a2)%4294967296=((x:a8):a2):=by omega
theorem Xf (x j:a8):x/85^j/85=x/85^(j+1):=by rw[Nat.div_div_eq_div_mul,Nat.pow_succ]
theorem aaI {base:a8}{s:aq}{v:bb}{l:a3 a9}(h:Br base s 1 v l.length (ofBytes l)){n:a8}(hn:n<=l.length):Br base s 1 (dJ 1 v n l.length) (l.drop n).length (ofBytes (l.drop n)):=fun s' k=>by
 have:=(h s' k).p9 (lo:=n) (hi:=l.length) hn (a6 _)
 rw[a7 (by rw[ao];exact a6 _)] at this
 exact this
theorem O9 {lib:aA}(hl:lib.at 80=none)(s:aq)(x:bb)(l0:a3 a9)(hx:aN s 1 x l0.length (ofBytes l0))(hlen:l0.length<=1073741824):
  Runs a4 lib 80 [x] s fun v s' =>cM s v s' (F1 l0):=by
 refine Runs.enter 63 Tryz.func80 rfl hl rfl rfl ?_
 intro f hn hf
 have h0:f.get 0=x:=hf 0
 clear hf
 simp only[aj,QS,↓ab,hn]
 refine Comes.eZ (fun q f s' =>∃(l:a3 a9) (b o:bb) (P:a3 a9),q=l.length/\l.length<=l0.length/\P.length+2*l.length<=2*l0.length/\P++F1 l=F1 l0/\Br s.next s' 1 b l.length (ofBytes l)/\Own s' 1 o P.length (ofBytes P)/\aF s.next o/\ar s.next s s' /\f.n=63/\f.get 0=b/\f.get 3=o) ⟨l0,x,_,[],rfl,by omega,by simp,rfl,hx.low,.nil,aF.nil _,ar.refl _ _,by simp only[ad,ag,↓ab,Qx,hn,h0,a5]⟩ ?_
 clear hn h0 f
 rintro q f s1 ⟨l,b,o,P,rfl,wJ,hP,we,hb,ho,pg,aE,hn,h0,h3⟩
 by_cases kW:l=[]
 ·subst kW
  simp only[aj,aa,ae,QS,Qx,↓ab,hn,h0,h3,hb.aG.bm af,cp,Int.natCast_zero,Int.lt_irrefl,I1 af bK ks]
  refine bG af bK jW ks rfl ho (by simp only[ad,↓ab]) (by decide) (by simp only[ag,hn];decide) (by simp only[ag,hn];decide) (by rfl) (by decide) rfl (by omega) (by omega) pg aE.next ?_
  intro bs o' s2 pM vB dO _ _
  simp only[aj,al,oneOf,QS,↓ab,hn,Tryz.results80]
  rw[oX] at we
  refine⟨?_,vB,aE.trans dO⟩
  rw[<-we,br,an];exact pM
 ·have hp:0<l.length:=bl.mpr kW
  have Vo:(0:a2)<l.length:=by omega
  obtain⟨n,uy⟩:∃n,n=min 4 l.length:=⟨_,rfl⟩
  have Cf:(if(4:a2)<(l.length:a2) then(4:a2) else(l.length:a2))=(n:a2):=by split<;>omega
  simp only[aj,aa,QS,Qx,↓ab,hn,h0,hb.aG.bm af,Vo,Cf]
  refine Comes.bQ (fun q f s' =>∃i:a8,q=4-i/\i<=4/\f.n=63/\f.get 0=b/\f.get 3=o/\f.get 4= .int .i64 n/\f.get 5= .int .u32 (val l i)/\f.get 15= .int .i64 i/\s' =s1)
   (fun x f s' =>x= .exit 2/\f.n=63/\f.get 0=b/\f.get 3=o/\f.get 4= .int .i64 n/\f.get 5= .int .u32 (val l 4)/\s' =s1)
   ⟨0,rfl,by omega,by simp only[ag,hn],by simp only[ad,↓ab,Qx,h0],by simp only[ad,↓ab,Qx,h3],by simp only[ad,↓ab,Qx],by simp only[ad,↓ab,Qx];rfl,by simp only[ad,↓ab];rfl,rfl⟩ ?_ ?_
  ·clear hn h0 h3 f
   rintro Q hQ q f s1 ⟨i,rfl,hi,hn,h0,h3,h4,h5,my,rfl⟩
   by_cases hi4:i<4
   ·have aaJ:(i:a2)<4:=by omega
    have hv:=aad l hi4
    by_cases Kl:i<n
    ·have Ed:val l i*256+(l.getD i 0).toNat=val l (i+1):=by simp only[val];rw[dD (by omega)]
     simp(disch:=omega)only[aj,QS,Qx,↓ab,hn,h0,h4,h5,my,aaJ,Kl,aca,ui,aaf,hb.aG.indexAddr af bK,hb.aG.di kI,bw,bL a0 cd,Wq,jV,adY,Ed,aD]
     refine ay (4-(i+1)) (by omega) ⟨i+1,rfl,by omega,by simp only[ag,hn],by simp only[ad,↓ab,Qx,h0],by simp only[ad,↓ab,Qx,h3],by simp only[ad,↓ab,Qx,h4],by simp only[ad,↓ab,Qx],by simp only[ad,↓ab];rfl,rfl⟩
    ·have Ed:((val l i:a8):a2)*256=((val l (i+1):a8):a2):=by simp only[val];rw[cA (by omega)];omega
     have pG:((val l (i+1):a8):a2)%4294967296=((val l (i+1):a8):a2):=by omega
     simp(disch:=omega)only[aj,QS,Qx,↓ab,hn,h4,h5,my,aaJ,Kl,aca,ui,Ed,pG,aD]
     refine ay (4-(i+1)) (by omega) ⟨i+1,rfl,by omega,by simp only[ag,hn],by simp only[ad,↓ab,Qx,h0],by simp only[ad,↓ab,Qx,h3],by simp only[ad,↓ab,Qx,h4],by simp only[ad,↓ab,Qx],by simp only[ad,↓ab];rfl,rfl⟩
   ·have aaJ:¬(i:a2)<4:=by omega
    obtain rfl:i=4:=by omega
    simp only[aj,QS,↓ab,hn,my,aaJ]
    exact hQ _ _ _ ⟨rfl,by simp only[ag,hn],by simp only[ad,↓ab,Qx,h0],by simp only[ad,↓ab,Qx,h3],by simp only[ad,↓ab,Qx,h4],by simp only[ad,↓ab,Qx,h5],rfl⟩
  ·clear hn h0 h3 f
   rintro _ f s1 ⟨rfl,hn,h0,h3,h4,h5,rfl⟩
   obtain⟨X,hX⟩:∃X,X=val l 4:=⟨_,rfl⟩
   have aaK:X<4294967296:=by rw[hX];exact aae l
   rw[<-hX] at h5
   have YS:=aaI hb (n:=n) (by omega)
   have hdn:(l.drop n).length=l.length-n:=ao
   by_cases hz:n=4/\X=0
   ·have hz1:(n:a2)=4:=by omega
    have Uw:(X:a2)=0:=by omega
    simp(disch:=omega)only[aj,ak,ae,ai,QS,Qx,↓ab,hn,h0,h3,h4,h5,hb.aG.ff af bK,cb hz1,cb Uw,gG af bK ks]
    refine bG af bK jW ks rfl ho (by simp only[ad,↓ab]) (by decide) (by simp only[ag,hn];decide) (by simp only[ag,hn];decide) (by rfl) (by decide) rfl (by omega) (by omega) pg aE.next ?_
    intro bs o' s2 pM vB dO _ _
    simp only[aj,QS,↓ab,hn]
    refine ay (l.drop n).length (by omega) ⟨l.drop n,_,o',P++[122],rfl,by omega,by simp;omega,?_,YS.stay dO,?_,vB,aE.trans dO,by simp only[ad,ag,↓ab,Qx,hn,a5]⟩
    ·rw[Wp kW (by rw[<-uy,<-hX];exact hz),<-uy] at we
     simpa using we
    ·rw[br,an];exact pM
   ·have vx:¬((n:a2)=4/\(X:a2)=0):=by omega
    by_cases h4n:n=4
    ·have hz1:(n:a2)=4:=by omega
     have Uw:¬(X:a2)=0:=by omega
     simp(disch:=omega)only[aj,ak,ai,QS,Qx,↓ab,hn,h0,h4,h5,hb.aG.ff af bK,cb hz1,b8 Uw,acs,acu,acv]
     refine xz (n:=5) rfl ?_
     intro a s2 ha haF aR
     have fN:=ho.keeps aR
     simp only[aj,QS,↓ab,hn]
     have hla:ofBytes (laid X 0)=[.int .u8 0,.int .u8 0,.int .u8 0,.int .u8 0,.int .u8 0]:=by rw[Ht];rfl
     rw[<-hla] at ha
     refine Comes.bQ (fun q f s' =>∃j:a8,q=5-j/\j<=5/\Own s' 1 a 5 (ofBytes (laid X j))/\bt a s2 s' /\f.n=63/\f.get 0=dJ 1 b n l.length/\f.get 3=o/\f.get 4= .int .i64 n/\f.get 5= .int .u32 (X/85^j:a8)/\f.get 7=pC a/\f.get 8= .int .i64 (4-(j:a2)))
      (fun x f s' =>x= .exit 4/\Own s' 1 a 5 (ofBytes (xT X))/\bt a s2 s' /\f.n=63/\f.get 0=dJ 1 b n l.length/\f.get 3=o/\f.get 4= .int .i64 n/\f.get 7=pC a)
      ⟨0,rfl,by omega,ha,⟨a6 _,fun _ _ _=>rfl⟩,by simp only[ag,hn],by simp only[ad,↓ab,Qx],by simp only[ad,↓ab,Qx,h3],by simp only[ad,↓ab,Qx,h4],by simp only[ad,↓ab,Qx,h5];rw[ds,dt],by simp only[ad,↓ab,Qx,c6];rfl⟩ ?_ ?_
     ·clear hn h0 h3 h4 h5 f ha
      rintro Q hQ q f s3 ⟨j,rfl,hj,ha,ht,hn,h0,h3,h4,h5,h7,h8⟩
      by_cases hj5:j<5
      ·have Pa:(0:a2)<=4-j:=by omega
       have hd:X/85^j<4294967296:=bo (ca _ _) aaK
       have gB:((4:a2)-j).toNat=4-j:=by omega
       simp(disch:=omega)only[aj,QS,Qx,↓ab,hn,h5,h7,h8,cb Pa,fg,acw,ui,acy,bL cd a0,fu,QY X j hj5,ha.K4 bq bK,gB]
       refine mD bK ha (by omega) rfl ?_
       intro s4 ha4 gv
       have xG:=Xf X j
       have pG:=acz (bo (ca X (85^(j+1))) aaK)
       simp(disch:=omega)only[aj,QS,Qx,↓ab,hn,h5,h8,iQ,acx,ui,xG,pG,aD]
       refine ay (5-(j+1)) (by omega) ⟨j+1,rfl,by omega,?_,⟨av ht.next gv.next,fun i hi cH=>(gv.get i (cc hi ht.next) cH).trans (ht.get i hi cH)⟩,by simp only[ag,hn],by simp only[ad,↓ab,Qx,h0],by simp only[ad,↓ab,Qx,h3],by simp only[ad,↓ab,Qx,h4],by simp only[ad,↓ab,Qx],by simp only[ad,↓ab,Qx,h7],by simp only[ad,↓ab];congr 1;omega⟩
       rw[qi,LG X hj5] at ha4
       exact ha4
      ·obtain rfl:j=5:=by omega
       have Pa:¬(0:a2)<=4-((5:a8):a2):=by omega
       simp only[aj,QS,↓ab,hn,h8,b8 Pa]
       rw[Hu] at ha
       exact hQ _ _ _ ⟨rfl,ha,ht,by simp only[ad,ag,↓ab,Qx,hn,h0,h3,h4,h7,a5]⟩
     ·clear hn h0 h3 h4 h5 f ha
      rintro _ f s3 ⟨rfl,ha,ht,hn,h0,h3,h4,h7⟩
      have bC:ar s1.next s1 s3:=aR.trans (ht.keeps haF aR.next)
      have ou:=ho.keeps bC
      have dx:=ha.aG.p9 (l:=xT X) (lo:=0) (hi:=n+1) (by omega) (by show n+1<=5;omega)
      rw[cz,c5] at dx
      have g8:((n:a2)+1).toNat=n+1:=by omega
      have hn5:(n:a2)+1<=5:=by omega
      have Lq:((xT X).take (n+1)).length=n+1:=by rw[cg];show min (n+1) 5=_;omega
      simp(disch:=omega)only[aj,aa,ai,QS,Qx,↓ab,hn,h3,h4,h7,aD,ha.K5 bq bK (by decide),g8]
      refine bY af af (.inl ⟨_,rfl⟩) bK jW ks rfl ou dx.src (by simp[bM]) (by decide) (dh _) (by omega) (by omega) pg (by have:=aE.next;have:=bC.next;omega) ?_
      intro o' s4 pM vB dO _ _
      simp only[aj,QS,↓ab,hn]
      have dX:=(bC.weaken aE.next).trans dO
      refine ay (l.drop n).length (by omega) ⟨l.drop n,_,o',P++(xT X).take (n+1),rfl,by omega,by rw[an,Lq];omega,?_,YS.stay dX,?_,vB,aE.trans dX,by simp only[ad,ag,↓ab,Qx,hn,h0,a5]⟩
      ·rw[nX kW (by rw[<-uy,<-hX];exact hz),<-uy,<-hX] at we
       simpa using we
      ·rw[br,an];exact pM
    ·have hz1:¬(n:a2)=4:=by omega
     simp(disch:=omega)only[aj,ak,ai,QS,Qx,↓ab,hn,h0,h4,hb.aG.ff af bK,b8 hz1,acs,acu,acv]
     refine xz (n:=5) rfl ?_
     intro a s2 ha haF aR
     have fN:=ho.keeps aR
     simp only[aj,QS,↓ab,hn]
     have hla:ofBytes (laid X 0)=[.int .u8 0,.int .u8 0,.int .u8 0,.int .u8 0,.int .u8 0]:=by rw[Ht];rfl
     rw[<-hla] at ha
     refine Comes.bQ (fun q f s' =>∃j:a8,q=5-j/\j<=5/\Own s' 1 a 5 (ofBytes (laid X j))/\bt a s2 s' /\f.n=63/\f.get 0=dJ 1 b n l.length/\f.get 3=o/\f.get 4= .int .i64 n/\f.get 5= .int .u32 (X/85^j:a8)/\f.get 7=pC a/\f.get 8= .int .i64 (4-(j:a2)))
      (fun x f s' =>x= .exit 4/\Own s' 1 a 5 (ofBytes (xT X))/\bt a s2 s' /\f.n=63/\f.get 0=dJ 1 b n l.length/\f.get 3=o/\f.get 4= .int .i64 n/\f.get 7=pC a)
      ⟨0,rfl,by omega,ha,⟨a6 _,fun _ _ _=>rfl⟩,by simp only[ag,hn],by simp only[ad,↓ab,Qx],by simp only[ad,↓ab,Qx,h3],by simp only[ad,↓ab,Qx,h4],by simp only[ad,↓ab,Qx,h5];rw[ds,dt],by simp only[ad,↓ab,Qx,c6];rfl⟩ ?_ ?_
     ·clear hn h0 h3 h4 h5 f ha
      rintro Q hQ q f s3 ⟨j,rfl,hj,ha,ht,hn,h0,h3,h4,h5,h7,h8⟩
      by_cases hj5:j<5
      ·have Pa:(0:a2)<=4-j:=by omega
       have hd:X/85^j<4294967296:=bo (ca _ _) aaK
       have gB:((4:a2)-j).toNat=4-j:=by omega
       simp(disch:=omega)only[aj,QS,Qx,↓ab,hn,h5,h7,h8,cb Pa,fg,acw,ui,acy,bL cd a0,fu,QY X j hj5,ha.K4 bq bK,gB]
       refine mD bK ha (by omega) rfl ?_
       intro s4 ha4 gv
       have xG:=Xf X j
       have pG:=acz (bo (ca X (85^(j+1))) aaK)
       simp(disch:=omega)only[aj,QS,Qx,↓ab,hn,h5,h8,iQ,acx,ui,xG,pG,aD]
       refine ay (5-(j+1)) (by omega) ⟨j+1,rfl,by omega,?_,⟨av ht.next gv.next,fun i hi cH=>(gv.get i (cc hi ht.next) cH).trans (ht.get i hi cH)⟩,by simp only[ag,hn],by simp only[ad,↓ab,Qx,h0],by simp only[ad,↓ab,Qx,h3],by simp only[ad,↓ab,Qx,h4],by simp only[ad,↓ab,Qx],by simp only[ad,↓ab,Qx,h7],by simp only[ad,↓ab];congr 1;omega⟩
       rw[qi,LG X hj5] at ha4
       exact ha4
      ·obtain rfl:j=5:=by omega
       have Pa:¬(0:a2)<=4-((5:a8):a2):=by omega
       simp only[aj,QS,↓ab,hn,h8,b8 Pa]
       rw[Hu] at ha
       exact hQ _ _ _ ⟨rfl,ha,ht,by simp only[ad,ag,↓ab,Qx,hn,h0,h3,h4,h7,a5]⟩
     ·clear hn h0 h3 h4 h5 f ha
      rintro _ f s3 ⟨rfl,ha,ht,hn,h0,h3,h4,h7⟩
      have bC:ar s1.next s1 s3:=aR.trans (ht.keeps haF aR.next)
      have ou:=ho.keeps bC
      have dx:=ha.aG.p9 (l:=xT X) (lo:=0) (hi:=n+1) (by omega) (by show n+1<=5;omega)
      rw[cz,c5] at dx
      have g8:((n:a2)+1).toNat=n+1:=by omega
      have hn5:(n:a2)+1<=5:=by omega
      have Lq:((xT X).take (n+1)).length=n+1:=by rw[cg];show min (n+1) 5=_;omega
      simp(disch:=omega)only[aj,aa,ai,QS,Qx,↓ab,hn,h3,h4,h7,aD,ha.K5 bq bK (by decide),g8]
      refine bY af af (.inl ⟨_,rfl⟩) bK jW ks rfl ou dx.src (by simp[bM]) (by decide) (dh _) (by omega) (by omega) pg (by have:=aE.next;have:=bC.next;omega) ?_
      intro o' s4 pM vB dO _ _
      simp only[aj,QS,↓ab,hn]
      have dX:=(bC.weaken aE.next).trans dO
      refine ay (l.drop n).length (by omega) ⟨l.drop n,_,o',P++(xT X).take (n+1),rfl,by omega,by rw[an,Lq];omega,?_,YS.stay dX,?_,vB,aE.trans dX,by simp only[ad,ag,↓ab,Qx,hn,h0,a5]⟩
      ·rw[nX kW (by rw[<-uy,<-hX];exact hz),<-uy,<-hX] at we
       simpa using we
      ·rw[br,an];exact pM
end Go.Proofs.YtdfjfncifneocaaGreat
namespace Go.Proofs.YtdfjfncifneocaaGreat
open Go.Cl Go.Cl.Hx
theorem aaL {lib:aA}(hl:lib.at 79=none)(s:aq)(x:bb)(l:a3 a9)(hx:aN s 1 x l.length (ofBytes l))(hlen:l.length<=1073741824):
  Runs a4 lib 79 [x] s fun v s' =>cM s v s' (hex l):=by
 refine Runs.enter 25 Tryz.func79 rfl hl rfl rfl ?_
 intro f hn hf
 have h0:f.get 0=x:=hf 0
 clear hf
 simp only[aj,aa,QS,Qx,↓ab,hn,h0,hx.bm af]
 refine Comes.eZ (fun k f s' =>∃(i:a8) (o:bb),k=l.length-i/\i<=l.length/\Own s' 1 o (2*i) (ofBytes (zo (l.take i)))/\aF s.next o/\ar s.next s s' /\f.n=25/\f.get 3=o/\f.get 6=x/\f.get 7= .int .i64 l.length/\f.get 8= .int .i64 i) ⟨0,_,rfl,by omega,.nil,aF.nil _,ar.refl _ _,by simp only[ad,ag,↓ab,Qx,hn,c6];rfl⟩ ?_
 clear hn h0 f
 rintro k f s1 ⟨i,o,rfl,hi,ho,pg,aE,hn,h3,h6,h7,h8⟩
 have nk:=hx.keeps aE
 by_cases bd:i<l.length
 ·have hc8:=(l.getD i 0).toNat_lt
  simp(disch:=omega)only[aj,QS,Qx,↓ab,hn,h6,h7,h8,bd,nk.indexAddr af bK,nk.di kI,bw]
  refine cX.zd 1 (by kernel_rfl) (by kernel_rfl) ?_
  have sn:(l.getD i 0).toNat/16<16:=by omega
  have Ki:(l.getD i 0).toNat%16<16:=by omega
  simp(disch:=omega)only[aj,ae,QS,Qx,↓ab,hn,h3,al4,fh,Wm,Wn bk,ho.self,I1 af bK ks]
  refine iE (base:=s1.next) (by rfl) (by rw[bU];omega) (a6 _) ?_
  intro b s2 hb gz aR xG _
  have dE:=(ar.spare s1 1).trans aR
  have fN:=ho.keeps dE
  simp only[aj,aa,QS,Qx,↓ab,hn]
  refine kH af af (.inl ⟨_,rfl⟩) bK jW ks rfl fN hb.aG.src rfl (by decide) rfl (by omega) (by omega) pg (by have:=aE.next;have:=dE.next;omega) ?_
  intro o' s3 pM vB bC _ _
  simp(disch:=omega)only[aj,QS,Qx,↓ab,hn,h8,pM.self,aD]
  refine ay (l.length-(i+1)) (by omega) ⟨i+1,o',rfl,by omega,?_,vB,(aE.trans (dE.weaken aE.next)).trans bC,by simp only[ag,hn],by simp only[ad,↓ab,Qx],by simp only[ad,↓ab,Qx,h6],by simp only[ad,↓ab,Qx,h7],by simp only[ad,↓ab];rfl⟩
  rw[qd bd,Tb,br];exact pM
 ·obtain rfl:i=l.length:=by omega
  simp only[aj,ae,QS,Qx,↓ab,hn,h3,h7,h8,bd,gG af bK ks]
  rw[a7 (a6 _)] at ho
  refine bG af bK jW ks rfl ho (by simp only[ad,↓ab]) (by decide) (by simp only[ag,hn];decide) (by simp only[ag,hn];decide) (by rfl) (by decide) rfl (by omega) (by omega) pg aE.next ?_
  intro bs o' s2 pM vB dO _ _
  simp only[aj,al,oneOf,QS,↓ab,hn,Tryz.results79]
  refine⟨?_,vB,aE.trans dO⟩
  rw[hex,br,an,tE];exact pM
end Go.Proofs.YtdfjfncifneocaaGreat
namespace Go.Proofs.YtdfjfncifneocaaGreat
open Go.Cl Go.Cl.Runs
theorem x9 {lib:aA}(hl:lib.at 131=none)(s:aq)(x:bb)(l:a3 a9)(F7:a8)(hx:aN s 1 x l.length (ofBytes l))(hlen:l.length<=4294967296)(Tl:F7<l.length):
  Runs a4 lib 131 [x,.int .i64 F7] s fun v s' =>v= .int .i64 (rowOf (l.drop F7))/\s' =s:=by
 refine Runs.enter 32 Tryz.func131 rfl hl rfl rfl ?_
 intro f hn hf
 have h0:f.get 0=x:=hf 0
 have h1:f.get 1= .int .i64 F7:=hf 1
 clear hf
 simp only[aj,QS,↓ab,hn]
 refine Comes.eZ (fun k f s' =>∃n:a8,k=128-n/\n<=128/\F7+n<=l.length/\(∀j,j<n->l.getD (F7+j) 0=l.getD F7 0)/\f.n=32/\f.get 0=x/\f.get 1= .int .i64 F7/\f.get 5= .int .i64 n/\s' =s) ⟨1,rfl,by omega,by omega,fun j hj=>by(first|omega|(obtain rfl:j=0:=by omega);rfl),by simp only[ag,hn],by simp only[ad,↓ab,Qx,h0],by simp only[ad,↓ab,Qx,h1],by simp only[ad,↓ab];rfl,rfl⟩ ?_
 clear hn h0 h1 f
 rintro k f _ ⟨n,rfl,g8,g9,eC,hn,h0,h1,h5,rfl⟩
 have out:∀(s:aq) (f:aW),f.n=32->f.get 5= .int .i64 n->(n=128\/F7+n=l.length\/l.getD (F7+n) 0≠l.getD F7 0)->YR a4 (Tryz.f131).results.toList (fun v s' =>v= .int .i64 (rowOf (l.drop F7))/\s' =s) .ret (f.put 4 (.int .i64 n)) s:=by
  intro s f hn h5 he
  simp only[aj,al,oneOf,QS,↓ab,hn,Tryz.results131,Wj g8 g9 eC he]
 by_cases c1:n<128
 ·by_cases c2:F7+n<l.length
  ·have D3:(F7:a2)+n<l.length:=by omega
   have e2:((F7:a2)+n).toNat=F7+n:=by omega
   have uE:(n:a2)<128:=by omega
   simp(disch:=omega)only[aj,ak,aa,QS,Qx,↓ab,hn,h0,h1,h5,uE,hx.bm af,aD,D3,hx.indexAddr af bK,e2,hx.di kI,bw,hx.self]
   refine iN (fun h=> ?_) (fun h=> ?_)
   ·have he:l.getD (F7+n) 0=l.getD F7 0:=by simpa [c9] using h
    simp(disch:=omega)only[aj,QS,Qx,↓ab,hn,h5,aD]
    refine ay (128-(n+1)) (by omega) ⟨n+1,rfl,by omega,by omega,fun j hj=> ?_,by simp only[ag,hn],by simp only[ad,↓ab,Qx,h0],by simp only[ad,↓ab,Qx,h1],by simp only[ad,↓ab];rfl,rfl⟩
    by_cases hjn:j=n
    ·subst hjn;exact he
    ·exact eC j (by omega)
   ·have he:l.getD (F7+n) 0≠l.getD F7 0:=by simpa [c9] using h
    simp(disch:=omega)only[aj,QS,Qx,↓ab,hn,h5]
    exact out _ _ (by simp only[ag,hn]) (by simp only[ad,↓ab,Qx,h5]) (.inr (.inr he))
  ·have D3:¬(F7:a2)+n<l.length:=by omega
   have uE:(n:a2)<128:=by omega
   simp(disch:=omega)only[aj,ak,aa,QS,Qx,↓ab,hn,h0,h1,h5,uE,hx.bm af,aD,D3,hx.self]
   exact out _ _ (by simp only[ag,hn]) (by simp only[ad,↓ab,Qx,h5]) (.inr (.inl (by omega)))
 ·have uE:¬(n:a2)<128:=by omega
  simp(disch:=omega)only[aj,ak,QS,Qx,↓ab,hn,h5,uE]
  exact out _ _ (by simp only[ag,hn]) (by simp only[ad,↓ab,Qx,h5]) (.inl (by omega))
theorem Ee {lib:aA}(hl:lib.at 132=none)(s:aq)(x pv:bb)(l:a3 a9)(ps:a3 (bb×a3 a9))(hx:Own s 1 x l.length (ofBytes l))(hp:aN s 1 pv ps.length (ps.map (·.1)))
  (hps:∀p∈ps,aN s 1 p.1 p.2.length (ofBytes p.2)) (uR:∀i,aI pv=some i->aI x≠some i) (vC:∀p∈ps,∀i,aI p.1=some i->aI x≠some i) (hlen:l.length+(ps.map (·.2)).flatten.length<=4294967296) (kr:ps.length<=1000):
  Runs a4 lib 132 [x,pv] s fun v s' =>Own s' 1 v (l++(ps.map (·.2)).flatten).length (ofBytes (l++(ps.map (·.2)).flatten))/\Grown x s v s' :=by
 refine Runs.enter 18 Tryz.func132 rfl hl rfl rfl ?_
 intro f hn hf
 have h0:f.get 0=x:=hf 0
 have h1:f.get 1=pv:=hf 1
 clear hf
 simp only[aj,aa,QS,Qx,↓ab,hn,h1,hp.bm bz]
 refine Comes.eZ (fun k f s' =>∃(i:a8) (o:bb),k=ps.length-i/\i<=ps.length/\Own s' 1 o (l++((ps.take i).map (·.2)).flatten).length (ofBytes (l++((ps.take i).map (·.2)).flatten))/\Grown x s o s' /\f.n=18/\f.get 0=o/\f.get 7=pv/\f.get 8= .int .i64 ps.length/\f.get 9= .int .i64 i) ⟨0,x,rfl,by omega,by simpa using hx,Grown.refl _ _,by simp only[ad,ag,↓ab,Qx,hn,h0,c6];rfl⟩ ?_
 clear hn h0 h1 f
 rintro k f s1 ⟨i,o,rfl,hi,ho,hg,hn,h0,h7,h8,h9⟩
 have qJ:aN s1 1 pv ps.length (ps.map (·.1)):=hp.turns hg.turns (fun i _ h=>uR i h)
 by_cases bd:i<ps.length
 ·have Qb:ps[i]∈ps:=List.getElem_mem bd
  have sZ:=(hps _ Qb).turns hg.turns (fun j _ h=>vC _ Qb j h)
  have ky:(ps.map (·.1)).getD i undef=ps[i].1:=by simp[List.getD,List.getElem?_eq_getElem bd]
  have acA:((ps.take (i+1)).map (·.2)).flatten=((ps.take i).map (·.2)).flatten++ps[i].2:=by
   rw[List.take_succ_eq_append_getElem bd,dc,cR];simp only[List.map_cons,List.map_nil,List.flatten_cons,List.flatten_nil,cm]
  have hle:(l++((ps.take i).map (·.2)).flatten).length+ps[i].2.length<=4294967296:=by
   have e:ps=ps.take (i+1)++ps.drop (i+1):=(List.take_append_drop _ _).symm
   have:(ps.map (·.2)).flatten.length=((ps.take (i+1)).map (·.2)).flatten.length+((ps.drop (i+1)).map (·.2)).flatten.length:=by
    conv=>lhs;rw[e]
    rw[dc,cR,an]
   rw[acA] at this
   simp only[an] at this|-
   omega
  simp(disch:=omega)only[aj,aa,QS,Qx,↓ab,hn,h0,h7,h8,h9,bd,qJ.indexAddr bz fT,qJ.di fU,ky]
  refine bY af af (.inl ⟨_,rfl⟩) bK jW ks rfl ho sZ.src (by simp[bM]) (by decide) (dh _) (by omega) (by omega) (base:=0) (fun _ _=>dv _) (dv _) ?_
  intro o' s2 pM _ _ ht gz
  simp(disch:=omega)only[aj,QS,Qx,↓ab,hn,h9,aD]
  refine ay (ps.length-(i+1)) (by omega) ⟨i+1,o',rfl,by omega,?_,hg.trans ⟨ht,gz⟩,by simp only[ad,ag,↓ab,Qx,hn,h7,h8,c6];rfl⟩
  rw[acA,<-a1,br,an];exact pM
 ·simp(disch:=omega)only[aj,al,oneOf,QS,Qx,↓ab,hn,h0,h8,h9,bd,Tryz.results132]
  obtain rfl:i=ps.length:=by omega
  rw[a7 (a6 _)] at ho
  exact⟨ho,hg⟩
theorem aeu {n:a8}(h1:3<=n)(h2:n<=128):((257:a2)-n)%256=((cB (257-n)).toNat:a2):=by
 rw[c3];omega
theorem aev {n:a8}(h1:1<=n)(h2:n<=128):((n:a2)-1)%256=((cB (n-1)).toNat:a2):=by
 rw[c3];omega
theorem aew {s:aq}{z:a8}{v:bb}{n:a8}{l:a3 bb}(h:aN s z v n l)(hn:0<n){a b:a8}:∀j,aI (dJ z v a b)=some j->j<s.next:=by
 cases h with
 |nil=>intro j h;cases h
 |bare=>omega
 |of i off n c b' l hi hb hz hl hc hlen fy ht=>intro j h;injection h with h;subst h;exact hi
theorem aex {l:a3 a9}{i:a8}(h:i<l.length):l.drop i≠[]:=by
 intro e;have:=congrArg List.length e;rw[ao] at this;simp at this;omega
theorem L8 {lib:aA}(hl:lib.at 81=none)(g7:lib.at 131=none)(Kb:lib.at 132=none)(s:aq)(x:bb)(l:a3 a9)(hx:aN s 1 x l.length (ofBytes l))(hlen:l.length<=1073741824):
  Runs a4 lib 81 [x] s fun v s' =>cM s v s' (encode l):=by
 refine Runs.enter 69 Tryz.func81 rfl hl rfl rfl ?_
 intro f hn hf
 have h0:f.get 0=x:=hf 0
 clear hf
 simp only[aj,QS,↓ab,hn]
 refine Comes.eZ (fun k f s' =>∃(i:a8) (o:bb) (P:a3 a9),k=l.length-i/\i<=l.length/\P.length<=2*i/\P++encode (l.drop i)=encode l/\Own s' 1 o P.length (ofBytes P)/\aF s.next o/\ar s.next s s' /\f.n=69/\f.get 0=x/\f.get 4= .int .i64 i/\f.get 3=o) ⟨0,_,[],rfl,by omega,by simp,by simp,.nil,aF.nil _,ar.refl _ _,by simp only[ag,hn],by simp only[ad,↓ab,Qx,h0],by simp only[ad,↓ab];rfl,by simp only[ad,↓ab,Qx]⟩ ?_
 clear hn h0 f
 rintro k f s1 ⟨i,o,P,rfl,hi,hP,we,ho,pg,aE,hn,h0,h4,h3⟩
 have nk:=hx.keeps aE
 by_cases bd:i<l.length
 ·have cH:=aex bd
  simp(disch:=omega)only[aj,ak,aa,QS,Qx,↓ab,hn,h0,h4,bd,nk.bm af]
  refine(x9 g7 s1 x l i nk (by omega) bd).mono ?_
  rintro _ s1 ⟨rfl,rfl⟩
  have pd:=oW (l.drop i)
  have gx:=qp (l.drop i)
  rw[ao] at gx
  simp(disch:=omega)only[aj,QS,↓ab,hn]
  refine iN (fun h=> ?_) (fun h=> ?_)
  ·have h3' :3<=rowOf (l.drop i):=by simp at h;omega
   generalize kp:rowOf (l.drop i)=n at*
   simp(disch:=omega)only[aj,ae,QS,Qx,↓ab,hn,h0,h4,h3,aD,bL b4 a0,fu,nk.indexAddr af bK,nk.di kI,bw,aeu,I1 af bK ks]
   refine aQ (by rfl) ?_
   intro b1 s2 gL BX lz
   simp(disch:=omega)only[aj,ae,QS,↓ab,hn,ZJ bz fT zSl rfl ⟨_,rfl⟩ gL.aG.tk]
   refine aQ (by rfl) ?_
   intro b2 s3 dI Ir oB
   simp(disch:=omega)only[aj,ak,aa,QS,Qx,↓ab,hn]
   have ou:=(ho.keeps lz).keeps oB
   have sx:=gL.keeps oB
   have gz:=ho.iD
   have xG:=lz.next
   refine(Ee Kb s3 o b2 P [(b1,[cB (257-n),l.getD i 0])] ou dI.aG (fun p hp=> ?_) (fun j hj e=> ?_) (fun p hp j hj e=> ?_) (by simp;omega) (by simp)).mono ?_
   ·rw[c4] at hp;subst hp;exact sx.aG
   ·have:=Ir j hj;have:=gz j e;omega
   ·rw[c4] at hp;subst hp;have:=BX j hj;have:=gz j e;omega
   rintro o' s4 ⟨pM,hg⟩
   simp(disch:=omega)only[aj,QS,Qx,↓ab,hn,h4,aD]
   have dO:=((aE.trans (lz.weaken aE.next)).trans (oB.weaken (av aE.next xG)))
   refine ay (l.length-(i+n)) (by omega) ⟨i+n,o',_,rfl,by omega,?_,?_,pM,hg.fresh pg dO.next,dO.trans (hg.stay pg dO.next),by simp only[ag,hn],by simp only[ad,↓ab,Qx,h0],by simp only[ad,↓ab];rfl,by simp only[ad,↓ab,Qx]⟩
   ·simp;omega
   ·rw[nV cH (by omega),kp,qo] at we
    simpa [cf] using we
  ·have h3' :rowOf (l.drop i)<3:=by simp at h;omega
   have wJ:=ug (l:=l.drop i) (by rw[ao];omega)
   have jn:=lI (l.drop i)
   have asG:=rk (l.drop i)
   rw[ao] at wJ
   simp(disch:=omega)only[aj,QS,↓ab,hn]
   refine Comes.bQ (fun k f s' =>∃n:a8,k=128-n/\1<=n/\n<=128/\i+n<=l.length/\gH (l.drop i) (128-n) n=dm (l.drop i)/\f.n=69/\f.get 0=x/\f.get 4= .int .i64 i/\f.get 3=o/\f.get 6= .int .i64 n/\s1=s')
    (fun x' f' s' =>x' = .exit 2/\f'.n=69/\f'.get 0=x/\f'.get 4= .int .i64 i/\f'.get 3=o/\f'.get 6= .int .i64 (dm (l.drop i))/\s1=s')
    ⟨1,rfl,by omega,by omega,by omega,rfl,by simp only[ag,hn],by simp only[ad,↓ab,Qx,h0],by simp only[ad,↓ab,Qx,h4],by simp only[ad,↓ab,Qx,h3],by simp only[ad,↓ab];rfl,rfl⟩ ?_ ?_
   ·clear hn h0 h4 h3 f
    rintro Q hQ k f s1 ⟨n,rfl,g8,g9,mQ,aiw,hn,h0,h4,h3,h6,rfl⟩
    have out:∀(f:aW),f.n=69->f.get 0=x->f.get 4= .int .i64 i->f.get 3=o->f.get 6= .int .i64 n->(n=128\/(l.drop i).length<=n\/3<=rowOf ((l.drop i).drop n))->Q (.exit 2) f s1:=by
     intro f hn h0 h4 h3 h6 he
     exact hQ _ _ _ ⟨rfl,hn,h0,h4,h3,by rw[h6,<-aiw,Wl g9 he],rfl⟩
    by_cases c1:n<128
    ·have uE:(n:a2)<128:=by omega
     by_cases c2:i+n<l.length
     ·have D3:(i:a2)+n<l.length:=by omega
      simp(disch:=omega)only[aj,ak,aa,QS,Qx,↓ab,hn,h0,h4,h6,uE,nk.bm af,aD,D3]
      refine(x9 g7 s1 x l (i+n) nk (by omega) c2).mono ?_
      rintro _ s1 ⟨rfl,rfl⟩
      have gx:=oW (l.drop (i+n))
      simp(disch:=omega)only[aj,ak,QS,Qx,↓ab,hn]
      refine iN (fun h=> ?_) (fun h=> ?_)
      ·simp(disch:=omega)only[aj,QS,Qx,↓ab,hn,h6,aD]
       refine ay (128-(n+1)) (by omega) ⟨n+1,rfl,by omega,by omega,by omega,?_,by simp only[ag,hn],by simp only[ad,↓ab,Qx,h0],by simp only[ad,↓ab,Qx,h4],by simp only[ad,↓ab,Qx,h3],by simp only[ad,↓ab];rfl,rfl⟩
       rw[<-aiw,Wk c1 (by rw[ao];omega) (by rw[cf];simp at h;omega)]
      ·simp(disch:=omega)only[aj]
       exact out _ (by simp only[ag,hn]) (by simp only[ad,↓ab,Qx,h0]) (by simp only[ad,↓ab,Qx,h4]) (by simp only[ad,↓ab,Qx,h3]) (by simp only[ad,↓ab,Qx,h6]) (.inr (.inr (by rw[cf];simp at h;omega)))
     ·have D3:¬(i:a2)+n<l.length:=by omega
      simp(disch:=omega)only[aj,ak,aa,QS,Qx,↓ab,hn,h0,h4,h6,uE,nk.bm af,aD,D3]
      exact out _ (by simp only[ag,hn]) (by simp only[ad,↓ab,Qx,h0]) (by simp only[ad,↓ab,Qx,h4]) (by simp only[ad,↓ab,Qx,h3]) (by simp only[ad,↓ab,Qx,h6]) (.inr (.inl (by rw[ao];omega)))
    ·have uE:¬(n:a2)<128:=by omega
     simp(disch:=omega)only[aj,ak,QS,Qx,↓ab,hn,h6,uE]
     exact out _ (by simp only[ag,hn]) (by simp only[ad,↓ab,Qx,h0]) (by simp only[ad,↓ab,Qx,h4]) (by simp only[ad,↓ab,Qx,h3]) (by simp only[ad,↓ab,Qx,h6]) (.inl (by omega))
   ·clear hn h0 h4 h3 f
    rintro _ f s1 ⟨rfl,hn,h0,h4,h3,h6,rfl⟩
    rw[nW cH h3'] at we
    generalize kp:dm (l.drop i)=n at*
    have dx:=nk.p9 (lo:=i) (hi:=i+n) (by omega) (by omega)
    have e2:((i:a2)+n).toNat=i+n:=by omega
    rw[show i+n-i=n by omega] at dx
    have jS:((l.drop i).take n).length=n:=by rw[cg,ao];omega
    simp(disch:=omega)only[aj,ae,QS,Qx,↓ab,hn,h3,h6,aD,bL b4 a0,fu,aev,gG af bK ks]
    refine aQ (by rfl) ?_
    intro b1 s2 gL BX lz
    have ko:=nk.keeps lz
    simp(disch:=omega)only[aj,ae,ai,QS,Qx,↓ab,hn,h0,h4,h6,aD,ko.GV af bK,e2,ZK bz fT zSl rfl ⟨_,rfl⟩ gL.aG.tk dx.tk]
    refine aQ (by rfl) ?_
    intro b2 s3 dI Ir oB
    simp(disch:=omega)only[aj,ak,aa,QS,Qx,↓ab,hn]
    have ou:=(ho.keeps lz).keeps oB
    have sx:=gL.keeps oB
    have aix:=(dx.keeps lz).keeps oB
    have gz:=ho.iD
    have xG:=lz.next
    have am3:∀j,aI (dJ 1 x i (i+n))=some j->j<s.next:=aew hx (by omega)
    refine(Ee Kb s3 o b2 P [(b1,[cB (n-1)]),(dJ 1 x i (i+n),(l.drop i).take n)] ou dI.aG (fun p hp=> ?_) (fun j hj e=> ?_) (fun p hp j hj e=> ?_) (by simp;omega) (by simp)).mono ?_
    ·simp only[dd,c8,or_false] at hp
     rcases hp with rfl|rfl
     ·exact sx.aG
     ·exact aix
    ·have:=Ir j hj;have:=gz j e;omega
    ·simp only[dd,c8,or_false] at hp
     rcases hp with rfl|rfl
     ·have:=BX j hj;have:=gz j e;omega
     ·have:=pg j e;have:=am3 j hj;omega
    rintro o' s4 ⟨pM,hg⟩
    simp(disch:=omega)only[aj,QS,Qx,↓ab,hn,h4,h6,aD]
    have dO:=((aE.trans (lz.weaken aE.next)).trans (oB.weaken (av aE.next xG)))
    refine ay (l.length-(i+n)) (by omega) ⟨i+n,o',_,rfl,by omega,?_,?_,pM,hg.fresh pg dO.next,dO.trans (hg.stay pg dO.next),by simp only[ag,hn],by simp only[ad,↓ab,Qx,h0],by simp only[ad,↓ab];rfl,by simp only[ad,↓ab,Qx]⟩
    ·simp[jS];omega
    ·simpa [cf] using we
 ·simp(disch:=omega)only[aj,aa,ae,QS,Qx,↓ab,hn,h0,h4,h3,bd,nk.bm af,gG af bK ks]
  obtain rfl:i=l.length:=by omega
  refine bG af bK jW ks rfl ho (by simp only[ad,↓ab]) (by decide) (by simp only[ag,hn];decide) (by simp only[ag,hn];decide) rfl (by decide) rfl (by omega) (by omega) pg aE.next ?_
  intro bs o' s2 pM vB dO _ _
  simp(disch:=omega)only[aj,al,oneOf,QS,↓ab,hn,Tryz.results81]
  rw[List.drop_length,lJ] at we
  refine⟨?_,vB,aE.trans dO⟩
  rw[<-we,br,an]
  exact pM
end Go.Proofs.YtdfjfncifneocaaGreat
