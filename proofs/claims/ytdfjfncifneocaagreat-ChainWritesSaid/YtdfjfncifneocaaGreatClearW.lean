import Derived.Test.YtdfjfncifneocaaGreatClone
import Derived.Test.YtdfjfncifneocaaGreatCutA
import Derived.Test.YtdfjfncifneocaaGreatPrA
set_option linter.unusedSimpArgs false
set_option linter.unusedVariables false
set_option maxRecDepth 100000
namespace Go.Proofs.YtdfjfncifneocaaGreat
open Go.Cl
theorem Ia (i o c:Nat):az Tryz.prog 63 (.pointer (some ⟨i,o,some c⟩)) 0=some (.pointer (some ⟨i,o+0,some c⟩)):=by
 unfold az;rw[Tryz.underlying63];simp[Ma]
theorem QN (i o c:Nat):az Tryz.prog 63 (.pointer (some ⟨i,o,some c⟩)) 1=some (.pointer (some ⟨i,o+1,some c⟩)):=by
 unfold az;rw[Tryz.underlying63];simp[eO]
def Else (base:Nat)(a b c:Value)(j:Nat):Prop:=base<=j/\aJ a≠some j/\aJ b≠some j/\aJ c≠some j
def Mb (s:aq)(o:O)(v:Value)(s' :aq):Prop:=∃(bv lv dv:Value) (LC DC:List Value),v= .agg #[.int .i64 o.kind,.int .i64 o.num,bv,lv,dv]/\Own s' 1 bv o.bytes.length (ofBytes o.bytes)/\Own s' 5 lv o.items.length LC/\Own s' 6 dv o.xP.length DC/\aN s.next bv/\aN s.next lv/\aN s.next dv/\
 (∀j,aJ bv=some j->aJ lv≠some j)/\(∀j,aJ bv=some j->aJ dv≠some j)/\(∀j,aJ lv=some j->aJ dv≠some j)/\aL dr 5 (Else s.next bv lv dv) s' o.items LC/\aL cu 6 (Else s.next bv lv dv) s' o.xP DC/\ar s.next s s'
theorem Mb.is {s s' :aq}{o:O}{v:Value}(h:Mb s o v s'):gz s o v s' :=by
 obtain⟨bv,lv,dv,LC,DC,rfl,h1,h2,h3,f1,f2,f3,-,-,-,r1,r2,hs⟩:=h
 cases o with
 |mk k n b l d=>exact⟨[.int .i64 k,.int .i64 n,bv,lv,dv],rfl,dr.whole h1.aH h2.aH h3.aH (dO.fresh f1) (dO.fresh f2) (dO.fresh f3) (r1.mono bH fun j h=>h.1) (r2.mono bV fun j h=>h.1),hs⟩
set_option maxHeartbeats 8000000 in
theorem ZA {lib:ay}(hl:lib.at 98=none)(nF:lib.at 36=none):∀(N:Nat) (o:O),SizeOf.sizeOf o<=N->∀(F:Nat->Prop) (s:aq) (cs:List Value),dr F s cs o->Fit o->
  Runs Tryz.prog lib 98 [.agg cs.toArray] s (Mb s o):=by
 intro N
 induction N with
 |zero=>intro o h;cases o;simp at h
 |succ N ih=>
 intro o hN F s cs ho tz
 cases o with
 |mk kind num b l d=>
 obtain⟨bv,lv,dv,lc,dc,rfl,hb,hL,hD,fb,fl,fd,rl,rd⟩:=ho.parts
 cases tz with
 |mk jv oP Fj hK1 Vb Sf=>
 refine Runs.enter 51 Tryz.func98 rfl hl rfl rfl ?_
 intro f hn hf
 have h0:f.get 0= .agg #[.int .i64 kind,.int .i64 num,bv,lv,dv]:=hf 0
 clear hf
 simp-implicitDefEqProofs(disch:=omega)only[ai,Nat.reduceLT,↓reduceIte,hn,h0]
 refine aw ?_
 intro s1 fa bB jb
 have il:cr.length+1=6:=rfl
 simp-implicitDefEqProofs(disch:=omega)only[ai,Nat.reduceLT,Nat.reduceAdd,↓reduceIte,hn,List.length_cons,List.length_nil,zO,oQ]
 refine aw ?_
 intro s2 fm bD na
 have lD:=fa.keeps bD
 have df:ar s.next s s2:=bB.trans (bD.weaken (by omega))
 have eR:=hb.keeps df
 simp-implicitDefEqProofs(disch:=omega)only[ai,Nat.reduceLT,↓reduceIte,hn,il]
 obtain⟨A,hA⟩:∃A:Nat->Bool,A=fun j=>decide (j<s2.next):=⟨_,rfl⟩
 have ef:∀j,A j=true->j<s2.next:=by
  intro j h
  rw[hA] at h
  exact of_decide_eq_true h
 have gW:∀j,j<s2.next->A j=true:=fun j h=>by rw[hA];exact decide_eq_true h
 refine LB.cF.dy A ef 1 1 (by kernel_rfl) (by kernel_rfl) ?_
 have db:=ar.spare s2 1
 have F1:(spare s2 1).next=s2.next+1:=bT _ _
 have uJ:=lD.keeps db
 have gC:∀k,LA.dB A (some (.pointer (some ⟨s.next,k,some 6⟩)))=true:=fun k=>LA.bY (A:=A) (i:=s.next) (gW _ lD.lt)
 have l0:aG Tryz.prog (spare s2 1) 3 (.pointer (some ⟨s.next,0,some 6⟩))=some (.int .i64 kind):=uJ.load cj (off:=0) (c:=6) rfl (by simp)
 have l1:aG Tryz.prog (spare s2 1) 2 (.pointer (some ⟨s.next,1,some 6⟩))=some (.int .i64 num):=uJ.load L9 (off:=1) (c:=6) rfl (by simp)
 have l2:aG Tryz.prog (spare s2 1) 22 (.pointer (some ⟨s.next,2,some 6⟩))=some bv:=uJ.load mV (off:=2) (c:=6) rfl (by simp)
 simp-implicitDefEqProofs(disch:=omega)only[ai,aj,bn,bp,Nat.sub_self,ad,ag,Nat.reduceLT,Nat.reduceEqDiff,↓reduceIte,hn,zn,X5,WB,gC,l0,l1,l2,eR.self]
 refine(EA nF (spare s2 1) bv b (eR.keeps db) (by omega)).mono ?_
 rintro iB s3 ⟨zZ,GB,cf⟩
 have td:=cf.next
 refine⟨fun _=>LA.ar.lM ef (cf.weaken (by omega)),?_⟩
 have uK:bX (.agg #[.int .i64 kind,.int .i64 num,iB,.slice none 0 0,.slice none 0 0]) (.agg #[.int .i64 kind,.int .i64 num,iB,.slice none 0 0,.slice none 0 0])=true:=uI (by simp[cW]) (by simp[cW]) zZ.aH.H2 (by simp[cW]) (by simp[cW])
 simp-implicitDefEqProofs(disch:=omega)only[ai,bp,Nat.reduceLT,↓reduceIte,hn,bO3 kind num zZ.aH.kg,uK,zO,oQ]
 refine LB.vJ (by omega) ?_
 intro s4 fU lN jc
 simp-implicitDefEqProofs(disch:=omega)only[ai,bp,Nat.reduceLT,Nat.reduceEqDiff,↓reduceIte,hn,il]
 have WE:=zZ.aH.aO
 refine LB.fB eO (by decide) fU rfl rfl rfl (by simp only[List.all_cons,List.all_nil,WE];rfl) (fun h=>absurd rfl h) ?_
 intro s5 sm Kp sn
 have sm:av s5 s2.next [.int .i64 kind,.int .i64 num,iB,.slice none 0 0,.slice none 0 0]:=sm
 have mw:ar s2.next s2 s5:=((db.trans (cf.weaken (by omega))).trans ⟨by omega,fun j hj=>jc j (by omega)⟩).trans ⟨by omega,fun j hj=>sn j (by omega)⟩
 have vX:ar s.next s s5:=df.trans (mw.weaken (by omega))
 have H4:Own s5 1 iB b.length (ofBytes b):=(zZ.bc lN jc (fun e=>by have:=GB _ e;omega)).bc Kp sn (fun e=>by have:=GB _ e;omega)
 have L0:∀j,aJ iB=some j->s2.next+1<=j/\j<s5.next:=fun j hj=>⟨by have:=GB j hj;omega,H4.jh j hj⟩
 have H5:=lD.keeps mw
 have Kq:=fm.keeps mw
 have ZB:=hL.keeps vX
 have l6:aG Tryz.prog s5 23 (.pointer (some ⟨s.next,3,some 6⟩))=some lv:=H5.load wu (off:=3) (c:=6) rfl (by simp)
 simp-implicitDefEqProofs(disch:=omega)only[ai,bp,Nat.reduceSub,ad,Nat.reduceLT,Nat.reduceEqDiff,↓reduceIte,hn,Ex,l6,ZB.aV Tryz.underlying23]
 obtain⟨FF,tE⟩:∃FF:Value->Nat->Prop,FF=fun v j=>s5.next<=j/\¬(fun _=>False) j/\aJ v≠some j:=⟨_,rfl⟩
 have nH:=bD.next
 have adi:=mw.next
 have B7:s2.next<s5.next:=sm.lt
 refine Comes.bC (fun z f s6=>∃(i:Nat) (y:Value) (LC:List Value),z=l.length-i/\i<=l.length/\Own s6 5 y i LC/\aL dr 5 (FF y) s6 (l.take i) LC/\aN s5.next y/\Own s6 1 iB b.length (ofBytes b)/\av s6 s.next [.int .i64 kind,.int .i64 num,bv,lv,dv]/\av s6 s1.next cr/\av s6 s2.next [.int .i64 kind,.int .i64 num,iB,y,.slice none 0 0]/\ar s.next s s6/\s5.next<=s6.next/\f.n=51/\f.get 1= .pointer (some ⟨s.next,0,some 6⟩)/\f.get 2= .pointer (some ⟨s1.next,0,some 6⟩)/\f.get 3= .pointer (some ⟨s2.next,0,some 6⟩)/\f.get 17=lv/\f.get 18= .int .i64 (l.length:Nat)/\f.get 19= .int .i64 (i:Nat))
  (fun z f s6=>z= .exit 0/\∃(y:Value) (LC:List Value),Own s6 5 y l.length LC/\aL dr 5 (FF y) s6 l LC/\aN s5.next y/\Own s6 1 iB b.length (ofBytes b)/\av s6 s.next [.int .i64 kind,.int .i64 num,bv,lv,dv]/\av s6 s1.next cr/\av s6 s2.next [.int .i64 kind,.int .i64 num,iB,y,.slice none 0 0]/\ar s.next s s6/\s5.next<=s6.next/\f.n=51/\f.get 1= .pointer (some ⟨s.next,0,some 6⟩)/\f.get 2= .pointer (some ⟨s1.next,0,some 6⟩)/\f.get 3= .pointer (some ⟨s2.next,0,some 6⟩))
  ⟨0,.slice none 0 0,[],rfl,by omega,.nil,by rw[List.take_zero];exact aL.nil,aN.nil _,H4,H5,Kq,sm,vX,Nat.le_refl _,by simp only[ae,hn],by simp only[aa,↓reduceIte,Nat.reduceEqDiff],by simp only[aa,↓reduceIte,Nat.reduceEqDiff],by simp only[aa,↓reduceIte,Nat.reduceEqDiff],by simp only[aa,↓reduceIte,Nat.reduceEqDiff],by simp only[aa,↓reduceIte,Nat.reduceEqDiff],by simp only[aa,↓reduceIte];rfl⟩ ?_ ?_
 ·clear hn h0 f uK fU sm jc sn zZ H4 H5 Kq l0 l1 l2 l6 gC uJ ef gW hA A
  rintro Q hQ z f s6 ⟨i,y,LC,rfl,hi,hy,hR,iQ,qX,nq,jK,fv,dF,F3,hn,h1,h2,h3,BK,GA,TK⟩
  have nK:=hL.keeps dF
  by_cases aP:i<l.length
  rotate_left
  ·obtain rfl:i=l.length:=by omega
   rw[List.take_length] at hR
   have d1:¬((l.length:Nat):Int)<((l.length:Nat):Int):=by omega
   simp-implicitDefEqProofs(disch:=omega)only[ai,Nat.reduceLT,↓reduceIte,hn,GA,TK,eq_false d1]
   exact hQ _ _ _ ⟨rfl,y,LC,hy,hR,iQ,qX,nq,jK,fv,dF,F3,by simp only[ae,hn],by simp only[aa,↓reduceIte,Nat.reduceEqDiff,h1],by simp only[aa,↓reduceIte,Nat.reduceEqDiff,h2],by simp only[aa,↓reduceIte,Nat.reduceEqDiff,h3]⟩
  have pQ:aJ y≠some s2.next:=fun e=>by have:=iQ _ e;omega
  have d1:(i:Int)<(l.length:Int):=by omega
  have dI:=nK.indexAddr (P:=Tryz.prog) (k:= .i64) (x:=(i:Int)) Tryz.underlying23 eO (by omega) (by omega)
  rw[Int.toNat_natCast] at dI
  have fM:=nK.eF (P:=Tryz.prog) ua eO aP
  have oL:=(rl.row i aP).keeps dF
  obtain⟨xs,qM⟩:∃xs,xs=(lc.drop (i*5)).take 5:=⟨_,rfl⟩
  rw[<-qM] at fM oL
  have u7:=oL.len
  simp-implicitDefEqProofs(disch:=omega)only[ai,Nat.reduceLT,Nat.reduceEqDiff,↓reduceIte,hn,BK,GA,TK,eq_true d1,dI,fM,zO,oQ]
  refine aw ?_
  intro s7 og fH kA
  simp-implicitDefEqProofs(disch:=omega)only[ai,Nat.reduceLT,Nat.reduceEqDiff,↓reduceIte,hn,il]
  refine aE eO (by decide) og rfl rfl u7 oL.ok ?_
  intro s8 yY uL qo
  have yY:av s8 s6.next xs:=yY
  have iJ:ar s6.next s6 s8:=fH.trans ⟨by omega,fun j hj=>qo j (by omega)⟩
  have nq:=nq.keeps iJ
  have jK:=jK.keeps iJ
  have fv:=fv.keeps iJ
  have hy:=hy.keeps iJ
  have hR:=hR.keeps bH iJ
  have qX:=qX.keeps iJ
  have oL:=oL.keeps iJ
  simp-implicitDefEqProofs(disch:=omega)only[ai]
  obtain⟨A,hA⟩:∃A:Nat->Bool,A=fun j=>decide (j<s8.next):=⟨_,rfl⟩
  have ef:∀j,A j=true->j<s8.next:=by
   intro j h
   rw[hA] at h
   exact of_decide_eq_true h
  have gW:∀j,j<s8.next->A j=true:=fun j h=>by rw[hA];exact decide_eq_true h
  refine LB.cF.dy A ef 1 1 (by kernel_rfl) (by kernel_rfl) ?_
  have db:=ar.spare s8 1
  have F1:(spare s8 1).next=s8.next+1:=bT _ _
  have nZ:∀k,LA.dB A (some (.pointer (some ⟨s2.next,k,some 6⟩)))=true:=fun k=>LA.bY (A:=A) (i:=s2.next) (gW _ fv.lt)
  have ub:∀k,LA.dB A (some (.pointer (some ⟨s6.next,k,some 6⟩)))=true:=fun k=>LA.bY (A:=A) (i:=s6.next) (gW _ yY.lt)
  have l8:aG Tryz.prog (spare s8 1) 23 (.pointer (some ⟨s2.next,3,some 6⟩))=some y:=(fv.keeps db).load wu (off:=3) (c:=6) rfl (by simp)
  have l9:aG Tryz.prog (spare s8 1) 26 (.pointer (some ⟨s6.next,0,some 6⟩))=some (.agg xs.toArray):=av.cY ua (by rw[u7];exact eO) (yY.keeps db) (by rw[u7])
  have oL:=oL.keeps db
  simp-implicitDefEqProofs(disch:=omega)only[ai,aj,bn,bp,Nat.sub_self,ad,ag,Nat.reduceLT,Nat.reduceEqDiff,↓reduceIte,hn,h3,Ex,nZ,ub,l8,l9,hy.self,oL.self]
  refine(ih l[i] (by have:=O.wi (k:=kind) (n:=num) (b:=b) (l:=l) (d:=d) (List.getElem_mem aP);omega) F (spare s8 1) _ oL (Vb _ (List.getElem_mem aP))).mono ?_
  intro v9 s9 h9
  obtain⟨xU,rfl,lQ,nv⟩:=h9.is
  have Zr:=nv.next
  refine⟨fun _=>LA.ar.lM ef (nv.weaken (by omega)),?_⟩
  have uW:=lQ.len
  simp-implicitDefEqProofs(disch:=omega)only[dY (cs:=xU.toArray) Tryz.underlying23 eO zO oQ rfl uW (by decide)]
  refine LB.bF (base:=s8.next) uW (by omega) (Nat.le_refl _) ?_
  intro bs sa pS fc QO uM sq
  have ie:ar s8.next s8 sa:=(db.trans (nv.weaken (by omega))).trans QO
  have AG:=ie.next
  have CQ:dr (FF y) sa xU l[i]:=by
   refine(lQ.turns (u:= .pointer (some ⟨s8.next,0,none⟩)) (bm.bc uM sq) (fun j hj e=> ?_)).mono (fun j hj=> ?_)
   ·have e:some s8.next=some j:=e
    injection e with e;omega
   ·rw[tE];exact⟨by omega,fun h=>h,fun e=>by have:=hy.jh _ e;omega⟩
  simp-implicitDefEqProofs(disch:=omega)only[ai,bp,ad,Nat.reduceLT,Nat.reduceEqDiff,↓reduceIte,hn]
  refine LB.cZ Tryz.underlying23 Tryz.underlying23 (.inl ⟨_,rfl⟩) eO WA zO rfl (hy.keeps ie) pS.aH.src uW (by decide) CQ.ok (by omega) (by omega) (base:=s5.next) iQ (by omega) (fun h=>absurd rfl h) (fun j hj=>by have:=ef j hj;omega) ?_
  intro y' sb WL Vf oM nJ
  have PN:=oM.next
  have H6:=hR.keeps bH ie
  rw[tE] at H6 CQ
  have F4:=H6.grow bH uW CQ oM nJ
  rw[show(fun j=>s5.next<=j/\¬(fun _=>False) j/\aJ y' ≠some j)=FF y' by rw[tE]] at F4
  have GQ:∀j,aJ y=some j->s5.next<=j:=iQ
  have WM:Own sb 1 iB b.length (ofBytes b):=(qX.keeps ie).turns oM (fun j hj e=>by have:=(L0 j hj).2;have:=GQ _ e;omega)
  have WN:aJ y' ≠some s2.next:=fun e=>by have:=Vf _ e;omega
  simp-implicitDefEqProofs(disch:=omega)only[ai,bn,bp,Nat.reduceSub,Nat.reduceLT,Nat.reduceEqDiff,↓reduceIte,hn,h3,Ex]
  refine LB.dX wq (by decide) ((fv.keeps ie).turns oM pQ) (off:=3) (c:=6) rfl (vs:=[y']) WL.aH.kg rfl (by simp) (by simp[WL.aH.aO]) (fun h=>absurd rfl h) ?_
  intro sc uj wB sw
  have uj:av sc s2.next [.int .i64 kind,.int .i64 num,iB,y',.slice none 0 0]:=uj
  have X7:bm (.pointer (some ⟨s2.next,0,none⟩)) sb sc:=bm.bc wB sw
  have N1:∀j,FF y' j->aJ (.pointer (some ⟨s2.next,0,none⟩))≠some j:=fun j hj e=>by
   have e:some s2.next=some j:=e
   injection e with e
   rw[tE] at hj;have:=hj.1;omega
  simp-implicitDefEqProofs(disch:=omega)only[ai,bp,Nat.reduceSub,Nat.reduceLT,Nat.reduceEqDiff,↓reduceIte,hn,TK,aD]
  refine au (l.length-(i+1)) (by omega) ⟨i+1,y',LC++xU,rfl,by omega,WL.bc wB sw WN,?_,Vf,WM.bc wB sw (fun e=>by have:=(L0 _ e).1;omega),((nq.keeps ie).turns oM (fun e=>by have:=GQ _ e;omega)).bc wB sw (by omega),((jK.keeps ie).turns oM (fun e=>by have:=GQ _ e;omega)).bc wB sw (by omega),uj,?_,by omega,by simp only[ae,hn],by simp only[aa,↓reduceIte,Nat.reduceEqDiff,h1],by simp only[aa,↓reduceIte,Nat.reduceEqDiff,h2],by simp only[aa,↓reduceIte,Nat.reduceEqDiff,h3],by simp only[aa,↓reduceIte,Nat.reduceEqDiff,BK],by simp only[aa,↓reduceIte,Nat.reduceEqDiff,GA],by simp only[aa,↓reduceIte];rfl⟩
  ·rw[List.take_add_one,List.getElem?_eq_getElem aP]
   exact F4.turns bH X7 N1
  ·exact(((dF.trans (iJ.weaken dF.next)).trans (ie.weaken (by have:=dF.next;have:=iJ.next;omega))).trans ((oM.keeps iQ (by omega)).weaken vX.next)).trans ⟨by omega,fun j hj=>sw j (by omega)⟩
 clear hn h0 f uK fU sm jc sn zZ H4 H5 Kq l0 l1 l2 l6 gC uJ ef gW hA A
 rintro z f s6 ⟨rfl,y,LC,F5,hR,iQ,qX,nq,jK,fv,dF,F3,hn,h1,h2,h3⟩
 have TG:=hD.keeps dF
 have l6:aG Tryz.prog s6 24 (.pointer (some ⟨s.next,4,some 6⟩))=some dv:=nq.load wx (off:=4) (c:=6) rfl (by simp)
 simp-implicitDefEqProofs(disch:=omega)only[ai,ad,Nat.reduceLT,↓reduceIte,hn,h1,B6,l6,TG.aV Tryz.underlying24]
 have CY:∀j,aJ y=some j->s5.next<=j/\j<s6.next:=fun j hj=>⟨iQ j hj,F5.jh j hj⟩
 have QP:=hR.below bH
 obtain⟨FI,hFI⟩:∃FI:Nat->Prop,FI=fun j=>FF y j/\j<s6.next:=⟨_,rfl⟩
 rw[<-hFI] at QP
 have Kt:∀j,FI j->s5.next<=j/\j<s6.next/\aJ y≠some j:=fun j hj=>by rw[hFI,tE] at hj;exact⟨hj.1.1,hj.2,hj.1.2.2⟩
 obtain⟨FE,X8⟩:∃FE:Value->Nat->Prop,FE=fun v j=>s6.next<=j/\¬(fun _=>False) j/\aJ v≠some j:=⟨_,rfl⟩
 clear hFI hR l6
 clear tE FF
 refine Comes.bC (fun z f t6=>∃(i:Nat) (w:Value) (DC:List Value),z=d.length-i/\i<=d.length/\Own t6 6 w i DC/\aL cu 6 (FE w) t6 (d.take i) DC/\aN s6.next w/\Own t6 1 iB b.length (ofBytes b)/\Own t6 5 y l.length LC/\aL dr 5 FI t6 l LC/\av t6 s1.next cr/\av t6 s2.next [.int .i64 kind,.int .i64 num,iB,y,w]/\ar s.next s t6/\s6.next<=t6.next/\f.n=51/\f.get 2= .pointer (some ⟨s1.next,0,some 6⟩)/\f.get 3= .pointer (some ⟨s2.next,0,some 6⟩)/\f.get 32=dv/\f.get 33= .int .i64 (d.length:Nat)/\f.get 34= .int .i64 (i:Nat))
  (fun z f t6=>z= .exit 2/\∃(w:Value) (DC:List Value),Own t6 6 w d.length DC/\aL cu 6 (FE w) t6 d DC/\aN s6.next w/\Own t6 1 iB b.length (ofBytes b)/\Own t6 5 y l.length LC/\aL dr 5 FI t6 l LC/\av t6 s1.next cr/\av t6 s2.next [.int .i64 kind,.int .i64 num,iB,y,w]/\ar s.next s t6/\s6.next<=t6.next/\f.n=51/\f.get 2= .pointer (some ⟨s1.next,0,some 6⟩)/\f.get 3= .pointer (some ⟨s2.next,0,some 6⟩))
  ⟨0,.slice none 0 0,[],rfl,by omega,.nil,by rw[List.take_zero];exact aL.nil,aN.nil _,qX,F5,QP,jK,fv,dF,Nat.le_refl _,by simp only[ae,hn],by simp only[aa,↓reduceIte,Nat.reduceEqDiff,h2],by simp only[aa,↓reduceIte,Nat.reduceEqDiff,h3],by simp only[aa,↓reduceIte,Nat.reduceEqDiff],by simp only[aa,↓reduceIte,Nat.reduceEqDiff],by simp only[aa,↓reduceIte];rfl⟩ ?_ ?_
 ·clear hn h1 h2 h3 f nq jK fv qX F5 QP iQ
  rintro Q hQ z f t6 ⟨i,w,DC,rfl,hi,hw,NX,lF,qX,F5,QP,jK,fv,dF,X6,hn,h2,h3,Si,Sj,TL⟩
  have TG:=hD.keeps dF
  by_cases aP:i<d.length
  rotate_left
  ·obtain rfl:i=d.length:=by omega
   rw[List.take_length] at NX
   have d1:¬((d.length:Nat):Int)<((d.length:Nat):Int):=by omega
   simp-implicitDefEqProofs(disch:=omega)only[ai,Nat.reduceLT,↓reduceIte,hn,Sj,TL,eq_false d1]
   exact hQ _ _ _ ⟨rfl,w,DC,hw,NX,lF,qX,F5,QP,jK,fv,dF,X6,by simp only[ae,hn],by simp only[aa,↓reduceIte,Nat.reduceEqDiff,h2],by simp only[aa,↓reduceIte,Nat.reduceEqDiff,h3]⟩
  have I9:aJ w≠some s2.next:=fun e=>by have:=lF _ e;omega
  have d1:(i:Int)<(d.length:Int):=by omega
  have dI:=TG.indexAddr (P:=Tryz.prog) (k:= .i64) (x:=(i:Int)) Tryz.underlying24 jx (by omega) (by omega)
  rw[Int.toNat_natCast] at dI
  have fM:=TG.eF (P:=Tryz.prog) I7 jx aP
  obtain⟨r,kH,iT,yh⟩:=rd.row i aP
  have nG:=iT.len
  have oL:=iT.keeps dF
  rw[kH] at fM
  obtain⟨xs,qM⟩:∃xs,xs=Value.string ⟨(d[i].1).toArray⟩::r:=⟨_,rfl⟩
  rw[<-qM] at fM
  have u7:xs.length=6:=by rw[qM];simp[nG]
  have QR:xs.all aO=true:=by rw[qM,List.all_cons,iT.ok];rfl
  have uN:bX (.agg xs.toArray) (.agg xs.toArray)=true:=by
   have:=iT.self
   rw[qM]
   match r,nG,this with
   |[a,b,c,d,e],_,this=>
    simp[bX,gp] at this|-
    exact⟨by simp[cW],this⟩
  simp-implicitDefEqProofs(disch:=omega)only[ai,Nat.reduceLT,Nat.reduceEqDiff,↓reduceIte,hn,Si,Sj,TL,eq_true d1,dI,fM,zE,Du]
  refine aw ?_
  intro s7 og fH kA
  have TM:wm.length+1=7:=rfl
  simp-implicitDefEqProofs(disch:=omega)only[ai,Nat.reduceLT,Nat.reduceEqDiff,↓reduceIte,hn,TM]
  refine aE jx (by decide) og rfl rfl u7 QR ?_
  intro s8 yY uL qo
  have yY:av s8 t6.next xs:=yY
  have iJ:ar t6.next t6 s8:=fH.trans ⟨by omega,fun j hj=>qo j (by omega)⟩
  have jK:=jK.keeps iJ
  have fv:=fv.keeps iJ
  have hw:=hw.keeps iJ
  have NX:=NX.keeps bV iJ
  have QP:=QP.keeps bH iJ
  have qX:=qX.keeps iJ
  have F5:=F5.keeps iJ
  have oL:=oL.keeps iJ
  have ahE:=iJ.next
  simp-implicitDefEqProofs(disch:=omega)only[ai]
  obtain⟨A,hA⟩:∃A:Nat->Bool,A=fun j=>decide (j<s8.next):=⟨_,rfl⟩
  have ef:∀j,A j=true->j<s8.next:=by
   intro j h
   rw[hA] at h
   exact of_decide_eq_true h
  have gW:∀j,j<s8.next->A j=true:=fun j h=>by rw[hA];exact decide_eq_true h
  refine LB.cF.dy A ef 1 1 (by kernel_rfl) (by kernel_rfl) ?_
  have db:=ar.spare s8 1
  have F1:(spare s8 1).next=s8.next+1:=bT _ _
  have nZ:∀k,LA.dB A (some (.pointer (some ⟨s2.next,k,some 6⟩)))=true:=fun k=>LA.bY (A:=A) (i:=s2.next) (gW _ fv.lt)
  have Mc:∀k,LA.dB A (some (.pointer (some ⟨t6.next,k,some 7⟩)))=true:=fun k=>LA.bY (A:=A) (i:=t6.next) (gW _ yY.lt)
  have l8:aG Tryz.prog (spare s8 1) 24 (.pointer (some ⟨s2.next,4,some 6⟩))=some w:=(fv.keeps db).load wx (off:=4) (c:=6) rfl (by simp)
  have l9:aG Tryz.prog (spare s8 1) 9 (.pointer (some ⟨t6.next,0,some 7⟩))=some (.string ⟨(d[i].1).toArray⟩):=by
   have:=(yY.keeps db).load (P:=Tryz.prog) np (off:=0) (c:=7) (by rw[u7]) (by omega)
   rw[this,qM];rfl
  have l10:aG Tryz.prog (spare s8 1) 26 (.pointer (some ⟨t6.next,1,some 7⟩))=some (.agg r.toArray):=by
   have:=av.tn (P:=Tryz.prog) ua eO (yY.keeps db) (off:=1) (c:=7) (by rw[u7]) (by omega)
   rw[this,qM,List.drop_succ_cons,List.drop_zero,List.take_of_length_le (by omega)]
  have oL:=oL.keeps db
  simp-implicitDefEqProofs(disch:=omega)only[ai,aj,bn,bp,Nat.sub_self,ad,ag,Nat.reduceLT,Nat.reduceEqDiff,↓reduceIte,hn,h3,B6,Ia,QN,nZ,Mc,l8,l9,l10,hw.self,oL.self]
  refine(ih d[i].2 (by have:=O.wj (k:=kind) (n:=num) (b:=b) (l:=l) (d:=d) (List.getElem_mem aP);omega) F (spare s8 1) _ oL (Sf _ (List.getElem_mem aP))).mono ?_
  intro v9 s9 h9
  obtain⟨xU,rfl,lQ,nv⟩:=h9.is
  have Zr:=nv.next
  refine⟨fun _=>LA.ar.lM ef (nv.weaken (by omega)),?_⟩
  have uW:=lQ.len
  obtain⟨es,mM⟩:∃es,es=Value.string ⟨(d[i].1).toArray⟩::xU:=⟨_,rfl⟩
  have lj:es.length=6:=by rw[mM];simp[uW]
  have WO:bX (.agg es.toArray) (.agg es.toArray)=true:=by
   have:=lQ.self
   rw[mM]
   match xU,uW,this with
   |[a,b,c,d,e],_,this=>
    simp[bX,gp] at this|-
    exact⟨by simp[cW],this⟩
  have H7:=bE d[i].1 uW
  rw[<-mM] at H7
  simp-implicitDefEqProofs(disch:=omega)only[ai,bp,ag,Nat.reduceLT,↓reduceIte,hn,H7,WO,dY (cs:=es.toArray) Tryz.underlying24 jx zE Du rfl lj (by decide)]
  refine LB.bF (base:=s8.next) lj (by omega) (Nat.le_refl _) ?_
  intro bs sa pS fc QO uM sq
  have ie:ar s8.next s8 sa:=(db.trans (nv.weaken (by omega))).trans QO
  have AG:=ie.next
  have CQ:cu (FE w) sa es d[i]:=by
   refine⟨xU,mM,(lQ.turns (u:= .pointer (some ⟨s8.next,0,none⟩)) (bm.bc uM sq) (fun j hj e=> ?_)).mono (fun j hj=> ?_),yh⟩
   ·have e:some s8.next=some j:=e
    injection e with e;omega
   ·rw[X8];exact⟨by omega,fun h=>h,fun e=>by have:=hw.jh _ e;omega⟩
  have pz:es.all aO=true:=by rw[mM,List.all_cons,lQ.ok];rfl
  simp-implicitDefEqProofs(disch:=omega)only[ai,bp,ad,Nat.reduceLT,Nat.reduceEqDiff,↓reduceIte,hn]
  refine LB.cZ Tryz.underlying24 Tryz.underlying24 (.inl ⟨_,rfl⟩) jx Va zE rfl (hw.keeps ie) pS.aH.src lj (by decide) pz (by omega) (by omega) (base:=s6.next) lF (by omega) (fun h=>absurd rfl h) (fun j hj=>by have:=ef j hj;omega) ?_
  intro w' sb hwb Vf oM nJ
  have PN:=oM.next
  have QE:=NX.keeps bV ie
  rw[X8] at QE CQ
  have QF:=QE.grow bV lj CQ oM nJ
  rw[show(fun j=>s6.next<=j/\¬(fun _=>False) j/\aJ w' ≠some j)=FE w' by rw[X8]] at QF
  have ZC:∀j,aJ w=some j->s6.next<=j:=lF
  have WM:Own sb 1 iB b.length (ofBytes b):=(qX.keeps ie).turns oM (fun j hj e=>by have:=(L0 j hj).2;have:=ZC _ e;omega)
  have adr:Own sb 5 y l.length LC:=(F5.keeps ie).turns oM (fun j hj e=>by have:=(CY j hj).2;have:=ZC _ e;omega)
  have ads:=(QP.keeps bH ie).turns bH oM (fun j hj e=>by have:=(Kt j hj).2.1;have:=ZC _ e;omega)
  have adt:aJ w' ≠some s2.next:=fun e=>by have:=Vf _ e;omega
  simp-implicitDefEqProofs(disch:=omega)only[ai,bn,bp,Nat.reduceSub,Nat.reduceLT,Nat.reduceEqDiff,↓reduceIte,hn,h3,B6]
  refine LB.dX wv (by decide) ((fv.keeps ie).turns oM I9) (off:=4) (c:=6) rfl (vs:=[w']) hwb.aH.kg rfl (by simp) (by simp[hwb.aH.aO]) (fun h=>absurd rfl h) ?_
  intro sc uj wB sw
  have uj:av sc s2.next [.int .i64 kind,.int .i64 num,iB,y,w']:=uj
  have X7:bm (.pointer (some ⟨s2.next,0,none⟩)) sb sc:=bm.bc wB sw
  have N1:∀j,s5.next<=j->aJ (.pointer (some ⟨s2.next,0,none⟩))≠some j:=fun j hj e=>by
   have e:some s2.next=some j:=e
   injection e with e
   omega
  simp-implicitDefEqProofs(disch:=omega)only[ai,bp,Nat.reduceSub,Nat.reduceLT,Nat.reduceEqDiff,↓reduceIte,hn,TL,aD]
  refine au (d.length-(i+1)) (by omega) ⟨i+1,w',DC++es,rfl,by omega,hwb.bc wB sw adt,?_,Vf,WM.bc wB sw (fun e=>by have:=(L0 _ e).1;omega),adr.bc wB sw (fun e=>by have:=(CY _ e).1;omega),ads.turns bH X7 (fun j hj=>N1 j (Kt j hj).1),((jK.keeps ie).turns oM (fun e=>by have:=ZC _ e;omega)).bc wB sw (by omega),uj,?_,by omega,by simp only[ae,hn],by simp only[aa,↓reduceIte,Nat.reduceEqDiff,h2],by simp only[aa,↓reduceIte,Nat.reduceEqDiff,h3],by simp only[aa,↓reduceIte,Nat.reduceEqDiff,Si],by simp only[aa,↓reduceIte,Nat.reduceEqDiff,Sj],by simp only[aa,↓reduceIte];rfl⟩
  ·rw[List.take_add_one,List.getElem?_eq_getElem aP]
   exact QF.turns bV X7 (fun j hj=>N1 j (by rw[X8] at hj;have:=hj.1;omega))
  ·exact(((dF.trans (iJ.weaken dF.next)).trans (ie.weaken (by have:=dF.next;omega))).trans ((oM.keeps lF (by omega)).weaken (by have:=vX.next;omega))).trans ⟨by omega,fun j hj=>sw j (by omega)⟩
 clear hn h1 h2 h3 f nq jK fv qX F5 QP
 rintro z f t6 ⟨rfl,w,DC,hw,NX,lF,qX,F5,QP,jK,fv,fH,X6,hn,h2,h3⟩
 have la:=av.cY (P:=Tryz.prog) (cs:=[.int .i64 kind,.int .i64 num,iB,y,w]) ua eO fv (c:=6) rfl
 have ok1:=qX.aH.aO
 have ok2:=F5.aH.aO
 have ok3:=hw.aH.aO
 simp-implicitDefEqProofs(disch:=omega)only[ai,Nat.reduceLT,Nat.reduceEqDiff,↓reduceIte,hn,h2,h3,la]
 refine aE eO (by decide) jK rfl rfl rfl (by simp only[List.all_cons,List.all_nil,ok1,ok2,ok3];rfl) ?_
 intro s7 og kA jV
 have l7:=av.cY (P:=Tryz.prog) (cs:=[.int .i64 kind,.int .i64 num,iB,y,w]) ua eO og (c:=6) rfl
 simp-implicitDefEqProofs(disch:=omega)only[ai,al,oneOf,Nat.reduceLT,Nat.reduceEqDiff,↓reduceIte,hn,h2,l7,aW,Tryz.results98]
 have QG:bm (.pointer (some ⟨s1.next,0,none⟩)) t6 s7:=bm.bc kA jV
 have NY:∀j,s5.next<=j->aJ (.pointer (some ⟨s1.next,0,none⟩))≠some j:=fun j hj e=>by
  have e:some s1.next=some j:=e
  injection e with e
  omega
 have uT:=vX.next
 refine⟨iB,y,w,LC,DC,rfl,qX.bc kA jV (fun e=>by have:=(L0 _ e).1;omega),F5.bc kA jV (fun e=>by have:=(CY _ e).1;omega),hw.bc kA jV (fun e=>by have:=lF _ e;omega),fun j hj=>by have:=(L0 j hj).1;have:=df.next;omega,fun j hj=>by have:=(CY j hj).1;omega,fun j hj=>by have:=lF j hj;omega,fun j h1 h2=>by have:=(L0 j h1).2;have:=(CY j h2).1;omega,fun j h1 h2=>by have:=(L0 j h1).2;have:=lF j h2;omega,fun j h1 h2=>by have:=(CY j h1).2;have:=lF j h2;omega,?_,?_,fH.trans ⟨by omega,fun j hj=>jV j (by have:=bB.next;omega)⟩⟩
 ·exact(QP.turns bH QG (fun j hj=>NY j (Kt j hj).1)).mono bH (fun j hj=>⟨by have:=(Kt j hj).1;omega,fun e=>by have:=(L0 j e).2;have:=(Kt j hj).1;omega,(Kt j hj).2.2,fun e=>by have:=lF j e;have:=(Kt j hj).2.1;omega⟩)
 ·exact(NX.turns bV QG (fun j hj=>NY j (by rw[X8] at hj;have:=hj.1;omega))).mono bV (fun j hj=>by rw[X8] at hj;exact⟨by have:=hj.1;omega,fun e=>by have:=(L0 j e).2;have:=hj.1;omega,fun e=>by have:=(CY j e).2;have:=hj.1;omega,hj.2.2⟩)
theorem QS {lib:ay}(hl:lib.at 98=none)(nF:lib.at 36=none)(N:Nat)(o:O)(hN:SizeOf.sizeOf o<=N)(F:Nat->Prop)(s:aq)(cs:List Value)(ho:dr F s cs o)(tz:Small o):
  Runs Tryz.prog lib 98 [.agg cs.toArray] s (Mb s o):=ZA hl nF N o hN F s cs ho tz.fit
end Go.Proofs.YtdfjfncifneocaaGreat
set_option linter.unusedSimpArgs false
set_option linter.unusedVariables false
set_option maxRecDepth 100000
namespace Go.Proofs.YtdfjfncifneocaaGreat
open Go.Cl
end Go.Proofs.YtdfjfncifneocaaGreat
set_option linter.unusedSimpArgs false
set_option linter.unusedVariables false
set_option maxRecDepth 100000
namespace Go.Proofs.YtdfjfncifneocaaGreat
open Go.Cl
def Vg (s:aq)(a b:O)(v:Value)(s' :aq):Prop:=wy (gA a b) v/\ar s.next s s'
set_option maxHeartbeats 8000000 in
theorem N2 {lib:ay}(pT:lib.at 25=none)(nF:lib.at 18=none):∀(N:Nat) (a b:O),SizeOf.sizeOf a<=N->∀(F G:Nat->Prop) (s:aq) (ca cb:List Value),dr F s ca a->dr G s cb b->Small a->Small b->
  Runs Tryz.prog lib 25 [.agg ca.toArray,.agg cb.toArray] s (Vg s a b):=by
 intro N
 induction N with
 |zero=>intro o b h;cases o;simp at h
 |succ N ih=>
 intro a b hN F G s ca cb ha hb sa sb
 cases a with
 |mk k n ba l d=>
 cases b with
 |mk k' n' bb l' d' =>
 obtain⟨bv,lv,dv,lc,dc,rfl,jv,Vb,Sf,-,-,-,rl,rd⟩:=ha.parts
 obtain⟨bw,lw,dw,lc',dc',rfl,eR,hL2,X9,-,-,-,rl',X3⟩:=hb.parts
 cases sa with
 |mk x1 x2 x3 x4 x5 x6=>
 cases sb with
 |mk y1 y2 y3 y4 y5 y6=>
 refine Runs.enter 119 Tryz.func25 rfl pT rfl rfl ?_
 intro f hn hf
 have h0:f.get 0= .agg #[.int .i64 k,.int .i64 n,bv,lv,dv]:=hf 0
 have h1:f.get 1= .agg #[.int .i64 k',.int .i64 n',bw,lw,dw]:=hf 1
 clear hf
 simp-implicitDefEqProofs(disch:=omega)only[ai,Nat.reduceLT,↓reduceIte,hn,h0]
 refine aw ?_
 intro s1 fa bB jb
 simp-implicitDefEqProofs(disch:=omega)only[ai,Nat.reduceLT,Nat.reduceEqDiff,Nat.reduceAdd,↓reduceIte,hn,h1,List.length_cons,List.length_nil]
 refine aw ?_
 intro s2 fm bD na
 have lD:=fa.keeps bD
 have df:ar s.next s s2:=bB.trans (bD.weaken (by omega))
 have p0:aG Tryz.prog s2 3 (.pointer (some ⟨s.next,0,some 6⟩))=some (.int .i64 k):=lD.load cj (off:=0) (c:=6) rfl (by simp)
 have p1:aG Tryz.prog s2 2 (.pointer (some ⟨s.next,1,some 6⟩))=some (.int .i64 n):=lD.load L9 (off:=1) (c:=6) rfl (by simp)
 have p2:aG Tryz.prog s2 22 (.pointer (some ⟨s.next,2,some 6⟩))=some bv:=lD.load mV (off:=2) (c:=6) rfl (by simp)
 have p3:aG Tryz.prog s2 23 (.pointer (some ⟨s.next,3,some 6⟩))=some lv:=lD.load wu (off:=3) (c:=6) rfl (by simp)
 have p4:aG Tryz.prog s2 24 (.pointer (some ⟨s.next,4,some 6⟩))=some dv:=lD.load wx (off:=4) (c:=6) rfl (by simp)
 have q0:aG Tryz.prog s2 3 (.pointer (some ⟨s1.next,0,some 6⟩))=some (.int .i64 k'):=fm.load cj (off:=0) (c:=6) rfl (by simp)
 have q1:aG Tryz.prog s2 2 (.pointer (some ⟨s1.next,1,some 6⟩))=some (.int .i64 n'):=fm.load L9 (off:=1) (c:=6) rfl (by simp)
 have q2:aG Tryz.prog s2 22 (.pointer (some ⟨s1.next,2,some 6⟩))=some bw:=fm.load mV (off:=2) (c:=6) rfl (by simp)
 have q3:aG Tryz.prog s2 23 (.pointer (some ⟨s1.next,3,some 6⟩))=some lw:=fm.load wu (off:=3) (c:=6) rfl (by simp)
 have q4:aG Tryz.prog s2 24 (.pointer (some ⟨s1.next,4,some 6⟩))=some dw:=fm.load wx (off:=4) (c:=6) rfl (by simp)
 have OR:=jv.keeps df
 have OS:=eR.keeps df
 have ZD:=Vb.keeps df
 have ZE:=hL2.keeps df
 have WQ:=Sf.keeps df
 have WR:=X9.keeps df
 have oN:∀(f:aR) (s6:aq) (t:Bool),ar s.next s s6->f.n=119->f.get 4= .bool t->(t=true↔gA (.mk k n ba l d) (.mk k' n' bb l' d'))->S3 Tryz.prog Tryz.f25.results.toList (Vg s (.mk k n ba l d) (.mk k' n' bb l' d')) .ret f s6:=by
  intro f s6 t hs hn h4 ht
  simp-implicitDefEqProofs(disch:=omega)only[ai,al,oneOf,Nat.reduceLT,↓reduceIte,hn,h4,Tryz.results25]
  exact⟨⟨t,rfl,ht⟩,hs⟩
 by_cases hk:k=k'
 rotate_left
 ·simp-implicitDefEqProofs(disch:=omega)only[ai,aj,Nat.reduceLT,Nat.reduceEqDiff,Nat.reduceAdd,↓reduceIte,hn,zn,p0,q0,List.length_cons,List.length_nil,eq_false hk]
  exact oN _ _ false df (by simp only[ae,hn]) (by simp only[aa,↓reduceIte]) ⟨fun h=>by(cases h),fun h=>absurd h.inv.1 hk⟩
 subst hk
 by_cases c1:k=1
 ·simp-implicitDefEqProofs(disch:=omega)only[ai,aj,Nat.reduceLT,Nat.reduceEqDiff,Nat.reduceAdd,↓reduceIte,zn,X5,p0,q0,p1,q1,List.length_cons,List.length_nil,hn,eq_true c1]
  exact oN _ _ (decide (n=n')) df (by simp only[ae,hn]) (by simp only[aa,↓reduceIte]) ⟨fun h=> .mk (fun _=>of_decide_eq_true h) (fun h=>by omega) (fun h=>by omega) (fun h=>by omega) (fun h=>by omega) (fun h=>by omega) (fun h=>by omega),fun h=>decide_eq_true (h.inv.2.1 (by omega))⟩
 by_cases c2:k=2
 ·simp-implicitDefEqProofs(disch:=omega)only[ai,aj,Nat.reduceLT,Nat.reduceEqDiff,Nat.reduceAdd,↓reduceIte,hn,zn,X5,p0,q0,p1,q1,List.length_cons,List.length_nil,eq_false c1,eq_true c2]
  exact oN _ _ (decide (n=n')) df (by simp only[ae,hn]) (by simp only[aa,↓reduceIte]) ⟨fun h=> .mk (fun _=>of_decide_eq_true h) (fun h=>by omega) (fun h=>by omega) (fun h=>by omega) (fun h=>by omega) (fun h=>by omega) (fun h=>by omega),fun h=>decide_eq_true (h.inv.2.1 (by omega))⟩
 by_cases c3:k=3
 ·simp-implicitDefEqProofs(disch:=omega)only[ai,aj,Nat.reduceLT,Nat.reduceEqDiff,Nat.reduceAdd,↓reduceIte,hn,zn,X5,p0,q0,p1,q1,List.length_cons,List.length_nil,eq_false c1,eq_false c2,eq_true c3]
  exact oN _ _ (decide (n=n')) df (by simp only[ae,hn]) (by simp only[aa,↓reduceIte]) ⟨fun h=> .mk (fun _=>of_decide_eq_true h) (fun h=>by omega) (fun h=>by omega) (fun h=>by omega) (fun h=>by omega) (fun h=>by omega) (fun h=>by omega),fun h=>decide_eq_true (h.inv.2.1 (by omega))⟩
 by_cases c9:k=9
 ·simp-implicitDefEqProofs(disch:=omega)only[ai,aj,Nat.reduceLT,Nat.reduceEqDiff,Nat.reduceAdd,↓reduceIte,hn,zn,X5,p0,q0,p1,q1,List.length_cons,List.length_nil,eq_false c1,eq_false c2,eq_false c3,eq_true c9]
  exact oN _ _ (decide (n=n')) df (by simp only[ae,hn]) (by simp only[aa,↓reduceIte]) ⟨fun h=> .mk (fun _=>of_decide_eq_true h) (fun h=>by omega) (fun h=>by omega) (fun h=>by omega) (fun h=>by omega) (fun h=>by omega) (fun h=>by omega),fun h=>decide_eq_true (h.inv.2.1 (by omega))⟩
 by_cases c4:k=4
 ·simp-implicitDefEqProofs(disch:=omega)only[ai,aj,ad,Nat.reduceLT,Nat.reduceEqDiff,Nat.reduceAdd,↓reduceIte,hn,zn,WB,p0,q0,p2,q2,List.length_cons,List.length_nil,eq_false c1,eq_false c2,eq_false c3,eq_false c9,eq_true c4]
  refine(Bq nF s2 bv bw ba bb OR OS (by omega) (by omega)).mono ?_
  rintro _ _ ⟨rfl,rfl⟩
  simp-implicitDefEqProofs(disch:=omega)only[ai,Nat.reduceLT,↓reduceIte,hn]
  exact oN _ _ (decide (ba=bb)) df (by simp only[ae,hn]) (by simp only[aa,↓reduceIte]) ⟨fun h=> .mk (fun h=>by omega) (fun _=>of_decide_eq_true h) (fun h=>by omega) (fun h=>by omega) (fun h=>by omega) (fun h=>by omega) (fun h=>by omega),fun h=>decide_eq_true (h.inv.2.2.1 (by omega))⟩
 by_cases c5:k=5
 ·simp-implicitDefEqProofs(disch:=omega)only[ai,aj,ad,Nat.reduceLT,Nat.reduceEqDiff,Nat.reduceAdd,↓reduceIte,hn,zn,WB,p0,q0,p2,q2,List.length_cons,List.length_nil,eq_false c1,eq_false c2,eq_false c3,eq_false c9,eq_false c4,eq_true c5]
  refine(Bq nF s2 bv bw ba bb OR OS (by omega) (by omega)).mono ?_
  rintro _ _ ⟨rfl,rfl⟩
  simp-implicitDefEqProofs(disch:=omega)only[ai,Nat.reduceLT,↓reduceIte,hn]
  exact oN _ _ (decide (ba=bb)) df (by simp only[ae,hn]) (by simp only[aa,↓reduceIte]) ⟨fun h=> .mk (fun h=>by omega) (fun _=>of_decide_eq_true h) (fun h=>by omega) (fun h=>by omega) (fun h=>by omega) (fun h=>by omega) (fun h=>by omega),fun h=>decide_eq_true (h.inv.2.2.1 (by omega))⟩
 by_cases c6:k=6
 ·by_cases cl:((l.length:Nat):Int)=((l'.length:Nat):Int)
  rotate_left
  ·simp-implicitDefEqProofs(disch:=omega)only[ai,aj,ad,Nat.reduceLT,Nat.reduceEqDiff,Nat.reduceAdd,↓reduceIte,hn,zn,Ex,p0,q0,p3,q3,ZD.aV Tryz.underlying23,ZE.aV Tryz.underlying23,List.length_cons,List.length_nil,eq_false c1,eq_false c2,eq_false c3,eq_false c9,eq_false c4,eq_false c5,eq_true c6,eq_false cl]
   exact oN _ _ false df (by simp only[ae,hn]) (by simp only[aa,↓reduceIte]) ⟨fun h=>by(cases h),fun h=>absurd (h.inv.2.2.2.1 c6) (by omega)⟩
  have nA:l.length=l'.length:=by omega
  simp-implicitDefEqProofs(disch:=omega)only[ai,aj,ad,Nat.reduceLT,Nat.reduceEqDiff,Nat.reduceAdd,↓reduceIte,hn,zn,Ex,p0,q0,p3,q3,ZD.aV Tryz.underlying23,ZE.aV Tryz.underlying23,List.length_cons,List.length_nil,eq_false c1,eq_false c2,eq_false c3,eq_false c9,eq_false c4,eq_false c5,eq_true c6,eq_true cl]
  refine Comes.bC (fun z f s6=>∃i:Nat,z=l.length-i/\i<=l.length/\(∀j,j<i->∀(h:j<l.length) (h' :j<l'.length),gA l[j] l'[j])/\av s6 s.next [.int .i64 k,.int .i64 n,bv,lv,dv]/\av s6 s1.next [.int .i64 k,.int .i64 n',bw,lw,dw]/\ar s.next s s6/\f.n=119/\f.get 2= .pointer (some ⟨s.next,0,some 6⟩)/\f.get 3= .pointer (some ⟨s1.next,0,some 6⟩)/\f.get 5= .int .i64 (i:Nat))
   (fun z f s6=>(z= .ret/\ar s.next s s6/\f.n=119/\f.get 4= .bool false/\¬gA (.mk k n ba l d) (.mk k n' bb l' d'))\/(z= .exit 1/\(∀j,j<l.length->∀(h:j<l.length) (h' :j<l'.length),gA l[j] l'[j])/\ar s.next s s6/\f.n=119))
   ⟨0,rfl,by omega,fun j h=>by omega,lD,fm,df,by simp only[ae,hn],by simp only[aa,↓reduceIte,Nat.reduceEqDiff],by simp only[aa,↓reduceIte,Nat.reduceEqDiff],by simp only[aa,↓reduceIte];rfl⟩ ?_ ?_
  ·clear oN p0 p1 p2 p3 p4 q0 q1 q2 q3 q4 OR OS ZD ZE WQ WR hn h0 h1 f
   rintro Q hQ z f s6 ⟨i,rfl,hi,hS,ht,hu,hs,hn,h2,h3,h5⟩
   have nK:=Vb.keeps hs
   have yW:=hL2.keeps hs
   have l6:aG Tryz.prog s6 23 (.pointer (some ⟨s.next,3,some 6⟩))=some lv:=ht.load wu (off:=3) (c:=6) rfl (by simp)
   have l7:aG Tryz.prog s6 23 (.pointer (some ⟨s1.next,3,some 6⟩))=some lw:=hu.load wu (off:=3) (c:=6) rfl (by simp)
   by_cases aP:i<l.length
   rotate_left
   ·obtain rfl:i=l.length:=by omega
    have d1:¬((l.length:Nat):Int)<((l.length:Nat):Int):=by omega
    simp-implicitDefEqProofs(disch:=omega)only[ai,ad,Nat.reduceLT,Nat.reduceEqDiff,↓reduceIte,hn,h2,h5,Ex,l6,nK.aV Tryz.underlying23,eq_false d1]
    exact hQ _ _ _ (.inr ⟨rfl,hS,hs,by simp only[ae,hn]⟩)
   have jz:i<l'.length:=by omega
   have d1:(i:Int)<(l.length:Int):=by omega
   simp-implicitDefEqProofs(disch:=omega)only[ai,ad,Nat.reduceLT,Nat.reduceEqDiff,↓reduceIte,hn,h2,h5,Ex,l6,nK.aV Tryz.underlying23,eq_true d1]
   obtain⟨A,hA⟩:∃A:Nat->Bool,A=fun j=>decide (j<s6.next):=⟨_,rfl⟩
   have ef:∀j,A j=true->j<s6.next:=by
    intro j h
    rw[hA] at h
    exact of_decide_eq_true h
   have gW:∀j,j<s6.next->A j=true:=fun j h=>by rw[hA];exact decide_eq_true h
   refine LB.cF.dy A ef 0 0 (by kernel_rfl) (by kernel_rfl) ?_
   have oR:∀k,LA.dB A (some (.pointer (some ⟨s.next,k,some 6⟩)))=true:=fun k=>LA.bY (A:=A) (i:=s.next) (gW _ ht.lt)
   have Cc:∀k,LA.dB A (some (.pointer (some ⟨s1.next,k,some 6⟩)))=true:=fun k=>LA.bY (A:=A) (i:=s1.next) (gW _ hu.lt)
   have dI:=nK.indexAddr (P:=Tryz.prog) (k:= .i64) (x:=(i:Int)) Tryz.underlying23 eO (by omega) (by omega)
   have N3:=yW.indexAddr (P:=Tryz.prog) (k:= .i64) (x:=(i:Int)) Tryz.underlying23 eO (by omega) (by omega)
   rw[Int.toNat_natCast] at dI N3
   have fM:=nK.eF (P:=Tryz.prog) ua eO aP
   have hle:=yW.eF (P:=Tryz.prog) ua eO jz
   have mO:=(rl.row i aP).keeps hs
   have fK:=(rl'.row i jz).keeps hs
   simp-implicitDefEqProofs(disch:=omega)only[ai,aj,bn,bp,Nat.reduceSub,ad,Nat.reduceLT,Nat.reduceEqDiff,↓reduceIte,mU,hn,h2,h3,h5,Ex,oR,Cc,l6,l7,nK.self,yW.self,dI,N3,fM,hle,LA.di nK gW aP,LA.di yW gW jz,mO.self,fK.self]
   refine(ih l[i] l'[i] (by have:=O.wi (k:=k) (n:=n) (b:=ba) (l:=l) (d:=d) (List.getElem_mem aP);omega) F G s6 _ _ mO fK (x5 _ (List.getElem_mem aP)) (y5 _ (List.getElem_mem jz))).mono ?_
   rintro _ s7 ⟨⟨t,rfl,pI⟩,Kk⟩
   have gF:=hs.trans (Kk.weaken hs.next)
   refine⟨fun h=>h.elim,?_⟩
   cases t with
   |false=>
    simp-implicitDefEqProofs(disch:=omega)only[ai,bn,bp,Nat.reduceLT,↓reduceIte,hn]
    exact hQ _ _ _ (.inl ⟨rfl,gF,by simp only[ae,hn],by simp only[aa,↓reduceIte],fun h=>by have:=pI.2 (h.inv.2.2.2.2.1 c6 i aP jz);cases this⟩)
   |true=>
    simp-implicitDefEqProofs(disch:=omega)only[ai,bn,bp,Nat.reduceLT,Nat.reduceEqDiff,↓reduceIte,hn,h5,aD]
    exact au (l.length-(i+1)) (by omega) ⟨i+1,rfl,by omega,tm hS (fun _ _=>pI.1 rfl),ht.keeps Kk,hu.keeps Kk,gF,by simp only[ae,hn],by simp only[aa,↓reduceIte,Nat.reduceEqDiff,h2],by simp only[aa,↓reduceIte,Nat.reduceEqDiff,h3],by simp only[aa,↓reduceIte];rfl⟩
  rintro z f' s6 (⟨rfl,hs,hn,h4,cD⟩|⟨rfl,hS,hs,hn⟩)
  ·simp-implicitDefEqProofs(disch:=omega)only[ai]
   exact oN _ _ false hs hn h4 ⟨fun h=>by(cases h),fun h=>absurd h cD⟩
  simp-implicitDefEqProofs(disch:=omega)only[ai,al,oneOf,Nat.reduceLT,↓reduceIte,hn,Tryz.results25]
  exact⟨.yes (.mk (fun h=>by omega) (fun h=>by omega) (fun _=>nA) (fun _ i h1 h2=>hS i h1 h1 h2) (fun h=>by omega) (fun h=>by omega) (fun h=>by omega)),hs⟩
 by_cases c7:k=7
 ·by_cases cl:((d.length:Nat):Int)=((d'.length:Nat):Int)
  rotate_left
  ·simp-implicitDefEqProofs(disch:=omega)only[ai,aj,ad,Nat.reduceLT,Nat.reduceEqDiff,Nat.reduceAdd,↓reduceIte,undef,hn,zn,B6,p0,q0,p4,q4,WQ.aV Tryz.underlying24,WR.aV Tryz.underlying24,List.length_cons,List.length_nil,eq_false c1,eq_false c2,eq_false c3,eq_false c9,eq_false c4,eq_false c5,eq_false c6,eq_true c7,eq_false cl]
   exact oN _ _ false df (by simp only[ae,hn]) (by simp only[aa,↓reduceIte]) ⟨fun h=>by(cases h),fun h=>absurd (h.inv.2.2.2.2.2.1 (by omega)) (by omega)⟩
  have nA:d.length=d'.length:=by omega
  have Ze:k=8->ba=bb:=fun h=>by omega
  have c8:¬k=8:=by omega
  simp-implicitDefEqProofs(disch:=omega)only[ai,aj,ad,Nat.reduceLT,Nat.reduceEqDiff,Nat.reduceAdd,↓reduceIte,undef,hn,zn,B6,p0,q0,p4,q4,WQ.aV Tryz.underlying24,WR.aV Tryz.underlying24,List.length_cons,List.length_nil,eq_false c1,eq_false c2,eq_false c3,eq_false c9,eq_false c4,eq_false c5,eq_false c6,eq_true c7,eq_true cl,eq_false c8]
  refine Comes.bC (fun z f s6=>∃i:Nat,z=d.length-i/\i<=d.length/\(∀j,j<i->∀(h:j<d.length) (h' :j<d'.length),d[j].1=d'[j].1/\gA d[j].2 d'[j].2)/\av s6 s.next [.int .i64 k,.int .i64 n,bv,lv,dv]/\av s6 s1.next [.int .i64 k,.int .i64 n',bw,lw,dw]/\ar s.next s s6/\f.n=119/\f.get 2= .pointer (some ⟨s.next,0,some 6⟩)/\f.get 3= .pointer (some ⟨s1.next,0,some 6⟩)/\f.get 6= .int .i64 (i:Nat))
   (fun z f s6=>(z= .ret/\ar s.next s s6/\f.n=119/\f.get 4= .bool false/\¬gA (.mk k n ba l d) (.mk k n' bb l' d'))\/(z= .exit 3/\(∀j,j<d.length->∀(h:j<d.length) (h' :j<d'.length),d[j].1=d'[j].1/\gA d[j].2 d'[j].2)/\ar s.next s s6/\f.n=119))
   ⟨0,rfl,by omega,fun j h=>by omega,lD,fm,df,by simp only[ae,hn],by simp only[aa,↓reduceIte,Nat.reduceEqDiff],by simp only[aa,↓reduceIte,Nat.reduceEqDiff],by simp only[aa,↓reduceIte];rfl⟩ ?_ ?_
  ·clear oN p0 p1 p2 p3 p4 q0 q1 q2 q3 q4 OR OS ZD ZE WQ WR hn h0 h1 f
   rintro Q hQ z f s6 ⟨i,rfl,hi,hS,ht,hu,hs,hn,h2,h3,h5⟩
   have nK:=Sf.keeps hs
   have yW:=X9.keeps hs
   have l6:aG Tryz.prog s6 24 (.pointer (some ⟨s.next,4,some 6⟩))=some dv:=ht.load wx (off:=4) (c:=6) rfl (by simp)
   have l7:aG Tryz.prog s6 24 (.pointer (some ⟨s1.next,4,some 6⟩))=some dw:=hu.load wx (off:=4) (c:=6) rfl (by simp)
   by_cases aP:i<d.length
   rotate_left
   ·obtain rfl:i=d.length:=by omega
    have d1:¬((d.length:Nat):Int)<((d.length:Nat):Int):=by omega
    simp-implicitDefEqProofs(disch:=omega)only[ai,ad,Nat.reduceLT,Nat.reduceEqDiff,↓reduceIte,hn,h2,h5,B6,l6,nK.aV Tryz.underlying24,eq_false d1]
    exact hQ _ _ _ (.inr ⟨rfl,hS,hs,by simp only[ae,hn]⟩)
   have jz:i<d'.length:=by omega
   have d1:(i:Int)<(d.length:Int):=by omega
   simp-implicitDefEqProofs(disch:=omega)only[ai,ad,Nat.reduceLT,Nat.reduceEqDiff,↓reduceIte,hn,h2,h5,B6,l6,nK.aV Tryz.underlying24,eq_true d1]
   obtain⟨A,hA⟩:∃A:Nat->Bool,A=fun j=>decide (j<s6.next):=⟨_,rfl⟩
   have ef:∀j,A j=true->j<s6.next:=by
    intro j h
    rw[hA] at h
    exact of_decide_eq_true h
   have gW:∀j,j<s6.next->A j=true:=fun j h=>by rw[hA];exact decide_eq_true h
   refine LB.cF.dy A ef 0 0 (by kernel_rfl) (by kernel_rfl) ?_
   have oR:∀k,LA.dB A (some (.pointer (some ⟨s.next,k,some 6⟩)))=true:=fun k=>LA.bY (A:=A) (i:=s.next) (gW _ ht.lt)
   have Cc:∀k,LA.dB A (some (.pointer (some ⟨s1.next,k,some 6⟩)))=true:=fun k=>LA.bY (A:=A) (i:=s1.next) (gW _ hu.lt)
   have dI:=nK.indexAddr (P:=Tryz.prog) (k:= .i64) (x:=(i:Int)) Tryz.underlying24 jx (by omega) (by omega)
   have N3:=yW.indexAddr (P:=Tryz.prog) (k:= .i64) (x:=(i:Int)) Tryz.underlying24 jx (by omega) (by omega)
   rw[Int.toNat_natCast] at dI N3
   obtain⟨u0,u1⟩:=WC nK aP
   obtain⟨w0,w1⟩:=WC yW jz
   obtain⟨r1,e1,e2,e3⟩:=rd.row i aP
   obtain⟨r2,g1,g2,g3⟩:=X3.row i jz
   obtain⟨a1,a2⟩:=xT e1
   obtain⟨b1,b2⟩:=xT g1
   have wL:=nK.eC (P:=Tryz.prog) np aP (j:=0) (by omega)
   rw[Nat.add_zero,a1] at wL
   have Sg:=nK.kz (P:=Tryz.prog) ua eO aP (j:=1) (by omega)
   rw[a2] at Sg
   have SM:=yW.eC (P:=Tryz.prog) np jz (j:=0) (by omega)
   rw[Nat.add_zero,b1] at SM
   have WS:=yW.kz (P:=Tryz.prog) ua eO jz (j:=1) (by omega)
   rw[b2] at WS
   have mO:=e2.keeps hs
   have fK:=g2.keeps hs
   have en:=zF (P:=Tryz.prog) (t:=9) d[i].1 d'[i].1
   by_cases ck:d[i].1=d'[i].1
   rotate_left
   ·rw[decide_eq_true ck] at en
    simp-implicitDefEqProofs(disch:=omega)only[ai,aj,bn,bp,Nat.reduceSub,Nat.reduceLT,Nat.reduceEqDiff,↓reduceIte,undef,mU,hn,h2,h3,h5,B6,oR,Cc,l6,l7,nK.self,yW.self,dI,N3,u0,w0,wL,SM,en,fA,LA.gy nK gW aP,LA.gy yW gW jz]
    exact hQ _ _ _ (.inl ⟨rfl,hs,by simp only[ae,hn],by simp only[aa,↓reduceIte],fun h=>ck (h.inv.2.2.2.2.2.2.1 (by omega) i aP jz)⟩)
   rw[decide_eq_false (not_not_intro ck)] at en
   simp-implicitDefEqProofs(disch:=omega)only[ai,aj,bn,bp,Nat.reduceSub,ad,Nat.reduceLT,Nat.reduceEqDiff,↓reduceIte,mU,hn,h2,h3,h5,B6,oR,Cc,l6,l7,nK.self,yW.self,dI,N3,u0,u1,w0,w1,wL,Sg,SM,WS,en,fA,LA.gy nK gW aP,LA.gy yW gW jz,mO.self,fK.self]
   refine(ih d[i].2 d'[i].2 (by have:=O.wj (k:=k) (n:=n) (b:=ba) (l:=l) (d:=d) (List.getElem_mem aP);omega) F G s6 _ _ mO fK (x6 _ (List.getElem_mem aP)) (y6 _ (List.getElem_mem jz))).mono ?_
   rintro _ s7 ⟨⟨t,rfl,pI⟩,Kk⟩
   have gF:=hs.trans (Kk.weaken hs.next)
   refine⟨fun h=>h.elim,?_⟩
   cases t with
   |false=>
    simp-implicitDefEqProofs(disch:=omega)only[ai,bn,bp,Nat.reduceLT,Nat.reduceEqDiff,↓reduceIte,hn]
    exact hQ _ _ _ (.inl ⟨rfl,gF,by simp only[ae,hn],by simp only[aa,↓reduceIte],fun h=>by have:=pI.2 (h.inv.2.2.2.2.2.2.2 (by omega) i aP jz);cases this⟩)
   |true=>
    simp-implicitDefEqProofs(disch:=omega)only[ai,bn,bp,Nat.reduceLT,Nat.reduceEqDiff,↓reduceIte,hn,h5,aD]
    exact au (d.length-(i+1)) (by omega) ⟨i+1,rfl,by omega,tm hS (fun _ _=>⟨ck,pI.1 rfl⟩),ht.keeps Kk,hu.keeps Kk,gF,by simp only[ae,hn],by simp only[aa,↓reduceIte,Nat.reduceEqDiff,h2],by simp only[aa,↓reduceIte,Nat.reduceEqDiff,h3],by simp only[aa,↓reduceIte];rfl⟩
  rintro z f' s6 (⟨rfl,hs,hn,h4,cD⟩|⟨rfl,hS,hs,hn⟩)
  ·simp-implicitDefEqProofs(disch:=omega)only[ai]
   exact oN _ _ false hs hn h4 ⟨fun h=>by(cases h),fun h=>absurd h cD⟩
  simp-implicitDefEqProofs(disch:=omega)only[ai,al,oneOf,Nat.reduceLT,↓reduceIte,hn,Tryz.results25]
  exact⟨.yes (.mk (fun h=>by omega) (fun h=>Ze (by omega)) (fun h=>by omega) (fun h=>by omega) (fun _=>nA) (fun _ i h1 h2=>(hS i h1 h1 h2).1) (fun _ i h1 h2=>(hS i h1 h1 h2).2)),hs⟩
 by_cases c8:k=8
 ·by_cases cl:((d.length:Nat):Int)=((d'.length:Nat):Int)
  rotate_left
  ·simp-implicitDefEqProofs(disch:=omega)only[ai,aj,ad,Nat.reduceLT,Nat.reduceEqDiff,Nat.reduceAdd,↓reduceIte,undef,hn,zn,B6,p0,q0,p4,q4,WQ.aV Tryz.underlying24,WR.aV Tryz.underlying24,List.length_cons,List.length_nil,eq_false c1,eq_false c2,eq_false c3,eq_false c9,eq_false c4,eq_false c5,eq_false c6,eq_false c7,eq_true c8,eq_false cl]
   exact oN _ _ false df (by simp only[ae,hn]) (by simp only[aa,↓reduceIte]) ⟨fun h=>by(cases h),fun h=>absurd (h.inv.2.2.2.2.2.1 (by omega)) (by omega)⟩
  have nA:d.length=d'.length:=by omega
  simp-implicitDefEqProofs(disch:=omega)only[ai,aj,ad,Nat.reduceLT,Nat.reduceEqDiff,Nat.reduceAdd,↓reduceIte,hn,zn,WB,B6,p0,q0,p2,q2,p4,q4,WQ.aV Tryz.underlying24,WR.aV Tryz.underlying24,List.length_cons,List.length_nil,eq_false c1,eq_false c2,eq_false c3,eq_false c9,eq_false c4,eq_false c5,eq_false c6,eq_false c7,eq_true c8,eq_true cl]
  refine(Bq nF s2 bv bw ba bb OR OS (by omega) (by omega)).mono ?_
  rintro _ _ ⟨rfl,rfl⟩
  by_cases Vh:ba=bb
  rotate_left
  ·rw[decide_eq_false Vh]
   simp-implicitDefEqProofs(disch:=omega)only[ai,aj,Nat.reduceLT,Nat.reduceEqDiff,↓reduceIte,hn]
   exact oN _ _ false df (by simp only[ae,hn]) (by simp only[aa,↓reduceIte]) ⟨fun h=>by(cases h),fun h=>absurd (h.inv.2.2.1 (by omega)) Vh⟩
  have Ze:k=8->ba=bb:=fun _=>Vh
  rw[decide_eq_true Vh]
  simp-implicitDefEqProofs(disch:=omega)only[ai,aj,Nat.reduceLT,Nat.reduceEqDiff,↓reduceIte,hn]
  refine Comes.bC (fun z f s6=>∃i:Nat,z=d.length-i/\i<=d.length/\(∀j,j<i->∀(h:j<d.length) (h' :j<d'.length),d[j].1=d'[j].1/\gA d[j].2 d'[j].2)/\av s6 s.next [.int .i64 k,.int .i64 n,bv,lv,dv]/\av s6 s1.next [.int .i64 k,.int .i64 n',bw,lw,dw]/\ar s.next s s6/\f.n=119/\f.get 2= .pointer (some ⟨s.next,0,some 6⟩)/\f.get 3= .pointer (some ⟨s1.next,0,some 6⟩)/\f.get 6= .int .i64 (i:Nat))
   (fun z f s6=>(z= .ret/\ar s.next s s6/\f.n=119/\f.get 4= .bool false/\¬gA (.mk k n ba l d) (.mk k n' bb l' d'))\/(z= .exit 3/\(∀j,j<d.length->∀(h:j<d.length) (h' :j<d'.length),d[j].1=d'[j].1/\gA d[j].2 d'[j].2)/\ar s.next s s6/\f.n=119))
   ⟨0,rfl,by omega,fun j h=>by omega,lD,fm,df,by simp only[ae,hn],by simp only[aa,↓reduceIte,Nat.reduceEqDiff],by simp only[aa,↓reduceIte,Nat.reduceEqDiff],by simp only[aa,↓reduceIte];rfl⟩ ?_ ?_
  ·clear oN p0 p1 p2 p3 p4 q0 q1 q2 q3 q4 OR OS ZD ZE WQ WR hn h0 h1 f
   rintro Q hQ z f s6 ⟨i,rfl,hi,hS,ht,hu,hs,hn,h2,h3,h5⟩
   have nK:=Sf.keeps hs
   have yW:=X9.keeps hs
   have l6:aG Tryz.prog s6 24 (.pointer (some ⟨s.next,4,some 6⟩))=some dv:=ht.load wx (off:=4) (c:=6) rfl (by simp)
   have l7:aG Tryz.prog s6 24 (.pointer (some ⟨s1.next,4,some 6⟩))=some dw:=hu.load wx (off:=4) (c:=6) rfl (by simp)
   by_cases aP:i<d.length
   rotate_left
   ·obtain rfl:i=d.length:=by omega
    have d1:¬((d.length:Nat):Int)<((d.length:Nat):Int):=by omega
    simp-implicitDefEqProofs(disch:=omega)only[ai,ad,Nat.reduceLT,Nat.reduceEqDiff,↓reduceIte,hn,h2,h5,B6,l6,nK.aV Tryz.underlying24,eq_false d1]
    exact hQ _ _ _ (.inr ⟨rfl,hS,hs,by simp only[ae,hn]⟩)
   have jz:i<d'.length:=by omega
   have d1:(i:Int)<(d.length:Int):=by omega
   simp-implicitDefEqProofs(disch:=omega)only[ai,ad,Nat.reduceLT,Nat.reduceEqDiff,↓reduceIte,hn,h2,h5,B6,l6,nK.aV Tryz.underlying24,eq_true d1]
   obtain⟨A,hA⟩:∃A:Nat->Bool,A=fun j=>decide (j<s6.next):=⟨_,rfl⟩
   have ef:∀j,A j=true->j<s6.next:=by
    intro j h
    rw[hA] at h
    exact of_decide_eq_true h
   have gW:∀j,j<s6.next->A j=true:=fun j h=>by rw[hA];exact decide_eq_true h
   refine LB.cF.dy A ef 0 0 (by kernel_rfl) (by kernel_rfl) ?_
   have oR:∀k,LA.dB A (some (.pointer (some ⟨s.next,k,some 6⟩)))=true:=fun k=>LA.bY (A:=A) (i:=s.next) (gW _ ht.lt)
   have Cc:∀k,LA.dB A (some (.pointer (some ⟨s1.next,k,some 6⟩)))=true:=fun k=>LA.bY (A:=A) (i:=s1.next) (gW _ hu.lt)
   have dI:=nK.indexAddr (P:=Tryz.prog) (k:= .i64) (x:=(i:Int)) Tryz.underlying24 jx (by omega) (by omega)
   have N3:=yW.indexAddr (P:=Tryz.prog) (k:= .i64) (x:=(i:Int)) Tryz.underlying24 jx (by omega) (by omega)
   rw[Int.toNat_natCast] at dI N3
   obtain⟨u0,u1⟩:=WC nK aP
   obtain⟨w0,w1⟩:=WC yW jz
   obtain⟨r1,e1,e2,e3⟩:=rd.row i aP
   obtain⟨r2,g1,g2,g3⟩:=X3.row i jz
   obtain⟨a1,a2⟩:=xT e1
   obtain⟨b1,b2⟩:=xT g1
   have wL:=nK.eC (P:=Tryz.prog) np aP (j:=0) (by omega)
   rw[Nat.add_zero,a1] at wL
   have Sg:=nK.kz (P:=Tryz.prog) ua eO aP (j:=1) (by omega)
   rw[a2] at Sg
   have SM:=yW.eC (P:=Tryz.prog) np jz (j:=0) (by omega)
   rw[Nat.add_zero,b1] at SM
   have WS:=yW.kz (P:=Tryz.prog) ua eO jz (j:=1) (by omega)
   rw[b2] at WS
   have mO:=e2.keeps hs
   have fK:=g2.keeps hs
   have en:=zF (P:=Tryz.prog) (t:=9) d[i].1 d'[i].1
   by_cases ck:d[i].1=d'[i].1
   rotate_left
   ·rw[decide_eq_true ck] at en
    simp-implicitDefEqProofs(disch:=omega)only[ai,aj,bn,bp,Nat.reduceSub,Nat.reduceLT,Nat.reduceEqDiff,↓reduceIte,undef,mU,hn,h2,h3,h5,B6,oR,Cc,l6,l7,nK.self,yW.self,dI,N3,u0,w0,wL,SM,en,fA,LA.gy nK gW aP,LA.gy yW gW jz]
    exact hQ _ _ _ (.inl ⟨rfl,hs,by simp only[ae,hn],by simp only[aa,↓reduceIte],fun h=>ck (h.inv.2.2.2.2.2.2.1 (by omega) i aP jz)⟩)
   rw[decide_eq_false (not_not_intro ck)] at en
   simp-implicitDefEqProofs(disch:=omega)only[ai,aj,bn,bp,Nat.reduceSub,ad,Nat.reduceLT,Nat.reduceEqDiff,↓reduceIte,mU,hn,h2,h3,h5,B6,oR,Cc,l6,l7,nK.self,yW.self,dI,N3,u0,u1,w0,w1,wL,Sg,SM,WS,en,fA,LA.gy nK gW aP,LA.gy yW gW jz,mO.self,fK.self]
   refine(ih d[i].2 d'[i].2 (by have:=O.wj (k:=k) (n:=n) (b:=ba) (l:=l) (d:=d) (List.getElem_mem aP);omega) F G s6 _ _ mO fK (x6 _ (List.getElem_mem aP)) (y6 _ (List.getElem_mem jz))).mono ?_
   rintro _ s7 ⟨⟨t,rfl,pI⟩,Kk⟩
   have gF:=hs.trans (Kk.weaken hs.next)
   refine⟨fun h=>h.elim,?_⟩
   cases t with
   |false=>
    simp-implicitDefEqProofs(disch:=omega)only[ai,bn,bp,Nat.reduceLT,Nat.reduceEqDiff,↓reduceIte,hn]
    exact hQ _ _ _ (.inl ⟨rfl,gF,by simp only[ae,hn],by simp only[aa,↓reduceIte],fun h=>by have:=pI.2 (h.inv.2.2.2.2.2.2.2 (by omega) i aP jz);cases this⟩)
   |true=>
    simp-implicitDefEqProofs(disch:=omega)only[ai,bn,bp,Nat.reduceLT,Nat.reduceEqDiff,↓reduceIte,hn,h5,aD]
    exact au (d.length-(i+1)) (by omega) ⟨i+1,rfl,by omega,tm hS (fun _ _=>⟨ck,pI.1 rfl⟩),ht.keeps Kk,hu.keeps Kk,gF,by simp only[ae,hn],by simp only[aa,↓reduceIte,Nat.reduceEqDiff,h2],by simp only[aa,↓reduceIte,Nat.reduceEqDiff,h3],by simp only[aa,↓reduceIte];rfl⟩
  rintro z f' s6 (⟨rfl,hs,hn,h4,cD⟩|⟨rfl,hS,hs,hn⟩)
  ·simp-implicitDefEqProofs(disch:=omega)only[ai]
   exact oN _ _ false hs hn h4 ⟨fun h=>by(cases h),fun h=>absurd h cD⟩
  simp-implicitDefEqProofs(disch:=omega)only[ai,al,oneOf,Nat.reduceLT,↓reduceIte,hn,Tryz.results25]
  exact⟨.yes (.mk (fun h=>by omega) (fun h=>Ze (by omega)) (fun h=>by omega) (fun h=>by omega) (fun _=>nA) (fun _ i h1 h2=>(hS i h1 h1 h2).1) (fun _ i h1 h2=>(hS i h1 h1 h2).2)),hs⟩
 simp-implicitDefEqProofs(disch:=omega)only[ai,aj,al,oneOf,Nat.reduceLT,Nat.reduceEqDiff,Nat.reduceAdd,↓reduceIte,hn,zn,p0,q0,List.length_cons,List.length_nil,eq_false c1,eq_false c2,eq_false c3,eq_false c9,eq_false c4,eq_false c5,eq_false c6,eq_false c7,eq_false c8,Tryz.results25]
 exact⟨.yes (.mk (fun h=>by omega) (fun h=>by omega) (fun h=>by omega) (fun h=>by omega) (fun h=>by omega) (fun h=>by omega) (fun h=>by omega)),df⟩
end Go.Proofs.YtdfjfncifneocaaGreat
set_option linter.unusedSimpArgs false
set_option linter.unusedVariables false
set_option maxRecDepth 100000
namespace Go.Proofs.YtdfjfncifneocaaGreat
open Go.Cl
theorem QT {F:Nat->Prop}{s:aq}{cs:List Value}{e:List UInt8×O}(h:cu F s cs e):cs.all aO=true:=by
 obtain⟨r,e,h,_⟩:=h
 rw[e,List.all_cons,h.ok];rfl
end Go.Proofs.YtdfjfncifneocaaGreat
namespace Go.Cl
theorem Cd {zs:List Value}(h:zs.all aO=true):∀n,(bS zs n).all aO=true
 |0=>rfl
 |n+1=>by rw[bS,List.all_append,h,Cd h n];rfl
theorem Own.QU {P:Program}{t e:TypeId}{z:Nat}{zv:Value}{zs:List Value}(hu:P.underlying t=some (.slice e))(cJ:bq P e=some z)(qW:cE P e=some zv)(hp:cH zv=true)(I3:zv.cells.toList=zs)(mf:zs.length=z)(sJ:0<z)(dE:zs.all aO=true)
  {s:aq} {v:Value} {n:Nat} {l:List Value} (h:Own s z v n l) {k:Nat} (hk:k<=n):
  ∃s',mJ P s t (ez z v k n)=some (undef,s')/\Own s' z v n (l.take (k*z)++bS zs (n-k))/\bm v s s' :=by
 cases h with
 |nil=>
  obtain rfl:k=0:=by omega
  refine⟨s,?_,by rw[Nat.sub_self,bS,List.append_nil,List.take_nil];exact .nil,Nat.le_refl _,fun _ _ _=>rfl⟩
  simp only[ez,mJ,hu]
 |of i n low l hi hb hl hlen=>
  by_cases OQ:k=n
  ·subst OQ
   refine⟨s,?_,?_,Nat.le_refl _,fun _ _ _=>rfl⟩
   ·simp only[ez,mJ,hu,Nat.sub_self]
   ·rw[Nat.sub_self,bS,List.append_nil,List.take_of_length_le (by omega)]
    exact .of i k low l hi hb hl hlen
  obtain⟨m,hm⟩:∃m,n-k=m+1:=⟨n-k-1,by omega⟩
  have YX:k*z+(n-k)*z=n*z:=by rw[<-Nat.add_mul];congr 1;omega
  have nG:(bS zs (m+1)).length=(n-k)*z:=by rw[dV,mf,hm]
  have ux:=kl l (0+k*z) (bS zs (m+1)) (by omega)
  have jg:(true&&Nat.ble low (l.length+1)&&Nat.beq (l.length+1) (l.length+1)&&(bS zs (m+1)).all aO)=true:=by
   simp only[Cd dE,Bool.and_true,Bool.true_and,Bool.and_eq_true,Nat.ble_eq,Nat.beq_eq];exact⟨hl,trivial⟩
  have pH:(cH zv&&Nat.beq zs.length z&&Nat.blt 0 z)=true:=by
   rw[hp,mf]
   simp only[Bool.true_and,Bool.and_eq_true,Nat.beq_eq]
   exact⟨trivial,by rw[Nat.blt_eq];exact sJ⟩
  have aA:s.storeAt i (0+k*z) (l.length+1) (bS zs (m+1))=some (s.put i (.dL ⟨l.take (0+k*z)++bS zs (m+1)++l.drop (0+k*z+(bS zs (m+1)).length),l.length+1,true,z⟩)):=by
   unfold aq.storeAt
   simp only[hb,jg,if_true,ux]
   split
   ·rename_i he;rw[he] at nG
    have:0<(n-k)*z:=Nat.mul_pos (by omega) sJ
    simp at nG;omega
   ·rfl
  have hd:l.drop (0+k*z+(bS zs (m+1)).length)=[]:=List.drop_eq_nil_of_le (by omega)
  rw[hd,List.append_nil,Nat.zero_add] at aA
  have I1:(l.take (k*z)++bS zs (m+1)).length=l.length:=by rw[List.length_append,List.length_take,nG];omega
  refine⟨s.put i (.dL ⟨l.take (k*z)++bS zs (m+1),l.length+1,true,z⟩),?_,?_,⟨by simp[aq.put],fun q _ hq=> ?_⟩⟩
  rotate_left
  ·rw[hm,<-I1]
   exact .of i n _ _ (by simpa [aq.put] using hi) (aq.cg _ _ _ (by omega)) (Nat.le_refl _) (by omega)
  ·rw[aq.a8]
   intro e;subst e;exact hq rfl
  ·simp only[ez,mJ,hu,hm,cJ,qW,I3,pH,if_true,Nat.zero_add,aA]
section
variable {P:Program} {lib:ay} {all r:List Oper} {f:aR} {s:aq} {d:Option Tmp} {Q:aR->aq->Prop}
theorem Ce {t e:TypeId}{z:Nat}{zv:Value}{zs:List Value}(hu:P.underlying t=some (.slice e))(cJ:bq P e=some z)(qW:cE P e=some zv)(hp:cH zv=true)(I3:zv.cells.toList=zs)(mf:zs.length=z)(sJ:0<z)(dE:zs.all aO=true)
  {v:Value} {n:Nat} {l:List Value} (h:Own s z v n l) {k:Nat} (hk:k<=n)
  (K:∀s',Own s' z v n (l.take (k*z)++bS zs (n-k))->bm v s s' ->er P lib all r f s d Q (some (.val undef s'))):er P lib all r f s d Q (lZ (mJ P s t (ez z v k n))):=by
 obtain⟨s',h1,h2,h3⟩:=h.QU hu cJ qW hp I3 mf sJ dE hk
 rw[h1,dW]
 exact K s' h2 h3
end
end Go.Cl
