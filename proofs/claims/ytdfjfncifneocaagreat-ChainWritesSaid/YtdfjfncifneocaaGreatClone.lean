import Derived.Test.YtdfjfncifneocaaGreatObjB
import Derived.Test.YtdfjfncifneocaaGreatStoP
import Derived.Test.YtdfjfncifneocaaGreatPrA
import Derived.Test.YtdfjfncifneocaaGreatMapS
import Derived.Test.YtdfjfncifneocaaGreatCutA
import Derived.Lib.Bytealg
set_option linter.unusedSimpArgs false
set_option linter.unusedVariables false
set_option maxRecDepth 100000
namespace Go.Proofs.YtdfjfncifneocaaGreat
open Go.Cl
theorem eO:bq Tryz.prog 26=some 5:=by kernel_rfl
theorem ua:cw Tryz.prog 26=some true:=by kernel_rfl
theorem zO:cE Tryz.prog 26=some (.agg cr.toArray):=by kernel_rfl
theorem oQ:cH (.agg cr.toArray)=true:=by kernel_rfl
theorem WA:eW Tryz.prog 26=some 88:=by kernel_rfl
theorem jx:bq Tryz.prog 63=some 6:=by kernel_rfl
theorem I7:cw Tryz.prog 63=some true:=by kernel_rfl
theorem Va:eW Tryz.prog 63=some 104:=by kernel_rfl
def wm:List Value:= .string ⟨#[]⟩::cr
theorem zE:cE Tryz.prog 63=some (.agg wm.toArray):=by kernel_rfl
theorem Du:cH (.agg wm.toArray)=true:=by kernel_rfl
theorem wo:bq Tryz.prog 2=some 1:=by kernel_rfl
theorem L9:cw Tryz.prog 2=some false:=by kernel_rfl
theorem Ma:bq Tryz.prog 9=some 1:=by kernel_rfl
theorem np:cw Tryz.prog 9=some false:=by kernel_rfl
theorem wq:bq Tryz.prog 23=some 1:=by kernel_rfl
theorem wu:cw Tryz.prog 23=some false:=by kernel_rfl
theorem wv:bq Tryz.prog 24=some 1:=by kernel_rfl
theorem wx:cw Tryz.prog 24=some false:=by kernel_rfl
theorem zn (i o c:Nat):az Tryz.prog 26 (.pointer (some ⟨i,o,some c⟩)) 0=some (.pointer (some ⟨i,o+0,some c⟩)):=by
 unfold az;rw[Tryz.underlying26];simp[cG]
theorem X5 (i o c:Nat):az Tryz.prog 26 (.pointer (some ⟨i,o,some c⟩)) 1=some (.pointer (some ⟨i,o+1,some c⟩)):=by
 unfold az;rw[Tryz.underlying26];simp[wo]
theorem WB (i o c:Nat):az Tryz.prog 26 (.pointer (some ⟨i,o,some c⟩)) 2=some (.pointer (some ⟨i,o+2,some c⟩)):=by
 unfold az;rw[Tryz.underlying26];simp[iY]
theorem Ex (i o c:Nat):az Tryz.prog 26 (.pointer (some ⟨i,o,some c⟩)) 3=some (.pointer (some ⟨i,o+3,some c⟩)):=by
 unfold az;rw[Tryz.underlying26];simp[wq]
theorem B6 (i o c:Nat):az Tryz.prog 26 (.pointer (some ⟨i,o,some c⟩)) 4=some (.pointer (some ⟨i,o+4,some c⟩)):=by
 unfold az;rw[Tryz.underlying26];simp[wv]
theorem WC {s:aq}{v:Value}{n:Nat}{l:List Value}(h:aM s 6 v n l){k:Nat}(hk:k<n):az Tryz.prog 63 (aT 6 v k) 0=some (bR (aT 6 v k) 0)/\az Tryz.prog 63 (aT 6 v k) 1=some (bR (aT 6 v k) 1):=by
 obtain⟨i,off,c,e,_⟩:=h.cells hk
 rw[e]
 refine⟨?_,?_⟩<;>·unfold az;rw[Tryz.underlying63];simp[Ma,eO,bR]
theorem bO3 (k n:Int){b:Value}(hb:b.cells.toList=[b]):dM Tryz.prog 26 [(0,.int .i64 k),(1,.int .i64 n),(2,b)]=some (.agg #[.int .i64 k,.int .i64 n,b,.slice none 0 0,.slice none 0 0]):=by
 unfold dM;rw[Tryz.underlying26]
 have hz:cE Tryz.prog 26=some (.agg #[.int .i64 0,.int .i64 0,.slice none 0 0,.slice none 0 0,.slice none 0 0]):=by kernel_rfl
 rw[hz]
 have ci:∀k n,(Value.int k n).cells= #[.int k n]:=fun _ _=>rfl
 simp[cG,wo,iY,wq,wv,cH,mI,iM,placeOf,fJ,setAt,ci,hb]
theorem bE (a:List UInt8){cs:List Value}(hc:cs.length=5):dM Tryz.prog 63 [(0,.string ⟨a.toArray⟩),(1,.agg cs.toArray)]=some (.agg (.string ⟨a.toArray⟩::cs).toArray):=by
 unfold dM;rw[Tryz.underlying63]
 have hz:cE Tryz.prog 63=some (.agg #[.string ⟨#[]⟩,.int .i64 0,.int .i64 0,.slice none 0 0,.slice none 0 0,.slice none 0 0]):=by kernel_rfl
 rw[hz]
 have jt:∀b,(Value.string b).cells= #[.string b]:=fun _=>rfl
 match cs,hc with
 |[a,b,c,d,e],_=>simp[Ma,eO,cH,mI,iM,placeOf,fJ,setAt,jt]
def gz (s:aq)(o:O)(v:Value)(s' :aq):Prop:=∃cs,v= .agg cs.toArray/\dr (fun j=>s.next<=j) s' cs o/\ar s.next s s'
def H3 (s:aq)(o:O)(v:Value)(s' :aq):Prop:=∃k n b l d bv lv dv lc dc,o= .mk k n b l d/\v= .agg #[.int .i64 k,.int .i64 n,bv,lv,dv]/\Own s' 5 lv l.length lc/\aN s.next lv/\aM s' 1 bv b.length (ofBytes b)/\aM s' 6 dv d.length dc/\dO (fun j=>s.next<=j/\aJ lv≠some j) bv/\dO (fun j=>s.next<=j/\aJ lv≠some j) dv/\aL dr 5 (fun j=>s.next<=j/\aJ lv≠some j) s' l lc/\aL cu 6 (fun j=>s.next<=j/\aJ lv≠some j) s' d dc/\ar s.next s s'
theorem H3.new {s s' :aq}{o:O}{v:Value}(h:H3 s o v s'):gz s o v s' :=by
 obtain⟨k,n,b,l,d,bv,lv,dv,lc,dc,rfl,rfl,h1,h2,h3,h4,h5,h6,h7,h8,h9⟩:=h
 have hm:∀j,s.next<=j/\aJ lv≠some j->s.next<=j:=fun j hj=>hj.1
 exact⟨_,rfl,dr.whole h3 h1.aH h4 (h5.mono hm) (dO.fresh h2) (h6.mono hm) (h7.mono bH hm) (h8.mono bV hm),h9⟩
set_option maxHeartbeats 8000000 in
theorem WD {lib:ay}(hl:lib.at 56=none)(nF:lib.at 39=none):∀(N:Nat) (o:O),SizeOf.sizeOf o<=N->∀(F:Nat->Prop) (s:aq) (cs:List Value),dr F s cs o->Small o->
  Runs Tryz.prog lib 56 [.agg cs.toArray] s (H3 s o):=by
 intro N
 induction N with
 |zero=>intro o h;cases o;simp at h
 |succ N ih=>
 intro o hN F s cs ho tz
 cases o with
 |mk kind num b l d=>
 obtain⟨bv,lv,dv,lc,dc,rfl,hb,hL,hD,fb,fl,fd,rl,rd⟩:=ho.parts
 cases tz with
 |mk jv oP Fj hK1 Vb Sf=>
 refine Runs.enter 59 Tryz.func56 rfl hl rfl rfl ?_
 intro f hn hf
 have h0:f.get 0= .agg #[.int .i64 kind,.int .i64 num,bv,lv,dv]:=hf 0
 clear hf
 simp-implicitDefEqProofs(disch:=omega)only[ai,Nat.reduceLT,↓reduceIte,hn,h0]
 refine aw ?_
 intro s1 fa bB jb
 have il:cr.length+1=6:=rfl
 simp-implicitDefEqProofs(disch:=omega)only[ai,Nat.reduceLT,Nat.reduceAdd,↓reduceIte,hn,List.length_cons,List.length_nil,zO,oQ]
 refine aw ?_
 intro s2 fm bD na
 have lD:=fa.keeps bD
 have df:ar s.next s s2:=bB.trans (bD.weaken (by omega))
 have eR:=hb.keeps df
 simp-implicitDefEqProofs(disch:=omega)only[ai,Nat.reduceLT,↓reduceIte,hn,il]
 obtain⟨A,hA⟩:∃A:Nat->Bool,A=fun j=>decide (j<s2.next):=⟨_,rfl⟩
 have ef:∀j,A j=true->j<s2.next:=by
  intro j h
  rw[hA] at h
  exact of_decide_eq_true h
 have gW:∀j,j<s2.next->A j=true:=fun j h=>by rw[hA];exact decide_eq_true h
 refine LB.cF.dy A ef 1 1 (by kernel_rfl) (by kernel_rfl) ?_
 have db:=ar.spare s2 1
 have F1:(spare s2 1).next=s2.next+1:=bT _ _
 have uJ:=lD.keeps db
 have gC:∀k,LA.dB A (some (.pointer (some ⟨s.next,k,some 6⟩)))=true:=fun k=>LA.bY (A:=A) (i:=s.next) (gW _ lD.lt)
 have l0:aG Tryz.prog (spare s2 1) 3 (.pointer (some ⟨s.next,0,some 6⟩))=some (.int .i64 kind):=uJ.load cj (off:=0) (c:=6) rfl (by simp)
 have l1:aG Tryz.prog (spare s2 1) 2 (.pointer (some ⟨s.next,1,some 6⟩))=some (.int .i64 num):=uJ.load L9 (off:=1) (c:=6) rfl (by simp)
 have l2:aG Tryz.prog (spare s2 1) 22 (.pointer (some ⟨s.next,2,some 6⟩))=some bv:=uJ.load mV (off:=2) (c:=6) rfl (by simp)
 simp-implicitDefEqProofs(disch:=omega)only[ai,aj,bn,bp,Nat.sub_self,ad,ag,Nat.reduceLT,Nat.reduceEqDiff,↓reduceIte,hn,zn,X5,WB,gC,l0,l1,l2,eR.self]
 refine(r6 nF (spare s2 1) bv b (eR.keeps db) (by omega)).mono ?_
 rintro iB s3 ⟨zZ,GB,cf⟩
 have td:=cf.next
 refine⟨fun _=>LA.ar.lM ef (cf.weaken (by omega)),?_⟩
 have uK:bX (.agg #[.int .i64 kind,.int .i64 num,iB,.slice none 0 0,.slice none 0 0]) (.agg #[.int .i64 kind,.int .i64 num,iB,.slice none 0 0,.slice none 0 0])=true:=uI (by simp[cW]) (by simp[cW]) zZ.aH.H2 (by simp[cW]) (by simp[cW])
 simp-implicitDefEqProofs(disch:=omega)only[ai,bp,Nat.reduceLT,↓reduceIte,hn,bO3 kind num zZ.aH.kg,uK,zO,oQ]
 refine LB.vJ (by omega) ?_
 intro s4 fU lN jc
 simp-implicitDefEqProofs(disch:=omega)only[ai,bp,Nat.reduceLT,Nat.reduceEqDiff,↓reduceIte,hn,il]
 have WE:=zZ.aH.aO
 refine LB.fB eO (by decide) fU rfl rfl rfl (by simp only[List.all_cons,List.all_nil,WE];rfl) (fun h=>absurd rfl h) ?_
 intro s5 sm Kp sn
 have sm:av s5 s2.next [.int .i64 kind,.int .i64 num,iB,.slice none 0 0,.slice none 0 0]:=sm
 have mw:ar s2.next s2 s5:=((db.trans (cf.weaken (by omega))).trans ⟨by omega,fun j hj=>jc j (by omega)⟩).trans ⟨by omega,fun j hj=>sn j (by omega)⟩
 have vX:ar s.next s s5:=df.trans (mw.weaken (by omega))
 have H4:Own s5 1 iB b.length (ofBytes b):=(zZ.bc lN jc (fun e=>by have:=GB _ e;omega)).bc Kp sn (fun e=>by have:=GB _ e;omega)
 have H5:=lD.keeps mw
 have Kq:=fm.keeps mw
 simp-implicitDefEqProofs(disch:=omega)only[ai,bp,Nat.reduceSub,Nat.reduceLT,↓reduceIte,hn]
 obtain⟨FF,tE⟩:∃FF:Value->Nat->Prop,FF=fun v j=>s2.next+1<=j/\¬j=s2.next/\aJ v≠some j:=⟨_,rfl⟩
 have nH:=bD.next
 have adi:=mw.next
 have B7:s2.next<s5.next:=sm.lt
 refine Comes.bC (fun z f s6=>∃(i:Nat) (y:Value) (LC:List Value),z=l.length-i/\i<=l.length/\Own s6 5 y i LC/\aL dr 5 (FF y) s6 (l.take i) LC/\aN s5.next y/\aM s6 1 iB b.length (ofBytes b)/\dO (FF y) iB/\av s6 s.next [.int .i64 kind,.int .i64 num,bv,lv,dv]/\av s6 s1.next cr/\av s6 s2.next [.int .i64 kind,.int .i64 num,iB,y,.slice none 0 0]/\ar s.next s s6/\s5.next<=s6.next/\f.n=59/\f.get 1= .pointer (some ⟨s.next,0,some 6⟩)/\f.get 2= .pointer (some ⟨s1.next,0,some 6⟩)/\f.get 3= .pointer (some ⟨s2.next,0,some 6⟩)/\f.get 4= .int .i64 (i:Nat))
  (fun z f s6=>z= .exit 0/\∃(y:Value) (LC:List Value),Own s6 5 y l.length LC/\aL dr 5 (FF y) s6 l LC/\aN s5.next y/\aM s6 1 iB b.length (ofBytes b)/\dO (FF y) iB/\av s6 s.next [.int .i64 kind,.int .i64 num,bv,lv,dv]/\av s6 s1.next cr/\av s6 s2.next [.int .i64 kind,.int .i64 num,iB,y,.slice none 0 0]/\ar s.next s s6/\s5.next<=s6.next/\f.n=59/\f.get 1= .pointer (some ⟨s.next,0,some 6⟩)/\f.get 2= .pointer (some ⟨s1.next,0,some 6⟩)/\f.get 3= .pointer (some ⟨s2.next,0,some 6⟩))
  ⟨0,.slice none 0 0,[],rfl,by omega,.nil,by rw[List.take_zero];exact aL.nil,aN.nil _,H4.aH,dO.wk (fun j hj=>by rw[tE];have:=GB j hj;exact⟨by omega,by omega,fun e=>by cases e⟩),H5,Kq,sm,vX,Nat.le_refl _,by simp only[ae,hn],by simp only[aa,↓reduceIte,Nat.reduceEqDiff],by simp only[aa,↓reduceIte,Nat.reduceEqDiff],by simp only[aa,↓reduceIte,Nat.reduceEqDiff],by simp only[aa,↓reduceIte];rfl⟩ ?_ ?_
 ·clear hn h0 f uK fU sm jc sn zZ H4 H5 Kq l0 l1 l2 gC uJ ef gW hA A
  rintro Q hQ z f s6 ⟨i,y,LC,rfl,hi,hy,hR,iQ,qX,uU,nq,jK,fv,dF,F3,hn,h1,h2,h3,h4⟩
  have nK:=hL.keeps dF
  have l6:aG Tryz.prog s6 23 (.pointer (some ⟨s.next,3,some 6⟩))=some lv:=nq.load wu (off:=3) (c:=6) rfl (by simp)
  by_cases aP:i<l.length
  rotate_left
  ·obtain rfl:i=l.length:=by omega
   rw[List.take_length] at hR
   have d1:¬((l.length:Nat):Int)<((l.length:Nat):Int):=by omega
   simp-implicitDefEqProofs(disch:=omega)only[ai,ad,Nat.reduceLT,Nat.reduceEqDiff,↓reduceIte,hn,h1,h4,Ex,l6,nK.aV Tryz.underlying23,eq_false d1]
   refine hQ _ _ _ ⟨rfl,y,LC,hy,hR,iQ,qX,uU,nq,jK,fv,dF,F3,by simp only[ae,hn],by simp only[aa,↓reduceIte,Nat.reduceEqDiff,h1],by simp only[aa,↓reduceIte,Nat.reduceEqDiff,h2],by simp only[aa,↓reduceIte,Nat.reduceEqDiff,h3]⟩
  have pQ:aJ y≠some s2.next:=fun e=>by have:=iQ _ e;have:=fv.lt;have:=B7;omega
  have d1:(i:Int)<(l.length:Int):=by omega
  simp-implicitDefEqProofs(disch:=omega)only[ai,ad,Nat.reduceLT,Nat.reduceEqDiff,↓reduceIte,hn,h1,h4,Ex,l6,nK.aV Tryz.underlying23,eq_true d1]
  obtain⟨A,hA⟩:∃A:Nat->Bool,A=fun j=>decide (j<s6.next):=⟨_,rfl⟩
  have ef:∀j,A j=true->j<s6.next:=by
   intro j h
   rw[hA] at h
   exact of_decide_eq_true h
  have gW:∀j,j<s6.next->A j=true:=fun j h=>by rw[hA];exact decide_eq_true h
  refine LB.cF.dy A ef 1 1 (by kernel_rfl) (by kernel_rfl) ?_
  have db:=ar.spare s6 1
  have F1:(spare s6 1).next=s6.next+1:=bT _ _
  have oR:∀k,LA.dB A (some (.pointer (some ⟨s.next,k,some 6⟩)))=true:=fun k=>LA.bY (A:=A) (i:=s.next) (gW _ nq.lt)
  have nZ:∀k,LA.dB A (some (.pointer (some ⟨s2.next,k,some 6⟩)))=true:=fun k=>LA.bY (A:=A) (i:=s2.next) (gW _ fv.lt)
  have l7:aG Tryz.prog (spare s6 1) 23 (.pointer (some ⟨s.next,3,some 6⟩))=some lv:=(nq.keeps db).load wu (off:=3) (c:=6) rfl (by simp)
  have l8:aG Tryz.prog (spare s6 1) 23 (.pointer (some ⟨s2.next,3,some 6⟩))=some y:=(fv.keeps db).load wu (off:=3) (c:=6) rfl (by simp)
  have yW:=nK.keeps db
  have dI:=yW.indexAddr (P:=Tryz.prog) (k:= .i64) (x:=(i:Int)) Tryz.underlying23 eO (by omega) (by omega)
  rw[Int.toNat_natCast] at dI
  have fM:=yW.eF (P:=Tryz.prog) ua eO aP
  have oL:=((rl.row i aP).keeps dF).keeps db
  simp-implicitDefEqProofs(disch:=omega)only[ai,aj,bn,bp,Nat.sub_self,ad,ag,Nat.reduceLT,Nat.reduceEqDiff,↓reduceIte,hn,h1,h3,h4,Ex,oR,nZ,l7,l8,yW.self,hy.self,dI,fM,LA.di nK gW aP,oL.self]
  refine(ih l[i] (by have:=O.wi (k:=kind) (n:=num) (b:=b) (l:=l) (d:=d) (List.getElem_mem aP);omega) F (spare s6 1) _ oL (Vb _ (List.getElem_mem aP))).mono ?_
  rintro _ s7 h7
  obtain⟨xU,rfl,lQ,fH⟩:=h7.new
  have X6:=fH.next
  refine⟨fun _=>LA.ar.lM ef (fH.weaken (by omega)),?_⟩
  have uW:=lQ.len
  simp-implicitDefEqProofs(disch:=omega)only[dY (cs:=xU.toArray) Tryz.underlying23 eO zO oQ rfl uW (by decide)]
  refine LB.bF (base:=s6.next) uW (by omega) (Nat.le_refl _) ?_
  intro bs s8 pS fc jL uL qo
  have fV:ar s6.next s6 s8:=(db.trans (fH.weaken (by omega))).trans jL
  have Wh:=fV.next
  have CQ:dr (FF y) s8 xU l[i]:=by
   refine(lQ.turns (u:= .pointer (some ⟨s6.next,0,none⟩)) (bm.bc uL qo) (fun j hj e=> ?_)).mono (fun j hj=> ?_)
   ·have e:some s6.next=some j:=e
    injection e with e;omega
   ·rw[tE];exact⟨by have:=dF.next;omega,by omega,fun e=>by have:=hy.jh _ e;omega⟩
  simp-implicitDefEqProofs(disch:=omega)only[ai,bp,ad,Nat.reduceLT,Nat.reduceEqDiff,↓reduceIte,hn]
  refine LB.cZ Tryz.underlying23 Tryz.underlying23 (.inl ⟨_,rfl⟩) eO WA zO rfl (hy.keeps fV) pS.aH.src uW (by decide) CQ.ok (by omega) (by omega) (base:=s5.next) iQ (by omega) (fun h=>absurd rfl h) (fun j hj=>by have:=ef j hj;omega) ?_
  intro y' s9 hy9 I8 nr nJ
  have Zr:=nr.next
  have H6:=hR.keeps bH fV
  rw[tE] at H6 CQ
  have F4:=H6.grow bH uW CQ nr nJ
  have QD:aM s9 1 iB b.length (ofBytes b)/\dO (FF y') iB:=by
   have XQ:=qX.keeps fV
   have hf8:=uU.below XQ
   refine⟨XQ.oK uU nr (fun j hj=>by rw[tE] at hj;exact hj.2.2),hf8.mono (fun j hj=> ?_)⟩
   rw[tE] at hj|-
   refine⟨hj.1.1,hj.1.2.1,fun e=> ?_⟩
   rcases nJ with h1|⟨q,h1,h2⟩
   ·exact hj.1.2.2 (by rw[<-h1];exact e)
   ·rw[h1] at e;injection e with e;have:=hj.2;omega
  have WG:aJ y' ≠some s2.next:=fun e=>by
   rcases nJ with h1|⟨q,h1,h2⟩
   ·exact pQ (by rw[<-h1];exact e)
   ·rw[h1] at e;injection e with e;have:=fv.lt;omega
  simp-implicitDefEqProofs(disch:=omega)only[ai,bn,bp,Nat.reduceSub,Nat.reduceLT,Nat.reduceEqDiff,↓reduceIte,hn,h3,Ex]
  refine LB.dX wq (by decide) ((fv.keeps fV).turns nr pQ) (off:=3) (c:=6) rfl (vs:=[y']) hy9.aH.kg rfl (by simp) (by simp[hy9.aH.aO]) (fun h=>absurd rfl h) ?_
  intro sa Qm uM sq
  have Qm:av sa s2.next [.int .i64 kind,.int .i64 num,iB,y',.slice none 0 0]:=Qm
  have WH:bm (.pointer (some ⟨s2.next,0,none⟩)) s9 sa:=bm.bc uM sq
  have NW:∀v j,FF v j->aJ (.pointer (some ⟨s2.next,0,none⟩))≠some j:=fun v j hj e=>by
   have e:some s2.next=some j:=e
   injection e with e
   rw[tE] at hj;exact hj.2.1 e.symm
  rw[show(fun j=>s2.next+1<=j/\¬j=s2.next/\aJ y' ≠some j)=FF y' by rw[tE]] at F4
  simp-implicitDefEqProofs(disch:=omega)only[ai,bp,Nat.reduceSub,Nat.reduceLT,Nat.reduceEqDiff,↓reduceIte,hn,h4,aD]
  refine au (l.length-(i+1)) (by omega) ⟨i+1,y',LC++xU,rfl,by omega,hy9.bc uM sq WG,?_,I8,QD.1.oK QD.2 WH (NW y'),QD.2,((nq.keeps fV).turns nr (fun e=>by have:=iQ _ e;have:=vX.next;have:=B7;omega)).bc uM sq (by omega),((jK.keeps fV).turns nr (fun e=>by have:=iQ _ e;have:=B7;omega)).bc uM sq (by omega),Qm,?_,by omega,by simp only[ae,hn],by simp only[aa,↓reduceIte,Nat.reduceEqDiff,h1],by simp only[aa,↓reduceIte,Nat.reduceEqDiff,h2],by simp only[aa,↓reduceIte,Nat.reduceEqDiff,h3],by simp only[aa,↓reduceIte];rfl⟩
  ·rw[List.take_add_one,List.getElem?_eq_getElem aP]
   exact F4.turns bH WH (NW y')
  ·exact((dF.trans (fV.weaken dF.next)).trans ((nr.keeps iQ (by omega)).weaken vX.next)).trans ⟨by omega,fun j hj=>sq j (by omega)⟩
 clear hn h0 f uK fU sm jc sn zZ H4 H5 Kq l0 l1 l2 gC uJ ef gW hA A
 rintro z f s6 ⟨rfl,y,LC,F5,hR,iQ,qX,uU,nq,jK,fv,dF,F3,hn,h1,h2,h3⟩
 obtain⟨FG,TF⟩:∃FG:Value->Nat->Prop,FG=fun v j=>s2.next+1<=j/\¬(j=s2.next\/aJ y=some j)/\aJ v≠some j:=⟨_,rfl⟩
 have Vc:∀j,FF y j->FG (.slice none 0 0) j:=fun j hj=>by
  rw[tE] at hj;rw[TF]
  exact⟨hj.1,fun e=>e.elim hj.2.1 hj.2.2,fun e=>by cases e⟩
 replace hR:=hR.mono bH Vc
 replace uU:=uU.mono Vc
 simp-implicitDefEqProofs(disch:=omega)only[ai,Nat.reduceLT,↓reduceIte,hn]
 refine Comes.bC (fun z f s7=>∃(i:Nat) (w:Value) (DC:List Value),z=d.length-i/\i<=d.length/\Own s7 6 w i DC/\aL cu 6 (FG w) s7 (d.take i) DC/\aN s5.next w/\aM s7 1 iB b.length (ofBytes b)/\dO (FG w) iB/\Own s7 5 y l.length LC/\(∀j,aJ y=some j->aJ w≠some j)/\aL dr 5 (FG w) s7 l LC/\av s7 s.next [.int .i64 kind,.int .i64 num,bv,lv,dv]/\av s7 s1.next cr/\av s7 s2.next [.int .i64 kind,.int .i64 num,iB,y,w]/\ar s.next s s7/\s5.next<=s7.next/\f.n=59/\f.get 1= .pointer (some ⟨s.next,0,some 6⟩)/\f.get 2= .pointer (some ⟨s1.next,0,some 6⟩)/\f.get 3= .pointer (some ⟨s2.next,0,some 6⟩)/\f.get 5= .int .i64 (i:Nat))
  (fun z f s7=>z= .exit 2/\∃(w:Value) (DC:List Value),Own s7 6 w d.length DC/\aL cu 6 (FG w) s7 d DC/\aN s5.next w/\aM s7 1 iB b.length (ofBytes b)/\dO (FG w) iB/\Own s7 5 y l.length LC/\(∀j,aJ y=some j->aJ w≠some j)/\aL dr 5 (FG w) s7 l LC/\av s7 s1.next cr/\av s7 s2.next [.int .i64 kind,.int .i64 num,iB,y,w]/\ar s.next s s7/\s5.next<=s7.next/\f.n=59/\f.get 2= .pointer (some ⟨s1.next,0,some 6⟩)/\f.get 3= .pointer (some ⟨s2.next,0,some 6⟩))
  ⟨0,.slice none 0 0,[],rfl,by omega,.nil,by rw[List.take_zero];exact aL.nil,aN.nil _,qX,uU,F5,(fun j _ e=>by cases e),hR,nq,jK,fv,dF,F3,by simp only[ae,hn],by simp only[aa,↓reduceIte,Nat.reduceEqDiff,h1],by simp only[aa,↓reduceIte,Nat.reduceEqDiff,h2],by simp only[aa,↓reduceIte,Nat.reduceEqDiff,h3],by simp only[aa,↓reduceIte];rfl⟩ ?_ ?_
 ·clear hn h1 h2 h3 f nq jK fv dF F3 qX uU F5 hR s6
  rintro Q hQ z f s6 ⟨i,w,DC,rfl,hi,hw,NX,lF,qX,uU,CM,Zs,hR,nq,jK,fv,dF,F3,hn,h1,h2,h3,h5⟩
  have TG:=hD.keeps dF
  have l6:aG Tryz.prog s6 24 (.pointer (some ⟨s.next,4,some 6⟩))=some dv:=nq.load wx (off:=4) (c:=6) rfl (by simp)
  by_cases aP:i<d.length
  rotate_left
  ·obtain rfl:i=d.length:=by omega
   rw[List.take_length] at NX
   have d1:¬((d.length:Nat):Int)<((d.length:Nat):Int):=by omega
   simp-implicitDefEqProofs(disch:=omega)only[ai,aj,ad,Nat.reduceLT,Nat.reduceEqDiff,↓reduceIte,hn,h1,h5,B6,l6,TG.aV Tryz.underlying24,eq_false d1]
   refine hQ _ _ _ ⟨rfl,w,DC,hw,NX,lF,qX,uU,CM,Zs,hR,jK,fv,dF,F3,by simp only[ae,hn],by simp only[aa,↓reduceIte,Nat.reduceEqDiff,h2],by simp only[aa,↓reduceIte,Nat.reduceEqDiff,h3]⟩
  have I9:aJ w≠some s2.next:=fun e=>by have:=lF _ e;have:=fv.lt;have:=B7;omega
  have d1:(i:Int)<(d.length:Int):=by omega
  simp-implicitDefEqProofs(disch:=omega)only[ai,aj,ad,Nat.reduceLT,Nat.reduceEqDiff,↓reduceIte,hn,h1,h5,B6,l6,TG.aV Tryz.underlying24,eq_true d1]
  obtain⟨A,hA⟩:∃A:Nat->Bool,A=fun j=>decide (j<s6.next):=⟨_,rfl⟩
  have ef:∀j,A j=true->j<s6.next:=by
   intro j h
   rw[hA] at h
   exact of_decide_eq_true h
  have gW:∀j,j<s6.next->A j=true:=fun j h=>by rw[hA];exact decide_eq_true h
  refine LB.cF.dy A ef 1 1 (by kernel_rfl) (by kernel_rfl) ?_
  have db:=ar.spare s6 1
  have F1:(spare s6 1).next=s6.next+1:=bT _ _
  have oR:∀k,LA.dB A (some (.pointer (some ⟨s.next,k,some 6⟩)))=true:=fun k=>LA.bY (A:=A) (i:=s.next) (gW _ nq.lt)
  have nZ:∀k,LA.dB A (some (.pointer (some ⟨s2.next,k,some 6⟩)))=true:=fun k=>LA.bY (A:=A) (i:=s2.next) (gW _ fv.lt)
  have l7:aG Tryz.prog (spare s6 1) 24 (.pointer (some ⟨s.next,4,some 6⟩))=some dv:=(nq.keeps db).load wx (off:=4) (c:=6) rfl (by simp)
  have l8:aG Tryz.prog (spare s6 1) 24 (.pointer (some ⟨s2.next,4,some 6⟩))=some w:=(fv.keeps db).load wx (off:=4) (c:=6) rfl (by simp)
  have Zt:=TG.keeps db
  have dI:=Zt.indexAddr (P:=Tryz.prog) (k:= .i64) (x:=(i:Int)) Tryz.underlying24 jx (by omega) (by omega)
  rw[Int.toNat_natCast] at dI
  obtain⟨q0,q1⟩:=WC Zt aP
  obtain⟨r,kH,iT,yh⟩:=rd.row i aP
  obtain⟨hk6,WI⟩:=xT kH
  have wL:=Zt.eC (P:=Tryz.prog) np aP (j:=0) (by omega)
  rw[Nat.add_zero,hk6] at wL
  have Sg:=Zt.kz (P:=Tryz.prog) ua eO aP (j:=1) (by omega)
  rw[WI] at Sg
  have oL:=(iT.keeps dF).keeps db
  simp-implicitDefEqProofs(disch:=omega)only[ai,aj,bn,bp,Nat.sub_self,ad,ag,Nat.reduceLT,Nat.reduceEqDiff,↓reduceIte,hn,h1,h3,h5,B6,oR,nZ,l7,l8,Zt.self,hw.self,dI,q0,q1,wL,Sg,fA,LA.gy TG gW aP,oL.self]
  refine(ih d[i].2 (by have:=O.wj (k:=kind) (n:=num) (b:=b) (l:=l) (d:=d) (List.getElem_mem aP);omega) F (spare s6 1) _ oL (Sf _ (List.getElem_mem aP))).mono ?_
  rintro _ s7 h7
  obtain⟨xU,rfl,lQ,fH⟩:=h7.new
  have X6:=fH.next
  refine⟨fun _=>LA.ar.lM ef (fH.weaken (by omega)),?_⟩
  have uW:=lQ.len
  obtain⟨es,mM⟩:∃es,es=Value.string ⟨(d[i].1).toArray⟩::xU:=⟨_,rfl⟩
  have lj:es.length=6:=by rw[mM];simp[uW]
  have uN:bX (.agg es.toArray) (.agg es.toArray)=true:=by
   have:=lQ.self
   rw[mM]
   match xU,uW,this with
   |[a,b,c,d,e],_,this=>
    simp[bX,gp] at this|-
    exact⟨by simp[cW],this⟩
  have H7:=bE d[i].1 uW
  rw[<-mM] at H7
  simp-implicitDefEqProofs(disch:=omega)only[ai,bp,ag,Nat.reduceLT,↓reduceIte,hn,H7,uN,dY (cs:=es.toArray) Tryz.underlying24 jx zE Du rfl lj (by decide)]
  refine LB.bF (base:=s6.next) lj (by omega) (Nat.le_refl _) ?_
  intro bs s8 pS fc jL uL qo
  have fV:ar s6.next s6 s8:=(db.trans (fH.weaken (by omega))).trans jL
  have Wh:=fV.next
  have CQ:cu (FG w) s8 es d[i]:=by
   refine⟨xU,mM,(lQ.turns (u:= .pointer (some ⟨s6.next,0,none⟩)) (bm.bc uL qo) (fun j hj e=> ?_)).mono (fun j hj=> ?_),yh⟩
   ·have e:some s6.next=some j:=e
    injection e with e;omega
   ·rw[TF];exact⟨by have:=dF.next;omega,fun e=>e.elim (fun e=>by omega) (fun e=>by have:=CM.jh _ e;omega),fun e=>by have:=hw.jh _ e;omega⟩
  have pz:es.all aO=true:=by rw[mM,List.all_cons,lQ.ok];rfl
  simp-implicitDefEqProofs(disch:=omega)only[ai,bp,ad,Nat.reduceLT,Nat.reduceEqDiff,↓reduceIte,hn]
  refine LB.cZ Tryz.underlying24 Tryz.underlying24 (.inl ⟨_,rfl⟩) jx Va zE rfl (hw.keeps fV) pS.aH.src lj (by decide) pz (by omega) (by omega) (base:=s5.next) lF (by omega) (fun h=>absurd rfl h) (fun j hj=>by have:=ef j hj;omega) ?_
  intro w' s9 TH I8 nr nJ
  have Zr:=nr.next
  have ir:∀j,FG w j/\j<s8.next->FG w' j:=fun j hj=>by
   rw[TF] at hj|-
   refine⟨hj.1.1,hj.1.2.1,fun e=> ?_⟩
   rcases nJ with h1|⟨q,h1,h2⟩
   ·exact hj.1.2.2 (by rw[<-h1];exact e)
   ·rw[h1] at e;injection e with e;have:=hj.2;omega
  have hnw:∀j,FG w j->aJ w≠some j:=fun j hj=>by rw[TF] at hj;exact hj.2.2
  have QE:=NX.keeps bV fV
  have Zu:=CQ
  rw[TF] at QE Zu
  have QF:=QE.grow (X:=fun j=>j=s2.next\/aJ y=some j) bV lj Zu nr nJ
  rw[show(fun j=>s2.next+1<=j/\¬(j=s2.next\/aJ y=some j)/\aJ w' ≠some j)=FG w' by rw[TF]] at QF
  have Zv:=qX.keeps fV
  have Zw:=CM.keeps fV
  have QD:=Zv.oK uU nr hnw
  have adk:=Zw.turns nr Zs
  have Zx:=(uU.below Zv).mono ir
  have adl:∀j,aJ y=some j->aJ w' ≠some j:=fun j hj e=>by
   rcases nJ with h1|⟨q,h1,h2⟩
   ·exact Zs j hj (by rw[<-h1];exact e)
   ·rw[h1] at e;injection e with e;have:=Zw.jh _ hj;omega
  have F4:=((hR.keeps bH fV).below bH|>.turns bH nr (fun j hj=>hnw j hj.1)).mono bH ir
  have WG:aJ w' ≠some s2.next:=fun e=>by
   rcases nJ with h1|⟨q,h1,h2⟩
   ·exact I9 (by rw[<-h1];exact e)
   ·rw[h1] at e;injection e with e;have:=fv.lt;omega
  simp-implicitDefEqProofs(disch:=omega)only[ai,bn,bp,Nat.reduceSub,Nat.reduceLT,Nat.reduceEqDiff,↓reduceIte,hn,h3,B6]
  refine LB.dX wv (by decide) ((fv.keeps fV).turns nr I9) (off:=4) (c:=6) rfl (vs:=[w']) TH.aH.kg rfl (by simp) (by simp[TH.aH.aO]) (fun h=>absurd rfl h) ?_
  intro sa Qm uM sq
  have Qm:av sa s2.next [.int .i64 kind,.int .i64 num,iB,y,w']:=Qm
  have WH:bm (.pointer (some ⟨s2.next,0,none⟩)) s9 sa:=bm.bc uM sq
  have NW:∀v j,FG v j->aJ (.pointer (some ⟨s2.next,0,none⟩))≠some j:=fun v j hj e=>by
   have e:some s2.next=some j:=e
   injection e with e
   rw[TF] at hj;exact hj.2.1 (.inl e.symm)
  simp-implicitDefEqProofs(disch:=omega)only[ai,bp,Nat.reduceSub,Nat.reduceLT,Nat.reduceEqDiff,↓reduceIte,hn,h5,aD]
  refine au (d.length-(i+1)) (by omega) ⟨i+1,w',DC++es,rfl,by omega,TH.bc uM sq WG,?_,I8,QD.oK Zx WH (NW w'),Zx,adk.turns WH (fun j hj e=>by have e:some s2.next=some j:=e;injection e with e;have:=iQ _ hj;omega),adl,F4.turns bH WH (NW w'),((nq.keeps fV).turns nr (fun e=>by have:=lF _ e;have:=vX.next;have:=B7;omega)).bc uM sq (by omega),((jK.keeps fV).turns nr (fun e=>by have:=lF _ e;have:=B7;omega)).bc uM sq (by omega),Qm,?_,by omega,by simp only[ae,hn],by simp only[aa,↓reduceIte,Nat.reduceEqDiff,h1],by simp only[aa,↓reduceIte,Nat.reduceEqDiff,h2],by simp only[aa,↓reduceIte,Nat.reduceEqDiff,h3],by simp only[aa,↓reduceIte];rfl⟩
  ·rw[List.take_add_one,List.getElem?_eq_getElem aP]
   exact QF.turns bV WH (NW w')
  ·exact((dF.trans (fV.weaken dF.next)).trans ((nr.keeps lF (by omega)).weaken vX.next)).trans ⟨by omega,fun j hj=>sq j (by omega)⟩
 clear hn h1 h2 h3 f nq jK fv dF F3 qX uU F5 hR s6
 rintro z f s6 ⟨rfl,w,DC,hw,NX,lF,qX,uU,CM,Zs,hR,jK,fv,dF,F3,hn,h2,h3⟩
 have la:=av.cY (P:=Tryz.prog) (cs:=[.int .i64 kind,.int .i64 num,iB,y,w]) ua eO fv (c:=6) rfl
 have ok1:=qX.aO
 have ok2:=CM.aH.aO
 have ok3:=hw.aH.aO
 simp-implicitDefEqProofs(disch:=omega)only[ai,Nat.reduceLT,Nat.reduceEqDiff,↓reduceIte,hn,h2,h3,la]
 refine aE eO (by decide) jK rfl rfl rfl (by simp only[List.all_cons,List.all_nil,ok1,ok2,ok3];rfl) ?_
 intro s7 og kA jV
 have l7:=av.cY (P:=Tryz.prog) (cs:=[.int .i64 kind,.int .i64 num,iB,y,w]) ua eO og (c:=6) rfl
 simp-implicitDefEqProofs(disch:=omega)only[ai,al,oneOf,Nat.reduceLT,Nat.reduceEqDiff,↓reduceIte,hn,h2,l7,aW,Tryz.results56]
 have QG:bm (.pointer (some ⟨s1.next,0,none⟩)) s6 s7:=bm.bc kA jV
 have NY:∀j,FG w j->aJ (.pointer (some ⟨s1.next,0,none⟩))≠some j:=fun j hj e=>by
  have e:some s1.next=some j:=e
  injection e with e
  rw[TF] at hj;have:=hj.1;omega
 have hyj:∀j,aJ y=some j->s5.next<=j:=fun j hj=>iQ _ hj
 have mE:dO (fun j=>s.next<=j/\aJ y≠some j) w:=dO.wk (fun j hj=>⟨by have:=lF _ hj;have:=vX.next;omega,fun e=>Zs j e hj⟩)
 have hm:∀j,FG w j->s.next<=j/\aJ y≠some j:=fun j hj=>by rw[TF] at hj;exact⟨by have:=hj.1;have:=df.next;omega,fun e=>hj.2.1 (.inr e)⟩
 exact⟨_,_,_,_,_,_,_,_,_,_,rfl,rfl,CM.turns QG (fun j hj e=>by have e:some s1.next=some j:=e;injection e with e;have:=hyj _ hj;omega),fun j hj=>by have:=hyj j hj;have:=vX.next;omega,qX.oK uU QG NY,hw.aH.bc kA jV (fun e=>by have:=lF _ e;omega),uU.mono hm,mE,(hR.turns bH QG NY).mono bH hm,(NX.turns bV QG NY).mono bV hm,dF.trans ⟨by omega,fun j hj=>jV j (by have:=bB.next;omega)⟩⟩
theorem F6 {lib:ay}(hl:lib.at 56=none)(nF:lib.at 39=none)(N:Nat)(o:O)(hN:SizeOf.sizeOf o<=N)(F:Nat->Prop)(s:aq)(cs:List Value)(ho:dr F s cs o)(hs:Small o):
  Runs Tryz.prog lib 56 [.agg cs.toArray] s (gz s o):=(WD hl nF N o hN F s cs ho hs).mono fun _ _ h=>h.new
end Go.Proofs.YtdfjfncifneocaaGreat
namespace Go.Cl
inductive gA:O->O->Prop
 |mk {k n n' :Int} {b b' :List UInt8} {l l' :List O} {d d' :List (List UInt8×O)} (hn:(k=1\/k=2\/k=3\/k=9)->n=n') (hb:(k=4\/k=5\/k=8)->b=b')
  (hl:k=6->l.length=l'.length) (hL:k=6->∀i (h:i<l.length) (h' :i<l'.length),gA l[i] l'[i])
  (hd:(k=7\/k=8)->d.length=d'.length) (hK:(k=7\/k=8)->∀i (h:i<d.length) (h' :i<d'.length),d[i].1=d'[i].1) (hD:(k=7\/k=8)->∀i (h:i<d.length) (h' :i<d'.length),gA d[i].2 d'[i].2):gA (.mk k n b l d) (.mk k n' b' l' d')
theorem gA.inv {k k' n n' :Int}{b b' :List UInt8}{l l' :List O}{d d' :List (List UInt8×O)}(h:gA (.mk k n b l d) (.mk k' n' b' l' d')):k=k' /\((k=1\/k=2\/k=3\/k=9)->n=n')/\((k=4\/k=5\/k=8)->b=b')/\(k=6->l.length=l'.length)/\(k=6->∀i (h:i<l.length) (h' :i<l'.length),gA l[i] l'[i])/\
  ((k=7\/k=8)->d.length=d'.length)/\((k=7\/k=8)->∀i (h:i<d.length) (h' :i<d'.length),d[i].1=d'[i].1)/\((k=7\/k=8)->∀i (h:i<d.length) (h' :i<d'.length),gA d[i].2 d'[i].2):=by
 cases h with
 |mk hn hb hl hL hd hK hD=>exact⟨rfl,hn,hb,hl,hL,hd,hK,hD⟩
theorem gA.refl:∀(N:Nat) (a:O),SizeOf.sizeOf a<=N->gA a a:=by
 intro N
 induction N with
 |zero=>intro a h;cases a;simp at h
 |succ N ih=>
  intro a h
  cases a with
  |mk k n b l d=>
   exact .mk (fun _=>rfl) (fun _=>rfl) (fun _=>rfl) (fun _ i h1 h2=>ih _ (by have:=O.wi (k:=k) (n:=n) (b:=b) (l:=l) (d:=d) (List.getElem_mem h1);omega)) (fun _=>rfl) (fun _ i _ _=>rfl) (fun _ i h1 h2=>ih _ (by have:=O.wj (k:=k) (n:=n) (b:=b) (l:=l) (d:=d) (List.getElem_mem h1);omega))
theorem gA.self (a:O):gA a a:=gA.refl _ a (Nat.le_refl _)
theorem gA.symm {a b:O}(h:gA a b):gA b a:=by
 induction h with
 |mk hn hb hl hL hd hK hD iL iD=>exact .mk (fun h=>(hn h).symm) (fun h=>(hb h).symm) (fun h=>(hl h).symm) (fun h i h1 h2=>iL h i h2 h1) (fun h=>(hd h).symm) (fun h i h1 h2=>(hK h i h2 h1).symm) (fun h i h1 h2=>iD h i h2 h1)
def wy (p:Prop)(v:Value):Prop:=∃t:Bool,v= .bool t/\(t=true↔p)
theorem wy.no {p:Prop}(h:¬p):wy p (.bool false):=⟨false,rfl,⟨fun h=>by(cases h),fun k=>absurd k h⟩⟩
theorem wy.yes {p:Prop}(h:p):wy p (.bool true):=⟨true,rfl,⟨fun _=>h,fun _=>rfl⟩⟩
theorem tm {p:Nat->Prop}{i:Nat}(h:∀j,j<i->p j)(hi:p i):∀j,j<i+1->p j:=by
 intro j hj
 rcases Nat.lt_succ_iff_lt_or_eq.mp hj with h1|h1
 ·exact h j h1
 ·rw[h1];exact hi
theorem av.tn {P:Program}{e:TypeId}{n:Nat}(ow:cw P e=some true)(cJ:bq P e=some n){s:aq}{i:Nat}{cs:List Value}(h:av s i cs){off c:Nat}(hc:c=cs.length+1)(ho:off+n<=cs.length):
  aG P s e (.pointer (some ⟨i,off,some c⟩))=some (.agg ((cs.drop off).take n).toArray):=by
 obtain⟨low,z,h1,h2⟩:=h.dL
 subst hc
 unfold aG
 simp only[ow,cJ]
 rw[iz h1 h2 (Nat.le_refl _) (by omega)]
end Go.Cl
namespace Go.Cl
def Vd (b:List UInt8):Prop:=b.length<=127/\∀i (h:i<b.length),b[i].toNat≠0
def Zy (x y:List UInt8):Prop:=¬(Op.bytesLess y x||y==x)=true
inductive WJ:Int->O->Prop
 |mk {p k n:Int} {b:List UInt8} {l:List O} {d:List (List UInt8×O)} (h1:l≠[]->k=6) (h2:d≠[]->k=7\/k=8) (h3:b≠[]->k=4\/k=5\/k=8) (hk:0<=k/\k<=9)
  (n1:k=1->n=0\/n=1) (n2:k=2-> -2147483647<=n/\n<=2147483647) (n3:k=3-> -214748364799999<=n/\n<=214748364799999) (n9:k=9->1<=n/\n<=8388607) (n0:k≠1->k≠2->k≠3->k≠9->n=0)
  (b4:k=4->b.length<=32767) (b5:k=5->Vd b) (p6:k=6->1<=p) (l6:k=6->∀i (h:i<l.length),l[i].kind≠8) (m6:k=6->∀i (h:i<l.length),WJ (p-1) l[i])
  (p7:k=7\/k=8->1<=p) (b7:k=7\/k=8->b.length<=16777216) (e7:k=7\/k=8->∀i (h:i<d.length),Vd d[i].1/\d[i].2.kind≠8/\d[i].2.kind≠0) (m7:k=7\/k=8->∀i (h:i<d.length),WJ (p-1) d[i].2)
  (r7:k=7\/k=8->∀i (h:i+1<d.length),Zy d[i].1 d[i+1].1):WJ p (.mk k n b l d)
section
variable {p k n:Int} {b:List UInt8} {l:List O} {d:List (List UInt8×O)} (g1:l≠[]->k=6) (g2:d≠[]->k=7\/k=8) (g3:b≠[]->k=4\/k=5\/k=8)
include g1 g2 g3
omit g1 g2 g3 in
omit g1 g2 g3 in
end
section
variable {P:Program} {t:TypeId}
theorem TI (a b:List UInt8):du P .leq t (.string ⟨a.toArray⟩) (.string ⟨b.toArray⟩)=some (.bool (Op.bytesLess a b||a==b)):=by
 simp only[du,zT]
end
end Go.Cl
namespace Go.Cl
open Go.Lib
abbrev gS (a b:List UInt8):Bool:=Op.bytesLess a b
theorem ss:∀(a b:List UInt8),(gS a b||a==b)= !(gS b a)
 |[],[]=>rfl
 |[],_::_=>rfl
 |_::_,[]=>rfl
 |x::a,y::b=>by
  have ih:=ss a b
  simp only[gS] at ih|-
  simp only[Op.bytesLess,List.cons_beq_cons]
  by_cases h:x=y
  ·subst h
   have hx:¬x<x:=UInt8.lt_irrefl x
   simp only[decide_eq_false hx,Bool.false_or,beq_self_eq_true,Bool.true_and]
   exact ih
  ·have h1:(x==y)=false:=by simpa using h
   have h2:(y==x)=false:=by simpa using Ne.symm h
   simp only[h1,h2,Bool.false_and,Bool.or_false]
   by_cases hl:x<y
   ·have:¬y<x:=UInt8.not_lt.2 (UInt8.le_of_lt hl)
    simp[hl,this]
   ·have:y<x:=UInt8.lt_of_le_of_ne (UInt8.not_lt.1 hl) (Ne.symm h)
    simp[hl,this]
theorem lR:∀(a b:List UInt8),0<=compareBytes a b↔gS a b=false
 |[],[]=>by simp[compareBytes,gS,Op.bytesLess]
 |[],_::_=>by simp[compareBytes,gS,Op.bytesLess]
 |_::_,[]=>by simp[compareBytes,gS,Op.bytesLess]
 |x::a,y::b=>by
  have ih:=lR a b
  simp only[gS] at ih|-
  unfold compareBytes
  simp only[Op.bytesLess]
  by_cases h1:x<y
  ·simp[h1]
  ·rw[if_neg h1]
   by_cases h2:y<x
   ·have cD:(x==y)=false:=by
     have:x≠y:=fun e=>by subst e;exact UInt8.lt_irrefl x h2
     simpa using this
    rw[if_pos h2];simp[h1,cD]
   ·rw[if_neg h2]
    have:x=y:=UInt8.le_antisymm (UInt8.not_lt.1 h2) (UInt8.not_lt.1 h1)
    subst this
    simp only[decide_eq_false h1,Bool.false_or,beq_self_eq_true,Bool.true_and]
    exact ih
theorem lS:∀(a b:List UInt8),compareBytes a b=0↔a=b
 |[],[]=>by simp[compareBytes]
 |[],_::_=>by simp[compareBytes]
 |_::_,[]=>by simp[compareBytes]
 |x::a,y::b=>by
  have ih:=lS a b
  unfold compareBytes
  by_cases h1:x<y
  ·have:x≠y:=fun e=>by subst e;exact UInt8.lt_irrefl x h1
   simp[h1,this]
  ·rw[if_neg h1]
   by_cases h2:y<x
   ·have:x≠y:=fun e=>by subst e;exact UInt8.lt_irrefl x h2
    simp[h2,this]
   ·rw[if_neg h2,ih]
    have:x=y:=UInt8.le_antisymm (UInt8.not_lt.1 h2) (UInt8.not_lt.1 h1)
    subst this
    simp
def CR (d:List (List UInt8×O))(k:List UInt8):Nat:=d.findIdx (fun y=> !(gS y.1 k))
def others (k:List UInt8)(d:List (List UInt8×O)):List (List UInt8×O):=d.filter (fun y=> !(y.1==k))
def kv (d:List (List UInt8×O))(e:List UInt8×O):List (List UInt8×O):=
 others e.1 (d.take (CR d e.1))++(if e.2.kind=0 then [] else [e])++others e.1 (d.drop (CR d e.1))
def b6 (d l:List (List UInt8×O)):List (List UInt8×O):=l.foldl kv d
end Go.Cl
namespace Go.Cl
def dG (p:Nat->Bool):Nat->Nat
 |0=>0
 |j+1=>dG p j+(if p j then 0 else 1)
def iS (l:List Value)(z:Nat)(p:Nat->Bool):Nat->List Value
 |0=>[]
 |j+1=>iS l z p j++(if p j then [] else(l.drop (j*z)).take z)
theorem su (p:Nat->Bool):∀j,dG p j<=j
 |0=>Nat.le_refl _
 |j+1=>by have:=su p j;unfold dG;split<;>omega
theorem tp {l:List Value}{z n:Nat}(p:Nat->Bool)(hl:l.length=n*z):∀j,j<=n->(iS l z p j).length=dG p j*z
 |0,_=>by simp[iS,dG]
 |j+1,h=>by
  have ih:=tp p hl j (by omega)
  have hz:(j+1)*z<=n*z:=Nat.mul_le_mul_right z h
  rw[Nat.succ_mul] at hz
  unfold iS dG
  split
  ·simp[ih]
  ·rw[List.length_append,ih,List.length_take,List.length_drop,Nat.add_mul,Nat.one_mul];omega
theorem B8 {l:List Value}{z:Nat}{p:Nat->Bool}:∀k,(∀i,i<k->p i=false)->dG p k=k/\iS l z p k=l.take (k*z)
 |0,_=>by simp[iS,dG]
 |k+1,h=>by
  obtain⟨h1,h2⟩:=B8 (l:=l) (z:=z) k (fun i hi=>h i (by omega))
  have h3:=h k (by omega)
  unfold iS dG
  rw[h1,h2,h3]
  refine⟨rfl,?_⟩
  rw[Nat.succ_mul,List.take_add];rfl
theorem NZ {l L:List Value}{z n j:Nat}{p:Nat->Bool}(hL:L.length=n*z)(hl:l.length=n*z)(hj:j<n)(h1:L.take (dG p j*z)=iS l z p j)(h2:L.drop (j*z)=l.drop (j*z))(hp:p j=false):
  (over L (dG p j*z) ((l.drop (j*z)).take z)).take (dG p (j+1)*z)=iS l z p (j+1)/\(over L (dG p j*z) ((l.drop (j*z)).take z)).drop ((j+1)*z)=l.drop ((j+1)*z):=by
 have hz:(j+1)*z<=n*z:=Nat.mul_le_mul_right z hj
 have hk:dG p j*z<=j*z:=Nat.mul_le_mul_right z (su p j)
 have hr:((l.drop (j*z)).take z).length=z:=by rw[Nat.succ_mul] at hz;rw[List.length_take,List.length_drop];omega
 rw[Nat.succ_mul] at hz
 have OL:=tp p hl j (by omega)
 unfold over
 rw[h1,hr]
 have e1:dG p (j+1)*z=dG p j*z+z:=by simp[dG,hp,Nat.succ_mul]
 constructor
 ·rw[e1,List.take_append_of_le_length (by rw[List.length_append,OL,hr];omega),List.take_of_length_le (by rw[List.length_append,OL,hr];omega)]
  simp[iS,hp]
 ·have e2:L.drop ((j+1)*z)=l.drop ((j+1)*z):=by
   have:=congrArg (List.drop z) h2
   rwa [List.drop_drop,List.drop_drop,<-Nat.succ_mul] at this
  have hlen:(iS l z p j++(l.drop (j*z)).take z).length=dG p j*z+z:=by rw[List.length_append,OL,hr]
  rw[List.drop_append,List.drop_eq_nil_of_le (by rw[hlen,Nat.succ_mul];omega),List.nil_append,hlen,List.drop_drop,<-e2]
  congr 1
  rw[Nat.succ_mul];omega
theorem Ey {l L:List Value}{z j:Nat}{p:Nat->Bool}(h1:L.take (dG p j*z)=iS l z p j)(h2:L.drop (j*z)=l.drop (j*z))(hp:p j=true):L.take (dG p (j+1)*z)=iS l z p (j+1)/\L.drop ((j+1)*z)=l.drop ((j+1)*z):=by
 constructor
 ·simp[dG,iS,hp,h1]
 ·have:=congrArg (List.drop z) h2
  rwa [List.drop_drop,List.drop_drop,<-Nat.succ_mul] at this
end Go.Cl
namespace Go.Cl
section
variable {α:Type} {Q:(Nat->Prop)->aq->List Value->α->Prop} {z:Nat} {F:Nat->Prop} {s:aq} {D E:List α} {l m:List Value}
def yX (D:List α)(p:Nat->Bool):Nat->List α
 |0=>[]
 |j+1=>yX D p j++(if p j then [] else D[j]?.toList)
theorem aL.WK (h:aL Q z F s D l){i:Nat}(hi:i<D.length):((l.drop (i*z)).take z).length=z:=by
 have e:=h.len
 have:(i+1)*z<=D.length*z:=Nat.mul_le_mul_right z hi
 rw[Nat.succ_mul] at this
 rw[List.length_take,List.length_drop];omega
theorem aL.kept (h:aL Q z F s D l)(p:Nat->Bool):∀j,j<=D.length->aL Q z F s (yX D p j) (iS l z p j)
 |0,_=>aL.nil
 |j+1,hj=>by
  have ih:=h.kept p j (by omega)
  unfold yX iS
  split
  ·simpa using ih
  ·rw[List.getElem?_eq_getElem (by omega)]
   exact ih.snoc (h.WK (by omega)) (h.row j (by omega))
theorem aL.take (h:aL Q z F s D l)(k:Nat)(hk:k<=D.length):aL Q z F s (D.take k) (l.take (k*z)):=by
 have hz:k*z<=D.length*z:=Nat.mul_le_mul_right z hk
 have e:=h.len
 refine⟨by rw[List.length_take,List.length_take,Nat.min_eq_left hk];omega,fun i hi=> ?_⟩
 have u9:i<k:=by rw[List.length_take] at hi;omega
 have GX:(i+1)*z<=k*z:=Nat.mul_le_mul_right z u9
 rw[Nat.succ_mul] at GX
 have:=h.row i (by omega)
 rw[List.getElem_take,List.drop_take,List.take_take,Nat.min_eq_left (by omega)]
 exact this
theorem aL.drop (h:aL Q z F s D l)(k:Nat)(hk:k<=D.length):aL Q z F s (D.drop k) (l.drop (k*z)):=by
 have e:=h.len
 refine⟨by rw[List.length_drop,List.length_drop,e,Nat.sub_mul],fun i hi=> ?_⟩
 have u9:k+i<D.length:=by rw[List.length_drop] at hi;omega
 have:=h.row (k+i) u9
 rw[List.getElem_drop,List.drop_drop,<-Nat.add_mul]
 exact this
theorem aL.append (h:aL Q z F s D l)(k:aL Q z F s E m):aL Q z F s (D++E) (l++m):=by
 have e:=h.len
 refine⟨by rw[List.length_append,List.length_append,e,k.len,Nat.add_mul],fun i hi=> ?_⟩
 by_cases aP:i<D.length
 ·have hz:(i+1)*z<=D.length*z:=Nat.mul_le_mul_right z aP
  rw[Nat.succ_mul] at hz
  rw[List.getElem_append_left aP,List.drop_append_of_le_length (by omega),List.take_append_of_le_length (by rw[List.length_drop];omega)]
  exact h.row i aP
 ·have u9:i-D.length<E.length:=by rw[List.length_append] at hi;omega
  have hz:D.length*z<=i*z:=Nat.mul_le_mul_right z (by omega)
  rw[List.getElem_append_right (by omega),List.drop_append,List.drop_eq_nil_of_le (by omega),List.nil_append,e,<-Nat.sub_mul]
  exact k.row _ u9
theorem wz {p:Nat->Bool}{q:α->Bool}:∀j,j<=D.length->(∀i (h:i<D.length),p i=q D[i])->yX D p j=(D.take j).filter (fun y=> !(q y))
 |0,_,_=>by simp[yX]
 |j+1,hj,h=>by
  have aP:j<D.length:=by omega
  have ih:=wz (p:=p) (q:=q) j (by omega) h
  unfold yX
  rw[ih,h j aP,List.take_add_one,List.getElem?_eq_getElem aP,List.filter_append]
  cases hq:q D[j]<;>simp[hq]
end
end Go.Cl
namespace Go.Cl
open Go.Lib
def Ve (D:List (List UInt8×O))(q:List UInt8×O->Bool)(i:Nat):Bool:=match D[i]? with
 |some y=>q y
 |none=>false
theorem xV {D:List (List UInt8×O)}{q:List UInt8×O->Bool}{i:Nat}(h:i<D.length):Ve D q i=q D[i]:=by
 unfold Ve;rw[List.getElem?_eq_getElem h]
theorem QH (D:List (List UInt8×O))(k:List UInt8):CR D k<=D.length:=List.findIdx_le_length
theorem QI {D:List (List UInt8×O)}{k:List UInt8}(h:∀i,i<D.length->Ve D (fun y=> !(gS y.1 k)) i=false):CR D k=D.length:=by
 unfold CR
 rw[List.findIdx_eq_length]
 intro y hy
 obtain⟨i,hi,rfl⟩:=List.mem_iff_getElem.1 hy
 have:=h i hi
 rwa [xV hi] at this
theorem QJ {D:List (List UInt8×O)}{k:List UInt8}{r:Nat}(hr:r<D.length)(h1:Ve D (fun y=> !(gS y.1 k)) r=true)(h:∀i,i<r->Ve D (fun y=> !(gS y.1 k)) i=false):CR D k=r:=by
 unfold CR
 rw[List.findIdx_eq hr]
 refine⟨by rwa [xV hr] at h1,fun j hj=> ?_⟩
 have:=h j hj
 rwa [xV (by omega)] at this
theorem H8 {D:List (List UInt8×O)}{k:List UInt8}{i:Nat}(hi:i<CR D k)(h:i<D.length):gS D[i].1 k=true:=by
 have:=List.not_of_lt_findIdx hi
 simpa using this
theorem wA (a:List UInt8):gS a a=false:=by
 have:=ss a a
 simp at this;exact this
theorem F7 (D:List (List UInt8×O))(k:List UInt8):others k (D.take (CR D k))=D.take (CR D k):=by
 unfold others
 rw[List.filter_eq_self]
 intro y hy
 obtain⟨i,hi,rfl⟩:=List.mem_iff_getElem.1 hy
 rw[List.length_take] at hi
 rw[List.getElem_take]
 have h1:=H8 (D:=D) (k:=k) (i:=i) (by omega) (by omega)
 by_cases e:D[i].1=k
 ·rw[e,wA] at h1;cases h1
 ·simpa using e
end Go.Cl
namespace Go.Cl
def Kr (D:List (List UInt8×O))(e:List UInt8×O)(tx:Bool):List (List UInt8×O):=others e.1 (D.take (CR D e.1))++(if tx then [e] else [])++others e.1 (D.drop (CR D e.1))
theorem TJ (D:List (List UInt8×O))(e:List UInt8×O):kv D e=Kr D e (decide (e.2.kind≠0)):=by
 unfold kv Kr
 by_cases h:e.2.kind=0<;>simp[h]
def O.has (o:O):Bool:=decide (o.kind=7)||decide (o.kind=8)
def O.Zz:O->List (List UInt8×O)->O
 | .mk k n b l _,d=> .mk k n b l d
def zo (o:O)(L:List (List UInt8×O)):O:=if o.has then o.Zz (b6 o.xP L) else o
theorem B9 {k:List UInt8}{d:List (List UInt8×O)}{y:List UInt8×O}(h:y∈others k d):y∈d:=(List.mem_filter.1 h).1
theorem QK {D:List (List UInt8×O)}{e y:List UInt8×O}(h:y∈kv D e):y∈D\/y=e:=by
 unfold kv at h
 rw[List.mem_append,List.mem_append] at h
 rcases h with (h|h)|h
 ·exact .inl (List.mem_of_mem_take (B9 h))
 ·split at h
  ·cases h
  ·exact .inr (by simpa using h)
 ·exact .inl (List.mem_of_mem_drop (B9 h))
theorem Ca (k:List UInt8)(d:List (List UInt8×O)):(others k d).length<=d.length:=List.length_filter_le _ _
theorem QL (D:List (List UInt8×O))(e:List UInt8×O):(kv D e).length<=D.length+1:=by
 unfold kv
 have h1:=Ca e.1 (D.take (CR D e.1))
 have h2:=Ca e.1 (D.drop (CR D e.1))
 have h3:=QH D e.1
 rw[List.length_take] at h1
 rw[List.length_drop] at h2
 rw[List.length_append,List.length_append]
 split<;>simp<;>omega
theorem H9 (d l:List (List UInt8×O))(e:List UInt8×O):b6 d (l++[e])=kv (b6 d l) e:=by
 unfold b6;rw[List.foldl_append];rfl
theorem sv {d l:List (List UInt8×O)}{i:Nat}(h:i<l.length):b6 d (l.take (i+1))=kv (b6 d (l.take i)) l[i]:=by
 rw[List.take_add_one,List.getElem?_eq_getElem h];exact H9 _ _ _
theorem qp (d:List (List UInt8×O)):∀l:List (List UInt8×O),(b6 d l).length<=d.length+l.length:=by
 intro l
 induction l generalizing d with
 |nil=>exact Nat.le_refl _
 |cons e l ih=>
  have h1:=ih (kv d e)
  have h2:=QL d e
  have h3:b6 d (e::l)=b6 (kv d e) l:=rfl
  rw[h3,List.length_cons];omega
theorem Ks {y:List UInt8×O}:∀(l d:List (List UInt8×O)),y∈b6 d l->y∈d\/y∈l:=by
 intro l
 induction l with
 |nil=>intro d h;exact .inl h
 |cons e l ih=>
  intro d h
  rcases ih (kv d e) h with h|h
  ·rcases QK h with h|h
   ·exact .inl h
   ·rw[h];exact .inr (List.mem_cons_self ..)
  ·exact .inr (List.mem_cons_of_mem _ h)
end Go.Cl
namespace Go.Cl
def Sh (e:List UInt8×O):List (List UInt8×O)->Bool->List (List UInt8×O)
 |[],put=>if put then [] else [e]
 |y::r,put=>(if !put&& !(gS y.1 e.1) then [e] else [])++(if !(y.1==e.1) then [y] else [])++Sh e r (put|| !(gS y.1 e.1))
theorem Cb (e:List UInt8×O):∀d,Sh e d true=others e.1 d
 |[]=>rfl
 |y::r=>by
  unfold Sh
  rw[Bool.true_or,Cb e r]
  unfold others
  rw[List.filter_cons]
  cases (!(y.1==e.1))<;>simp
theorem Ez (e:List UInt8×O):∀d,Sh e d false=others e.1 (d.take (CR d e.1))++[e]++others e.1 (d.drop (CR d e.1))
 |[]=>rfl
 |y::r=>by
  unfold Sh
  have ih:=Ez e r
  unfold CR
  rw[List.findIdx_cons]
  cases h:gS y.1 e.1 with
  |false=>
   simp only[Bool.not_false,Bool.and_self,Bool.or_true,if_true,cond_true,List.take_zero,List.drop_zero]
   rw[Cb]
   unfold others
   rw[List.filter_cons]
   cases (!(y.1==e.1))<;>simp
  |true=>
   simp only[Bool.not_true,Bool.and_false,Bool.or_false,cond_false]
   rw[ih]
   unfold others CR
   rw[List.take_succ_cons,List.drop_succ_cons,List.filter_cons]
   cases (!(y.1==e.1))<;>simp
theorem N0 (e:List UInt8×O)(d:List (List UInt8×O)):Sh e d (decide (e.2.kind=0))=kv d e:=by
 unfold kv
 by_cases h:e.2.kind=0
 ·rw[decide_eq_true h,Cb,if_pos h]
  unfold others
  rw[List.append_nil,<-List.filter_append,List.take_append_drop]
 ·rw[decide_eq_false h,Ez,if_neg h]
theorem QM {e:List UInt8×O}{d:List (List UInt8×O)}{i:Nat}(h:i<d.length)(put:Bool):Sh e (d.drop i) put=(if !put&& !(gS d[i].1 e.1) then [e] else [])++(if !(d[i].1==e.1) then [d[i]] else [])++Sh e (d.drop (i+1)) (put|| !(gS d[i].1 e.1)):=by
 rw[List.drop_eq_getElem_cons h];rfl
end Go.Cl
set_option linter.unusedSimpArgs false
set_option linter.unusedVariables false
set_option maxRecDepth 100000
namespace Go.Proofs.YtdfjfncifneocaaGreat
open Go.Cl
theorem EA {lib:ay}(hl:lib.at 36=none)(s:aq)(x:Value)(l:List UInt8)(hx:aM s 1 x l.length (ofBytes l))(hlen:l.length<=140737488355328):
  Runs Tryz.prog lib 36 [x] s fun v s' =>bU s v s' l:=by
 refine Runs.enter 8 Tryz.func36 rfl hl rfl rfl ?_
 intro f hn hf
 have h0:f.get 0=x:=hf 0
 clear hf
 simp-implicitDefEqProofs(disch:=omega)only[ai,Nat.reduceLT,Nat.reduceEqDiff,↓reduceIte,hn,h0,hx.p5 Tryz.underlying22]
 refine fI (fun h=> ?_) (fun h=> ?_)
 ·obtain⟨h1,_,_⟩:=hx.isNil h
  have:l=[]:=List.eq_nil_of_length_eq_zero h1
  subst this
  simp-implicitDefEqProofs(disch:=omega)only[ai,al,oneOf,Nat.reduceLT,↓reduceIte,hn,Tryz.results36]
  exact⟨.nil,aN.nil _,ar.refl _ _⟩
 ·simp-implicitDefEqProofs(disch:=omega)only[ai,ag,xk Tryz.underlying22 bh gR rfl rfl]
  refine aQ (by rfl) ?_
  intro b s1 hb hF aA
  simp-implicitDefEqProofs(disch:=omega)only[ai,ad,Nat.reduceLT,Nat.reduceEqDiff,↓reduceIte,hn,h0]
  refine bG Tryz.underlying22 Tryz.underlying22 (.inl ⟨_,rfl⟩) bh gh gR rfl hb (hx.keeps aA).src (by simp[br]) (by decide) (cX _) (by omega) (by omega) hF aA.next ?_
  intro b' s2 qV vE cI _ _
  simp-implicitDefEqProofs(disch:=omega)only[ai,al,oneOf,Nat.reduceLT,↓reduceIte,hn,Tryz.results36]
  exact⟨by simpa using qV,vE,aA.trans cI⟩
end Go.Proofs.YtdfjfncifneocaaGreat
