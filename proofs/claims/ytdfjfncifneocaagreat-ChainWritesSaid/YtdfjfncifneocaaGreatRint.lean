import Derived.Test.YtdfjfncifneocaaGreatPrD
import Derived.Test.YtdfjfncifneocaaGreatClone
import Derived.Test.YtdfjfncifneocaaGreatCutW
import Derived.Test.YtdfjfncifneocaaGreatCosJ
set_option linter.unusedSimpArgs false
set_option linter.unusedVariables false
set_option maxRecDepth 100000
namespace Go.Cl
theorem Ov {P:Program}{all r:List Oper}{o:Oper}{f:aR}{s:aq}{Q:aR->Prop}{b:Bool}(R:aR->Prop)(h:tQ P all o r f s R b)(k:∀f,R f->Q f):tQ P all o r f s Q b:=by
 cases b with
 |false=>exact tu h fun _ h=>zb h k
 |true=>
  simp only[tQ] at h|-
  unfold AE at h|-
  split at h
  ·exact⟨h.1,tu h.2 fun _ h=>zb h k⟩
  ·exact h.elim
end Go.Cl
namespace Go.Proofs.YtdfjfncifneocaaGreat
open Go.Cl Go.Lib
theorem RP {lib:ay}(hl:lib.at 57=none)(F:Nat->Prop)(s:aq)(cs:List Value)(o:O)(ho:dr F s cs o):
  Runs Tryz.prog lib 57 [.agg cs.toArray] s (Has s o):=by
 cases o with
 |mk kind num b l d=>
 obtain⟨bv,lv,dv,lc,dc,rfl,-⟩:=ho.parts
 refine Runs.enter 11 Tryz.func57 rfl hl rfl rfl ?_
 intro f hn hf
 have h0:f.get 0= .agg #[.int .i64 kind,.int .i64 num,bv,lv,dv]:=hf 0
 clear hf
 simp-implicitDefEqProofs(disch:=omega)only[ai,Nat.reduceLT,↓reduceIte,hn,h0]
 refine aw ?_
 intro s1 fa bB jb
 have p0:aG Tryz.prog s1 3 (.pointer (some ⟨s.next,0,some 6⟩))=some (.int .i64 kind):=fa.load cj (off:=0) (c:=6) rfl (by simp)
 by_cases c7:kind=7
 ·simp-implicitDefEqProofs(disch:=omega)only[ai,aj,al,oneOf,Nat.reduceLT,Nat.reduceEqDiff,Nat.reduceAdd,↓reduceIte,hn,List.length_cons,List.length_nil,zn,p0,eq_true c7,Tryz.results57]
  exact⟨by simp[O.has,O.kind,c7],bB⟩
 ·simp-implicitDefEqProofs(disch:=omega)only[ai,aj,al,oneOf,Nat.reduceLT,Nat.reduceEqDiff,Nat.reduceAdd,↓reduceIte,hn,List.length_cons,List.length_nil,zn,p0,eq_false c7,Tryz.results57]
  exact⟨by simp[O.has,O.kind,c7];congr,bB⟩
def CG (F:Nat->Prop)(n:Nat)(j:Nat):Prop:=(F j/\j<n)\/n<=j
def aaT (s:aq)(F:Nat->Prop)(d:List (List UInt8×O))(e:List UInt8×O)(v:Value)(s' :aq):Prop:=∃LC,Own s' 6 v (kv d e).length LC/\aN s.next v/\ar s.next s s' /\aL cu 6 (fun j=>CG F s.next j/\aJ v≠some j) s' (kv d e) LC
set_option maxHeartbeats 4000000 in
theorem IQ {lib:ay}(hl:lib.at 96=none)(hZ:lib.at 56=none)(nF:lib.at 39=none)
  (F:Nat->Prop) (s:aq) (x:Value) (D:List (List UInt8×O)) (lx:List Value) (hx:aM s 6 x D.length lx) (hD:aL cu 6 F s D lx) (N4:D.length<=500000) (e:List UInt8×O) (ce:List Value) (F2:Nat->Prop) (he:cu F2 s ce e) (tz:Small e.2):
  Runs Tryz.prog lib 96 [x,.agg ce.toArray] s (aaT s F D e):=by
 obtain⟨re,rfl,Sk,Yb⟩:=he
 have qe:=Sk.len
 refine Runs.enter 66 Tryz.func96 rfl hl rfl rfl ?_
 intro f hn hf
 have h0:f.get 0=x:=hf 0
 have h1:f.get 1= .agg (.string ⟨e.1.toArray⟩::re).toArray:=hf 1
 clear hf
 simp-implicitDefEqProofs(disch:=omega)only[ai,Nat.reduceLT,↓reduceIte,hn,h1]
 refine aw ?_
 intro s1 fa bB jb
 have fa:av s1 s.next (.string ⟨e.1.toArray⟩::re):=fa
 obtain⟨ek,eo⟩:=e
 cases eo with
 |mk OU en eb el ed=>
 obtain⟨xb,xl,xd,xlc,xdc,hrr,-⟩:=Sk.parts
 have l10:∀t,ar s1.next s1 t->aG Tryz.prog t 3 (.pointer (some ⟨s.next,1,some 7⟩))=some (.int .i64 OU):=fun t h=>by
  have:=(fa.keeps h).load (P:=Tryz.prog) cj (off:=1) (c:=7) (by simp[qe]) (by simp[qe])
  rw[this,hrr];rfl
 simp-implicitDefEqProofs(disch:=omega)only[ai,Nat.reduceLT,Nat.reduceEqDiff,Nat.reduceAdd,↓reduceIte,hn,List.length_cons,qe,QN,zn,l10 s1 (ar.refl _ _)]
 obtain⟨e,he⟩:∃e,e=(ek,O.mk OU en eb el ed):=⟨_,rfl⟩
 rw[<-he]
 obtain⟨FF,tE⟩:∃FF:Value->Nat->Prop,FF=fun v j=>0<=j/\¬(fun j=>¬CG F s.next j) j/\aJ v≠some j:=⟨_,rfl⟩
 have KZ:Sh e D (decide (OU=0))=kv D e:=by rw[<-N0,he];rfl
 have Sk:dr F2 s re e.2:=by rw[he];exact Sk
 have tz:Small e.2:=by rw[he];exact tz
 have Yb:e.1.length<=9223372036854775807:=by rw[he];exact Yb
 have fa:av s1 s.next (.string ⟨e.1.toArray⟩::re):=by rw[he];exact fa
 clear hrr l10 h1 he
 have kX:=bB.next
 refine Comes.bC (fun z f t=>∃(i:Nat) (y:Value) (LY:List Value) (E:List (List UInt8×O)) (put:Bool),z=D.length-i/\i<=D.length/\E++Sh e (D.drop i) put=kv D e/\E.length+(if put then 0 else 1)<=i+1/\Own t 6 y E.length LY/\aL cu 6 (FF y) t E LY/\aN s1.next y/\ar s1.next s1 t/\f.n=66/\f.get 0=x/\f.get 3= .pointer (some ⟨s.next,0,some 7⟩)/\f.get 5=y/\f.get 6= .bool put/\f.get 7= .int .i64 (i:Nat))
  (fun z f t=>z= .exit 0/\∃(y:Value) (LY:List Value) (E:List (List UInt8×O)) (put:Bool),E++(if put then [] else [e])=kv D e/\E.length+(if put then 0 else 1)<=D.length+1/\Own t 6 y E.length LY/\aL cu 6 (FF y) t E LY/\aN s1.next y/\ar s1.next s1 t/\f.n=66/\f.get 3= .pointer (some ⟨s.next,0,some 7⟩)/\f.get 5=y/\f.get 6= .bool put)
  ⟨0,.slice none 0 0,[],[],decide (OU=0),rfl,by omega,by rw[List.drop_zero,List.nil_append];exact KZ,by split<;>simp,.nil,aL.nil,aN.nil _,ar.refl _ _,by simp only[ae,hn],by simp only[aa,↓reduceIte,Nat.reduceEqDiff,h0],by simp only[aa,↓reduceIte,Nat.reduceEqDiff],by simp only[aa,↓reduceIte,Nat.reduceEqDiff],by simp only[aa,↓reduceIte,Nat.reduceEqDiff],by simp only[aa,↓reduceIte];rfl⟩ ?_ ?_
 ·clear hn h0 f KZ
  rintro Q hQ z f t ⟨i,y,LY,E,put,rfl,hi,hE,hEn,hy,OT,iQ,jr,hn,h0,h3,h5,h6,h7⟩
  have aA:ar s.next s t:=bB.trans (jr.weaken kX)
  have lH:=hx.keeps aA
  have pI:=fa.keeps jr
  by_cases aP:i<D.length
  rotate_left
  ·obtain rfl:i=D.length:=by omega
   rw[List.drop_length] at hE
   have d1:¬((D.length:Nat):Int)<((D.length:Nat):Int):=by omega
   simp-implicitDefEqProofs(disch:=omega)only[ai,ad,Nat.reduceLT,Nat.reduceEqDiff,↓reduceIte,hn,h0,h7,lH.aV Tryz.underlying24,eq_false d1]
   exact hQ _ _ _ ⟨rfl,y,LY,E,put,hE,hEn,hy,OT,iQ,jr,by simp only[ae,hn],by simp only[aa,↓reduceIte,Nat.reduceEqDiff,h3],by simp only[aa,↓reduceIte,Nat.reduceEqDiff,h5],by simp only[aa,↓reduceIte,Nat.reduceEqDiff,h6]⟩
  have d1:(i:Int)<(D.length:Int):=by omega
  have dI:=lH.indexAddr (P:=Tryz.prog) (k:= .i64) (x:=(i:Int)) Tryz.underlying24 jx (by omega) (by omega)
  rw[Int.toNat_natCast] at dI
  obtain⟨q0,q1⟩:=WC lH aP
  obtain⟨r,kH,iT,yh⟩:=hD.row i aP
  obtain⟨hk6,WI⟩:=xT kH
  have wL:=lH.eC (P:=Tryz.prog) np aP (j:=0) (by omega)
  rw[Nat.add_zero,hk6] at wL
  have lk0:aG Tryz.prog t 9 (.pointer (some ⟨s.next,0,some 7⟩))=some (.string ⟨e.1.toArray⟩):=by
   have:=pI.load (P:=Tryz.prog) np (off:=0) (c:=7) (by simp[qe]) (by simp)
   rw[this];rfl
  simp-implicitDefEqProofs(disch:=omega)only[ai,aj,ad,Nat.reduceLT,Nat.reduceEqDiff,↓reduceIte,hn,h0,h6,h7,lH.aV Tryz.underlying24,eq_true d1]
  refine Ov (fun f' =>f'.n=66/\f'.get 0=x/\f'.get 3= .pointer (some ⟨s.next,0,some 7⟩)/\f'.get 5=y/\f'.get 6= .bool put/\f'.get 7= .int .i64 (i:Nat)/\f'.get 29= .bool (!put&& !(gS D[i].1 e.1))) ?_ ?_
  ·cases put with
   |true=>
    simp-implicitDefEqProofs(disch:=omega)only[ai,aj,Nat.reduceLT,Nat.reduceEqDiff,↓reduceIte,hn,h0,h3,h5,h6,h7]
   |false=>
    simp-implicitDefEqProofs(disch:=omega)only[ai,aj,Nat.reduceLT,Nat.reduceEqDiff,↓reduceIte,hn,h0,h3,h5,h6,h7,Ia,lk0,lH.self,dI,q0,fA,wL,TI,ss e.1 D[i].1]
  clear hn h0 h3 h5 h6 h7 f
  rintro f ⟨hn,h0,h3,h5,h6,h7,h29⟩
  simp-implicitDefEqProofs(disch:=omega)only[ai,Nat.reduceLT,↓reduceIte,hn,h29]
  obtain⟨E1,Oo⟩:∃E1,E1=E++(if !put&& !(gS D[i].1 e.1) then [e] else []):=⟨_,rfl⟩
  obtain⟨IU,IV⟩:∃IU,IU=(put|| !(gS D[i].1 e.1)):=⟨_,rfl⟩
  have aiG:E1.length+(if IU then 0 else 1)<=i+1:=by
   rw[Oo,IV,List.length_append]
   cases put
   ·cases gS D[i].1 e.1<;>simp_all
   ·simpa using hEn
  rw[QM aP,<-List.append_assoc,<-List.append_assoc,<-Oo,<-IV] at hE
  refine Ci (fun f' t' =>∃(y:Value) (LY:List Value),Own t' 6 y E1.length LY/\aL cu 6 (FF y) t' E1 LY/\aN s1.next y/\ar s1.next s1 t' /\f'.n=66/\f'.get 0=x/\f'.get 3= .pointer (some ⟨s.next,0,some 7⟩)/\f'.get 5=y/\f'.get 6= .bool IU/\f'.get 7= .int .i64 (i:Nat)) ?_ ?_
  ·intro Q' NB
   refine fI (fun hb=> ?_) (fun hb=> ?_)
   ·rw[if_pos hb] at Oo
    have nD:IU=true:=by rw[IV];simp at hb;simp[hb]
    simp-implicitDefEqProofs(disch:=omega)only[ai]
    obtain⟨A,hA⟩:∃A:Nat->Bool,A=fun j=>decide (j<t.next):=⟨_,rfl⟩
    have ef:∀j,A j=true->j<t.next:=by
     intro j h
     rw[hA] at h
     exact of_decide_eq_true h
    have gW:∀j,j<t.next->A j=true:=fun j h=>by rw[hA];exact decide_eq_true h
    refine LB.cF.dy A ef 1 1 (by kernel_rfl) (by kernel_rfl) ?_
    have db:=ar.spare t 1
    have F1:(spare t 1).next=t.next+1:=bT _ _
    have htb:=pI.keeps db
    have gC:∀k,LA.dB A (some (.pointer (some ⟨s.next,k,some 7⟩)))=true:=fun k=>LA.bY (A:=A) (i:=s.next) (gW _ pI.lt)
    have lk:aG Tryz.prog (spare t 1) 9 (.pointer (some ⟨s.next,0,some 7⟩))=some (.string ⟨e.1.toArray⟩):=by
     have:=htb.load (P:=Tryz.prog) np (off:=0) (c:=7) (by simp[qe]) (by simp)
     rw[this];rfl
    have lo:aG Tryz.prog (spare t 1) 26 (.pointer (some ⟨s.next,1,some 7⟩))=some (.agg re.toArray):=by
     have:=av.tn (P:=Tryz.prog) ua eO htb (off:=1) (c:=7) (by simp[qe]) (by simp[qe])
     rw[this,List.drop_succ_cons,List.drop_zero,List.take_of_length_le (by omega)]
    have Xz:ar s.next s (spare t 1):=aA.trans (db.weaken aA.next)
    have oL:=Sk.keeps Xz
    simp-implicitDefEqProofs(disch:=omega)only[ai,aj,bn,bp,Nat.sub_self,ad,ag,Nat.reduceLT,Nat.reduceEqDiff,↓reduceIte,hn,h3,h5,Ia,QN,gC,lk,lo,hy.self,oL.self]
    refine(F6 hZ nF _ e.2 (Nat.le_refl _) F2 (spare t 1) _ oL tz).mono ?_
    rintro _ s7 ⟨xU,rfl,lQ,fH⟩
    have X6:=fH.next
    refine⟨fun _=>LA.ar.lM ef (fH.weaken (by omega)),?_⟩
    have uW:=lQ.len
    obtain⟨es,mM⟩:∃es,es=Value.string ⟨e.1.toArray⟩::xU:=⟨_,rfl⟩
    have lj:es.length=6:=by rw[mM];simp[uW]
    have uN:bX (.agg es.toArray) (.agg es.toArray)=true:=by
     have:=lQ.self
     rw[mM]
     match xU,uW,this with
     |[a,b,c,d,e],_,this=>
      simp[bX,gp] at this|-
      exact⟨by simp[cW],this⟩
    have H7:=bE e.1 uW
    rw[<-mM] at H7
    simp-implicitDefEqProofs(disch:=omega)only[ai,bp,ag,Nat.reduceLT,↓reduceIte,hn,H7,uN,dY (cs:=es.toArray) Tryz.underlying24 jx zE Du rfl lj (by decide)]
    refine LB.bF (base:=t.next) lj (by omega) (Nat.le_refl _) ?_
    intro bs s8 pS fc jL uL qo
    have fV:ar t.next t s8:=(db.trans (fH.weaken (by omega))).trans jL
    have Wh:=fV.next
    have hns:=aA.next
    have CQ:cu (FF y) s8 es e:=by
     refine⟨xU,mM,(lQ.turns (u:= .pointer (some ⟨t.next,0,none⟩)) (bm.bc uL qo) (fun j hj e=> ?_)).mono (fun j hj=> ?_),Yb⟩
     ·have e:some t.next=some j:=e
      injection e with e;omega
     ·rw[tE];exact⟨Nat.zero_le _,fun h=>h (.inr (by omega)),fun e=>by have:=hy.jh _ e;omega⟩
    have pz:es.all aO=true:=by rw[mM,List.all_cons,lQ.ok];rfl
    simp-implicitDefEqProofs(disch:=omega)only[ai,bp,ad,Nat.reduceLT,Nat.reduceEqDiff,↓reduceIte,hn]
    refine LB.cZ Tryz.underlying24 Tryz.underlying24 (.inl ⟨_,rfl⟩) jx Va zE rfl (hy.keeps fV) pS.aH.src lj (by decide) pz (by omega) (by omega) (base:=s1.next) iQ (by omega) (fun h=>absurd rfl h) (fun j hj=>by have:=ef j hj;omega) ?_
    intro w' s9 TH I8 nr nJ
    have H6:=OT.keeps bV fV
    rw[tE] at H6 CQ
    have F4:=H6.grow bV lj CQ nr nJ
    rw[show(fun j=>0<=j/\¬(fun j=>¬CG F s.next j) j/\aJ w' ≠some j)=FF w' by rw[tE]] at F4
    have nv:ar s1.next s1 s9:=(jr.trans (fV.weaken jr.next)).trans (nr.keeps iQ (by have:=jr.next;omega))
    simp-implicitDefEqProofs(disch:=omega)only[ai,bn,bp,Nat.reduceSub,Nat.reduceLT,↓reduceIte,hn,TH.self]
    exact NB _ _ ⟨w',_,by rw[Oo,List.length_append];exact TH,by rw[Oo];exact F4,I8,nv,by simp only[ae,hn],by simp only[aa,↓reduceIte,Nat.reduceEqDiff,h0],by simp only[aa,↓reduceIte,Nat.reduceEqDiff,h3],by simp only[aa,↓reduceIte,Nat.reduceEqDiff],by simp only[aa,↓reduceIte,nD],by simp only[aa,↓reduceIte,Nat.reduceEqDiff,h7]⟩
   ·rw[hb,if_neg (by decide),List.append_nil] at Oo
    have nD:IU=put:=by
     rw[IV]
     cases put
     ·simp at hb;simp[hb]
     ·rfl
    simp-implicitDefEqProofs(disch:=omega)only[ai]
    exact NB _ _ ⟨y,LY,by rw[Oo];exact hy,by rw[Oo];exact OT,iQ,jr,by simp only[hn],by simp only[h0],by simp only[h3],by simp only[h5],by simp only[h6,nD],by simp only[h7]⟩
  clear hn h0 h3 h5 h6 h7 h29 f hy OT iQ aA jr lH pI dI q0 q1 wL lk0 Oo IV y LY E put hEn t
  rintro f t ⟨y,LY,hy,OT,iQ,jr,hn,h0,h3,h5,h6,h7⟩
  have aA:ar s.next s t:=bB.trans (jr.weaken kX)
  have lH:=hx.keeps aA
  have pI:=fa.keeps jr
  have dI:=lH.indexAddr (P:=Tryz.prog) (k:= .i64) (x:=(i:Int)) Tryz.underlying24 jx (by omega) (by omega)
  rw[Int.toNat_natCast] at dI
  obtain⟨q0,q1⟩:=WC lH aP
  have wL:=lH.eC (P:=Tryz.prog) np aP (j:=0) (by omega)
  rw[Nat.add_zero,hk6] at wL
  have nA:=lH.eF (P:=Tryz.prog) I7 jx aP
  rw[kH] at nA
  obtain⟨xs,qM⟩:∃xs,xs=Value.string ⟨(D[i].1).toArray⟩::r:=⟨_,rfl⟩
  rw[<-qM] at nA
  have u7:xs.length=6:=by rw[qM];simp[iT.len]
  have QR:xs.all aO=true:=by rw[qM,List.all_cons,iT.ok];rfl
  have lk0:aG Tryz.prog t 9 (.pointer (some ⟨s.next,0,some 7⟩))=some (.string ⟨e.1.toArray⟩):=by
   have:=pI.load (P:=Tryz.prog) np (off:=0) (c:=7) (by simp[qe]) (by simp)
   rw[this];rfl
  by_cases hke:D[i].1=e.1
  ·have Vh:(D[i].1==e.1)=true:=beq_iff_eq.2 hke
   rw[Vh,if_neg (by decide),List.append_nil] at hE
   simp-implicitDefEqProofs(disch:=omega)only[ai,aj,Nat.reduceLT,Nat.reduceEqDiff,↓reduceIte,hn,h0,h3,h7,Ia,lk0,lH.self,dI,q0,fA,wL,zF,decide_eq_false (not_not_intro hke),aD]
   exact au (D.length-(i+1)) (by omega) ⟨i+1,y,LY,E1,IU,rfl,by omega,hE,by omega,hy,OT,iQ,jr,by simp only[ae,hn],by simp only[aa,↓reduceIte,Nat.reduceEqDiff,h0],by simp only[aa,↓reduceIte,Nat.reduceEqDiff,h3],by simp only[aa,↓reduceIte,Nat.reduceEqDiff,h5],by simp only[aa,↓reduceIte,Nat.reduceEqDiff,h6],by simp only[aa,↓reduceIte];rfl⟩
  ·have Vh:(D[i].1==e.1)=false:=beq_eq_false_iff_ne.2 hke
   rw[Vh,if_pos (by decide)] at hE
   simp-implicitDefEqProofs(disch:=omega)only[ai,aj,ag,Nat.reduceLT,Nat.reduceEqDiff,↓reduceIte,hn,h0,h3,h5,h7,Ia,lk0,lH.self,dI,q0,fA,wL,zF,decide_eq_true (show D[i].1≠e.1 from hke),nA,dY (cs:=xs.toArray) Tryz.underlying24 jx zE Du rfl u7 (by decide)]
   refine aQ (by rw[u7]) ?_
   intro b t1 jv aiI Cn
   simp-implicitDefEqProofs(disch:=omega)only[ai,ad,Nat.reduceLT,Nat.reduceEqDiff,↓reduceIte,hn]
   refine bG Tryz.underlying24 Tryz.underlying24 (.inl ⟨_,rfl⟩) jx Va zE rfl (hy.keeps Cn) jv.aH.src u7 (by decide) QR (by omega) (by omega) iQ (by have:=jr.next;have:=Cn.next;omega) ?_
   intro w' t2 hw' aeP Cz aeQ nJ
   have aeR:ar s.next s t1:=aA.trans (Cn.weaken aA.next)
   have ir:cu (FF y) t1 xs D[i]:=by
    refine⟨r,qM,?_,yh⟩
    have:=((bV.below ⟨r,rfl,iT,yh⟩:cu (fun j=>F j/\j<s.next) s (.string ⟨(D[i].1).toArray⟩::r) D[i]))
    obtain⟨r',zg,h',_⟩:=this
    injection zg with _ zg
    rw[zg]
    refine(h'.keeps aeR).mono (fun j hj=> ?_)
    rw[tE];exact⟨Nat.zero_le _,fun h=>h (.inl hj),fun e=>by have:=iQ _ e;have:=hj.2;omega⟩
   have H6:=OT.keeps bV Cn
   rw[tE] at H6 ir
   have F4:=H6.grow bV u7 ir aeQ nJ
   rw[show(fun j=>0<=j/\¬(fun j=>¬CG F s.next j) j/\aJ w' ≠some j)=FF w' by rw[tE]] at F4
   simp-implicitDefEqProofs(disch:=omega)only[ai,Nat.reduceLT,Nat.reduceEqDiff,↓reduceIte,hn,h7,aD]
   exact au (D.length-(i+1)) (by omega) ⟨i+1,w',LY++xs,E1++[D[i]],IU,rfl,by omega,hE,by rw[List.length_append,List.length_singleton];omega,by rw[List.length_append];exact hw',F4,aeP,(jr.trans (Cn.weaken jr.next)).trans Cz,by simp only[ae,hn],by simp only[aa,↓reduceIte,Nat.reduceEqDiff,h0],by simp only[aa,↓reduceIte,Nat.reduceEqDiff,h3],by simp only[aa,↓reduceIte,Nat.reduceEqDiff],by simp only[aa,↓reduceIte,Nat.reduceEqDiff,h6],by simp only[aa,↓reduceIte];rfl⟩
 clear hn h0 f KZ
 rintro z f t ⟨rfl,y,LY,E,put,hE,hEn,hy,OT,iQ,jr,hn,h3,h5,h6⟩
 have aA:ar s.next s t:=bB.trans (jr.weaken kX)
 have pI:=fa.keeps jr
 cases put with
 |true=>
  rw[if_pos rfl,List.append_nil] at hE
  simp-implicitDefEqProofs(disch:=omega)only[ai,al,oneOf,Nat.reduceLT,Nat.reduceEqDiff,↓reduceIte,hn,h5,h6,Tryz.results96]
  exact⟨LY,by rw[<-hE];exact hy,fun j hj=>by have:=iQ j hj;omega,aA,by rw[<-hE];exact OT.mono bV (fun j hj=>by rw[tE] at hj;exact⟨Classical.not_not.1 hj.2.1,hj.2.2⟩)⟩
 |false=>
  rw[if_neg (by decide)] at hE
  simp-implicitDefEqProofs(disch:=omega)only[ai,Nat.reduceLT,↓reduceIte,hn,h6]
  obtain⟨A,hA⟩:∃A:Nat->Bool,A=fun j=>decide (j<t.next):=⟨_,rfl⟩
  have ef:∀j,A j=true->j<t.next:=by
   intro j h
   rw[hA] at h
   exact of_decide_eq_true h
  have gW:∀j,j<t.next->A j=true:=fun j h=>by rw[hA];exact decide_eq_true h
  refine LB.cF.dy A ef 1 1 (by kernel_rfl) (by kernel_rfl) ?_
  have db:=ar.spare t 1
  have F1:(spare t 1).next=t.next+1:=bT _ _
  have htb:=pI.keeps db
  have gC:∀k,LA.dB A (some (.pointer (some ⟨s.next,k,some 7⟩)))=true:=fun k=>LA.bY (A:=A) (i:=s.next) (gW _ pI.lt)
  have lk:aG Tryz.prog (spare t 1) 9 (.pointer (some ⟨s.next,0,some 7⟩))=some (.string ⟨e.1.toArray⟩):=by
   have:=htb.load (P:=Tryz.prog) np (off:=0) (c:=7) (by simp[qe]) (by simp)
   rw[this];rfl
  have lo:aG Tryz.prog (spare t 1) 26 (.pointer (some ⟨s.next,1,some 7⟩))=some (.agg re.toArray):=by
   have:=av.tn (P:=Tryz.prog) ua eO htb (off:=1) (c:=7) (by simp[qe]) (by simp[qe])
   rw[this,List.drop_succ_cons,List.drop_zero,List.take_of_length_le (by omega)]
  have Xz:ar s.next s (spare t 1):=aA.trans (db.weaken aA.next)
  have oL:=Sk.keeps Xz
  simp-implicitDefEqProofs(disch:=omega)only[ai,aj,bn,bp,Nat.sub_self,ad,ag,Nat.reduceLT,Nat.reduceEqDiff,↓reduceIte,hn,h3,h5,Ia,QN,gC,lk,lo,hy.self,oL.self]
  refine(F6 hZ nF _ e.2 (Nat.le_refl _) F2 (spare t 1) _ oL tz).mono ?_
  rintro _ s7 ⟨xU,rfl,lQ,fH⟩
  have X6:=fH.next
  refine⟨fun _=>LA.ar.lM ef (fH.weaken (by omega)),?_⟩
  have uW:=lQ.len
  obtain⟨es,mM⟩:∃es,es=Value.string ⟨e.1.toArray⟩::xU:=⟨_,rfl⟩
  have lj:es.length=6:=by rw[mM];simp[uW]
  have uN:bX (.agg es.toArray) (.agg es.toArray)=true:=by
   have:=lQ.self
   rw[mM]
   match xU,uW,this with
   |[a,b,c,d,e],_,this=>
    simp[bX,gp] at this|-
    exact⟨by simp[cW],this⟩
  have H7:=bE e.1 uW
  rw[<-mM] at H7
  simp-implicitDefEqProofs(disch:=omega)only[ai,bp,ag,Nat.reduceLT,↓reduceIte,hn,H7,uN,dY (cs:=es.toArray) Tryz.underlying24 jx zE Du rfl lj (by decide)]
  refine LB.bF (base:=t.next) lj (by omega) (Nat.le_refl _) ?_
  intro bs s8 pS fc jL uL qo
  have fV:ar t.next t s8:=(db.trans (fH.weaken (by omega))).trans jL
  have Wh:=fV.next
  have hns:=aA.next
  have CQ:cu (FF y) s8 es e:=by
   refine⟨xU,mM,(lQ.turns (u:= .pointer (some ⟨t.next,0,none⟩)) (bm.bc uL qo) (fun j hj e=> ?_)).mono (fun j hj=> ?_),Yb⟩
   ·have e:some t.next=some j:=e
    injection e with e;omega
   ·rw[tE];exact⟨Nat.zero_le _,fun h=>h (.inr (by omega)),fun e=>by have:=hy.jh _ e;omega⟩
  have pz:es.all aO=true:=by rw[mM,List.all_cons,lQ.ok];rfl
  simp-implicitDefEqProofs(disch:=omega)only[ai,bp,ad,Nat.reduceLT,Nat.reduceEqDiff,↓reduceIte,hn]
  refine LB.cZ Tryz.underlying24 Tryz.underlying24 (.inl ⟨_,rfl⟩) jx Va zE rfl (hy.keeps fV) pS.aH.src lj (by decide) pz (by omega) (by omega) (base:=s1.next) iQ (by omega) (fun h=>absurd rfl h) (fun j hj=>by have:=ef j hj;omega) ?_
  intro w' s9 TH I8 nr nJ
  have H6:=OT.keeps bV fV
  rw[tE] at H6 CQ
  have F4:=H6.grow bV lj CQ nr nJ
  rw[show(fun j=>0<=j/\¬(fun j=>¬CG F s.next j) j/\aJ w' ≠some j)=FF w' by rw[tE]] at F4
  have nv:ar s1.next s1 s9:=(jr.trans (fV.weaken jr.next)).trans (nr.keeps iQ (by have:=jr.next;omega))
  simp-implicitDefEqProofs(disch:=omega)only[ai,bn,bp,Nat.reduceSub,oneOf,Nat.reduceLT,↓reduceIte,ai,al,oneOf,Nat.reduceLT,↓reduceIte,hn,TH.self,Tryz.results96]
  exact⟨LY++es,by rw[<-hE,List.length_append];exact TH,fun j hj=>by have:=I8 j hj;omega,bB.trans (nv.weaken kX),by rw[<-hE];exact F4.mono bV (fun j hj=>by rw[tE] at hj;exact⟨Classical.not_not.1 hj.2.1,hj.2.2⟩)⟩
end Go.Proofs.YtdfjfncifneocaaGreat
namespace Go.Proofs.YtdfjfncifneocaaGreat
open Go.Cl Go.Lib
structure Mu (lib:ay):Prop where
 copy:lib.at 56=none
 Mv:lib.at 39=none
 has:lib.at 57=none
 wit:lib.at 96=none
 set:lib.at 54=none
 W3:lib.at 55=none
 stream:lib.at 27=none
 get:lib.at 33=none
 arr:lib.at 51=none
 name:lib.at 29=none
set_option maxHeartbeats 8000000 in
theorem CH {lib:ay}(R:Mu lib)
  (F:Nat->Prop) (s:aq) (cs:List Value) (o:O) (ho:dr F s cs o) (tz:Small o) (x:Value) (L:List (List UInt8×O)) (lx:List Value) (hx:aM s 6 x L.length lx) (hL:aL cu 6 F s L lx) (Sl:L.length<=100000) (tF:∀e∈L,Small e.2):
  Runs Tryz.prog lib 54 [.agg cs.toArray,x] s (gz s (zo o L)):=by
 have mP:=ho.len
 refine Runs.enter 26 Tryz.func54 rfl R.set rfl rfl ?_
 intro f hn hf
 have h0:f.get 0= .agg cs.toArray:=hf 0
 have h1:f.get 1=x:=hf 1
 clear hf
 simp-implicitDefEqProofs(disch:=omega)only[ai,Nat.reduceLT,↓reduceIte,hn,h0]
 refine aw ?_
 intro s1 fa bB jb
 simp-implicitDefEqProofs(disch:=omega)only[ai,Nat.reduceLT,Nat.reduceAdd,↓reduceIte,hn,mP,zO,oQ]
 refine aw ?_
 intro s2 fm bD na
 have df:ar s.next s s2:=bB.trans (bD.weaken (by omega))
 have lD:=fa.keeps bD
 have il:cr.length+1=6:=rfl
 simp-implicitDefEqProofs(disch:=omega)only[ai,aj,ad,Nat.reduceLT,Nat.reduceEqDiff,↓reduceIte,hn,av.dQ lD mP,il]
 refine(F6 R.copy R.Mv _ o (Nat.le_refl _) F s2 cs (ho.keeps df) tz).mono ?_
 rintro _ s3 ⟨jt,rfl,mm,cf⟩
 have sy:=mm.len
 simp-implicitDefEqProofs(disch:=omega)only[ai,Nat.reduceLT,↓reduceIte,hn,zO,oQ]
 refine aw ?_
 intro s4 fU iH lN
 simp-implicitDefEqProofs(disch:=omega)only[ai,Nat.reduceLT,Nat.reduceEqDiff,↓reduceIte,hn,il]
 refine aE eO (by decide) fU rfl rfl sy mm.ok ?_
 intro s5 sm Kp sn
 have sm:av s5 s3.next jt:=sm
 have Cg:ar s3.next s3 s5:=iH.trans ⟨by omega,fun j hj=>sn j (by omega)⟩
 have mw:ar s2.next s2 s5:=cf.trans (Cg.weaken cf.next)
 have zp:ar s.next s s5:=df.trans (mw.weaken df.next)
 simp-implicitDefEqProofs(disch:=omega)only[ai,aj,ad,Nat.reduceLT,Nat.reduceEqDiff,↓reduceIte,hn,av.dQ (lD.keeps mw) mP]
 refine(RP R.has F s5 cs o (ho.keeps zp)).mono ?_
 rintro _ s6 ⟨rfl,Ga⟩
 have Ck:ar s3.next s3 s6:=Cg.trans (Ga.weaken Cg.next)
 have Cj:ar s2.next s2 s6:=mw.trans (Ga.weaken mw.next)
 have TQ:ar s.next s s6:=zp.trans (Ga.weaken zp.next)
 have N5:=sm.keeps Ga
 have Md:=mm.keeps Ck
 have kX:=bB.next
 have td:=cf.next
 have nH:=bD.next
 have adF:=Ck.next
 cases hh:o.has with
 |false=>
  simp-implicitDefEqProofs(disch:=omega)only[ai,Nat.reduceLT,Nat.reduceEqDiff,↓reduceIte,hn,av.dQ N5 sy]
  refine aE eO (by decide) (fm.keeps Cj) rfl rfl sy Md.ok ?_
  intro s7 og kA jV
  simp-implicitDefEqProofs(disch:=omega)only[ai,al,oneOf,Nat.reduceLT,Nat.reduceEqDiff,↓reduceIte,hn,av.dQ og sy,aW,Tryz.results54]
  have e:zo o L=o:=by unfold zo;rw[hh];rfl
  rw[e]
  exact gz.put Md (fun j hj=>⟨by omega,by omega⟩) kA jV (df.trans (Cj.weaken df.next)) kX
 |true=>
 have WZ:=mm.NU
 cases o with
 |mk kind num b l d=>
 obtain⟨bv,lv,dv,lc,dc,rfl,Ah,N6,hd3,fb3,fl3,fd3,rl3,rd3⟩:=WZ.parts
 obtain⟨G,hG⟩:∃G:Nat->Prop,G=fun j=>s2.next<=j/\j≠s3.next:=⟨_,rfl⟩
 have QZ:∀j,s2.next<=j/\j<s3.next->G j:=fun j hj=>by rw[hG];exact⟨hj.1,by omega⟩
 have rh:zo (.mk kind num b l d) L= .mk kind num b l (b6 d L):=by unfold zo;rw[hh];rfl
 simp-implicitDefEqProofs(disch:=omega)only[ai,Nat.reduceLT,↓reduceIte,hn]
 refine Comes.bC (fun z f t=>∃(i:Nat) (w:Value) (DC:List Value),z=L.length-i/\i<=L.length/\aM t 6 w (b6 d (L.take i)).length DC/\dO G w/\aL cu 6 G t (b6 d (L.take i)) DC/\av t s3.next [.int .i64 kind,.int .i64 num,bv,lv,w]/\ar s3.next s3 t/\f.n=26/\f.get 1=x/\f.get 4= .pointer (some ⟨s1.next,0,some 6⟩)/\f.get 5= .pointer (some ⟨s3.next,0,some 6⟩)/\f.get 6= .int .i64 (i:Nat))
  (fun z f t=>z= .exit 0/\∃(w:Value) (DC:List Value),aM t 6 w (b6 d L).length DC/\dO G w/\aL cu 6 G t (b6 d L) DC/\av t s3.next [.int .i64 kind,.int .i64 num,bv,lv,w]/\ar s3.next s3 t/\f.n=26/\f.get 4= .pointer (some ⟨s1.next,0,some 6⟩)/\f.get 5= .pointer (some ⟨s3.next,0,some 6⟩))
  ⟨0,dv,dc,rfl,by omega,by rw[List.take_zero];exact hd3.keeps Ck,fd3.mono QZ,by rw[List.take_zero];exact(rd3.mono bV QZ).keeps bV Ck,N5,Ck,by simp only[ae,hn],by simp only[aa,↓reduceIte,Nat.reduceEqDiff,h1],by simp only[aa,↓reduceIte,Nat.reduceEqDiff],by simp only[aa,↓reduceIte,Nat.reduceEqDiff],by simp only[aa,↓reduceIte];rfl⟩ ?_ ?_
 ·clear hn h0 h1 f
  rintro Q hQ z f t ⟨i,w,DC,rfl,hi,hw,lF,Ii,pI,aA,hn,h1,h4,h5,h6⟩
  have Gb:ar s2.next s2 t:=cf.trans (aA.weaken td)
  have Cm:ar s.next s t:=df.trans (Gb.weaken df.next)
  have lH:=hx.keeps Cm
  by_cases aP:i<L.length
  rotate_left
  ·obtain rfl:i=L.length:=by omega
   rw[List.take_length] at hw Ii
   have d1:¬((L.length:Nat):Int)<((L.length:Nat):Int):=by omega
   simp-implicitDefEqProofs(disch:=omega)only[ai,ad,Nat.reduceLT,Nat.reduceEqDiff,↓reduceIte,hn,h1,h6,lH.aV Tryz.underlying24,eq_false d1]
   exact hQ _ _ _ ⟨rfl,w,DC,hw,lF,Ii,pI,aA,by simp only[ae,hn],by simp only[aa,↓reduceIte,Nat.reduceEqDiff,h4],by simp only[aa,↓reduceIte,Nat.reduceEqDiff,h5]⟩
  have d1:(i:Int)<(L.length:Int):=by omega
  have Q0:=aA.next
  simp-implicitDefEqProofs(disch:=omega)only[ai,ad,Nat.reduceLT,Nat.reduceEqDiff,↓reduceIte,hn,h1,h6,lH.aV Tryz.underlying24,eq_true d1]
  obtain⟨A,hA⟩:∃A:Nat->Bool,A=fun j=>decide (j<t.next):=⟨_,rfl⟩
  have ef:∀j,A j=true->j<t.next:=by
   intro j h
   rw[hA] at h
   exact of_decide_eq_true h
  have gW:∀j,j<t.next->A j=true:=fun j h=>by rw[hA];exact decide_eq_true h
  refine LB.cF.dy A ef 1 0 (by kernel_rfl) (by kernel_rfl) ?_
  have db:=ar.spare t 0
  have F1:(spare t 0).next=t.next+0:=bT _ _
  have Sm:=pI.keeps db
  have XA:=lH.keeps db
  have I9:=hw.keeps db
  have Q3:=Ii.keeps bV db
  have dI:=XA.indexAddr (P:=Tryz.prog) (k:= .i64) (x:=(i:Int)) Tryz.underlying24 jx (by omega) (by omega)
  rw[Int.toNat_natCast] at dI
  have nA:=XA.eF (P:=Tryz.prog) I7 jx aP
  obtain⟨r,kH,iT,yh⟩:=hL.row i aP
  have nG:=iT.len
  rw[kH] at nA
  obtain⟨xs,qM⟩:∃xs,xs=Value.string ⟨(L[i].1).toArray⟩::r:=⟨_,rfl⟩
  rw[<-qM] at nA
  have XB:bX (.agg xs.toArray) (.agg xs.toArray)=true:=by
   have:=iT.self
   rw[qM]
   match r,nG,this with
   |[a,b,c,d,e],_,this=>
    simp[bX,gp] at this|-
    exact⟨by simp[cW],this⟩
  have ub:∀k,LA.dB A (some (.pointer (some ⟨s3.next,k,some 6⟩)))=true:=fun k=>LA.bY (A:=A) (i:=s3.next) (gW _ (by have:=pI.lt;omega))
  have l18:aG Tryz.prog (spare t 0) 24 (.pointer (some ⟨s3.next,4,some 6⟩))=some w:=Sm.load wx (off:=4) (c:=6) rfl (by simp)
  simp-implicitDefEqProofs(disch:=omega)only[ai,aj,bn,bp,Nat.sub_self,ad,Nat.reduceLT,Nat.reduceEqDiff,↓reduceIte,hn,h1,h5,h6,B6,ub,l18,I9.self,XA.self,dI,nA,XB,LA.di lH gW aP]
  have Ik:=qp d (L.take i)
  have Gz:d.length<=100000:=by cases tz;assumption
  rw[List.length_take] at Ik
  have XC:ar s.next s (spare t 0):=Cm.trans (db.weaken Cm.next)
  refine(IQ R.wit R.copy R.Mv G (spare t 0) w _ DC I9 Q3 (by omega) L[i] _ F ⟨r,qM,iT.keeps XC,yh⟩ (tF _ (List.getElem_mem aP))).mono ?_
  rintro w' t4 ⟨LC,xN,Q4,iA,Il⟩
  refine⟨fun _=>LA.ar.lM ef (iA.weaken (by omega)),?_⟩
  have Im:b6 d (L.take (i+1))=kv (b6 d (L.take i)) L[i]:=sv aP
  rw[<-Im] at xN Il
  have Q5:=Sm.keeps iA
  have Kx:=Sm.lt
  refine LB.dX wv (by decide) Q5 (off:=4) (c:=6) rfl (vs:=[w']) xN.aH.kg rfl (by simp) (by simp[xN.aH.aO]) (fun h=>absurd rfl h) ?_
  intro t5 Co yZ sA
  have Co:av t5 s3.next [.int .i64 kind,.int .i64 num,bv,lv,w']:=Co
  have cD:∀j,G j->aJ (.pointer (some ⟨s3.next,0,none⟩))≠some j:=fun j hj e=>by
   have e:some s3.next=some j:=e
   injection e with e
   rw[hG] at hj;exact hj.2 e.symm
  have W1:∀j,CG G (spare t 0).next j->G j:=fun j hj=>by
   rcases hj with hj|hj
   ·exact hj.1
   ·rw[hG];exact⟨by omega,by omega⟩
  have Vk:∀j,aJ w' =some j->G j:=fun j hj=>W1 j (.inr (Q4 j hj))
  have Io:ar s3.next t4 t5:=⟨by omega,fun j hj=>sA j (by omega)⟩
  have ZW:Own t5 6 w' (b6 d (L.take (i+1))).length LC:=xN.bc yZ sA (fun e=>cD _ (Vk _ e) rfl)
  have Q6:=((Il.mono bV (fun j hj=>W1 j hj.1)).turns bV (bm.bc yZ sA) cD)
  simp-implicitDefEqProofs(disch:=omega)only[ai,bp,Nat.reduceSub,Nat.reduceLT,Nat.reduceEqDiff,↓reduceIte,hn,h6,aD]
  exact au (L.length-(i+1)) (by omega) ⟨i+1,w',LC,rfl,by omega,ZW.aH,dO.wk Vk,Q6,Co,((aA.trans (db.weaken Q0)).trans (iA.weaken (by omega))).trans Io,by simp only[ae,hn],by simp only[aa,↓reduceIte,Nat.reduceEqDiff,h1],by simp only[aa,↓reduceIte,Nat.reduceEqDiff,h4],by simp only[aa,↓reduceIte,Nat.reduceEqDiff,h5],by simp only[aa,↓reduceIte];rfl⟩
 clear hn h0 h1 f
 rintro z f t ⟨rfl,w,DC,hw,lF,Ii,pI,aA,hn,h4,h5⟩
 have Cp:dr G t [.int .i64 kind,.int .i64 num,bv,lv,w] (.mk kind num b l (b6 d L)):=dr.whole (Ah.keeps aA) (N6.keeps aA) hw (fb3.mono QZ) (fl3.mono QZ) lF ((rl3.mono bH QZ).keeps bH aA) Ii
 have Gb:ar s2.next s2 t:=cf.trans (aA.weaken td)
 simp-implicitDefEqProofs(disch:=omega)only[ai,Nat.reduceLT,Nat.reduceEqDiff,↓reduceIte,hn,h4,h5,av.dQ pI rfl]
 refine aE eO (by decide) (fm.keeps Gb) rfl rfl rfl Cp.ok ?_
 intro s7 og kA jV
 simp-implicitDefEqProofs(disch:=omega)only[ai,al,oneOf,Nat.reduceLT,Nat.reduceEqDiff,↓reduceIte,hn,h4,av.dQ og rfl,aW,Tryz.results54]
 rw[rh]
 exact gz.put Cp (fun j hj=>by rw[hG] at hj;exact⟨by omega,by omega⟩) kA jV (df.trans (Gb.weaken df.next)) kX
end Go.Proofs.YtdfjfncifneocaaGreat
namespace Go.Proofs.YtdfjfncifneocaaGreat
open Go.Cl Go.Lib
set_option maxHeartbeats 8000000 in
theorem ES {lib:ay}(R:Mu lib)
  (F:Nat->Prop) (s:aq) (x:Value) (L:List (List UInt8×O)) (lx:List Value) (hx:aM s 6 x L.length lx) (hL:aL cu 6 F s L lx) (Sl:L.length<=100000) (tF:∀e∈L,Small e.2):
  Runs Tryz.prog lib 55 [x] s (gz s (.mk 7 0 [] [] (b6 [] L))):=by
 refine Runs.enter 21 Tryz.func55 rfl R.W3 rfl rfl ?_
 intro f hn hf
 have h0:f.get 0=x:=hf 0
 clear hf
 simp-implicitDefEqProofs(disch:=omega)only[ai,↓reduceIte,zO,oQ]
 refine aw ?_
 intro s1 fa bB jb
 have il:cr.length+1=6:=rfl
 simp-implicitDefEqProofs(disch:=omega)only[ai,ag,Nat.reduceLT,↓reduceIte,hn,il,bO1,zO,oQ]
 refine aw ?_
 intro s2 fm bD na
 simp-implicitDefEqProofs(disch:=omega)only[ai,Nat.reduceLT,Nat.reduceEqDiff,↓reduceIte,hn,il]
 refine aE eO (by decide) fm rfl rfl rfl rfl ?_
 intro s3 nB tB qR
 have nB:av s3 s1.next [.int .i64 7,.int .i64 0,.slice none 0 0,.slice none 0 0,.slice none 0 0]:=nB
 have Cq:ar s1.next s1 s3:=bD.trans ⟨by omega,fun j hj=>qR j (by omega)⟩
 have ij:ar s.next s s3:=bB.trans (Cq.weaken (by omega))
 have uJ:=fa.keeps Cq
 have kX:=bB.next
 obtain⟨G,hG⟩:∃G:Nat->Prop,G=fun j=>s1.next<=j/\j≠s1.next:=⟨_,rfl⟩
 simp-implicitDefEqProofs(disch:=omega)only[ai,Nat.reduceLT,↓reduceIte,hn]
 refine Comes.bC (fun z f t=>∃(i:Nat) (w:Value) (DC:List Value),z=L.length-i/\i<=L.length/\aM t 6 w (b6 [] (L.take i)).length DC/\dO G w/\aL cu 6 G t (b6 [] (L.take i)) DC/\av t s1.next [.int .i64 7,.int .i64 0,.slice none 0 0,.slice none 0 0,w]/\ar s1.next s1 t/\f.n=21/\f.get 0=x/\f.get 2= .pointer (some ⟨s.next,0,some 6⟩)/\f.get 3= .pointer (some ⟨s1.next,0,some 6⟩)/\f.get 4= .int .i64 (i:Nat))
  (fun z f t=>z= .exit 0/\∃(w:Value) (DC:List Value),aM t 6 w (b6 [] L).length DC/\dO G w/\aL cu 6 G t (b6 [] L) DC/\av t s1.next [.int .i64 7,.int .i64 0,.slice none 0 0,.slice none 0 0,w]/\ar s1.next s1 t/\f.n=21/\f.get 2= .pointer (some ⟨s.next,0,some 6⟩)/\f.get 3= .pointer (some ⟨s1.next,0,some 6⟩))
  ⟨0,.slice none 0 0,[],rfl,by omega,by rw[List.take_zero];exact .nil,trivial,by rw[List.take_zero];exact aL.nil,nB,Cq,by simp only[ae,hn],by simp only[aa,↓reduceIte,Nat.reduceEqDiff,h0],by simp only[aa,↓reduceIte,Nat.reduceEqDiff],by simp only[aa,↓reduceIte,Nat.reduceEqDiff],by simp only[aa,↓reduceIte];rfl⟩ ?_ ?_
 ·clear hn h0 f
  rintro Q hQ z f t ⟨i,w,DC,rfl,hi,hw,lF,Ii,pI,aA,hn,h0,h2,h3,h4⟩
  have Cm:ar s.next s t:=bB.trans (aA.weaken kX)
  have lH:=hx.keeps Cm
  by_cases aP:i<L.length
  rotate_left
  ·obtain rfl:i=L.length:=by omega
   rw[List.take_length] at hw Ii
   have d1:¬((L.length:Nat):Int)<((L.length:Nat):Int):=by omega
   simp-implicitDefEqProofs(disch:=omega)only[ai,ad,Nat.reduceLT,Nat.reduceEqDiff,↓reduceIte,hn,h0,h4,lH.aV Tryz.underlying24,eq_false d1]
   exact hQ _ _ _ ⟨rfl,w,DC,hw,lF,Ii,pI,aA,by simp only[ae,hn],by simp only[aa,↓reduceIte,Nat.reduceEqDiff,h2],by simp only[aa,↓reduceIte,Nat.reduceEqDiff,h3]⟩
  have d1:(i:Int)<(L.length:Int):=by omega
  have Q0:=aA.next
  simp-implicitDefEqProofs(disch:=omega)only[ai,ad,Nat.reduceLT,Nat.reduceEqDiff,↓reduceIte,hn,h0,h4,lH.aV Tryz.underlying24,eq_true d1]
  obtain⟨A,hA⟩:∃A:Nat->Bool,A=fun j=>decide (j<t.next):=⟨_,rfl⟩
  have ef:∀j,A j=true->j<t.next:=by
   intro j h
   rw[hA] at h
   exact of_decide_eq_true h
  have gW:∀j,j<t.next->A j=true:=fun j h=>by rw[hA];exact decide_eq_true h
  refine LB.cF.dy A ef 1 0 (by kernel_rfl) (by kernel_rfl) ?_
  have db:=ar.spare t 0
  have F1:(spare t 0).next=t.next+0:=bT _ _
  have Sm:=pI.keeps db
  have XA:=lH.keeps db
  have I9:=hw.keeps db
  have Q3:=Ii.keeps bV db
  have dI:=XA.indexAddr (P:=Tryz.prog) (k:= .i64) (x:=(i:Int)) Tryz.underlying24 jx (by omega) (by omega)
  rw[Int.toNat_natCast] at dI
  have nA:=XA.eF (P:=Tryz.prog) I7 jx aP
  obtain⟨r,kH,iT,yh⟩:=hL.row i aP
  have nG:=iT.len
  rw[kH] at nA
  obtain⟨xs,qM⟩:∃xs,xs=Value.string ⟨(L[i].1).toArray⟩::r:=⟨_,rfl⟩
  rw[<-qM] at nA
  have XB:bX (.agg xs.toArray) (.agg xs.toArray)=true:=by
   have:=iT.self
   rw[qM]
   match r,nG,this with
   |[a,b,c,d,e],_,this=>
    simp[bX,gp] at this|-
    exact⟨by simp[cW],this⟩
  have ub:∀k,LA.dB A (some (.pointer (some ⟨s1.next,k,some 6⟩)))=true:=fun k=>LA.bY (A:=A) (i:=s1.next) (gW _ (by have:=pI.lt;omega))
  have l18:aG Tryz.prog (spare t 0) 24 (.pointer (some ⟨s1.next,4,some 6⟩))=some w:=Sm.load wx (off:=4) (c:=6) rfl (by simp)
  simp-implicitDefEqProofs(disch:=omega)only[ai,aj,bn,bp,Nat.sub_self,ad,Nat.reduceLT,Nat.reduceEqDiff,↓reduceIte,hn,h0,h3,h4,B6,ub,l18,I9.self,XA.self,dI,nA,XB,LA.di lH gW aP]
  have Ik:=qp [] (L.take i)
  rw[List.length_take,List.length_nil] at Ik
  have XC:ar s.next s (spare t 0):=Cm.trans (db.weaken Cm.next)
  refine(IQ R.wit R.copy R.Mv G (spare t 0) w _ DC I9 Q3 (by omega) L[i] _ F ⟨r,qM,iT.keeps XC,yh⟩ (tF _ (List.getElem_mem aP))).mono ?_
  rintro w' t4 ⟨LC,xN,Q4,iA,Il⟩
  refine⟨fun _=>LA.ar.lM ef (iA.weaken (by omega)),?_⟩
  have Im:b6 [] (L.take (i+1))=kv (b6 [] (L.take i)) L[i]:=sv aP
  rw[<-Im] at xN Il
  have Q5:=Sm.keeps iA
  have Kx:=Sm.lt
  refine LB.dX wv (by decide) Q5 (off:=4) (c:=6) rfl (vs:=[w']) xN.aH.kg rfl (by simp) (by simp[xN.aH.aO]) (fun h=>absurd rfl h) ?_
  intro t5 Co yZ sA
  have Co:av t5 s1.next [.int .i64 7,.int .i64 0,.slice none 0 0,.slice none 0 0,w']:=Co
  have cD:∀j,G j->aJ (.pointer (some ⟨s1.next,0,none⟩))≠some j:=fun j hj e=>by
   have e:some s1.next=some j:=e
   injection e with e
   rw[hG] at hj;exact hj.2 e.symm
  have W1:∀j,CG G (spare t 0).next j->G j:=fun j hj=>by
   rcases hj with hj|hj
   ·exact hj.1
   ·rw[hG];exact⟨by omega,by omega⟩
  have Vk:∀j,aJ w' =some j->G j:=fun j hj=>W1 j (.inr (Q4 j hj))
  have Io:ar s1.next t4 t5:=⟨by omega,fun j hj=>sA j (by omega)⟩
  have ZW:Own t5 6 w' (b6 [] (L.take (i+1))).length LC:=xN.bc yZ sA (fun e=>cD _ (Vk _ e) rfl)
  have Q6:=((Il.mono bV (fun j hj=>W1 j hj.1)).turns bV (bm.bc yZ sA) cD)
  simp-implicitDefEqProofs(disch:=omega)only[ai,bp,Nat.reduceSub,Nat.reduceLT,Nat.reduceEqDiff,↓reduceIte,hn,h4,aD]
  exact au (L.length-(i+1)) (by omega) ⟨i+1,w',LC,rfl,by omega,ZW.aH,dO.wk Vk,Q6,Co,((aA.trans (db.weaken Q0)).trans (iA.weaken (by omega))).trans Io,by simp only[ae,hn],by simp only[aa,↓reduceIte,Nat.reduceEqDiff,h0],by simp only[aa,↓reduceIte,Nat.reduceEqDiff,h2],by simp only[aa,↓reduceIte,Nat.reduceEqDiff,h3],by simp only[aa,↓reduceIte];rfl⟩
 clear hn h0 f
 rintro z f t ⟨rfl,w,DC,hw,lF,Ii,pI,aA,hn,h2,h3⟩
 have Cp:dr G t [.int .i64 7,.int .i64 0,.slice none 0 0,.slice none 0 0,w] (.mk 7 0 [] [] (b6 [] L)):=dr.whole .nil .nil hw trivial trivial lF aL.nil Ii
 simp-implicitDefEqProofs(disch:=omega)only[ai,Nat.reduceLT,Nat.reduceEqDiff,↓reduceIte,hn,h2,h3,av.dQ pI rfl]
 refine aE eO (by decide) (fa.keeps aA) rfl rfl rfl Cp.ok ?_
 intro s7 og kA jV
 simp-implicitDefEqProofs(disch:=omega)only[ai,al,oneOf,Nat.reduceLT,Nat.reduceEqDiff,↓reduceIte,hn,h2,av.dQ og rfl,aW,Tryz.results55]
 exact gz.put Cp (fun j hj=>by rw[hG] at hj;exact⟨by omega,by omega⟩) kA jV (bB.trans (aA.weaken kX)) (Nat.le_refl _)
end Go.Proofs.YtdfjfncifneocaaGreat
namespace Go.Proofs.YtdfjfncifneocaaGreat
open Go.Cl Go.Lib
theorem H3.none {s t:aq}(h:ar s.next s t):H3 s O.none (.agg cr.toArray) t:=⟨0,0,[],[],[],_,_,_,[],[],rfl,rfl,.nil,aN.nil _,.nil,.nil,trivial,trivial,aL.nil,aL.nil,h⟩
theorem H3.put {s t t' u:aq}{o:O}{v:Value}{i:Nat}(h:H3 t o v t')(hs:ar s.next s t)(hi:i<t.next)(hsi:s.next<=i)(h1:u.next=t'.next)(h2:∀q,q≠i->u.heap.get q=t'.heap.get q):H3 s o v u:=by
 obtain⟨k,n,b,l,d,bv,lv,dv,lc,dc,rfl,rfl,g1,g2,g3,g4,g5,g6,g7,g8,g9⟩:=h
 have hn:=hs.next
 have hu:bm (.pointer (some ⟨i,0,Option.none⟩)) t' u:=bm.bc h1 h2
 have cD:∀j,t.next<=j/\aJ lv≠some j->aJ (.pointer (some ⟨i,0,Option.none⟩))≠some j:=fun j hj e=>by
  have e:some i=some j:=e
  injection e with e;have:=hj.1;omega
 have hm:∀j,t.next<=j/\aJ lv≠some j->s.next<=j/\aJ lv≠some j:=fun j hj=>⟨by have:=hj.1;omega,hj.2⟩
 exact⟨k,n,b,l,d,bv,lv,dv,lc,dc,rfl,rfl,g1.turns hu (fun j hj e=>by have e:some i=some j:=e;injection e with e;have:=g2 j hj;omega),fun j hj=>by have:=g2 j hj;omega,g3.oK g5 hu cD,g4.oK g6 hu cD,g5.mono hm,g6.mono hm,(g7.turns bH hu cD).mono bH hm,(g8.turns bV hu cD).mono bV hm,(hs.trans (g9.weaken hn)).trans ⟨by omega,fun j hj=>h2 j (by omega)⟩⟩
theorem K4 {lib:ay}(hl:lib.at 29=none)(s:aq)(b:List UInt8)(hb:b.length<=4294967296):Runs Tryz.prog lib 29 [.string ⟨b.toArray⟩] s (gz s (.mk 5 0 b [] [])):=by
 refine Runs.enter 6 Tryz.func29 rfl hl rfl rfl ?_
 intro f hn hf
 have h0:f.get 0= .string ⟨b.toArray⟩:=hf 0
 clear hf
 simp-implicitDefEqProofs(disch:=omega)only[ai,↓reduceIte,zO,oQ]
 refine aw ?_
 intro s1 fa bB jb
 have il:cr.length+1=6:=rfl
 simp-implicitDefEqProofs(disch:=omega)only[ai,Nat.reduceLT,Nat.reduceEqDiff,↓reduceIte,hn,h0,il,xq (s:=s1) (a:=b) Tryz.underlying9 Tryz.underlying22 Tryz.underlying5]
 refine aQ (by simp[br]) ?_
 intro w s2 hw lF bD
 have dE:=hw.aH.aO
 simp-implicitDefEqProofs(disch:=omega)only[ai,ag,Nat.reduceLT,Nat.reduceEqDiff,↓reduceIte,hn,bO2 5 hw.aH.kg]
 refine aE eO (by decide) (fa.keeps bD) rfl rfl rfl (by simp only[List.all_cons,List.all_nil,dE];rfl) ?_
 intro s3 nB tB qR
 simp-implicitDefEqProofs(disch:=omega)only[ai,al,oneOf,Nat.reduceLT,Nat.reduceEqDiff,↓reduceIte,hn,av.dQ nB rfl,aW,Tryz.results29]
 exact gz.put (F:=fun j=>s1.next<=j) (cs:=[.int .i64 5,.int .i64 0,w,.slice none 0 0,.slice none 0 0]) (dr.whole hw.aH .nil .nil (dO.fresh lF) trivial trivial aL.nil aL.nil) (fun j hj=>⟨by omega,by omega⟩) tB qR (bB.trans (bD.weaken bB.next)) (Nat.le_refl _)
theorem IW {lib:ay}(R:Mu lib)(F:Nat->Prop)(s:aq)(y:Value)(b:List UInt8)(hy:aM s 1 y b.length (ofBytes b))(hb:b.length<=4294967296)(x:Value)(l:List (List UInt8×O))(lx:List Value)(hx:aM s 6 x l.length lx)(hL:aL cu 6 F s l lx)(Sl:l.length<=100000)(tF:∀e∈l,Small e.2):
  Runs Tryz.prog lib 27 [y,x] s (gz s (.mk 8 0 b [] (b6 [] l))):=by
 refine Runs.enter 13 Tryz.func27 rfl R.stream rfl rfl ?_
 intro f hn hf
 have h0:f.get 0=y:=hf 0
 have h1:f.get 1=x:=hf 1
 clear hf
 simp-implicitDefEqProofs(disch:=omega)only[ai,↓reduceIte,zO,oQ]
 refine aw ?_
 intro s1 fa bB jb
 have il:cr.length+1=6:=rfl
 simp-implicitDefEqProofs(disch:=omega)only[ai,aj,ad,Nat.reduceLT,Nat.reduceEqDiff,↓reduceIte,hn,h1,il]
 refine(ES R F s1 x l lx (hx.keeps bB) (hL.keeps bV bB) Sl tF).mono ?_
 rintro _ s2 ⟨jt,rfl,fK,bD⟩
 obtain⟨bv,lv,dv,lc,dc,rfl,eR,oP,Gy,fb,fl,fd,rl,rd⟩:=fK.NU.parts
 simp-implicitDefEqProofs(disch:=omega)only[ai,Nat.reduceLT,↓reduceIte,hn,zO,oQ]
 refine aw ?_
 intro s3 nB cf tB
 simp-implicitDefEqProofs(disch:=omega)only[ai,Nat.reduceLT,Nat.reduceEqDiff,↓reduceIte,hn,il]
 refine aE eO (by decide) nB rfl rfl rfl fK.ok ?_
 intro s4 fU lN jc
 have fU:av s4 s2.next [.int .i64 7,.int .i64 0,bv,lv,dv]:=fU
 have Iq:ar s2.next s2 s4:=cf.trans ⟨by omega,fun j hj=>jc j (by omega)⟩
 have W4:ar s.next s s4:=(bB.trans (bD.weaken bB.next)).trans (Iq.weaken (by have:=bB.next;have:=bD.next;omega))
 have adY:=fU.lt
 simp-implicitDefEqProofs(disch:=omega)only[ai,Nat.reduceLT,↓reduceIte,hn,zn]
 refine kn cG (by decide) fU (off:=0) (c:=6) rfl (vs:=[.int .i64 8]) rfl rfl (by simp) rfl ?_
 intro s5 sm Kp sn
 have sm:av s5 s2.next [.int .i64 8,.int .i64 0,bv,lv,dv]:=sm
 have kX:=bB.next
 have nH:=bD.next
 have adX:=Iq.next
 have XD:ar s2.next s4 s5:=⟨by omega,fun j hj=>sn j (by omega)⟩
 have zp:ar s.next s s5:=W4.trans (XD.weaken (by omega))
 simp-implicitDefEqProofs(disch:=omega)only[ai,aj,ad,Nat.reduceLT,Nat.reduceEqDiff,↓reduceIte,hn,h0]
 refine(r6 R.Mv s5 y b (hy.keeps zp) hb).mono ?_
 rintro w s6 ⟨hw,lF,dF⟩
 have dE:=hw.aH.aO
 have F3:=dF.next
 simp-implicitDefEqProofs(disch:=omega)only[ai,Nat.reduceLT,Nat.reduceEqDiff,↓reduceIte,hn,WB]
 refine kn iY (by decide) (sm.keeps dF) (off:=2) (c:=6) rfl (vs:=[w]) hw.aH.kg rfl (by simp) (by simp[dE]) ?_
 intro s7 og kA jV
 have og:av s7 s2.next [.int .i64 8,.int .i64 0,w,lv,dv]:=og
 have Vl:=XD.next
 have sx:ar s2.next s2 s7:=((Iq.trans XD).trans (dF.weaken (by omega))).trans ⟨by omega,fun j hj=>jV j (by omega)⟩
 have Q9:ar s1.next s1 s7:=bD.trans (sx.weaken nH)
 have W6:Own s7 1 w b.length (ofBytes b):=hw.bc kA jV (fun e=>by have:=lF _ e;omega)
 have hG:∀j,s1.next<=j/\j<s2.next->s1.next<=j:=fun j hj=>hj.1
 have lQ:dr (fun j=>s1.next<=j) s7 [.int .i64 8,.int .i64 0,w,lv,dv] (.mk 8 0 b [] (b6 [] l)):=dr.whole W6.aH (oP.keeps sx) (Gy.keeps sx) (dO.wk (fun j hj=>by have:=lF j hj;omega)) (fl.mono hG) (fd.mono hG) ((rl.mono bH hG).keeps bH sx) ((rd.mono bV hG).keeps bV sx)
 simp-implicitDefEqProofs(disch:=omega)only[ai,Nat.reduceLT,Nat.reduceEqDiff,↓reduceIte,hn,av.dQ og rfl]
 refine aE eO (by decide) (fa.keeps Q9) rfl rfl rfl lQ.ok ?_
 intro s8 yY uL qo
 simp-implicitDefEqProofs(disch:=omega)only[ai,al,oneOf,Nat.reduceLT,Nat.reduceEqDiff,↓reduceIte,hn,av.dQ yY rfl,aW,Tryz.results27]
 exact gz.put lQ (fun j hj=>⟨by omega,by omega⟩) uL qo (bB.trans (Q9.weaken kX)) (Nat.le_refl _)
end Go.Proofs.YtdfjfncifneocaaGreat
set_option linter.unusedSimpArgs false
set_option linter.unusedVariables false
set_option maxRecDepth 100000
namespace Go.Proofs.YtdfjfncifneocaaGreat
open Go.Cl Go.Lib
theorem wI {lib:ay}(hl:lib.at 26=none)(s:aq)(n:Int):Runs Tryz.prog lib 26 [.int .i64 n] s (gz s (.mk 2 n [] [] [])):=by
 refine Runs.enter 5 Tryz.func26 rfl hl rfl rfl ?_
 intro f hn hf
 have h0:f.get 0= .int .i64 n:=hf 0
 clear hf
 simp-implicitDefEqProofs(disch:=omega)only[ai,↓reduceIte,zO,oQ]
 refine aw ?_
 intro s1 fa bB jb
 have il:cr.length+1=6:=rfl
 simp-implicitDefEqProofs(disch:=omega)only[ai,ag,Nat.reduceLT,Nat.reduceEqDiff,↓reduceIte,hn,h0,il,bO]
 refine aE eO (by decide) fa rfl rfl rfl rfl ?_
 intro s2 fm na HO
 simp-implicitDefEqProofs(disch:=omega)only[ai,al,oneOf,Nat.reduceLT,Nat.reduceEqDiff,↓reduceIte,hn,av.dQ fm rfl,aW,Tryz.results26]
 exact gz.put (F:=fun _=>False) (dr.bare _ s1 2 n) (fun j hj=>hj.elim) na HO bB (Nat.le_refl _)
theorem iK {lib:ay}(hl:lib.at 28=none)(hZ:lib.at 56=none)(nF:lib.at 39=none)(F:Nat->Prop)(s:aq)(k:List UInt8)(cs:List Value)(o:O)(ho:dr F s cs o)(tz:Small o):
  Runs Tryz.prog lib 28 [.string ⟨k.toArray⟩,.agg cs.toArray] s (ZT s k o):=by
 have mP:=ho.len
 refine Runs.enter 9 Tryz.func28 rfl hl rfl rfl ?_
 intro f hn hf
 have h0:f.get 0= .string ⟨k.toArray⟩:=hf 0
 have h1:f.get 1= .agg cs.toArray:=hf 1
 clear hf
 simp-implicitDefEqProofs(disch:=omega)only[ai,Nat.reduceLT,↓reduceIte,hn,h1]
 refine aw ?_
 intro s1 fa bB jb
 simp-implicitDefEqProofs(disch:=omega)only[ai,Nat.reduceLT,Nat.reduceAdd,↓reduceIte,hn,mP,zE,Du]
 refine aw ?_
 intro s2 fm bD na
 have df:ar s.next s s2:=bB.trans (bD.weaken (by omega))
 have la:aG Tryz.prog s2 26 (.pointer (some ⟨s.next,0,some 6⟩))=some (.agg cs.toArray):=av.cY ua (by rw[mP];exact eO) (fa.keeps bD) (by rw[mP])
 have TM:wm.length+1=7:=rfl
 simp-implicitDefEqProofs(disch:=omega)only[ai,aj,ad,Nat.reduceLT,Nat.reduceEqDiff,↓reduceIte,hn,h0,la,TM]
 refine(F6 hZ nF _ o (Nat.le_refl _) F s2 cs (ho.keeps df) tz).mono ?_
 rintro _ s3 ⟨jt,rfl,mm,cf⟩
 have sy:=mm.len
 obtain⟨es,mM⟩:∃es,es=Value.string ⟨k.toArray⟩::jt:=⟨_,rfl⟩
 have lj:es.length=6:=by rw[mM];simp[sy]
 have pz:es.all aO=true:=by rw[mM,List.all_cons,mm.ok];rfl
 have H7:=bE k sy
 rw[<-mM] at H7
 simp-implicitDefEqProofs(disch:=omega)only[ai,ag,Nat.reduceLT,Nat.reduceEqDiff,↓reduceIte,hn,H7]
 refine aE jx (by decide) (fm.keeps cf) rfl rfl lj pz ?_
 intro s4 fU lN jc
 have fU:av s4 s1.next es:=fU
 have l4:aG Tryz.prog s4 63 (.pointer (some ⟨s1.next,0,some 7⟩))=some (.agg es.toArray):=av.cY I7 (by rw[lj];exact jx) fU (by rw[lj])
 simp-implicitDefEqProofs(disch:=omega)only[ai,al,oneOf,Nat.reduceLT,Nat.reduceEqDiff,↓reduceIte,hn,l4,aW,Tryz.results28]
 have kX:=bB.next
 have nH:=bD.next
 refine⟨jt,by rw[mM],(mm.turns (u:= .pointer (some ⟨s1.next,0,none⟩)) (bm.bc lN jc) (fun j hj e=> ?_)).mono (fun j hj=>by omega),(df.trans (cf.weaken df.next)).trans ⟨by omega,fun j hj=>jc j (by omega)⟩⟩
 have e:some s1.next=some j:=e
 injection e with e;omega
end Go.Proofs.YtdfjfncifneocaaGreat
