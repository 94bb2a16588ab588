import Derived.Test.YtdfjfncifneocaaGreatClone
import Derived.Test.YtdfjfncifneocaaGreatLooseA
import Derived.Test.YtdfjfncifneocaaGreatNum
open Nat renaming reduceLT->QS,reduceEqDiff->WP
set_option linter.unusedSimpArgs false
set_option linter.unusedVariables false
set_option maxRecDepth 100000
namespace Go.Proofs.YtdfjfncifneocaaGreat
open Go.Cl
theorem UG (i o c:Nat):ay Tryz.prog 63 (.pointer (some ⟨i,o,some c⟩)) 0=some (.pointer (some ⟨i,o+0,some c⟩)):=by
 unfold ay;rw[Tryz.underlying63];simp[Uz]
theorem X2 (i o c:Nat):ay Tryz.prog 63 (.pointer (some ⟨i,o,some c⟩)) 1=some (.pointer (some ⟨i,o+1,some c⟩)):=by
 unfold ay;rw[Tryz.underlying63];simp[iH]
def Else (base:Nat)(a b c:Value)(j:Nat):Prop:=base<=j/\aE a≠some j/\aE b≠some j/\aE c≠some j
def Pq (s:aq)(o:O)(v:Value)(s' :aq):Prop:=∃(bv lv dv:Value) (LC DC:List Value),v= .agg #[.int .i64 o.kind,.int .i64 o.num,bv,lv,dv]/\Own s' 1 bv o.bytes.length (ofBytes o.bytes)/\Own s' 5 lv o.items.length LC/\Own s' 6 dv o.wG.length DC/\aH s.next bv/\aH s.next lv/\aH s.next dv/\
 (∀j,aE bv=some j->aE lv≠some j)/\(∀j,aE bv=some j->aE dv≠some j)/\(∀j,aE lv=some j->aE dv≠some j)/\aS dk 5 (Else s.next bv lv dv) s' o.items LC/\aS dU 6 (Else s.next bv lv dv) s' o.wG DC/\ar s.next s s'
theorem Pq.is {s s' :aq}{o:O}{v:Value}(h:Pq s o v s'):lW s o v s' :=by
 obtain⟨bv,lv,dv,LC,DC,rfl,h1,h2,h3,f1,f2,f3,-,-,-,r1,r2,hs⟩:=h
 cases o with
 |mk k n b l d=>exact⟨[.int .i64 k,.int .i64 n,bv,lv,dv],rfl,dk.whole h1.aG h2.aG h3.aG (fu.fresh f1) (fu.fresh f2) (fu.fresh f3) (r1.mono cw fun j h=>h.1) (r2.mono dV fun j h=>h.1),hs⟩
set_option maxHeartbeats 8000000 in
theorem afl {lib:az}(hl:lib.at 98=none)(kX:lib.at 36=none):∀(N:Nat) (o:O),SizeOf.sizeOf o<=N->∀(F:Nat->Prop) (s:aq) (cs:List Value),dk F s cs o->Fit o->
  Runs Tryz.prog lib 98 [.agg cs.toArray] s (Pq s o):=by
 intro N
 induction N with
 |zero=>intro o h;cases o;simp at h
 |succ N ih=>
 intro o hN F s cs ho lP
 cases o with
 |mk kind num b l d=>
 obtain⟨bv,lv,dv,lc,dc,rfl,hb,hL,hD,fb,fl,fd,rl,rd⟩:=ho.parts
 cases lP with
 |mk gu jS tT hK1 hL1 hD1=>
 refine Runs.enter 51 Tryz.func98 rfl hl rfl rfl ?_
 intro f hn hf
 have h0:f.get 0= .agg #[.int .i64 kind,.int .i64 num,bv,lv,dv]:=hf 0
 clear hf
 simp-implicitDefEqProofs(disch:=omega)only[aj,QS,↓reduceIte,hn,h0]
 refine ax ?_
 intro s1 eO bm iY
 have mO:cU.length+1=6:=rfl
 simp-implicitDefEqProofs(disch:=omega)only[aj,QS,Nat.reduceAdd,↓reduceIte,hn,List.length_cons,List.length_nil,zO,xB]
 refine ax ?_
 intro s2 dZ aU oN
 have uY:=eO.keeps aU
 have dg:ar s.next s s2:=bm.trans (aU.weaken (by omega))
 have dB:=hb.keeps dg
 simp-implicitDefEqProofs(disch:=omega)only[aj,QS,↓reduceIte,hn,mO]
 obtain⟨A,hA⟩:∃A:Nat->Bool,A=fun j=>decide (j<s2.next):=⟨_,rfl⟩
 have nH:∀j,A j=true->j<s2.next:=by
  intro j h
  rw[hA] at h
  exact of_decide_eq_true h
 have Ao:∀j,j<s2.next->A j=true:=fun j h=>by rw[hA];exact decide_eq_true h
 refine LB.da.fL A nH 1 1 (by kernel_rfl) (by kernel_rfl) ?_
 have eI:=ar.spare s2 1
 have X3:(spare s2 1).next=s2.next+1:=bU _ _
 have Ke:=uY.keeps eI
 have iS:∀k,LA.fg A (some (.pointer (some ⟨s.next,k,some 6⟩)))=true:=fun k=>LA.cD (A:=A) (i:=s.next) (Ao _ uY.lt)
 have l0:aR Tryz.prog (spare s2 1) 3 (.pointer (some ⟨s.next,0,some 6⟩))=some (.int .i64 kind):=Ke.load bC (off:=0) (c:=6) rfl (by simp)
 have l1:aR Tryz.prog (spare s2 1) 2 (.pointer (some ⟨s.next,1,some 6⟩))=some (.int .i64 num):=Ke.load ZN (off:=1) (c:=6) rfl (by simp)
 have l2:aR Tryz.prog (spare s2 1) 22 (.pointer (some ⟨s.next,2,some 6⟩))=some bv:=Ke.load gw (off:=2) (c:=6) rfl (by simp)
 simp-implicitDefEqProofs(disch:=omega)only[aj,ak,bS,bT,Nat.sub_self,ad,ae,QS,WP,↓reduceIte,hn,EC,of1,of2,iS,l0,l1,l2,dB.self]
 refine(Gp kX (spare s2 1) bv b (dB.keeps eI) (by omega)).mono ?_
 rintro kO s3 ⟨Ly,MB,bH⟩
 have mm:=bH.next
 refine⟨fun _=>LA.ar.OW nH (bH.weaken (by omega)),?_⟩
 have CV:cf (.agg #[.int .i64 kind,.int .i64 num,kO,.slice none 0 0,.slice none 0 0]) (.agg #[.int .i64 kind,.int .i64 num,kO,.slice none 0 0,.slice none 0 0])=true:=CQ (by simp[cN]) (by simp[cN]) Ly.aG.Po (by simp[cN]) (by simp[cN])
 simp-implicitDefEqProofs(disch:=omega)only[aj,bT,QS,↓reduceIte,hn,bO3 kind num Ly.aG.su,CV,zO,xB]
 refine LB.mC (by omega) ?_
 intro s4 ie Am wR
 simp-implicitDefEqProofs(disch:=omega)only[aj,bT,QS,WP,↓reduceIte,hn,mO]
 have ajs:=Ly.aG.aJ
 refine LB.cF iH (by decide) ie rfl rfl rfl (by simp only[List.all_cons,List.all_nil,ajs];rfl) (fun h=>absurd rfl h) ?_
 intro s5 vv MW Ap
 have vv:av s5 s2.next [.int .i64 kind,.int .i64 num,kO,.slice none 0 0,.slice none 0 0]:=vv
 have wS:ar s2.next s2 s5:=((eI.trans (bH.weaken (by omega))).trans ⟨by omega,fun j hj=>wR j (by omega)⟩).trans ⟨by omega,fun j hj=>Ap j (by omega)⟩
 have IM:ar s.next s s5:=dg.trans (wS.weaken (by omega))
 have X4:Own s5 1 kO b.length (ofBytes b):=(Ly.aI Am wR (fun e=>by have:=MB _ e;omega)).aI MW Ap (fun e=>by have:=MB _ e;omega)
 have LP:∀j,aE kO=some j->s2.next+1<=j/\j<s5.next:=fun j hj=>⟨by have:=MB j hj;omega,X4.g8 j hj⟩
 have X5:=uY.keeps wS
 have abG:=dZ.keeps wS
 have hL5:=hL.keeps IM
 have l6:aR Tryz.prog s5 23 (.pointer (some ⟨s.next,3,some 6⟩))=some lv:=X5.load UA (off:=3) (c:=6) rfl (by simp)
 simp-implicitDefEqProofs(disch:=omega)only[aj,bT,Nat.reduceSub,ad,QS,WP,↓reduceIte,hn,ZO,l6,hL5.bh Tryz.underlying23]
 obtain⟨FF,SM⟩:∃FF:Value->Nat->Prop,FF=fun v j=>s5.next<=j/\¬(fun _=>False) j/\aE v≠some j:=⟨_,rfl⟩
 have im:=aU.next
 have aoC:=wS.next
 have amB:s2.next<s5.next:=vv.lt
 refine Comes.bK (fun z f s6=>∃(i:Nat) (y:Value) (LC:List Value),z=l.length-i/\i<=l.length/\Own s6 5 y i LC/\aS dk 5 (FF y) s6 (l.take i) LC/\aH s5.next y/\Own s6 1 kO b.length (ofBytes b)/\av s6 s.next [.int .i64 kind,.int .i64 num,bv,lv,dv]/\av s6 s1.next cU/\av s6 s2.next [.int .i64 kind,.int .i64 num,kO,y,.slice none 0 0]/\ar s.next s s6/\s5.next<=s6.next/\f.n=51/\f.get 1= .pointer (some ⟨s.next,0,some 6⟩)/\f.get 2= .pointer (some ⟨s1.next,0,some 6⟩)/\f.get 3= .pointer (some ⟨s2.next,0,some 6⟩)/\f.get 17=lv/\f.get 18= .int .i64 (l.length:Nat)/\f.get 19= .int .i64 (i:Nat))
  (fun z f s6=>z= .exit 0/\∃(y:Value) (LC:List Value),Own s6 5 y l.length LC/\aS dk 5 (FF y) s6 l LC/\aH s5.next y/\Own s6 1 kO b.length (ofBytes b)/\av s6 s.next [.int .i64 kind,.int .i64 num,bv,lv,dv]/\av s6 s1.next cU/\av s6 s2.next [.int .i64 kind,.int .i64 num,kO,y,.slice none 0 0]/\ar s.next s s6/\s5.next<=s6.next/\f.n=51/\f.get 1= .pointer (some ⟨s.next,0,some 6⟩)/\f.get 2= .pointer (some ⟨s1.next,0,some 6⟩)/\f.get 3= .pointer (some ⟨s2.next,0,some 6⟩))
  ⟨0,.slice none 0 0,[],rfl,by omega,.nil,by rw[List.take_zero];exact aS.nil,aH.nil _,X4,X5,abG,vv,IM,Nat.le_refl _,by simp only[ag,hn],by simp only[aa,↓reduceIte,WP],by simp only[aa,↓reduceIte,WP],by simp only[aa,↓reduceIte,WP],by simp only[aa,↓reduceIte,WP],by simp only[aa,↓reduceIte,WP],by simp only[aa,↓reduceIte];rfl⟩ ?_ ?_
 ·clear hn h0 f CV ie vv wR Ap Ly X4 X5 abG l0 l1 l2 l6 iS Ke nH Ao hA A
  rintro Q hQ z f s6 ⟨i,y,LC,rfl,hi,hy,hR,kJ,wT,Kf,qt,ks,eD,X6,hn,h1,h2,h3,Ak,ye,Kg⟩
  have UH:=hL.keeps eD
  by_cases bc:i<l.length
  rotate_left
  ·obtain rfl:i=l.length:=by omega
   rw[List.take_length] at hR
   have d1:¬((l.length:Nat):Int)<((l.length:Nat):Int):=by omega
   simp-implicitDefEqProofs(disch:=omega)only[aj,QS,↓reduceIte,hn,ye,Kg,eq_false d1]
   exact hQ _ _ _ ⟨rfl,y,LC,hy,hR,kJ,wT,Kf,qt,ks,eD,X6,by simp only[ag,hn],by simp only[aa,↓reduceIte,WP,h1],by simp only[aa,↓reduceIte,WP,h2],by simp only[aa,↓reduceIte,WP,h3]⟩
  have vE:aE y≠some s2.next:=fun e=>by have:=kJ _ e;omega
  have d1:(i:Int)<(l.length:Int):=by omega
  have ln:=UH.indexAddr (P:=Tryz.prog) (k:= .i64) (x:=(i:Int)) Tryz.underlying23 iH (by omega) (by omega)
  rw[Int.toNat_natCast] at ln
  have iF:=UH.fm (P:=Tryz.prog) Gm iH bc
  have uZ:=(rl.row i bc).keeps eD
  obtain⟨xs,vt⟩:∃xs,xs=(lc.drop (i*5)).take 5:=⟨_,rfl⟩
  rw[<-vt] at iF uZ
  have vq:=uZ.len
  simp-implicitDefEqProofs(disch:=omega)only[aj,QS,WP,↓reduceIte,hn,Ak,ye,Kg,eq_true d1,ln,iF,zO,xB]
  refine ax ?_
  intro s7 tI mF rq
  simp-implicitDefEqProofs(disch:=omega)only[aj,QS,WP,↓reduceIte,hn,mO]
  refine aA iH (by decide) tI rfl rfl vq uZ.ok ?_
  intro s8 uj UI H4
  have uj:av s8 s6.next xs:=uj
  have iy:ar s6.next s6 s8:=mF.trans ⟨by omega,fun j hj=>H4 j (by omega)⟩
  have Kf:=Kf.keeps iy
  have qt:=qt.keeps iy
  have ks:=ks.keeps iy
  have hy:=hy.keeps iy
  have hR:=hR.keeps cw iy
  have wT:=wT.keeps iy
  have uZ:=uZ.keeps iy
  simp-implicitDefEqProofs(disch:=omega)only[aj]
  obtain⟨A,hA⟩:∃A:Nat->Bool,A=fun j=>decide (j<s8.next):=⟨_,rfl⟩
  have nH:∀j,A j=true->j<s8.next:=by
   intro j h
   rw[hA] at h
   exact of_decide_eq_true h
  have Ao:∀j,j<s8.next->A j=true:=fun j h=>by rw[hA];exact decide_eq_true h
  refine LB.da.fL A nH 1 1 (by kernel_rfl) (by kernel_rfl) ?_
  have eI:=ar.spare s8 1
  have X3:(spare s8 1).next=s8.next+1:=bU _ _
  have zK:∀k,LA.fg A (some (.pointer (some ⟨s2.next,k,some 6⟩)))=true:=fun k=>LA.cD (A:=A) (i:=s2.next) (Ao _ ks.lt)
  have Gq:∀k,LA.fg A (some (.pointer (some ⟨s6.next,k,some 6⟩)))=true:=fun k=>LA.cD (A:=A) (i:=s6.next) (Ao _ uj.lt)
  have l8:aR Tryz.prog (spare s8 1) 23 (.pointer (some ⟨s2.next,3,some 6⟩))=some y:=(ks.keeps eI).load UA (off:=3) (c:=6) rfl (by simp)
  have l9:aR Tryz.prog (spare s8 1) 26 (.pointer (some ⟨s6.next,0,some 6⟩))=some (.agg xs.toArray):=av.bu Gm (by rw[vq];exact iH) (uj.keeps eI) (by rw[vq])
  have uZ:=uZ.keeps eI
  simp-implicitDefEqProofs(disch:=omega)only[aj,ak,bS,bT,Nat.sub_self,ad,ae,QS,WP,↓reduceIte,hn,h3,ZO,zK,Gq,l8,l9,hy.self,uZ.self]
  refine(ih l[i] (by have:=O.J9 (k:=kind) (n:=num) (b:=b) (l:=l) (d:=d) (List.getElem_mem bc);omega) F (spare s8 1) _ uZ (hL1 _ (List.getElem_mem bc))).mono ?_
  intro v9 s9 h9
  obtain⟨UJ,rfl,Aq,sK⟩:=h9.is
  have hn9:=sK.next
  refine⟨fun _=>LA.ar.OW nH (sK.weaken (by omega)),?_⟩
  have yp:=Aq.len
  simp-implicitDefEqProofs(disch:=omega)only[fM (cs:=UJ.toArray) Tryz.underlying23 iH zO xB rfl yp (by decide)]
  refine LB.dx (base:=s8.next) yp (by omega) (Nat.le_refl _) ?_
  intro bs sa m8 gn MX Rz UL
  have gJ:ar s8.next s8 sa:=(eI.trans (sK.weaken (by omega))).trans MX
  have Mn:=gJ.next
  have WI:dk (FF y) sa UJ l[i]:=by
   refine(Aq.turns (u:= .pointer (some ⟨s8.next,0,none⟩)) (aY.aI Rz UL) (fun j hj e=> ?_)).mono (fun j hj=> ?_)
   ·have e:some s8.next=some j:=e
    injection e with e;omega
   ·rw[SM];exact⟨by omega,fun h=>h,fun e=>by have:=hy.g8 _ e;omega⟩
  simp-implicitDefEqProofs(disch:=omega)only[aj,bT,ad,QS,WP,↓reduceIte,hn]
  refine LB.j9 Tryz.underlying23 Tryz.underlying23 (.inl ⟨_,rfl⟩) iH byO zO rfl (hy.keeps gJ) m8.aG.src yp (by decide) WI.ok (by omega) (by omega) (base:=s5.next) kJ (by omega) (fun h=>absurd rfl h) (fun j hj=>by have:=nH j hj;omega) ?_
  intro y' sb WJ ZR oO qU
  have Eh:=oO.next
  have hR8:=hR.keeps cw gJ
  rw[SM] at hR8 WI
  have hR9:=hR8.grow cw yp WI oO qU
  rw[show(fun j=>s5.next<=j/\¬(fun _=>False) j/\aE y' ≠some j)=FF y' by rw[SM]] at hR9
  have L5:∀j,aE y=some j->s5.next<=j:=kJ
  have abH:Own sb 1 kO b.length (ofBytes b):=(wT.keeps gJ).turns oO (fun j hj e=>by have:=(LP j hj).2;have:=L5 _ e;omega)
  have abI:aE y' ≠some s2.next:=fun e=>by have:=ZR _ e;omega
  simp-implicitDefEqProofs(disch:=omega)only[aj,bS,bT,Nat.reduceSub,QS,WP,↓reduceIte,hn,h3,ZO]
  refine LB.eN EA (by decide) ((ks.keeps gJ).turns oO vE) (off:=3) (c:=6) rfl (vs:=[y']) WJ.aG.su rfl (by simp) (by simp[WJ.aG.aJ]) (fun h=>absurd rfl h) ?_
  intro sc DP wU sL
  have DP:av sc s2.next [.int .i64 kind,.int .i64 num,kO,y',.slice none 0 0]:=DP
  have huc:aY (.pointer (some ⟨s2.next,0,none⟩)) sb sc:=aY.aI wU sL
  have RA:∀j,FF y' j->aE (.pointer (some ⟨s2.next,0,none⟩))≠some j:=fun j hj e=>by
   have e:some s2.next=some j:=e
   injection e with e
   rw[SM] at hj;have:=hj.1;omega
  simp-implicitDefEqProofs(disch:=omega)only[aj,bT,Nat.reduceSub,QS,WP,↓reduceIte,hn,Kg,aB]
  refine au (l.length-(i+1)) (by omega) ⟨i+1,y',LC++UJ,rfl,by omega,WJ.aI wU sL abI,?_,ZR,abH.aI wU sL (fun e=>by have:=(LP _ e).1;omega),((Kf.keeps gJ).turns oO (fun e=>by have:=L5 _ e;omega)).aI wU sL (by omega),((qt.keeps gJ).turns oO (fun e=>by have:=L5 _ e;omega)).aI wU sL (by omega),DP,?_,by omega,by simp only[ag,hn],by simp only[aa,↓reduceIte,WP,h1],by simp only[aa,↓reduceIte,WP,h2],by simp only[aa,↓reduceIte,WP,h3],by simp only[aa,↓reduceIte,WP,Ak],by simp only[aa,↓reduceIte,WP,ye],by simp only[aa,↓reduceIte];rfl⟩
  ·rw[List.take_add_one,List.getElem?_eq_getElem bc]
   exact hR9.turns cw huc RA
  ·exact(((eD.trans (iy.weaken eD.next)).trans (gJ.weaken (by have:=eD.next;have:=iy.next;omega))).trans ((oO.keeps kJ (by omega)).weaken IM.next)).trans ⟨by omega,fun j hj=>sL j (by omega)⟩
 clear hn h0 f CV ie vv wR Ap Ly X4 X5 abG l0 l1 l2 l6 iS Ke nH Ao hA A
 rintro z f s6 ⟨rfl,y,LC,MY,hR,kJ,wT,Kf,qt,ks,eD,X6,hn,h1,h2,h3⟩
 have hD6:=hD.keeps eD
 have l6:aR Tryz.prog s6 24 (.pointer (some ⟨s.next,4,some 6⟩))=some dv:=Kf.load X0 (off:=4) (c:=6) rfl (by simp)
 simp-implicitDefEqProofs(disch:=omega)only[aj,ad,QS,↓reduceIte,hn,h1,of4,l6,hD6.bh Tryz.underlying24]
 have Hk:∀j,aE y=some j->s5.next<=j/\j<s6.next:=fun j hj=>⟨kJ j hj,MY.g8 j hj⟩
 have UM:=hR.below cw
 obtain⟨FI,hFI⟩:∃FI:Nat->Prop,FI=fun j=>FF y j/\j<s6.next:=⟨_,rfl⟩
 rw[<-hFI] at UM
 have MZ:∀j,FI j->s5.next<=j/\j<s6.next/\aE y≠some j:=fun j hj=>by rw[hFI,SM] at hj;exact⟨hj.1.1,hj.2,hj.1.2.2⟩
 obtain⟨FE,hFE⟩:∃FE:Value->Nat->Prop,FE=fun v j=>s6.next<=j/\¬(fun _=>False) j/\aE v≠some j:=⟨_,rfl⟩
 clear hFI hR l6
 clear SM FF
 refine Comes.bK (fun z f t6=>∃(i:Nat) (w:Value) (DC:List Value),z=d.length-i/\i<=d.length/\Own t6 6 w i DC/\aS dU 6 (FE w) t6 (d.take i) DC/\aH s6.next w/\Own t6 1 kO b.length (ofBytes b)/\Own t6 5 y l.length LC/\aS dk 5 FI t6 l LC/\av t6 s1.next cU/\av t6 s2.next [.int .i64 kind,.int .i64 num,kO,y,w]/\ar s.next s t6/\s6.next<=t6.next/\f.n=51/\f.get 2= .pointer (some ⟨s1.next,0,some 6⟩)/\f.get 3= .pointer (some ⟨s2.next,0,some 6⟩)/\f.get 32=dv/\f.get 33= .int .i64 (d.length:Nat)/\f.get 34= .int .i64 (i:Nat))
  (fun z f t6=>z= .exit 2/\∃(w:Value) (DC:List Value),Own t6 6 w d.length DC/\aS dU 6 (FE w) t6 d DC/\aH s6.next w/\Own t6 1 kO b.length (ofBytes b)/\Own t6 5 y l.length LC/\aS dk 5 FI t6 l LC/\av t6 s1.next cU/\av t6 s2.next [.int .i64 kind,.int .i64 num,kO,y,w]/\ar s.next s t6/\s6.next<=t6.next/\f.n=51/\f.get 2= .pointer (some ⟨s1.next,0,some 6⟩)/\f.get 3= .pointer (some ⟨s2.next,0,some 6⟩))
  ⟨0,.slice none 0 0,[],rfl,by omega,.nil,by rw[List.take_zero];exact aS.nil,aH.nil _,wT,MY,UM,qt,ks,eD,Nat.le_refl _,by simp only[ag,hn],by simp only[aa,↓reduceIte,WP,h2],by simp only[aa,↓reduceIte,WP,h3],by simp only[aa,↓reduceIte,WP],by simp only[aa,↓reduceIte,WP],by simp only[aa,↓reduceIte];rfl⟩ ?_ ?_
 ·clear hn h1 h2 h3 f Kf qt ks wT MY UM kJ
  rintro Q hQ z f t6 ⟨i,w,DC,rfl,hi,hw,hRE,xC,wT,MY,UM,qt,ks,eD,hn7,hn,h2,h3,WK,zL,vw⟩
  have hD6:=hD.keeps eD
  by_cases bc:i<d.length
  rotate_left
  ·obtain rfl:i=d.length:=by omega
   rw[List.take_length] at hRE
   have d1:¬((d.length:Nat):Int)<((d.length:Nat):Int):=by omega
   simp-implicitDefEqProofs(disch:=omega)only[aj,QS,↓reduceIte,hn,zL,vw,eq_false d1]
   exact hQ _ _ _ ⟨rfl,w,DC,hw,hRE,xC,wT,MY,UM,qt,ks,eD,hn7,by simp only[ag,hn],by simp only[aa,↓reduceIte,WP,h2],by simp only[aa,↓reduceIte,WP,h3]⟩
  have M0:aE w≠some s2.next:=fun e=>by have:=xC _ e;omega
  have d1:(i:Int)<(d.length:Int):=by omega
  have ln:=hD6.indexAddr (P:=Tryz.prog) (k:= .i64) (x:=(i:Int)) Tryz.underlying24 qv (by omega) (by omega)
  rw[Int.toNat_natCast] at ln
  have iF:=hD6.fm (P:=Tryz.prog) Ru qv bc
  obtain⟨r,ou,gr,Ag⟩:=rd.row i bc
  have oC:=gr.len
  have uZ:=gr.keeps eD
  rw[ou] at iF
  obtain⟨xs,vt⟩:∃xs,xs=Value.string ⟨(d[i].1).toArray⟩::r:=⟨_,rfl⟩
  rw[<-vt] at iF
  have vq:xs.length=6:=by rw[vt];simp[oC]
  have UN:xs.all aJ=true:=by rw[vt,List.all_cons,gr.ok];rfl
  have abL:cf (.agg xs.toArray) (.agg xs.toArray)=true:=by
   have:=gr.self
   rw[vt]
   match r,oC,this with
   |[a,b,c,d,e],_,this=>
    simp[cf,fK] at this|-
    exact⟨by simp[cN],this⟩
  simp-implicitDefEqProofs(disch:=omega)only[aj,QS,WP,↓reduceIte,hn,WK,zL,vw,eq_true d1,ln,iF,zE,Uy]
  refine ax ?_
  intro s7 tI mF rq
  have X7:wN.length+1=7:=rfl
  simp-implicitDefEqProofs(disch:=omega)only[aj,QS,WP,↓reduceIte,hn,X7]
  refine aA qv (by decide) tI rfl rfl vq UN ?_
  intro s8 uj UI H4
  have uj:av s8 t6.next xs:=uj
  have iy:ar t6.next t6 s8:=mF.trans ⟨by omega,fun j hj=>H4 j (by omega)⟩
  have qt:=qt.keeps iy
  have ks:=ks.keeps iy
  have hw:=hw.keeps iy
  have hRE:=hRE.keeps dV iy
  have UM:=UM.keeps cw iy
  have wT:=wT.keeps iy
  have MY:=MY.keeps iy
  have uZ:=uZ.keeps iy
  have aoD:=iy.next
  simp-implicitDefEqProofs(disch:=omega)only[aj]
  obtain⟨A,hA⟩:∃A:Nat->Bool,A=fun j=>decide (j<s8.next):=⟨_,rfl⟩
  have nH:∀j,A j=true->j<s8.next:=by
   intro j h
   rw[hA] at h
   exact of_decide_eq_true h
  have Ao:∀j,j<s8.next->A j=true:=fun j h=>by rw[hA];exact decide_eq_true h
  refine LB.da.fL A nH 1 1 (by kernel_rfl) (by kernel_rfl) ?_
  have eI:=ar.spare s8 1
  have X3:(spare s8 1).next=s8.next+1:=bU _ _
  have zK:∀k,LA.fg A (some (.pointer (some ⟨s2.next,k,some 6⟩)))=true:=fun k=>LA.cD (A:=A) (i:=s2.next) (Ao _ ks.lt)
  have Ps:∀k,LA.fg A (some (.pointer (some ⟨t6.next,k,some 7⟩)))=true:=fun k=>LA.cD (A:=A) (i:=t6.next) (Ao _ uj.lt)
  have l8:aR Tryz.prog (spare s8 1) 24 (.pointer (some ⟨s2.next,4,some 6⟩))=some w:=(ks.keeps eI).load X0 (off:=4) (c:=6) rfl (by simp)
  have l9:aR Tryz.prog (spare s8 1) 9 (.pointer (some ⟨t6.next,0,some 7⟩))=some (.string ⟨(d[i].1).toArray⟩):=by
   have:=(uj.keeps eI).load (P:=Tryz.prog) Ka (off:=0) (c:=7) (by rw[vq]) (by omega)
   rw[this,vt];rfl
  have l10:aR Tryz.prog (spare s8 1) 26 (.pointer (some ⟨t6.next,1,some 7⟩))=some (.agg r.toArray):=by
   have:=av.tn (P:=Tryz.prog) Gm iH (uj.keeps eI) (off:=1) (c:=7) (by rw[vq]) (by omega)
   rw[this,vt,List.drop_succ_cons,List.drop_zero,List.take_of_length_le (by omega)]
  have uZ:=uZ.keeps eI
  simp-implicitDefEqProofs(disch:=omega)only[aj,ak,bS,bT,Nat.sub_self,ad,ae,QS,WP,↓reduceIte,hn,h3,of4,UG,X2,zK,Ps,l8,l9,l10,hw.self,uZ.self]
  refine(ih d[i].2 (by have:=O.Pm (k:=kind) (n:=num) (b:=b) (l:=l) (d:=d) (List.getElem_mem bc);omega) F (spare s8 1) _ uZ (hD1 _ (List.getElem_mem bc))).mono ?_
  intro v9 s9 h9
  obtain⟨UJ,rfl,Aq,sK⟩:=h9.is
  have hn9:=sK.next
  refine⟨fun _=>LA.ar.OW nH (sK.weaken (by omega)),?_⟩
  have yp:=Aq.len
  obtain⟨es,Au⟩:∃es,es=Value.string ⟨(d[i].1).toArray⟩::UJ:=⟨_,rfl⟩
  have yj:es.length=6:=by rw[Au];simp[yp]
  have abM:cf (.agg es.toArray) (.agg es.toArray)=true:=by
   have:=Aq.self
   rw[Au]
   match UJ,yp,this with
   |[a,b,c,d,e],_,this=>
    simp[cf,fK] at this|-
    exact⟨by simp[cN],this⟩
  have hbE:=bE d[i].1 yp
  rw[<-Au] at hbE
  simp-implicitDefEqProofs(disch:=omega)only[aj,bT,ae,QS,↓reduceIte,hn,hbE,abM,fM (cs:=es.toArray) Tryz.underlying24 qv zE Uy rfl yj (by decide)]
  refine LB.dx (base:=s8.next) yj (by omega) (Nat.le_refl _) ?_
  intro bs sa m8 gn MX Rz UL
  have gJ:ar s8.next s8 sa:=(eI.trans (sK.weaken (by omega))).trans MX
  have Mn:=gJ.next
  have WI:dU (FE w) sa es d[i]:=by
   refine⟨UJ,Au,(Aq.turns (u:= .pointer (some ⟨s8.next,0,none⟩)) (aY.aI Rz UL) (fun j hj e=> ?_)).mono (fun j hj=> ?_),Ag⟩
   ·have e:some s8.next=some j:=e
    injection e with e;omega
   ·rw[hFE];exact⟨by omega,fun h=>h,fun e=>by have:=hw.g8 _ e;omega⟩
  have Kh:es.all aJ=true:=by rw[Au,List.all_cons,Aq.ok];rfl
  simp-implicitDefEqProofs(disch:=omega)only[aj,bT,ad,QS,WP,↓reduceIte,hn]
  refine LB.j9 Tryz.underlying24 Tryz.underlying24 (.inl ⟨_,rfl⟩) qv byE zE rfl (hw.keeps gJ) m8.aG.src yj (by decide) Kh (by omega) (by omega) (base:=s6.next) xC (by omega) (fun h=>absurd rfl h) (fun j hj=>by have:=nH j hj;omega) ?_
  intro w' sb hwb ZR oO qU
  have Eh:=oO.next
  have afr:=hRE.keeps dV gJ
  rw[hFE] at afr WI
  have afs:=afr.grow dV yj WI oO qU
  rw[show(fun j=>s6.next<=j/\¬(fun _=>False) j/\aE w' ≠some j)=FE w' by rw[hFE]] at afs
  have hwl:∀j,aE w=some j->s6.next<=j:=xC
  have abH:Own sb 1 kO b.length (ofBytes b):=(wT.keeps gJ).turns oO (fun j hj e=>by have:=(LP j hj).2;have:=hwl _ e;omega)
  have ajv:Own sb 5 y l.length LC:=(MY.keeps gJ).turns oO (fun j hj e=>by have:=(Hk j hj).2;have:=hwl _ e;omega)
  have ajw:=(UM.keeps cw gJ).turns cw oO (fun j hj e=>by have:=(MZ j hj).2.1;have:=hwl _ e;omega)
  have ajx:aE w' ≠some s2.next:=fun e=>by have:=ZR _ e;omega
  simp-implicitDefEqProofs(disch:=omega)only[aj,bS,bT,Nat.reduceSub,QS,WP,↓reduceIte,hn,h3,of4]
  refine LB.eN EB (by decide) ((ks.keeps gJ).turns oO M0) (off:=4) (c:=6) rfl (vs:=[w']) hwb.aG.su rfl (by simp) (by simp[hwb.aG.aJ]) (fun h=>absurd rfl h) ?_
  intro sc DP wU sL
  have DP:av sc s2.next [.int .i64 kind,.int .i64 num,kO,y,w']:=DP
  have huc:aY (.pointer (some ⟨s2.next,0,none⟩)) sb sc:=aY.aI wU sL
  have RA:∀j,s5.next<=j->aE (.pointer (some ⟨s2.next,0,none⟩))≠some j:=fun j hj e=>by
   have e:some s2.next=some j:=e
   injection e with e
   omega
  simp-implicitDefEqProofs(disch:=omega)only[aj,bT,Nat.reduceSub,QS,WP,↓reduceIte,hn,vw,aB]
  refine au (d.length-(i+1)) (by omega) ⟨i+1,w',DC++es,rfl,by omega,hwb.aI wU sL ajx,?_,ZR,abH.aI wU sL (fun e=>by have:=(LP _ e).1;omega),ajv.aI wU sL (fun e=>by have:=(Hk _ e).1;omega),ajw.turns cw huc (fun j hj=>RA j (MZ j hj).1),((qt.keeps gJ).turns oO (fun e=>by have:=hwl _ e;omega)).aI wU sL (by omega),DP,?_,by omega,by simp only[ag,hn],by simp only[aa,↓reduceIte,WP,h2],by simp only[aa,↓reduceIte,WP,h3],by simp only[aa,↓reduceIte,WP,WK],by simp only[aa,↓reduceIte,WP,zL],by simp only[aa,↓reduceIte];rfl⟩
  ·rw[List.take_add_one,List.getElem?_eq_getElem bc]
   exact afs.turns dV huc (fun j hj=>RA j (by rw[hFE] at hj;have:=hj.1;omega))
  ·exact(((eD.trans (iy.weaken eD.next)).trans (gJ.weaken (by have:=eD.next;omega))).trans ((oO.keeps xC (by omega)).weaken (by have:=IM.next;omega))).trans ⟨by omega,fun j hj=>sL j (by omega)⟩
 clear hn h1 h2 h3 f Kf qt ks wT MY UM
 rintro z f t6 ⟨rfl,w,DC,hw,hRE,xC,wT,MY,UM,qt,ks,mF,hn7,hn,h2,h3⟩
 have la:=av.bu (P:=Tryz.prog) (cs:=[.int .i64 kind,.int .i64 num,kO,y,w]) Gm iH ks (c:=6) rfl
 have ok1:=wT.aG.aJ
 have ok2:=MY.aG.aJ
 have ok3:=hw.aG.aJ
 simp-implicitDefEqProofs(disch:=omega)only[aj,QS,WP,↓reduceIte,hn,h2,h3,la]
 refine aA iH (by decide) qt rfl rfl rfl (by simp only[List.all_cons,List.all_nil,ok1,ok2,ok3];rfl) ?_
 intro s7 tI rq wV
 have l7:=av.bu (P:=Tryz.prog) (cs:=[.int .i64 kind,.int .i64 num,kO,y,w]) Gm iH tI (c:=6) rfl
 simp-implicitDefEqProofs(disch:=omega)only[aj,al,oneOf,QS,WP,↓reduceIte,hn,h2,l7,aV,Tryz.results98]
 have hu7:aY (.pointer (some ⟨s1.next,0,none⟩)) t6 s7:=aY.aI rq wV
 have aft:∀j,s5.next<=j->aE (.pointer (some ⟨s1.next,0,none⟩))≠some j:=fun j hj e=>by
  have e:some s1.next=some j:=e
  injection e with e
  omega
 have tH:=IM.next
 refine⟨kO,y,w,LC,DC,rfl,wT.aI rq wV (fun e=>by have:=(LP _ e).1;omega),MY.aI rq wV (fun e=>by have:=(Hk _ e).1;omega),hw.aI rq wV (fun e=>by have:=xC _ e;omega),fun j hj=>by have:=(LP j hj).1;have:=dg.next;omega,fun j hj=>by have:=(Hk j hj).1;omega,fun j hj=>by have:=xC j hj;omega,fun j h1 h2=>by have:=(LP j h1).2;have:=(Hk j h2).1;omega,fun j h1 h2=>by have:=(LP j h1).2;have:=xC j h2;omega,fun j h1 h2=>by have:=(Hk j h1).2;have:=xC j h2;omega,?_,?_,mF.trans ⟨by omega,fun j hj=>wV j (by have:=bm.next;omega)⟩⟩
 ·exact(UM.turns cw hu7 (fun j hj=>aft j (MZ j hj).1)).mono cw (fun j hj=>⟨by have:=(MZ j hj).1;omega,fun e=>by have:=(LP j e).2;have:=(MZ j hj).1;omega,(MZ j hj).2.2,fun e=>by have:=xC j e;have:=(MZ j hj).2.1;omega⟩)
 ·exact(hRE.turns dV hu7 (fun j hj=>aft j (by rw[hFE] at hj;have:=hj.1;omega))).mono dV (fun j hj=>by rw[hFE] at hj;exact⟨by have:=hj.1;omega,fun e=>by have:=(LP j e).2;have:=hj.1;omega,fun e=>by have:=(Hk j e).2;have:=hj.1;omega,hj.2.2⟩)
theorem Pt {lib:az}(hl:lib.at 98=none)(kX:lib.at 36=none)(N:Nat)(o:O)(hN:SizeOf.sizeOf o<=N)(F:Nat->Prop)(s:aq)(cs:List Value)(ho:dk F s cs o)(lP:Small o):
  Runs Tryz.prog lib 98 [.agg cs.toArray] s (Pq s o):=afl hl kX N o hN F s cs ho lP.fit
end Go.Proofs.YtdfjfncifneocaaGreat
set_option linter.unusedSimpArgs false
set_option linter.unusedVariables false
set_option maxRecDepth 100000
namespace Go.Proofs.YtdfjfncifneocaaGreat
open Go.Cl
end Go.Proofs.YtdfjfncifneocaaGreat
set_option linter.unusedSimpArgs false
set_option linter.unusedVariables false
set_option maxRecDepth 100000
namespace Go.Proofs.YtdfjfncifneocaaGreat
open Go.Cl
end Go.Proofs.YtdfjfncifneocaaGreat
set_option linter.unusedSimpArgs false
set_option linter.unusedVariables false
set_option maxRecDepth 100000
namespace Go.Proofs.YtdfjfncifneocaaGreat
open Go.Cl
theorem UP {F:Nat->Prop}{s:aq}{cs:List Value}{e:List UInt8×O}(h:dU F s cs e):cs.all aJ=true:=by
 obtain⟨r,e,h,_⟩:=h
 rw[e,List.all_cons,h.ok];rfl
end Go.Proofs.YtdfjfncifneocaaGreat
namespace Go.Cl
theorem CW {zs:List Value}(h:zs.all aJ=true):∀n,(bw zs n).all aJ=true
 |0=>rfl
 |n+1=>by rw[bw,List.all_append,h,CW h n];rfl
theorem Own.UQ {P:Program}{t e:TypeId}{z:Nat}{zv:Value}{zs:List Value}(hu:P.underlying t=some (.slice e))(b6:aW P e=some z)(tR:bW P e=some zv)(hp:bP zv=true)(LG:zv.cells.toList=zs)(o8:zs.length=z)(vu:0<z)(dF:zs.all aJ=true)
  {s:aq} {v:Value} {n:Nat} {l:List Value} (h:Own s z v n l) {k:Nat} (hk:k<=n):
  ∃s',mV P s t (eB z v k n)=some (undef,s')/\Own s' z v n (l.take (k*z)++bw zs (n-k))/\aY v s s' :=by
 cases h with
 |nil=>
  obtain rfl:k=0:=by omega
  refine⟨s,?_,by rw[Nat.sub_self,bw,List.append_nil,List.take_nil];exact .nil,Nat.le_refl _,fun _ _ _=>rfl⟩
  simp only[eB,mV,hu]
 |of i n low l hi hb hl hlen=>
  by_cases hkn:k=n
  ·subst hkn
   refine⟨s,?_,?_,Nat.le_refl _,fun _ _ _=>rfl⟩
   ·simp only[eB,mV,hu,Nat.sub_self]
   ·rw[Nat.sub_self,bw,List.append_nil,List.take_of_length_le (by omega)]
    exact .of i k low l hi hb hl hlen
  obtain⟨m,hm⟩:∃m,n-k=m+1:=⟨n-k-1,by omega⟩
  have hkz:k*z+(n-k)*z=n*z:=by rw[<-Nat.add_mul];congr 1;omega
  have oC:(bw zs (m+1)).length=(n-k)*z:=by rw[dw,o8,hm]
  have yc:=j7 l (0+k*z) (bw zs (m+1)) (by omega)
  have gX:(true&&Nat.ble low (l.length+1)&&Nat.beq (l.length+1) (l.length+1)&&(bw zs (m+1)).all aJ)=true:=by
   simp only[CW dF,Bool.and_true,Bool.true_and,Bool.and_eq_true,Nat.ble_eq,Nat.beq_eq];exact⟨hl,trivial⟩
  have oY:(bP zv&&Nat.beq zs.length z&&Nat.blt 0 z)=true:=by
   rw[hp,o8]
   simp only[Bool.true_and,Bool.and_eq_true,Nat.beq_eq]
   exact⟨trivial,by rw[Nat.blt_eq];exact vu⟩
  have aD:s.storeAt i (0+k*z) (l.length+1) (bw zs (m+1))=some (s.put i (.dK ⟨l.take (0+k*z)++bw zs (m+1)++l.drop (0+k*z+(bw zs (m+1)).length),l.length+1,true,z⟩)):=by
   unfold aq.storeAt
   simp only[hb,gX,if_true,yc]
   split
   ·rename_i he;rw[he] at oC
    have:0<(n-k)*z:=Nat.mul_pos (by omega) vu
    simp at oC;omega
   ·rfl
  have hd:l.drop (0+k*z+(bw zs (m+1)).length)=[]:=List.drop_eq_nil_of_le (by omega)
  rw[hd,List.append_nil,Nat.zero_add] at aD
  have I3:(l.take (k*z)++bw zs (m+1)).length=l.length:=by rw[List.length_append,List.length_take,oC];omega
  refine⟨s.put i (.dK ⟨l.take (k*z)++bw zs (m+1),l.length+1,true,z⟩),?_,?_,⟨by simp[aq.put],fun q _ hq=> ?_⟩⟩
  rotate_left
  ·rw[hm,<-I3]
   exact .of i n _ _ (by simpa [aq.put] using hi) (aq.b9 _ _ _ (by omega)) (Nat.le_refl _) (by omega)
  ·rw[aq.bD]
   intro e;subst e;exact hq rfl
  ·simp only[eB,mV,hu,hm,b6,tR,LG,oY,if_true,Nat.zero_add,aD]
section
variable {P:Program} {lib:az} {all r:List Oper} {f:aT} {s:aq} {d:Option Tmp} {Q:aT->aq->Prop}
theorem CX {t e:TypeId}{z:Nat}{zv:Value}{zs:List Value}(hu:P.underlying t=some (.slice e))(b6:aW P e=some z)(tR:bW P e=some zv)(hp:bP zv=true)(LG:zv.cells.toList=zs)(o8:zs.length=z)(vu:0<z)(dF:zs.all aJ=true)
  {v:Value} {n:Nat} {l:List Value} (h:Own s z v n l) {k:Nat} (hk:k<=n)
  (K:∀s',Own s' z v n (l.take (k*z)++bw zs (n-k))->aY v s s' ->dI P lib all r f s d Q (some (.val undef s'))):dI P lib all r f s d Q (nO (mV P s t (eB z v k n))):=by
 obtain⟨s',h1,h2,h3⟩:=h.UQ hu b6 tR hp LG o8 vu dF hk
 rw[h1,eV]
 exact K s' h2 h3
end
end Go.Cl
set_option linter.unusedSimpArgs false
set_option linter.unusedVariables false
set_option maxRecDepth 100000
namespace Go.Cl
theorem qw {P:Program}{d:Option Tmp}{ty:TypeId}{ps:String}{af:Array Edge}{gd:Option (Nat×Bool)}{f:aT}{s:aq}(g:FuncId)(xs bs:Array Operand):cM P ⟨d,.makeFunc (.func g) xs bs,ty,ps,af,gd⟩ f s=match ad f xs.toList,ad f bs.toList with
  |some l,some m=>some (.val (.func (.func g) l.toArray m.toArray) s)
  |_,_=>none:=rfl
def X8 (p:Nat->Bool)(n:Nat)(r:Int):Prop:=(r= -1/\∀i,i<n->p i=false)\/∃k,k<n/\r=(k:Nat)/\p k=true/\∀i,i<k->p i=false
end Go.Cl
namespace Go.Proofs.YtdfjfncifneocaaGreat
open Go.Cl Go.Lib
def CY (s:aq)(a b:List UInt8)(v:Value)(s' :aq):Prop:=v= .int .i64 (compareBytes a b)/\ar s.next s s'
theorem H5 {lib:az}(hl:lib.at 219=none)(hp:lib.at 224=some iw)(s:aq)(a b:List UInt8):
  Runs Tryz.prog lib 219 [.string ⟨a.toArray⟩,.string ⟨b.toArray⟩] s (CY s a b):=by
 refine Runs.enter 8 Tryz.func219 rfl hl rfl rfl ?_
 intro f hn hf
 have h0:f.get 0= .string ⟨a.toArray⟩:=hf 0
 have h1:f.get 1= .string ⟨b.toArray⟩:=hf 1
 clear hf
 simp-implicitDefEqProofs(disch:=omega)only[aj,ak,ad,QS,WP,↓reduceIte,hn,h0,h1]
 refine Runs.XQ (v:= .int .i64 (compareBytes a b)) (s' :=s) hp uU ?_ ?_
 ·show some (Value.int .i64 (Extern.BytealgCompare.cmp ⟨a.toArray⟩ ⟨b.toArray⟩),s)=_
  rw[cmp_eq]
 simp-implicitDefEqProofs(disch:=omega)only[aj,al,oneOf,QS,↓reduceIte,hn,Tryz.results219]
 exact⟨rfl,ar.refl _ _⟩
theorem Ki {lib:az}(hl:lib.at 208=none)(js:lib.at 219=none)(hp:lib.at 224=some iw)(s:aq)(a b:List UInt8):
  Runs Tryz.prog lib 208 [.string ⟨a.toArray⟩,.string ⟨b.toArray⟩] s (CY s a b):=by
 refine Runs.enter 8 Tryz.func208 rfl hl rfl rfl ?_
 intro f hn hf
 have h0:f.get 0= .string ⟨a.toArray⟩:=hf 0
 have h1:f.get 1= .string ⟨b.toArray⟩:=hf 1
 clear hf
 simp-implicitDefEqProofs(disch:=omega)only[aj,ak,ad,QS,WP,↓reduceIte,hn,h0,h1]
 refine(H5 js hp s a b).mono ?_
 rintro _ s3 ⟨rfl,ij⟩
 simp-implicitDefEqProofs(disch:=omega)only[aj,al,oneOf,QS,↓reduceIte,hn,Tryz.results208]
 exact⟨rfl,ij⟩
theorem Gr {lib:az}(hl:lib.at 177=none)(kX:lib.at 208=none)(js:lib.at 219=none)(hp:lib.at 224=some iw)(s:aq)(a b:List UInt8)(r1 r2:List Value)(q1:r1.length=5)(q2:r2.length=5):
  Runs Tryz.prog lib 177 [.agg (.string ⟨a.toArray⟩::r1).toArray,.agg (.string ⟨b.toArray⟩::r2).toArray] s (CY s a b):=by
 refine Runs.enter 10 Tryz.func177 rfl hl rfl rfl ?_
 intro f hn hf
 have h0:f.get 0= .agg (.string ⟨a.toArray⟩::r1).toArray:=hf 0
 have h1:f.get 1= .agg (.string ⟨b.toArray⟩::r2).toArray:=hf 1
 clear hf
 simp-implicitDefEqProofs(disch:=omega)only[aj,QS,↓reduceIte,hn,h0]
 refine ax ?_
 intro s1 eO bm iY
 simp-implicitDefEqProofs(disch:=omega)only[aj,QS,WP,Nat.reduceAdd,↓reduceIte,hn,h1,List.length_cons,q1]
 refine ax ?_
 intro s2 dZ aU oN
 have eO:=eO.keeps aU
 have dg:ar s.next s s2:=bm.trans (aU.weaken (by omega))
 have l1:aR Tryz.prog s2 9 (.pointer (some ⟨s.next,0,some 7⟩))=some (.string ⟨a.toArray⟩):=eO.load Ka (off:=0) (c:=7) (by simp[q1]) (by simp)
 have l2:aR Tryz.prog s2 9 (.pointer (some ⟨s1.next,0,some 7⟩))=some (.string ⟨b.toArray⟩):=dZ.load Ka (off:=0) (c:=7) (by simp[q2]) (by simp)
 simp-implicitDefEqProofs(disch:=omega)only[aj,ak,ad,QS,WP,Nat.reduceAdd,↓reduceIte,hn,List.length_cons,q2,UG,l1,l2]
 refine(Ki kX js hp s2 a b).mono ?_
 rintro _ s3 ⟨rfl,ij⟩
 simp-implicitDefEqProofs(disch:=omega)only[aj,al,oneOf,QS,↓reduceIte,hn,Tryz.results177]
 exact⟨rfl,dg.trans (ij.weaken dg.next)⟩
theorem afu:bY Tryz.prog 208=some false:=by kernel_rfl
def Kj (s:aq)(t:Bool)(v:Value)(s' :aq):Prop:=v= .bool t/\ar s.next s s'
theorem ajy {lib:az}(hl:lib.at 204=none)(LQ:lib.at 177=none)(kX:lib.at 208=none)(js:lib.at 219=none)(hp:lib.at 224=some iw)(s:aq)(a b:List UInt8)(r1 r2:List Value)(q1:r1.length=5)(q2:r2.length=5)(i j:Nat)
  (hi:av s i [.func (.func 177) #[] #[]]) (hj:av s j (.string ⟨b.toArray⟩::r2)):
  Runs Tryz.prog lib 204 [.agg (.string ⟨a.toArray⟩::r1).toArray,.pointer (some ⟨i,0,some 2⟩),.pointer (some ⟨j,0,some 7⟩)] s (Kj s (decide (0<=compareBytes a b))):=by
 refine Runs.enter 10 Tryz.func204 rfl hl rfl rfl ?_
 intro f hn hf
 have h0:f.get 0= .agg (.string ⟨a.toArray⟩::r1).toArray:=hf 0
 have h1:f.get 1= .pointer (some ⟨i,0,some 2⟩):=hf 1
 have h2:f.get 2= .pointer (some ⟨j,0,some 7⟩):=hf 2
 clear hf
 simp-implicitDefEqProofs(disch:=omega)only[aj,QS,↓reduceIte,hn,h0]
 refine ax ?_
 intro s1 eO bm iY
 have hi:=hi.keeps bm
 have hj:=hj.keeps bm
 have l0:aR Tryz.prog s1 208 (.pointer (some ⟨i,0,some 2⟩))=some (.func (.func 177) #[] #[]):=hi.load afu (off:=0) (c:=2) rfl (by simp)
 have l1:aR Tryz.prog s1 63 (.pointer (some ⟨s.next,0,some 7⟩))=some (.agg (.string ⟨a.toArray⟩::r1).toArray):=av.bu Ru (by simp[q1,qv]) eO (by simp[q1])
 have l2:aR Tryz.prog s1 63 (.pointer (some ⟨j,0,some 7⟩))=some (.agg (.string ⟨b.toArray⟩::r2).toArray):=av.bu Ru (by simp[q2,qv]) hj (by simp[q2])
 simp-implicitDefEqProofs(disch:=omega)only[aj,ak,ad,QS,WP,Nat.reduceAdd,↓reduceIte,hn,h1,h2,List.length_cons,q1,l0,l1,l2]
 refine(Gr LQ kX js hp s1 a b r1 r2 q1 q2).mono ?_
 rintro _ s3 ⟨rfl,ij⟩
 simp-implicitDefEqProofs(disch:=omega)only[aj,al,oneOf,QS,↓reduceIte,hn,Tryz.results204]
 exact⟨rfl,bm.trans (ij.weaken bm.next)⟩
theorem afv {lib:az}(hl:lib.at 205=none)(LQ:lib.at 177=none)(kX:lib.at 208=none)(js:lib.at 219=none)(hp:lib.at 224=some iw)(s:aq)(a b:List UInt8)(r1 r2:List Value)(q1:r1.length=5)(q2:r2.length=5)(i j:Nat)
  (hi:av s i [.func (.func 177) #[] #[]]) (hj:av s j (.string ⟨b.toArray⟩::r2)):
  Runs Tryz.prog lib 205 [.agg (.string ⟨a.toArray⟩::r1).toArray,.pointer (some ⟨i,0,some 2⟩),.pointer (some ⟨j,0,some 7⟩)] s (Kj s (decide (compareBytes a b=0))):=by
 refine Runs.enter 10 Tryz.func205 rfl hl rfl rfl ?_
 intro f hn hf
 have h0:f.get 0= .agg (.string ⟨a.toArray⟩::r1).toArray:=hf 0
 have h1:f.get 1= .pointer (some ⟨i,0,some 2⟩):=hf 1
 have h2:f.get 2= .pointer (some ⟨j,0,some 7⟩):=hf 2
 clear hf
 simp-implicitDefEqProofs(disch:=omega)only[aj,QS,↓reduceIte,hn,h0]
 refine ax ?_
 intro s1 eO bm iY
 have hi:=hi.keeps bm
 have hj:=hj.keeps bm
 have l0:aR Tryz.prog s1 208 (.pointer (some ⟨i,0,some 2⟩))=some (.func (.func 177) #[] #[]):=hi.load afu (off:=0) (c:=2) rfl (by simp)
 have l1:aR Tryz.prog s1 63 (.pointer (some ⟨s.next,0,some 7⟩))=some (.agg (.string ⟨a.toArray⟩::r1).toArray):=av.bu Ru (by simp[q1,qv]) eO (by simp[q1])
 have l2:aR Tryz.prog s1 63 (.pointer (some ⟨j,0,some 7⟩))=some (.agg (.string ⟨b.toArray⟩::r2).toArray):=av.bu Ru (by simp[q2,qv]) hj (by simp[q2])
 simp-implicitDefEqProofs(disch:=omega)only[aj,ak,ad,QS,WP,Nat.reduceAdd,↓reduceIte,hn,h1,h2,List.length_cons,q1,l0,l1,l2]
 refine(Gr LQ kX js hp s1 a b r1 r2 q1 q2).mono ?_
 rintro _ s3 ⟨rfl,ij⟩
 simp-implicitDefEqProofs(disch:=omega)only[aj,al,oneOf,QS,↓reduceIte,hn,Tryz.results205]
 exact⟨rfl,bm.trans (ij.weaken bm.next)⟩
def X9 (s:aq)(p:Nat->Bool)(n:Nat)(v:Value)(s' :aq):Prop:=(∃r,v= .int .i64 r/\X8 p n r)/\ar s.next s s'
set_option maxHeartbeats 4000000 in
theorem M1 {lib:az}(hl:lib.at 203=none)(g:Nat)(bs:List Value)(s:aq)(x:Value)(n:Nat)(lx:List Value)(hx:aN s 6 x n lx)(Oy:n<=140737488351232)(p:Nat->Bool)
  (h:∀i,i<n->∀s' :aq,ar s.next s s' ->Runs Tryz.prog lib g (.agg ((lx.drop (i*6)).take 6).toArray::bs) s' (Kj s' (p i))):
  Runs Tryz.prog lib 203 [x,.func (.func g) #[] bs.toArray] s (X9 s p n):=by
 refine Runs.enter 19 Tryz.func203 rfl hl rfl rfl ?_
 intro f hn hf
 have h0:f.get 0=x:=hf 0
 have h1:f.get 1= .func (.func g) #[] bs.toArray:=hf 1
 clear hf
 simp-implicitDefEqProofs(disch:=omega)only[aj,ad,QS,WP,↓reduceIte,hn,h0,hx.bh Tryz.underlying24]
 refine Comes.bK (fun z f s' =>∃i:Nat,z=n-i/\i<=n/\(∀j,j<i->p j=false)/\ar s.next s s' /\f.n=19/\f.get 0=x/\f.get 1= .func (.func g) #[] bs.toArray/\f.get 7= .int .i64 (n:Nat)/\f.get 8= .int .i64 (i:Nat))
  (fun z f s' =>(z= .ret/\ar s.next s s' /\f.n=19/\∃r:Nat,f.get 4= .int .i64 (r:Nat)/\r<n/\p r=true/\∀j,j<r->p j=false)\/(z= .exit 0/\(∀j,j<n->p j=false)/\ar s.next s s' /\f.n=19))
  ⟨0,rfl,by omega,fun j h=>by omega,ar.refl _ _,by simp only[ag,hn],by simp only[aa,↓reduceIte,WP,h0],by simp only[aa,↓reduceIte,WP,h1],by simp only[aa,↓reduceIte,WP],by simp only[aa,↓reduceIte];rfl⟩ ?_ ?_
 ·clear hn h0 h1 f
  rintro Q hQ z f s2 ⟨i,rfl,hi,hP,aD,hn,h0,h1,h7,h8⟩
  by_cases bc:i<n
  rotate_left
  ·obtain rfl:i=n:=by omega
   have d1:¬((i:Nat):Int)<((i:Nat):Int):=by omega
   simp-implicitDefEqProofs(disch:=omega)only[aj,QS,↓reduceIte,hn,h7,h8,eq_false d1]
   exact hQ _ _ _ (.inr ⟨rfl,hP,aD,by simp only[ag,hn]⟩)
  have d1:((i:Nat):Int)<((n:Nat):Int):=by omega
  have kv:=hx.keeps aD
  have ln:=kv.indexAddr (P:=Tryz.prog) (k:= .i64) (x:=(i:Int)) Tryz.underlying24 qv (by omega) (by omega)
  rw[Int.toNat_natCast] at ln
  have iF:=kv.fm (P:=Tryz.prog) Ru qv bc
  have fT:=h i bc s2 aD
  generalize (lx.drop (i*6)).take 6=xs at iF fT
  simp-implicitDefEqProofs(disch:=omega)only[aj,ak,ad,QS,WP,↓reduceIte,hn,h0,h1,h7,h8,eq_true d1,ln,iF]
  refine fT.mono ?_
  rintro _ s3 ⟨rfl,ij⟩
  have lJ:=aD.trans (ij.weaken aD.next)
  cases hp:p i with
  |true=>
   simp-implicitDefEqProofs(disch:=omega)only[aj,QS,WP,↓reduceIte,hn]
   exact hQ _ _ _ (.inl ⟨rfl,lJ,by simp only[ag,hn],i,by simp only[aa,↓reduceIte],bc,hp,hP⟩)
  |false=>
   simp-implicitDefEqProofs(disch:=omega)only[aj,QS,WP,↓reduceIte,hn,h8,aB]
   exact au (n-(i+1)) (by omega) ⟨i+1,rfl,by omega,Rv hP hp,lJ,by simp only[ag,hn],by simp only[aa,↓reduceIte,WP,h0],by simp only[aa,↓reduceIte,WP,h1],by simp only[aa,↓reduceIte,WP,h7],by simp only[aa,↓reduceIte];rfl⟩
 rintro z f' s6 (⟨rfl,hs,iK,r,h4,ou,gr,Ag⟩|⟨rfl,hP,hs,iK⟩)
 ·simp-implicitDefEqProofs(disch:=omega)only[aj,al,oneOf,QS,↓reduceIte,iK,h4,Tryz.results203]
  exact⟨⟨_,rfl,.inr ⟨r,ou,rfl,gr,Ag⟩⟩,hs⟩
 simp-implicitDefEqProofs(disch:=omega)only[aj,al,oneOf,QS,↓reduceIte,iK,Tryz.results203]
 exact⟨⟨_,rfl,.inl ⟨rfl,hP⟩⟩,hs⟩
end Go.Proofs.YtdfjfncifneocaaGreat
namespace Go.Cl
theorem AG {z:Nat}(hz:0<z):∀(n:Nat) (l:List Value),l.length=n*z->(∀i,i<n->((l.drop (i*z)).take z).all aJ=true)->l.all aJ=true
 |0,l,h,_=>by
  have:l=[]:=List.eq_nil_of_length_eq_zero (by omega)
  rw[this];rfl
 |n+1,l,h,k=>by
  have h1:(l.take z).all aJ=true:=by
   have:=k 0 (by omega)
   rwa [Nat.zero_mul,List.drop_zero] at this
  have h2:(l.drop z).all aJ=true:=by
   refine AG hz n _ (by rw[List.length_drop,h,Nat.succ_mul];omega) (fun i hi=> ?_)
   have:=k (i+1) (by omega)
   rw[List.drop_drop]
   rwa [Nat.succ_mul,Nat.add_comm] at this
  rw[<-List.take_append_drop z l,List.all_append,h1,h2];rfl
end Go.Cl
namespace Go.Proofs.YtdfjfncifneocaaGreat
open Go.Cl
def abN (s:aq)(n:Nat)(lx:List Value)(v:Value)(s' :aq):Prop:=Own s' 6 v n lx/\aH s.next v/\ar s.next s s'
theorem H6 {lib:az}(hl:lib.at 207=none)(s:aq)(x:Value)(n:Nat)(lx:List Value)(hx:aN s 6 x n lx)(u0:n<=1000000)(dF:lx.all aJ=true):
  Runs Tryz.prog lib 207 [x] s (abN s n lx):=by
 refine Runs.enter 8 Tryz.func207 rfl hl rfl rfl ?_
 intro f hn hf
 have h0:f.get 0=x:=hf 0
 clear hf
 simp-implicitDefEqProofs(disch:=omega)only[aj,QS,WP,↓reduceIte,hn,h0,hx.nV Tryz.underlying24]
 refine iq (fun h=> ?_) (fun h=> ?_)
 ·obtain⟨h1,h2,_⟩:=hx.isNil h
  subst h1
  have:lx=[]:=List.eq_nil_of_length_eq_zero (by have:=hx.length;omega)
  subst this
  simp-implicitDefEqProofs(disch:=omega)only[aj,al,oneOf,QS,↓reduceIte,hn,Tryz.results207]
  exact⟨.nil,aH.nil _,ar.refl _ _⟩
 ·simp-implicitDefEqProofs(disch:=omega)only[aj,ae,uH Tryz.underlying24 qv zE Uy rfl]
  refine aQ (by rfl) ?_
  intro b s1 hb hF aD
  simp-implicitDefEqProofs(disch:=omega)only[aj,ad,QS,WP,↓reduceIte,hn,h0]
  refine bV Tryz.underlying24 Tryz.underlying24 (.inl ⟨_,rfl⟩) qv byE zE rfl hb (hx.keeps aD).src hx.length (by decide) dF (by omega) (by omega) hF aD.next ?_
  intro b' s2 oT HO dC _ _
  simp-implicitDefEqProofs(disch:=omega)only[aj,al,oneOf,QS,↓reduceIte,hn,Tryz.results207]
  exact⟨by simpa using oT,HO,aD.trans dC⟩
end Go.Proofs.YtdfjfncifneocaaGreat
namespace Go.Cl
theorem aY.trans {v:Value}{s s' ss:aq}(h:aY v s s')(k:aY v s' ss):aY v s ss:=
 ⟨Nat.le_trans h.next k.next,fun i hi ck=>(k.get i (Nat.lt_of_lt_of_le hi h.next) ck).trans (h.get i hi ck)⟩
end Go.Cl
namespace Go.Proofs.YtdfjfncifneocaaGreat
open Go.Cl
def Kept (s:aq)(x:Value)(v:Value)(s' :aq):Prop:=v=x/\ar s.next s s'
theorem UR {lib:az}(hl:lib.at 206=none)(LM:lib.at 203=none)(g:Nat)(bs:List Value)(s:aq)(x:Value)(n:Nat)(lx:List Value)(hx:aN s 6 x n lx)(Oy:n<=1000000)(p:Nat->Bool)
  (h:∀i,i<n->∀s' :aq,ar s.next s s' ->Runs Tryz.prog lib g (.agg ((lx.drop (i*6)).take 6).toArray::bs) s' (Kj s' (p i))) (hp:∀i,i<n->p i=false):
  Runs Tryz.prog lib 206 [x,.func (.func g) #[] bs.toArray] s (Kept s x):=by
 refine Runs.enter 42 Tryz.func206 rfl hl rfl rfl ?_
 intro f hn hf
 have h0:f.get 0=x:=hf 0
 have h1:f.get 1= .func (.func g) #[] bs.toArray:=hf 1
 clear hf
 simp-implicitDefEqProofs(disch:=omega)only[aj,ak,ad,QS,WP,↓reduceIte,hn,h0,h1]
 refine(M1 LM g bs s x n lx hx (by omega) p h).mono ?_
 rintro _ s2 ⟨⟨r,rfl,hr⟩,dg⟩
 rcases hr with ⟨rfl,-⟩|⟨k,hk,-,kD,-⟩
 ·simp-implicitDefEqProofs(disch:=omega)only[aj,al,oneOf,QS,WP,↓reduceIte,hn,h0,Tryz.results206]
  exact⟨rfl,dg⟩
 ·rw[hp k hk] at kD;cases kD
def Deleted (s:aq)(x:Value)(n:Nat)(lx:List Value)(p:Nat->Bool)(v:Value)(s' :aq):Prop:=aN s' 6 v (db p n) (iB lx 6 p n)/\aY x s s' /\(∀j,aE v=some j->aE x=some j)
set_option maxHeartbeats 4000000 in
theorem ajz {lib:az}(hl:lib.at 206=none)(LM:lib.at 203=none)(g:Nat)(bs:List Value)(s:aq)(x:Value)(n:Nat)(lx:List Value)(hx:Own s 6 x n lx)(Oy:n<=1000000)(dF:∀i,i<n->((lx.drop (i*6)).take 6).all aJ=true)(p:Nat->Bool)
  (h:∀i,i<n->∀s' :aq,aY x s s' ->Runs Tryz.prog lib g (.agg ((lx.drop (i*6)).take 6).toArray::bs) s' (Kj s' (p i))):
  Runs Tryz.prog lib 206 [x,.func (.func g) #[] bs.toArray] s (Deleted s x n lx p):=by
 have WL:=hx.length
 refine Runs.enter 42 Tryz.func206 rfl hl rfl rfl ?_
 intro f hn hf
 have h0:f.get 0=x:=hf 0
 have h1:f.get 1= .func (.func g) #[] bs.toArray:=hf 1
 clear hf
 simp-implicitDefEqProofs(disch:=omega)only[aj,ak,ad,QS,WP,↓reduceIte,hn,h0,h1]
 refine(M1 LM g bs s x n lx hx.aG (by omega) p (fun i hi s' Ba=>h i hi s' ⟨Ba.next,fun q hq _=>Ba.get q hq⟩)).mono ?_
 rintro _ s2 ⟨⟨r,rfl,hr⟩,dg⟩
 have dZ:aY x s s2:=⟨dg.next,fun q hq _=>dg.get q hq⟩
 have kv:=hx.keeps dg
 rcases hr with ⟨rfl,dN⟩|⟨k,hk,rfl,kD,SB⟩
 ·simp-implicitDefEqProofs(disch:=omega)only[aj,al,oneOf,QS,WP,↓reduceIte,hn,h0,Tryz.results206]
  obtain⟨e1,e2⟩:=CR (l:=lx) (z:=6) n dN
  refine⟨?_,dZ,fun j hj=>hj⟩
  rw[e1,e2,List.take_of_length_le (by omega)]
  exact kv.aG
 have hkm:¬((k:Nat):Int)= -1:=by omega
 simp-implicitDefEqProofs(disch:=omega)only[aj,QS,WP,↓reduceIte,hn,eq_false hkm,aB]
 obtain⟨e1,e2⟩:=CR (l:=lx) (z:=6) k SB
 obtain⟨k1,k2⟩:=Gn (l:=lx) (L:=lx) (z:=6) (j:=k) (by rw[e1,e2]) rfl kD
 have ajA:db p (k+1)=k:=by simp[db,kD,e1]
 refine Comes.bK (fun z f s' =>∃(j:Nat) (L:List Value),z=n-j/\j<=n/\Own s' 6 x n L/\L.take (db p j*6)=iB lx 6 p j/\L.drop (j*6)=lx.drop (j*6)/\aY x s s' /\f.n=42/\f.get 0=x/\f.get 1= .func (.func g) #[] bs.toArray/\f.get 5= .int .i64 (db p j:Nat)/\f.get 6= .int .i64 (j:Nat))
  (fun z f s' =>z= .exit 0/\∃L:List Value,Own s' 6 x n L/\L.take (db p n*6)=iB lx 6 p n/\aY x s s' /\f.n=42/\f.get 0=x/\f.get 5= .int .i64 (db p n:Nat))
  ⟨k+1,lx,rfl,by omega,kv,k1,rfl,dZ,by simp only[ag,hn],by simp only[aa,↓reduceIte,WP,h0],by simp only[aa,↓reduceIte,WP,h1],by simp only[aa,↓reduceIte,WP,ajA],by simp only[aa,↓reduceIte];rfl⟩ ?_ ?_
 ·clear hn h0 h1 f kv dZ dg
  rintro Q hQ z f s3 ⟨j,L,rfl,hj,ho,ha,hb,ht,hn,h0,h1,h5,h6⟩
  have Pu:=ho.aG
  by_cases bc:j<n
  rotate_left
  ·obtain rfl:j=n:=by omega
   have d1:¬((j:Nat):Int)<((j:Nat):Int):=by omega
   simp-implicitDefEqProofs(disch:=omega)only[aj,ad,QS,WP,↓reduceIte,hn,h0,h6,Pu.bh Tryz.underlying24,eq_false d1]
   exact hQ _ _ _ ⟨rfl,L,ho,ha,ht,by simp only[ag,hn],by simp only[aa,↓reduceIte,WP,h0],by simp only[aa,↓reduceIte,WP,h5]⟩
  have d1:((j:Nat):Int)<((n:Nat):Int):=by omega
  have ln:=Pu.indexAddr (P:=Tryz.prog) (k:= .i64) (x:=(j:Int)) Tryz.underlying24 qv (by omega) (by omega)
  rw[Int.toNat_natCast] at ln
  have iF:=Pu.fm (P:=Tryz.prog) Ru qv bc
  have qq:(L.drop (j*6)).take 6=(lx.drop (j*6)).take 6:=by rw[hb]
  rw[qq] at iF
  have oC:((lx.drop (j*6)).take 6).length=6:=by
   have:(j+1)*6<=n*6:=Nat.mul_le_mul_right 6 bc
   rw[List.length_take,List.length_drop];omega
  have abO:=dF j bc
  have fT:=h j bc
  have eD:=fun hp=>Rx (l:=lx) (L:=L) (z:=6) (n:=n) (j:=j) (p:=p) Pu.length WL bc ha hb hp
  generalize (lx.drop (j*6)).take 6=xs at iF oC abO fT eD
  have X7:wN.length+1=7:=rfl
  simp-implicitDefEqProofs(disch:=omega)only[aj,ad,QS,WP,↓reduceIte,hn,h0,h6,Pu.bh Tryz.underlying24,eq_true d1,ln,iF,zE,Uy]
  refine ax ?_
  intro s4 ie dY Am
  simp-implicitDefEqProofs(disch:=omega)only[aj,QS,WP,↓reduceIte,hn,X7]
  refine aA qv (by decide) ie rfl rfl oC abO ?_
  intro s5 vv MW Ap
  have vv:av s5 s3.next xs:=vv
  have M3:ar s3.next s3 s5:=dY.trans ⟨by omega,fun q hq=>Ap q (by omega)⟩
  have Zg:=ho.keeps M3
  have la:aR Tryz.prog s5 63 (.pointer (some ⟨s3.next,0,some 7⟩))=some (.agg xs.toArray):=av.bu Ru (by rw[oC];exact qv) vv (by rw[oC])
  have afw:aY x s s5:=ht.trans ⟨M3.next,fun q hq _=>M3.get q hq⟩
  simp-implicitDefEqProofs(disch:=omega)only[aj,ak,ad,QS,WP,↓reduceIte,hn,h1,la]
  refine(fT s5 afw).mono ?_
  rintro _ s6 ⟨rfl,M4⟩
  have afx:aY x s s6:=afw.trans ⟨M4.next,fun q hq _=>M4.get q hq⟩
  have WM:=Zg.keeps M4
  have lb:aR Tryz.prog s6 63 (.pointer (some ⟨s3.next,0,some 7⟩))=some (.agg xs.toArray):=av.bu Ru (by rw[oC];exact qv) (vv.keeps M4) (by rw[oC])
  cases hp:p j with
  |true=>
   obtain⟨u1,u2⟩:=Gn ha hb hp
   have rK:db p (j+1)=db p j:=by simp[db,hp]
   simp-implicitDefEqProofs(disch:=omega)only[aj,QS,WP,↓reduceIte,hn,h6,aB]
   exact au (n-(j+1)) (by omega) ⟨j+1,L,rfl,by omega,WM,u1,u2,afx,by simp only[ag,hn],by simp only[aa,↓reduceIte,WP,h0],by simp only[aa,↓reduceIte,WP,h1],by simp only[aa,↓reduceIte,WP,h5,rK],by simp only[aa,↓reduceIte];rfl⟩
  |false=>
   obtain⟨u1,u2⟩:=eD hp
   have hkl:=sJ p j
   have rK:db p (j+1)=db p j+1:=by simp[db,hp]
   have hiy:=WM.aG.indexAddr (P:=Tryz.prog) (k:= .i64) (x:=(db p j:Int)) Tryz.underlying24 qv (by omega) (by omega)
   rw[Int.toNat_natCast] at hiy
   simp-implicitDefEqProofs(disch:=omega)only[aj,QS,WP,↓reduceIte,hn,h0,h5,lb,hiy]
   refine CC qv (by decide) WM (by omega) oC abO ?_
   intro s7 Aq hu7
   simp-implicitDefEqProofs(disch:=omega)only[aj,QS,WP,↓reduceIte,hn,h5,h6,aB]
   exact au (n-(j+1)) (by omega) ⟨j+1,_,rfl,by omega,Aq,u1,u2,afx.trans hu7,by simp only[ag,hn],by simp only[aa,↓reduceIte,WP,h0],by simp only[aa,↓reduceIte,WP,h1],by simp only[aa,↓reduceIte,WP,rK];rfl,by simp only[aa,↓reduceIte];rfl⟩
 rintro z f' s6 ⟨rfl,L,ho,ha,ht,iK,h0',h5'⟩
 have hkl:=sJ p n
 have tH:=ho.aG.fp (P:=Tryz.prog) Tryz.underlying24 qv (k:= .i64) (x:=(db p n:Int)) (by omega) (by omega)
 rw[Int.toNat_natCast] at tH
 simp-implicitDefEqProofs(disch:=omega)only[aj,ad,ai,QS,WP,↓reduceIte,iK,h0',h5',tH]
 refine CX (zs:=wN) Tryz.underlying24 qv zE Uy rfl rfl (by decide) rfl ho hkl ?_
 intro s7 Aq hu7
 have ug:=Aq.aG.kF (P:=Tryz.prog) Tryz.underlying24 qv (k:= .i64) (y:=(db p n:Int)) (by omega) (by omega)
 rw[Int.toNat_natCast] at ug
 simp-implicitDefEqProofs(disch:=omega)only[aj,al,oneOf,ai,QS,WP,↓reduceIte,iK,h0',h5',ug,Tryz.results206]
 have hc:=Aq.aG.cut (lo:=0) (hi:=db p n) (by omega) hkl
 refine⟨?_,ht.trans hu7,fun j hj=> ?_⟩
 ·have e:((L.take (db p n*6)++bw wN (n-db p n)).drop (0*6)).take ((db p n-0)*6)=iB lx 6 p n:=by
   rw[Nat.zero_mul,List.drop_zero,Nat.sub_zero,ha]
   have:=tp p WL n (Nat.le_refl _)
   rw[List.take_append_of_le_length (by omega),List.take_of_length_le (by omega)]
  have e' :=hc
  rw[e,Nat.sub_zero] at e'
  exact e'
 ·cases Aq with
  |nil=>exact hj
  |of=>exact hj
end Go.Proofs.YtdfjfncifneocaaGreat
