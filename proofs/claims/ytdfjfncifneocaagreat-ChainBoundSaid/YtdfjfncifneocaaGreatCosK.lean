import Derived.Test.YtdfjfncifneocaaGreatCosF
import Derived.Test.YtdfjfncifneocaaGreatClone
open Nat renaming reduceLT->QS,reduceEqDiff->WP
set_option linter.unusedSimpArgs false
set_option linter.unusedVariables false
set_option maxRecDepth 100000
namespace Go.Cl
theorem Kk {P:Program}{lib:az}{cA cB:Code}{f:aT}{s:aq}{Q:AX->aT->aq->Prop}{b:Bool}(J:aT->aq->Prop)(h1:∀Q' :AX->aT->aq->Prop,(∀f' s',J f' s' ->Q' .normal f' s')->TE P lib cA cB f s Q' b)(h2:∀f' s',J f' s' ->Q .normal f' s'):TE P lib cA cB f s Q b:=h1 Q h2
end Go.Cl
namespace Go.Proofs.YtdfjfncifneocaaGreat
open Go.Cl Go.Lib
def Ya (s:aq)(F:Nat->Prop)(D:List (List UInt8×O))(e:List UInt8×O)(tF:Bool)(v:Value)(s' :aq):Prop:=∃LC,Own s' 6 v (MU D e tF).length LC/\aH s.next v/\ar s.next s s' /\aS dU 6 (fun j=>F j/\j<s.next) s' (MU D e tF) LC
set_option maxHeartbeats 8000000 in
theorem M5 {lib:az}(hl:lib.at 176=none)(kX:lib.at 204=none)(jS:lib.at 205=none)(iF:lib.at 206=none)(LM:lib.at 203=none)(js:lib.at 207=none)
  (LQ:lib.at 177=none) (DR:lib.at 208=none) (lj:lib.at 219=none) (hp:lib.at 224=some iw)
  (F:Nat->Prop) (s:aq) (x:Value) (D:List (List UInt8×O)) (lx:List Value) (hx:aN s 6 x D.length lx) (hD:aS dU 6 F s D lx) (u0:D.length<=500000) (e:List UInt8×O) (ce:List Value) (he:dU F s ce e) (tF:Bool):
  Runs Tryz.prog lib 176 [x,.agg ce.toArray,.func (.func 177) #[] #[],.bool tF] s (Ya s F D e tF):=by
 obtain⟨re,rfl,hre,hrk⟩:=he
 have qe:=hre.len
 refine Runs.enter 39 Tryz.func176 rfl hl rfl rfl ?_
 intro f hn hf
 have h0:f.get 0=x:=hf 0
 have h1:f.get 1= .agg (.string ⟨e.1.toArray⟩::re).toArray:=hf 1
 have h2:f.get 2= .func (.func 177) #[] #[]:=hf 2
 have h3:f.get 3= .bool tF:=hf 3
 clear hf
 simp-implicitDefEqProofs(disch:=omega)only[aj,QS,↓reduceIte,hn,h1]
 refine ax ?_
 intro s1 eO bm iY
 simp-implicitDefEqProofs(disch:=omega)only[aj,QS,WP,Nat.reduceAdd,↓reduceIte,hn,h2,List.length_cons,qe]
 refine ax ?_
 intro s2 dZ aU oN
 have uY:=eO.keeps aU
 have dg:ar s.next s s2:=bm.trans (aU.weaken (by omega))
 have kv:=hx.keeps dg
 have uD:(Value.func (Fn.func 177) #[] #[]).cells.toList.length+1=2:=rfl
 have dZ:av s2 s1.next [.func (.func 177) #[] #[]]:=dZ
 simp-implicitDefEqProofs(disch:=omega)only[aj,ak,ad,QS,WP,↓reduceIte,hn,h0,uD,qw]
 obtain⟨p1,rJ⟩:∃p1,p1=ZQ D (fun y=> !(mn y.1 e.1)):=⟨_,rfl⟩
 obtain⟨q1,hq1⟩:∃q1:List UInt8×O->Bool,q1=fun y=>y.1==e.1:=⟨_,rfl⟩
 refine(M1 LM 204 [.pointer (some ⟨s1.next,0,some 2⟩),.pointer (some ⟨s.next,0,some 7⟩)] s2 x D.length lx kv (by omega) p1 (fun i hi s' Ba=> ?_)).mono ?_
 ·obtain⟨r,ou,gr,-⟩:=hD.row i hi
  rw[ou]
  refine(ajy kX LQ DR lj hp s' D[i].1 e.1 r re gr.len qe s1.next s.next (dZ.keeps Ba) (uY.keeps Ba)).mono ?_
  rintro _ ss ⟨rfl,h⟩
  refine⟨?_,h⟩
  rw[rJ,yo hi]
  congr 1
  cases lj:mn D[i].1 e.1 with
  |false=>exact decide_eq_true ((lX _ _).2 lj)
  |true=>exact decide_eq_false (fun h=>by rw[(lX _ _).1 h] at lj;cases lj)
 rintro _ s3 ⟨⟨r,rfl,hr⟩,ij⟩
 have RB:(r<0/\IL D e.1=D.length)\/(r=(IL D e.1:Nat)/\¬r<0):=by
  rcases hr with ⟨rfl,dN⟩|⟨k,hk,rfl,k1,k2⟩
  ·exact .inl ⟨by omega,UC (fun i hi=>by have:=dN i hi;rwa [rJ] at this)⟩
  ·rw[rJ] at k1
   have:=UD hk k1 (fun i hi=>by have:=k2 i hi;rwa [rJ] at this)
   exact .inr ⟨by rw[this],by omega⟩
 have hle:=UB D e.1
 have abP:=dg.trans (ij.weaken dg.next)
 simp-implicitDefEqProofs(disch:=omega)only[aj,QS,↓reduceIte,hn]
 refine Kk (fun f' s' =>s' =s3/\f'.n=39/\f'.get 0=x/\f'.get 3= .bool tF/\f'.get 5= .pointer (some ⟨s.next,0,some 7⟩)/\f'.get 6= .pointer (some ⟨s1.next,0,some 2⟩)/\f'.get 9= .int .i64 (IL D e.1:Nat)) ?_ ?_
 ·intro Q' hQ
  rcases RB with ⟨a1,a2⟩|⟨a1,a2⟩
  ·simp-implicitDefEqProofs(disch:=omega)only[aj,ad,QS,WP,↓reduceIte,hn,h0,eq_true a1,(kv.keeps ij).bh Tryz.underlying24]
   exact hQ _ _ ⟨rfl,by simp only[ag,hn],by simp only[aa,↓reduceIte,WP,h0],by simp only[aa,↓reduceIte,WP,h3],by simp only[aa,↓reduceIte,WP],by simp only[aa,↓reduceIte,WP],by simp only[aa,↓reduceIte,a2]⟩
  ·simp-implicitDefEqProofs(disch:=omega)only[aj,eq_false a2]
   exact hQ _ _ ⟨rfl,by simp only[ag,hn],by simp only[aa,↓reduceIte,WP,h0],by simp only[aa,↓reduceIte,WP,h3],by simp only[aa,↓reduceIte,WP],by simp only[aa,↓reduceIte,WP],by simp only[aa,↓reduceIte,WP,a1]⟩
 clear hn h0 h1 h2 h3 f RB hr
 rintro f s4 ⟨rfl,hn,h0,h3,h5,h6,h9⟩
 obtain⟨k,hk⟩:∃k,k=IL D e.1:=⟨_,rfl⟩
 rw[<-hk] at h9 hle
 have hx4:=hx.keeps abP
 have ug:=hx4.kF (P:=Tryz.prog) Tryz.underlying24 qv (k:= .i64) (y:=(k:Int)) (by omega) (by omega)
 rw[Int.toNat_natCast] at ug
 have ez:=hx4.cut (lo:=0) (hi:=k) (by omega) hle
 rw[Nat.zero_mul,List.drop_zero,Nat.sub_zero] at ez
 have hD1:=hD.take k hle
 have hD2:=hD.drop k hle
 simp-implicitDefEqProofs(disch:=omega)only[aj,ak,ad,ai,QS,WP,↓reduceIte,hn,h0,h5,h6,h9,qw,ug]
 have WL:=hD.len
 have hkz:k*6<=D.length*6:=Nat.mul_le_mul_right 6 hle
 have JW:(D.take k).length=k:=by rw[List.length_take];omega
 have hdl:(D.drop k).length=D.length-k:=List.length_drop ..
 refine(H6 js s4 (eB 6 x 0 k) k (lx.take (k*6)) ez (by omega) (AG (by decide) k _ (by rw[List.length_take];omega) (fun i hi=>UP (hD1.row i (by omega))))).mono ?_
 rintro y s5 ⟨hy,kJ,IM⟩
 have RC:=abP.trans (IM.weaken abP.next)
 have wS:ar s2.next s2 s5:=ij.trans (IM.weaken ij.next)
 simp-implicitDefEqProofs(disch:=omega)only[aj,ak,ad,QS,WP,↓reduceIte,hn]
 refine(UR iF LM 205 [.pointer (some ⟨s1.next,0,some 2⟩),.pointer (some ⟨s.next,0,some 7⟩)] s5 y k (lx.take (k*6)) hy.aG (by omega) (fun _=>false) (fun i hi s' Ba=> ?_) (fun _ _=>rfl)).mono ?_
 ·obtain⟨r,ou,gr,-⟩:=hD1.row i (by omega)
  rw[ou]
  have hg:(D.take k)[i]'(by omega)=D[i]'(by omega):=List.getElem_take ..
  have US:=wS.trans (Ba.weaken wS.next)
  refine(afv jS LQ DR lj hp s' _ e.1 r re gr.len qe s1.next s.next (dZ.keeps US) (uY.keeps US)).mono ?_
  rintro _ ss ⟨rfl,h⟩
  refine⟨?_,h⟩
  congr 1
  refine decide_eq_false (fun hc=> ?_)
  have h1:=Kb (D:=D) (k:=e.1) (i:=i) (by omega) (by omega)
  have h2:=(lY _ _).1 hc
  rw[hg] at h2
  rw[h2,wQ] at h1;cases h1
 rintro v s6 ⟨rfl,M4⟩
 have abR:=RC.trans (M4.weaken RC.next)
 have Kl:=wS.trans (M4.weaken wS.next)
 have hy6:=hy.keeps M4
 have kJ:aH s2.next v:=fun j hj=>by have:=kJ j hj;have:=ij.next;omega
 have im:=dg.next
 obtain⟨FB,hFB⟩:∃FB:Nat->Prop,FB=fun j=>F j/\j<s.next:=⟨_,rfl⟩
 have hDb:aS dU 6 FB s D lx:=by rw[hFB];exact hD.below dV
 have gu:=(hDb.take k hle).keeps dV abR
 have heb:dU FB s (.string ⟨e.1.toArray⟩::re) e:=by rw[hFB];exact dV.below ⟨re,rfl,hre,hrk⟩
 have Eh:∀w:Value,aH s.next w->∀j,FB j->aE w≠some j:=fun w hw j hj e=>by rw[hFB] at hj;have:=hw _ e;omega
 simp-implicitDefEqProofs(disch:=omega)only[aj,QS,WP,↓reduceIte,hn,h3]
 obtain⟨D1,Km⟩:∃D1,D1=D.take k++(if tF then [e] else []):=⟨_,rfl⟩
 have aoK:D1.length<=D.length+1:=by
  rw[Km,List.length_append,List.length_take]
  cases tF<;>simp<;>omega
 refine Kk (fun f' s' =>∃(y:Value) (LY:List Value),Own s' 6 y D1.length LY/\aS dU 6 FB s' D1 LY/\aH s2.next y/\ar s2.next s2 s' /\f'.n=39/\f'.get 0=x/\f'.get 9= .int .i64 (k:Nat)/\f'.get 10= .func (.func 205) #[] #[.pointer (some ⟨s1.next,0,some 2⟩),.pointer (some ⟨s.next,0,some 7⟩)]/\f'.get 11=y) ?_ ?_
 ·intro Q' hQ
  cases tF with
  |false=>
   rw[if_neg (by decide),List.append_nil] at Km
   simp-implicitDefEqProofs(disch:=omega)only[aj]
   exact hQ _ _ ⟨v,_,by rw[Km,JW];exact hy6,by rw[Km];exact gu,kJ,Kl,by simp only[ag,hn],by simp only[aa,↓reduceIte,WP,h0],by simp only[aa,↓reduceIte,WP,h9],by simp only[aa,↓reduceIte,WP],by simp only[aa,↓reduceIte,WP]⟩
  |true=>
   rw[if_pos rfl] at Km
   have lE:aR Tryz.prog s6 63 (.pointer (some ⟨s.next,0,some 7⟩))=some (.agg (.string ⟨e.1.toArray⟩::re).toArray):=av.bu Ru (by simp[qe,qv]) (uY.keeps Kl) (by simp[qe])
   obtain⟨es,Au⟩:∃es,es=Value.string ⟨e.1.toArray⟩::re:=⟨_,rfl⟩
   have yj:es.length=6:=by rw[Au];simp[qe]
   have Kh:es.all aJ=true:=by rw[Au,List.all_cons,hre.ok];rfl
   rw[<-Au] at lE heb
   simp-implicitDefEqProofs(disch:=omega)only[aj,ae,QS,WP,↓reduceIte,hn,h5,lE,fM (cs:=es.toArray) Tryz.underlying24 qv zE Uy rfl yj (by decide)]
   refine aQ (by rw[yj]) ?_
   intro b s7 Yb aoL mF
   simp-implicitDefEqProofs(disch:=omega)only[aj,ad,QS,WP,↓reduceIte,hn]
   refine bV Tryz.underlying24 Tryz.underlying24 (.inl ⟨_,rfl⟩) qv byE zE rfl (hy6.keeps mF) Yb.aG.src yj (by decide) Kh (by omega) (by omega) kJ (by have:=Kl.next;have:=mF.next;omega) ?_
   intro y' s8 hy8 ajE RD aoN _
   have Yc:ar s2.next s2 s8:=(Kl.trans (mF.weaken Kl.next)).trans RD
   have afz:ar s.next s s8:=dg.trans (Yc.weaken dg.next)
   simp-implicitDefEqProofs(disch:=omega)only[aj,QS,↓reduceIte,hn]
   exact hQ _ _ ⟨y',_,by rw[Km,List.length_append,JW];exact hy8,by rw[Km];exact((hDb.take k hle).keeps dV afz).snoc yj (dV.keeps heb afz),ajE,Yc,by simp only[ag,hn],by simp only[aa,↓reduceIte,WP,h0],by simp only[aa,↓reduceIte,WP,h9],by simp only[aa,↓reduceIte,WP],by simp only[aa,↓reduceIte]⟩
 clear hn h0 h3 h5 h6 h9 f
 rintro f s7 ⟨y,LY,MY,hyr,kJ,CZ,hn,h0,h9,gK,AH⟩
 have abS:ar s.next s s7:=dg.trans (CZ.weaken dg.next)
 have hx7:=hx.keeps abS
 have tH:=hx7.fp (P:=Tryz.prog) Tryz.underlying24 qv (k:= .i64) (x:=(k:Int)) (by omega) (by omega)
 rw[Int.toNat_natCast] at tH
 have wE:=hx7.cut (lo:=k) (hi:=D.length) hle (Nat.le_refl _)
 rw[List.take_of_length_le (by rw[List.length_drop,WL,Nat.sub_mul];omega)] at wE
 simp-implicitDefEqProofs(disch:=omega)only[aj,ak,ad,ai,QS,WP,↓reduceIte,hn,h0,h9,AH,tH]
 have afA:(lx.drop (k*6)).length=(D.length-k)*6:=by rw[List.length_drop,WL,Nat.sub_mul]
 have ZS:∀i,i<D.length-k->(((lx.drop (k*6)).drop (i*6)).take 6).all aJ=true:=fun i hi=>UP (hD2.row i (by omega))
 refine(H6 js s7 _ (D.length-k) _ wE (by omega) (AG (by decide) _ _ afA ZS)).mono ?_
 rintro w s8 ⟨hw,xC,UT⟩
 simp-implicitDefEqProofs(disch:=omega)only[aj,ak,ad,QS,WP,↓reduceIte,hn,gK]
 have Yc:ar s2.next s2 s8:=CZ.trans (UT.weaken CZ.next)
 have afB:=CZ.next
 have afC:=UT.next
 refine(ajz iF LM 205 [.pointer (some ⟨s1.next,0,some 2⟩),.pointer (some ⟨s.next,0,some 7⟩)] s8 w (D.length-k) _ hw (by omega) ZS (ZQ (D.drop k) (fun y=>y.1==e.1)) (fun i hi s' Ba=> ?_)).mono ?_
 ·obtain⟨r,ou,gr,-⟩:=hD2.row i (by omega)
  rw[ou]
  have US:=Yc.trans ((Ba.keeps xC afC).weaken afB)
  refine(afv jS LQ DR lj hp s' _ e.1 r re gr.len qe s1.next s.next (dZ.keeps US) (uY.keeps US)).mono ?_
  rintro _ ss ⟨rfl,h⟩
  refine⟨?_,h⟩
  rw[yo (by omega)]
  congr 1
  rw[decide_eq_decide.2 (lY _ _)]
  by_cases q:(D.drop k)[i].1=e.1
  ·rw[decide_eq_true q];exact(beq_iff_eq.2 q).symm
  ·rw[decide_eq_false q];exact(beq_eq_false_iff_ne.2 q).symm
 rintro u s9 ⟨hu,Zp,hui⟩
 have Yd:ar s7.next s7 s9:=UT.trans (Zp.keeps xC afC)
 have afD:ar s.next s s9:=abS.trans (Yd.weaken abS.next)
 obtain⟨p2,LN⟩:∃p2,p2=ZQ (D.drop k) (fun y=>y.1==e.1):=⟨_,rfl⟩
 rw[<-LN] at hu
 have hkr:=((hDb.drop k hle).keeps dV afD).kept p2 (D.length-k) (by omega)
 have hkc:=tp (l:=lx.drop (k*6)) (z:=6) p2 afA (D.length-k) (Nat.le_refl _)
 have hkn:(zJ (D.drop k) p2 (D.length-k)).length=db p2 (D.length-k):=by have:=hkr.len;omega
 have hkl:=sJ p2 (D.length-k)
 have hkf:zJ (D.drop k) p2 (D.length-k)=others e.1 (D.drop k):=by
  rw[wO (q:=fun y=>y.1==e.1) (D.length-k) (by omega) (fun i hi=>by rw[LN,yo hi]),List.take_of_length_le (by omega)]
  rfl
 have ajI:(iB (lx.drop (k*6)) 6 p2 (D.length-k)).all aJ=true:=AG (by decide) (db p2 (D.length-k)) _ hkc (fun i hi=>UP (hkr.row i (by omega)))
 simp-implicitDefEqProofs(disch:=omega)only[aj,ad,QS,WP,↓reduceIte,hn]
 refine bV Tryz.underlying24 Tryz.underlying24 (.inl ⟨_,rfl⟩) qv byE zE rfl (MY.keeps Yd) hu.src hkc (by decide) ajI (by omega) (by omega) kJ (by have:=CZ.next;have:=Yd.next;omega) ?_
 intro y' WN ajJ afE afF afG _
 have afH:ar s.next s WN:=afD.trans (afF.weaken dg.next)
 simp-implicitDefEqProofs(disch:=omega)only[aj,al,oneOf,QS,↓reduceIte,hn,Tryz.results176]
 have nd:MU D e tF=D1++others e.1 (D.drop k):=by
  unfold MU
  rw[<-hk,Km]
  congr 2
  rw[hk,H3]
 have UU:=(hyr.keeps dV Yd).append hkr
 rw[hkf,<-nd] at UU
 refine⟨LY++iB (lx.drop (k*6)) 6 p2 (D.length-k),?_,fun j hj=>by have:=afE j hj;omega,afH,?_⟩
 ·rw[nd,List.length_append,<-hkf,hkn];exact ajJ
 ·rw[hFB] at UU
  exact UU.turns dV afG (fun j hj e' =>by have:=kJ _ e';have:=hj.2;omega)
end Go.Proofs.YtdfjfncifneocaaGreat
set_option linter.unusedSimpArgs false
set_option linter.unusedVariables false
set_option maxRecDepth 100000
namespace Go.Proofs.YtdfjfncifneocaaGreat
open Go.Cl Go.Lib
def Has (s:aq)(o:O)(v:Value)(s' :aq):Prop:=v= .bool o.has/\ar s.next s s'
theorem zM {lib:az}(hl:lib.at 97=none)(F:Nat->Prop)(s:aq)(cs:List Value)(o:O)(ho:dk F s cs o):
  Runs Tryz.prog lib 97 [.agg cs.toArray] s (Has s o):=by
 cases o with
 |mk kind num b l d=>
 obtain⟨bv,lv,dv,lc,dc,rfl,-⟩:=ho.parts
 refine Runs.enter 11 Tryz.func97 rfl hl rfl rfl ?_
 intro f hn hf
 have h0:f.get 0= .agg #[.int .i64 kind,.int .i64 num,bv,lv,dv]:=hf 0
 clear hf
 simp-implicitDefEqProofs(disch:=omega)only[aj,QS,↓reduceIte,hn,h0]
 refine ax ?_
 intro s1 eO bm iY
 have p0:aR Tryz.prog s1 3 (.pointer (some ⟨s.next,0,some 6⟩))=some (.int .i64 kind):=eO.load bC (off:=0) (c:=6) rfl (by simp)
 by_cases c7:kind=7
 ·simp-implicitDefEqProofs(disch:=omega)only[aj,ak,al,oneOf,QS,WP,Nat.reduceAdd,↓reduceIte,hn,List.length_cons,List.length_nil,EC,p0,eq_true c7,Tryz.results97]
  exact⟨by simp[O.has,O.kind,c7],bm⟩
 ·simp-implicitDefEqProofs(disch:=omega)only[aj,ak,al,oneOf,QS,WP,Nat.reduceAdd,↓reduceIte,hn,List.length_cons,List.length_nil,EC,p0,eq_false c7,Tryz.results97]
  exact⟨by simp[O.has,O.kind,c7];congr,bm⟩
def ajK (s:aq)(k:List UInt8)(o:O)(v:Value)(s' :aq):Prop:=∃cs,v= .agg (.string ⟨k.toArray⟩::cs).toArray/\dk (fun j=>s.next<=j) s' cs o/\ar s.next s s'
theorem wW {lib:az}(hl:lib.at 88=none)(js:lib.at 98=none)(kX:lib.at 36=none)(F:Nat->Prop)(s:aq)(k:List UInt8)(cs:List Value)(o:O)(ho:dk F s cs o)(lP:Small o):
  Runs Tryz.prog lib 88 [.string ⟨k.toArray⟩,.agg cs.toArray] s (ajK s k o):=by
 have jH:=ho.len
 refine Runs.enter 9 Tryz.func88 rfl hl rfl rfl ?_
 intro f hn hf
 have h0:f.get 0= .string ⟨k.toArray⟩:=hf 0
 have h1:f.get 1= .agg cs.toArray:=hf 1
 clear hf
 simp-implicitDefEqProofs(disch:=omega)only[aj,QS,↓reduceIte,hn,h1]
 refine ax ?_
 intro s1 eO bm iY
 simp-implicitDefEqProofs(disch:=omega)only[aj,QS,Nat.reduceAdd,↓reduceIte,hn,jH,zE,Uy]
 refine ax ?_
 intro s2 dZ aU oN
 have dg:ar s.next s s2:=bm.trans (aU.weaken (by omega))
 have la:aR Tryz.prog s2 26 (.pointer (some ⟨s.next,0,some 6⟩))=some (.agg cs.toArray):=av.bu Gm (by rw[jH];exact iH) (eO.keeps aU) (by rw[jH])
 have X7:wN.length+1=7:=rfl
 simp-implicitDefEqProofs(disch:=omega)only[aj,ak,ad,QS,WP,↓reduceIte,hn,h0,la,X7]
 refine(Pt js kX _ o (Nat.le_refl _) F s2 cs (ho.keeps dg) lP).mono ?_
 intro v s3 h3
 obtain⟨iE,rfl,nJ,bH⟩:=h3.is
 have C0:=nJ.len
 obtain⟨es,Au⟩:∃es,es=Value.string ⟨k.toArray⟩::iE:=⟨_,rfl⟩
 have yj:es.length=6:=by rw[Au];simp[C0]
 have Kh:es.all aJ=true:=by rw[Au,List.all_cons,nJ.ok];rfl
 have hbE:=bE k C0
 rw[<-Au] at hbE
 simp-implicitDefEqProofs(disch:=omega)only[aj,ae,QS,WP,↓reduceIte,hn,hbE]
 refine aA qv (by decide) (dZ.keeps bH) rfl rfl yj Kh ?_
 intro s4 ie Am wR
 have ie:av s4 s1.next es:=ie
 have l4:aR Tryz.prog s4 63 (.pointer (some ⟨s1.next,0,some 7⟩))=some (.agg es.toArray):=av.bu Ru (by rw[yj];exact qv) ie (by rw[yj])
 simp-implicitDefEqProofs(disch:=omega)only[aj,al,oneOf,QS,WP,↓reduceIte,hn,l4,aV,Tryz.results88]
 have iJ:=bm.next
 have im:=aU.next
 refine⟨iE,by rw[Au],(nJ.turns (u:= .pointer (some ⟨s1.next,0,none⟩)) (aY.aI Am wR) (fun j hj e=> ?_)).mono (fun j hj=>by omega),(dg.trans (bH.weaken dg.next)).trans ⟨by omega,fun j hj=>wR j (by omega)⟩⟩
 have e:some s1.next=some j:=e
 injection e with e;omega
set_option maxHeartbeats 8000000 in
theorem Ye {lib:az}(hl:lib.at 139=none)(jQ:lib.at 88=none)(hle:lib.at 97=none)(js:lib.at 98=none)(Al:lib.at 36=none)
  (ra:lib.at 176=none) (kX:lib.at 204=none) (jS:lib.at 205=none) (iF:lib.at 206=none) (LM:lib.at 203=none) (ajL:lib.at 207=none)
  (LQ:lib.at 177=none) (DR:lib.at 208=none) (lj:lib.at 219=none) (hp:lib.at 224=some iw)
  (F:Nat->Prop) (s:aq) (cs:List Value) (o:O) (ho:dk F s cs o) (lP:Small o) (x:Value) (L:List (List UInt8×O)) (lx:List Value) (hx:aN s 6 x L.length lx) (hL:aS dU 6 F s L lx) (hLn:L.length<=100000) (ED:∀e∈L,Small e.2):
  Runs Tryz.prog lib 139 [.agg cs.toArray,x] s (lW s (Ry o L)):=by
 have jH:=ho.len
 refine Runs.enter 35 Tryz.func139 rfl hl rfl rfl ?_
 intro f hn hf
 have h0:f.get 0= .agg cs.toArray:=hf 0
 have h1:f.get 1=x:=hf 1
 clear hf
 simp-implicitDefEqProofs(disch:=omega)only[aj,QS,↓reduceIte,hn,h0]
 refine ax ?_
 intro s1 eO bm iY
 simp-implicitDefEqProofs(disch:=omega)only[aj,QS,Nat.reduceAdd,↓reduceIte,hn,jH,zO,xB]
 refine ax ?_
 intro s2 dZ aU oN
 have dg:ar s.next s s2:=bm.trans (aU.weaken (by omega))
 have uY:=eO.keeps aU
 have mO:cU.length+1=6:=rfl
 have la:∀s',ar s2.next s2 s' ->aR Tryz.prog s' 26 (.pointer (some ⟨s.next,0,some 6⟩))=some (.agg cs.toArray):=fun s' h=>av.bu Gm (by rw[jH];exact iH) (uY.keeps h) (by rw[jH])
 simp-implicitDefEqProofs(disch:=omega)only[aj,ak,ad,QS,WP,↓reduceIte,hn,la s2 (ar.refl _ _),mO]
 refine(Pt js Al _ o (Nat.le_refl _) F s2 cs (ho.keeps dg) lP).mono ?_
 intro v s3 h3
 obtain⟨iE,rfl,nJ,bH⟩:=h3.is
 have C0:=nJ.len
 simp-implicitDefEqProofs(disch:=omega)only[aj,QS,↓reduceIte,hn,zO,xB]
 refine ax ?_
 intro s4 ie dY Am
 simp-implicitDefEqProofs(disch:=omega)only[aj,QS,WP,↓reduceIte,hn,mO]
 refine aA iH (by decide) ie rfl rfl C0 nJ.ok ?_
 intro s5 vv MW Ap
 have vv:av s5 s3.next iE:=vv
 have M3:ar s3.next s3 s5:=dY.trans ⟨by omega,fun j hj=>Ap j (by omega)⟩
 have wS:ar s2.next s2 s5:=bH.trans (M3.weaken bH.next)
 have RC:ar s.next s s5:=dg.trans (wS.weaken dg.next)
 simp-implicitDefEqProofs(disch:=omega)only[aj,ak,ad,QS,WP,↓reduceIte,hn,la s5 wS]
 refine(zM hle F s5 cs o (ho.keeps RC)).mono ?_
 rintro _ s6 ⟨rfl,Yf⟩
 have UW:ar s3.next s3 s6:=M3.trans (Yf.weaken M3.next)
 have Kl:ar s2.next s2 s6:=wS.trans (Yf.weaken wS.next)
 have abR:ar s.next s s6:=RC.trans (Yf.weaken RC.next)
 have M6:=vv.keeps Yf
 have WM:=nJ.keeps UW
 have mm:=bH.next
 have im:=aU.next
 have aoO:=UW.next
 have l6:aR Tryz.prog s6 26 (.pointer (some ⟨s3.next,0,some 6⟩))=some (.agg iE.toArray):=av.bu Gm (by rw[C0];exact iH) M6 (by rw[C0])
 have afI:∀(t:aq) (o' :O) (UX:List Value) (G:Nat->Prop) (Q:Value->aq->Prop),(∀j,G j->s2.next<=j)->dk G t UX o' ->ar s2.next s2 t->(∀v s',lW s o' v s' ->Q v s')->∀t',av t' s1.next UX->t'.next=t.next->(∀j,j≠s1.next->t'.heap.get j=t.heap.get j)->Q (.agg UX.toArray) t' :=by
  intro t o' UX G Q hG rZ dC hQ t' LI ajM afJ
  refine hQ _ _ ⟨UX,rfl,(rZ.turns (u:= .pointer (some ⟨s1.next,0,none⟩)) (aY.aI ajM afJ) (fun j hj e=> ?_)).mono (fun j hj=>by have:=hG j hj;omega),(dg.trans (dC.weaken dg.next)).trans ⟨by omega,fun j hj=>afJ j (by omega)⟩⟩
  have e:some s1.next=some j:=e
  injection e with e;have:=hG j hj;omega
 cases hh:o.has with
 |false=>
  simp-implicitDefEqProofs(disch:=omega)only[aj,QS,WP,↓reduceIte,hn,l6]
  refine aA iH (by decide) (dZ.keeps Kl) rfl rfl C0 WM.ok ?_
  intro s7 tI rq wV
  have tI:av s7 s1.next iE:=tI
  have l7:aR Tryz.prog s7 26 (.pointer (some ⟨s1.next,0,some 6⟩))=some (.agg iE.toArray):=av.bu Gm (by rw[C0];exact iH) tI (by rw[C0])
  simp-implicitDefEqProofs(disch:=omega)only[aj,al,oneOf,QS,WP,↓reduceIte,hn,l7,aV,Tryz.results139]
  have e:Ry o L=o:=by unfold Ry;rw[hh];rfl
  rw[e]
  exact afI s6 o iE _ _ (fun j hj=>hj) WM Kl (fun _ _ h=>h) s7 tI rq wV
 |true=>
 have hx6:=hx.keeps abR
 simp-implicitDefEqProofs(disch:=omega)only[aj,ad,QS,WP,↓reduceIte,hn,h1,hx6.bh Tryz.underlying24]
 clear la l6
 have ajN:=nJ.XZ
 cases o with
 |mk kind num b l d=>
 obtain⟨bv,lv,dv,lc,dc,rfl,rz,UY,UZ,fb3,fl3,fd3,rl3,rd3⟩:=ajN.parts
 obtain⟨G,hG⟩:∃G:Nat->Prop,G=fun j=>s2.next<=j/\j≠s3.next:=⟨_,rfl⟩
 have hGl:∀j,s2.next<=j/\j<s3.next->G j:=fun j hj=>by rw[hG];exact⟨hj.1,by omega⟩
 have rK:Ry (.mk kind num b l d) L= .mk kind num b l (cX d L):=by unfold Ry;rw[hh];rfl
 refine Comes.bK (fun z f t=>∃(i:Nat) (w:Value) (DC:List Value),z=L.length-i/\i<=L.length/\aN t 6 w (cX d (L.take i)).length DC/\fu G w/\aS dU 6 G t (cX d (L.take i)) DC/\av t s3.next [.int .i64 kind,.int .i64 num,bv,lv,w]/\ar s3.next s3 t/\f.n=35/\f.get 4= .pointer (some ⟨s1.next,0,some 6⟩)/\f.get 5= .pointer (some ⟨s3.next,0,some 6⟩)/\f.get 14=x/\f.get 15= .int .i64 (L.length:Nat)/\f.get 16= .int .i64 (i:Nat))
  (fun z f t=>z= .exit 0/\∃(w:Value) (DC:List Value),aN t 6 w (cX d L).length DC/\fu G w/\aS dU 6 G t (cX d L) DC/\av t s3.next [.int .i64 kind,.int .i64 num,bv,lv,w]/\ar s3.next s3 t/\f.n=35/\f.get 4= .pointer (some ⟨s1.next,0,some 6⟩)/\f.get 5= .pointer (some ⟨s3.next,0,some 6⟩))
  ⟨0,dv,dc,rfl,by omega,by rw[List.take_zero];exact UZ.keeps UW,fd3.mono hGl,by rw[List.take_zero];exact(rd3.mono dV hGl).keeps dV UW,M6,UW,by simp only[ag,hn],by simp only[aa,↓reduceIte,WP],by simp only[aa,↓reduceIte,WP],by simp only[aa,↓reduceIte,WP],by simp only[aa,↓reduceIte,WP],by simp only[aa,↓reduceIte];rfl⟩ ?_ ?_
 ·clear hn h0 h1 f
  rintro Q hQ z f t ⟨i,w,DC,rfl,hi,hw,xC,hwr,htt,aD,hn,h4,h5,tq,oU,Ra⟩
  by_cases bc:i<L.length
  rotate_left
  ·obtain rfl:i=L.length:=by omega
   rw[List.take_length] at hw hwr
   have d1:¬((L.length:Nat):Int)<((L.length:Nat):Int):=by omega
   simp-implicitDefEqProofs(disch:=omega)only[aj,QS,↓reduceIte,hn,oU,Ra,eq_false d1]
   exact hQ _ _ _ ⟨rfl,w,DC,hw,xC,hwr,htt,aD,by simp only[ag,hn],by simp only[aa,↓reduceIte,WP,h4],by simp only[aa,↓reduceIte,WP,h5]⟩
  have d1:(i:Int)<(L.length:Int):=by omega
  have EE:ar s2.next s2 t:=bH.trans (aD.weaken mm)
  have U0:ar s.next s t:=dg.trans (EE.weaken dg.next)
  have xz:=hx.keeps U0
  have ln:=xz.indexAddr (P:=Tryz.prog) (k:= .i64) (x:=(i:Int)) Tryz.underlying24 qv (by omega) (by omega)
  rw[Int.toNat_natCast] at ln
  have ajO:=aD.next
  have xH:=xz.fm (P:=Tryz.prog) Ru qv bc
  obtain⟨r,ou,gr,Ag⟩:=hL.row i bc
  have oC:=gr.len
  rw[ou] at xH
  obtain⟨xs,vt⟩:∃xs,xs=Value.string ⟨(L[i].1).toArray⟩::r:=⟨_,rfl⟩
  rw[<-vt] at xH
  have vq:xs.length=6:=by rw[vt];simp[oC]
  have UN:xs.all aJ=true:=by rw[vt,List.all_cons,gr.ok];rfl
  simp-implicitDefEqProofs(disch:=omega)only[aj,QS,WP,↓reduceIte,hn,tq,oU,Ra,eq_true d1,ln,xH,zE,Uy]
  refine ax ?_
  intro t1 abT zN afN
  have X7:wN.length+1=7:=rfl
  simp-implicitDefEqProofs(disch:=omega)only[aj,QS,WP,↓reduceIte,hn,X7]
  refine aA qv (by decide) abT rfl rfl vq UN ?_
  intro t2 H7 afO U2
  have H7:av t2 t.next xs:=H7
  have Kn:ar t.next t t2:=zN.trans ⟨by omega,fun j hj=>U2 j (by omega)⟩
  simp-implicitDefEqProofs(disch:=omega)only[aj]
  obtain⟨A,hA⟩:∃A:Nat->Bool,A=fun j=>decide (j<t2.next):=⟨_,rfl⟩
  have nH:∀j,A j=true->j<t2.next:=by
   intro j h
   rw[hA] at h
   exact of_decide_eq_true h
  have Ao:∀j,j<t2.next->A j=true:=fun j h=>by rw[hA];exact decide_eq_true h
  refine LB.da.fL A nH 2 0 (by kernel_rfl) (by kernel_rfl) ?_
  have eI:=ar.spare t2 0
  have X3:(spare t2 0).next=t2.next+0:=bU _ _
  have Ko:ar t.next t (spare t2 0):=Kn.trans (eI.weaken Kn.next)
  have htO:=htt.keeps Ko
  have htE:=H7.keeps eI
  have M0:=hw.keeps Ko
  have ajQ:=hwr.keeps dV Ko
  have aoU:=Kn.next
  have Gq:∀k,LA.fg A (some (.pointer (some ⟨s3.next,k,some 6⟩)))=true:=fun k=>LA.cD (A:=A) (i:=s3.next) (Ao _ (by have:=htt.lt;omega))
  have Ps:∀k,LA.fg A (some (.pointer (some ⟨t.next,k,some 7⟩)))=true:=fun k=>LA.cD (A:=A) (i:=t.next) (Ao _ H7.lt)
  cases hLi:L[i] with
  |mk ek ev=>
  rw[hLi] at gr Ag vt
  cases ev with
  |mk ekd en eb el ed=>
  obtain⟨xb,xl,xd,xlc,xdc,rfl,-⟩:=gr.parts
  have l20:aR Tryz.prog (spare t2 0) 24 (.pointer (some ⟨s3.next,4,some 6⟩))=some w:=htO.load X0 (off:=4) (c:=6) rfl (by simp)
  have l22:aR Tryz.prog (spare t2 0) 9 (.pointer (some ⟨t.next,0,some 7⟩))=some (.string ⟨ek.toArray⟩):=by
   have:=htE.load (P:=Tryz.prog) Ka (off:=0) (c:=7) (by rw[vq]) (by omega)
   rw[this,vt];rfl
  have l24:aR Tryz.prog (spare t2 0) 26 (.pointer (some ⟨t.next,1,some 7⟩))=some (.agg #[.int .i64 ekd,.int .i64 en,xb,xl,xd]):=by
   have:=av.tn (P:=Tryz.prog) Gm iH htE (off:=1) (c:=7) (by rw[vq]) (by omega)
   rw[this,vt,List.drop_succ_cons,List.drop_zero,List.take_of_length_le (by simp)]
  have uZ:=gr.keeps (U0.trans (Ko.weaken U0.next))
  simp-implicitDefEqProofs(disch:=omega)only[aj,ak,bS,bT,Nat.add_one_sub_one,ad,QS,WP,Nat.reduceAdd,↓reduceIte,hn,h5,EC,of4,UG,X2,Gq,Ps,l20,l22,l24,M0.self,uZ.self]
  refine(wW jQ js Al F (spare t2 0) ek _ _ uZ (by have:=ED _ (List.getElem_mem bc);rw[hLi] at this;exact this)).mono ?_
  rintro _ t3 ⟨cp,rfl,hcp,gI⟩
  have ajR:=hcp.len
  have abV:=htO.keeps gI
  have ajS:=htE.keeps gI
  have JV:=M0.keeps gI
  have ajT:=ajQ.keeps dV gI
  have aoY:=gI.next
  refine⟨fun _=>LA.ar.OW nH (gI.weaken (by omega)),?_⟩
  have l29:aR Tryz.prog t3 3 (.pointer (some ⟨t.next,1,some 7⟩))=some (.int .i64 ekd):=by
   have:=ajS.load (P:=Tryz.prog) bC (off:=1) (c:=7) (by rw[vq]) (by omega)
   rw[this,vt];rfl
  have ajU:cf (.agg (.string ⟨ek.toArray⟩::cp).toArray) (.agg (.string ⟨ek.toArray⟩::cp).toArray)=true:=by
   have:=hcp.self
   match cp,ajR,this with
   |[a,b,c,d,e],_,this=>
    simp[cf,fK] at this|-
    exact⟨by simp[cN],this⟩
  simp-implicitDefEqProofs(disch:=omega)only[aj,ak,bS,bT,Nat.sub_self,ad,QS,WP,↓reduceIte,hn,h5,of4,Ps,l29]
  have hG3:∀j,t3.next<=j->G j:=fun j hj=>by rw[hG];exact⟨by omega,by have:=abV.lt;omega⟩
  have U3:=CU d (L.take i)
  have hdl:d.length<=100000:=by cases lP;assumption
  rw[List.length_take] at U3
  have ajV:dk G t3 cp (.mk ekd en eb el ed):=hcp.mono (fun j hj=>by rw[hG];exact⟨by omega,by have:=abV.lt;omega⟩)
  refine(M5 ra kX jS iF LM ajL LQ DR lj hp G t3 w _ DC JV ajT (by omega) (ek,.mk ekd en eb el ed) _ ⟨cp,rfl,ajV,Ag⟩ (decide (ekd≠0))).mono ?_
  rintro w' t4 ⟨LC,JX,ajW,iZ,afP⟩
  refine⟨fun _=>LA.ar.OW nH (iZ.weaken (by omega)),?_⟩
  have afQ:cX d (L.take (i+1))=MU (cX d (L.take i)) (ek,.mk ekd en eb el ed) (decide (ekd≠0)):=by
   rw[Kd bc,hLi,X1];rfl
  rw[<-afQ] at JX afP
  have ajX:=abV.keeps iZ
  refine LB.eN EB (by decide) ajX (off:=4) (c:=6) rfl (vs:=[w']) JX.aG.su rfl (by simp) (by simp[JX.aG.aJ]) (fun h=>absurd rfl h) ?_
  intro t5 abW ZT U4
  have abW:av t5 s3.next [.int .i64 kind,.int .i64 num,bv,lv,w']:=abW
  have ck:∀j,G j->aE (.pointer (some ⟨s3.next,0,none⟩))≠some j:=fun j hj e=>by
   have e:some s3.next=some j:=e
   injection e with e
   rw[hG] at hj;exact hj.2 e.symm
  have hwG:∀j,aE w' =some j->G j:=fun j hj=>hG3 j (ajW j hj)
  have afR:ar s3.next t4 t5:=⟨by omega,fun j hj=>U4 j (by omega)⟩
  have hw5:Own t5 6 w' (cX d (L.take (i+1))).length LC:=JX.aI ZT U4 (fun e=>ck _ (hwG _ e) rfl)
  have ajY:=((afP.mono dV (fun j hj=>hj.1)).turns dV (aY.aI ZT U4) ck)
  simp-implicitDefEqProofs(disch:=omega)only[aj,bT,Nat.reduceSub,QS,WP,↓reduceIte,hn,Ra,aB]
  exact au (L.length-(i+1)) (by omega) ⟨i+1,w',LC,rfl,by omega,hw5.aG,fu.Pn hwG,ajY,abW,(((aD.trans (Ko.weaken ajO)).trans (gI.weaken (by omega))).trans (iZ.weaken (by omega))).trans afR,by simp only[ag,hn],by simp only[aa,↓reduceIte,WP,h4],by simp only[aa,↓reduceIte,WP,h5],by simp only[aa,↓reduceIte,WP,tq],by simp only[aa,↓reduceIte,WP,oU],by simp only[aa,↓reduceIte];rfl⟩
 clear hn h0 h1 f
 rintro z f t ⟨rfl,w,DC,hw,xC,hwr,htt,aD,hn,h4,h5⟩
 have H8:dk G t [.int .i64 kind,.int .i64 num,bv,lv,w] (.mk kind num b l (cX d L)):=dk.whole (rz.keeps aD) (UY.keeps aD) hw (fb3.mono hGl) (fl3.mono hGl) xC ((rl3.mono cw hGl).keeps cw aD) hwr
 have l9:aR Tryz.prog t 26 (.pointer (some ⟨s3.next,0,some 6⟩))=some (.agg #[.int .i64 kind,.int .i64 num,bv,lv,w]):=av.bu Gm (cs:=[.int .i64 kind,.int .i64 num,bv,lv,w]) iH htt rfl
 have EE:ar s2.next s2 t:=bH.trans (aD.weaken mm)
 simp-implicitDefEqProofs(disch:=omega)only[aj,QS,WP,↓reduceIte,hn,h4,h5,l9]
 refine aA iH (by decide) (dZ.keeps EE) rfl rfl rfl H8.ok ?_
 intro s7 tI rq wV
 have tI:av s7 s1.next [.int .i64 kind,.int .i64 num,bv,lv,w]:=tI
 have l7:aR Tryz.prog s7 26 (.pointer (some ⟨s1.next,0,some 6⟩))=some (.agg #[.int .i64 kind,.int .i64 num,bv,lv,w]):=av.bu Gm (cs:=[.int .i64 kind,.int .i64 num,bv,lv,w]) iH tI rfl
 simp-implicitDefEqProofs(disch:=omega)only[aj,al,oneOf,QS,WP,↓reduceIte,hn,h4,l7,aV,Tryz.results139]
 rw[rK]
 exact afI t _ _ G _ (fun j hj=>by rw[hG] at hj;exact hj.1) H8 EE (fun _ _ h=>h) s7 tI rq wV
end Go.Proofs.YtdfjfncifneocaaGreat
set_option linter.unusedSimpArgs false
set_option linter.unusedVariables false
set_option maxRecDepth 100000
namespace Go.Cl
theorem dk.aI {F:Nat->Prop}{s s' :aq}{cs:List Value}{o:O}{i:Nat}(h:dk F s cs o)(h1:s'.next=s.next)(h2:∀q,q≠i->s'.heap.get q=s.heap.get q)(hF:¬F i):dk F s' cs o:=
 h.turns (u:= .pointer (some ⟨i,0,Option.none⟩)) (aY.aI h1 h2) (fun j hj e=>by
  have e:some i=some j:=e
  injection e with e;subst e;exact hF hj)
theorem dk.bare (F:Nat->Prop)(s:aq)(k n:Int):dk F s [.int .i64 k,.int .i64 n,.slice Option.none 0 0,.slice Option.none 0 0,.slice Option.none 0 0] (.mk k n [] [] []):=
 dk.whole .nil .nil .nil trivial trivial trivial aS.nil aS.nil
theorem Small.bare (k n:Int):Small (.mk k n [] [] []):= .mk (by simp) (by simp) (by simp) (fun e h=>by cases h) (fun e h=>by cases h) (fun e h=>by cases h)
theorem Small.none:Small O.none:=Small.bare 0 0
def oi (d:List (List UInt8×O))(k:List UInt8):O:=match d.find? (fun y=>y.1==k) with
 |some e=>e.2
 |Option.none=>O.none
def fB (o:O)(k:List UInt8):O:=if o.has then oi o.wG k else O.none
theorem U5 {d:List (List UInt8×O)}{k:List UInt8}{i:Nat}(hi:i<d.length)(h1:d[i].1=k)(h2:∀j (h:j<i),d[j].1≠k):oi d k=d[i].2:=by
 unfold oi
 have:d.find? (fun y=>y.1==k)=some d[i]:=by
  rw[List.find?_eq_some_iff_getElem]
  refine⟨by simpa using h1,i,hi,rfl,fun j hj=> ?_⟩
  have:=h2 j hj
  simpa using this
 rw[this]
theorem M7 {d:List (List UInt8×O)}{k:List UInt8}(h2:∀j (h:j<d.length),d[j].1≠k):oi d k=O.none:=by
 unfold oi
 have:d.find? (fun y=>y.1==k)=none:=by
  rw[List.find?_eq_none]
  intro y hy
  obtain⟨j,hj,rfl⟩:=List.mem_iff_getElem.1 hy
  simpa using h2 j hj
 rw[this]
end Go.Cl
namespace Go.Proofs.YtdfjfncifneocaaGreat
open Go.Cl Go.Lib
structure Yg (lib:az):Prop where
 set:lib.at 139=none
 pair:lib.at 88=none
 sorted:lib.at 176=none
 c1:lib.at 204=none
 c2:lib.at 205=none
 del:lib.at 206=none
 idx:lib.at 203=none
 H6:lib.at 207=none
 afS:lib.at 177=none
 cmp:lib.at 208=none
 ajZ:lib.at 219=none
 XQ:lib.at 224=some iw
 entries:lib.at 97=none
 copy:lib.at 98=none
 clone:lib.at 36=none
 aj0:lib.at 85=none
 stream:lib.at 48=none
 get:lib.at 61=none
 int:lib.at 140=none
 nothing:lib.at 99=none
 arr:lib.at 89=none
 name:lib.at 86=none
theorem aj1 {lib:az}(L:Yg lib)(F:Nat->Prop)(s:aq)(cs:List Value)(o:O)(ho:dk F s cs o)(lP:Small o)(x:Value)(l:List (List UInt8×O))(lx:List Value)(hx:aN s 6 x l.length lx)(hL:aS dU 6 F s l lx)(hLn:l.length<=100000)(ED:∀e∈l,Small e.2):
  Runs Tryz.prog lib 139 [.agg cs.toArray,x] s (lW s (Ry o l)):=
 Ye L.set L.pair L.entries L.copy L.clone L.sorted L.c1 L.c2 L.del L.idx L.H6 L.afS L.cmp L.ajZ L.XQ F s cs o ho lP x l lx hx hL hLn ED
theorem bO1 (k:Int):cE Tryz.prog 26 [(0,.int .i64 k)]=some (.agg #[.int .i64 k,.int .i64 0,.slice none 0 0,.slice none 0 0,.slice none 0 0]):=by
 unfold cE;rw[Tryz.underlying26]
 have hz:bW Tryz.prog 26=some (.agg #[.int .i64 0,.int .i64 0,.slice none 0 0,.slice none 0 0,.slice none 0 0]):=by kernel_rfl
 rw[hz]
 have ci:∀k n,(Value.int k n).cells= #[.int k n]:=fun _ _=>rfl
 simp[bB,zH,gv,EA,EB,bP,gS,fI,placeOf,bO,setAt,ci]
theorem bO0:cE Tryz.prog 26 []=some (.agg #[.int .i64 0,.int .i64 0,.slice none 0 0,.slice none 0 0,.slice none 0 0]):=by kernel_rfl
theorem bO2 (k:Int){b:Value}(hb:b.cells.toList=[b]):cE Tryz.prog 26 [(0,.int .i64 k),(2,b)]=some (.agg #[.int .i64 k,.int .i64 0,b,.slice none 0 0,.slice none 0 0]):=by
 unfold cE;rw[Tryz.underlying26]
 have hz:bW Tryz.prog 26=some (.agg #[.int .i64 0,.int .i64 0,.slice none 0 0,.slice none 0 0,.slice none 0 0]):=by kernel_rfl
 rw[hz]
 have ci:∀k n,(Value.int k n).cells= #[.int k n]:=fun _ _=>rfl
 simp[bB,zH,gv,EA,EB,bP,gS,fI,placeOf,bO,setAt,ci,hb]
theorem lW.put {s t t' :aq}{i:Nat}{F:Nat->Prop}{cs:List Value}{o:O}(h:dk F t cs o)(hF:∀j,F j->s.next<=j/\j≠i)(h1:t'.next=t.next)(h2:∀q,q≠i->t'.heap.get q=t.heap.get q)(hs:ar s.next s t)(hi:s.next<=i):lW s o (.agg cs.toArray) t' :=
 ⟨cs,rfl,(h.aI h1 h2 (fun q=>(hF i q).2 rfl)).mono (fun j hj=>(hF j hj).1),hs.trans ⟨by omega,fun j hj=>h2 j (by omega)⟩⟩
theorem av.ga {s:aq}{i:Nat}{cs:List Value}(h:av s i cs)(hl:cs.length=5):aR Tryz.prog s 26 (.pointer (some ⟨i,0,some 6⟩))=some (.agg cs.toArray):=av.bu Gm (by rw[hl];exact iH) h (by rw[hl])
theorem C1 {lib:az}(hl:lib.at 99=none)(s:aq):Runs Tryz.prog lib 99 [] s (lW s O.none):=by
 refine Runs.enter 2 Tryz.func99 rfl hl rfl rfl ?_
 intro f hn _
 simp-implicitDefEqProofs(disch:=omega)only[aj,↓reduceIte,zO,xB]
 refine ax ?_
 intro s1 eO bm iY
 have mO:cU.length+1=6:=rfl
 simp-implicitDefEqProofs(disch:=omega)only[aj,ae,QS,WP,↓reduceIte,hn,mO,bO0]
 refine aA iH (by decide) eO rfl rfl rfl rfl ?_
 intro s2 dZ oN aj2
 simp-implicitDefEqProofs(disch:=omega)only[aj,al,oneOf,QS,WP,↓reduceIte,hn,av.ga dZ rfl,aV,Tryz.results99]
 exact lW.put (F:=fun _=>False) (dk.none _ s1) (fun j hj=>hj.elim) oN aj2 bm (Nat.le_refl _)
theorem U6 {lib:az}(L:Yg lib)(F:Nat->Prop)(s:aq)(x:Value)(l:List (List UInt8×O))(lx:List Value)(hx:aN s 6 x l.length lx)(hL:aS dU 6 F s l lx)(hLn:l.length<=100000)(ED:∀e∈l,Small e.2):
  Runs Tryz.prog lib 85 [x] s (lW s (.mk 7 0 [] [] (cX [] l))):=by
 refine Runs.enter 6 Tryz.func85 rfl L.aj0 rfl rfl ?_
 intro f hn hf
 have h0:f.get 0=x:=hf 0
 clear hf
 simp-implicitDefEqProofs(disch:=omega)only[aj,↓reduceIte,zO,xB]
 refine ax ?_
 intro s1 eO bm iY
 have mO:cU.length+1=6:=rfl
 simp-implicitDefEqProofs(disch:=omega)only[aj,ak,ad,ae,QS,WP,↓reduceIte,hn,h0,mO,bO1]
 refine(aj1 L F s1 _ _ (dk.bare F s1 7 0) (Small.bare 7 0) x l lx (hx.keeps bm) (hL.keeps dV bm) hLn ED).mono ?_
 rintro _ s2 ⟨iE,rfl,fx,aU⟩
 have jH:=fx.len
 simp-implicitDefEqProofs(disch:=omega)only[aj,QS,WP,↓reduceIte,hn]
 refine aA iH (by decide) (eO.keeps aU) rfl rfl jH fx.ok ?_
 intro s3 jt M8 U7
 simp-implicitDefEqProofs(disch:=omega)only[aj,al,oneOf,QS,WP,↓reduceIte,hn,av.ga jt jH,aV,Tryz.results85]
 exact lW.put fx (fun j hj=>⟨by omega,by omega⟩) M8 U7 (bm.trans (aU.weaken bm.next)) (Nat.le_refl _)
end Go.Proofs.YtdfjfncifneocaaGreat
namespace Go.Cl
end Go.Cl
namespace Go.Proofs.YtdfjfncifneocaaGreat
open Go.Cl Go.Lib
theorem U8 {lib:az}(hl:lib.at 86=none)(s:aq)(b:List UInt8)(hb:b.length<=4294967296):Runs Tryz.prog lib 86 [.string ⟨b.toArray⟩] s (lW s (.mk 5 0 b [] [])):=by
 refine Runs.enter 6 Tryz.func86 rfl hl rfl rfl ?_
 intro f hn hf
 have h0:f.get 0= .string ⟨b.toArray⟩:=hf 0
 clear hf
 simp-implicitDefEqProofs(disch:=omega)only[aj,↓reduceIte,zO,xB]
 refine ax ?_
 intro s1 eO bm iY
 have mO:cU.length+1=6:=rfl
 simp-implicitDefEqProofs(disch:=omega)only[aj,QS,WP,↓reduceIte,hn,h0,mO,Q5 (s:=s1) (a:=b) Tryz.underlying9 Tryz.underlying22 Tryz.underlying5]
 refine aQ (by simp[bF]) ?_
 intro w s2 hw xC aU
 have dF:=hw.aG.aJ
 simp-implicitDefEqProofs(disch:=omega)only[aj,ae,QS,WP,↓reduceIte,hn,bO2 5 hw.aG.su]
 refine aA iH (by decide) (eO.keeps aU) rfl rfl rfl (by simp only[List.all_cons,List.all_nil,dF];rfl) ?_
 intro s3 jt M8 U7
 simp-implicitDefEqProofs(disch:=omega)only[aj,al,oneOf,QS,WP,↓reduceIte,hn,av.ga jt rfl,aV,Tryz.results86]
 exact lW.put (F:=fun j=>s1.next<=j) (cs:=[.int .i64 5,.int .i64 0,w,.slice none 0 0,.slice none 0 0]) (dk.whole hw.aG .nil .nil (fu.fresh xC) trivial trivial aS.nil aS.nil) (fun j hj=>⟨by omega,by omega⟩) M8 U7 (bm.trans (aU.weaken bm.next)) (Nat.le_refl _)
theorem M9 {lib:az}(L:Yg lib)(F:Nat->Prop)(s:aq)(y:Value)(b:List UInt8)(hy:aN s 1 y b.length (ofBytes b))(hb:b.length<=4294967296)(x:Value)(l:List (List UInt8×O))(lx:List Value)(hx:aN s 6 x l.length lx)(hL:aS dU 6 F s l lx)(hLn:l.length<=100000)(ED:∀e∈l,Small e.2):
  Runs Tryz.prog lib 48 [y,x] s (lW s (.mk 8 0 b [] (cX [] l))):=by
 refine Runs.enter 13 Tryz.func48 rfl L.stream rfl rfl ?_
 intro f hn hf
 have h0:f.get 0=y:=hf 0
 have h1:f.get 1=x:=hf 1
 clear hf
 simp-implicitDefEqProofs(disch:=omega)only[aj,↓reduceIte,zO,xB]
 refine ax ?_
 intro s1 eO bm iY
 have mO:cU.length+1=6:=rfl
 simp-implicitDefEqProofs(disch:=omega)only[aj,ak,ad,QS,WP,↓reduceIte,hn,h1,mO]
 refine(U6 L F s1 x l lx (hx.keeps bm) (hL.keeps dV bm) hLn ED).mono ?_
 rintro _ s2 ⟨iE,rfl,fx,aU⟩
 obtain⟨bv,lv,dv,lc,dc,rfl,dB,jS,uD,fb,fl,fd,rl,rd⟩:=fx.XZ.parts
 simp-implicitDefEqProofs(disch:=omega)only[aj,QS,↓reduceIte,hn,zO,xB]
 refine ax ?_
 intro s3 jt bH M8
 simp-implicitDefEqProofs(disch:=omega)only[aj,QS,WP,↓reduceIte,hn,mO]
 refine aA iH (by decide) jt rfl rfl rfl fx.ok ?_
 intro s4 ie Am wR
 have ie:av s4 s2.next [.int .i64 7,.int .i64 0,bv,lv,dv]:=ie
 have Yh:ar s2.next s2 s4:=bH.trans ⟨by omega,fun j hj=>wR j (by omega)⟩
 have aj3:ar s.next s s4:=(bm.trans (aU.weaken bm.next)).trans (Yh.weaken (by have:=bm.next;have:=aU.next;omega))
 simp-implicitDefEqProofs(disch:=omega)only[aj,ak,ad,QS,WP,↓reduceIte,hn,h0]
 refine(Gp L.clone s4 y b (hy.keeps aj3) (by omega)).mono ?_
 rintro w s5 ⟨hw,xC,qx⟩
 have dF:=hw.aG.aJ
 have WO:=qx.next
 have ao3:=Yh.next
 have iJ:=bm.next
 have im:=aU.next
 have ao4:=ie.lt
 simp-implicitDefEqProofs(disch:=omega)only[aj,QS,WP,↓reduceIte,hn,EC]
 refine qk bB (by decide) (ie.keeps qx) (off:=0) (c:=6) rfl (vs:=[.int .i64 8]) rfl rfl (by simp) rfl ?_
 intro s6 M6 abX afT
 have M6:av s6 s2.next [.int .i64 8,.int .i64 0,bv,lv,dv]:=M6
 simp-implicitDefEqProofs(disch:=omega)only[aj,QS,WP,↓reduceIte,hn,of2]
 refine qk gv (by decide) M6 (off:=2) (c:=6) rfl (vs:=[w]) hw.aG.su rfl (by simp) (by simp[dF]) ?_
 intro s7 tI rq wV
 have tI:av s7 s2.next [.int .i64 8,.int .i64 0,w,lv,dv]:=tI
 have CZ:ar s2.next s2 s7:=(Yh.trans (qx.weaken Yh.next)).trans ⟨by omega,fun j hj=>by rw[wV j (by omega),afT j (by omega)]⟩
 have afU:ar s1.next s1 s7:=aU.trans (CZ.weaken im)
 have hw7:Own s7 1 w b.length (ofBytes b):=(hw.aI abX afT (fun e=>by have:=xC _ e;omega)).aI rq wV (fun e=>by have:=xC _ e;omega)
 have hG:∀j,s1.next<=j/\j<s2.next->s1.next<=j:=fun j hj=>hj.1
 have Aq:dk (fun j=>s1.next<=j) s7 [.int .i64 8,.int .i64 0,w,lv,dv] (.mk 8 0 b [] (cX [] l)):=dk.whole hw7.aG (jS.keeps CZ) (uD.keeps CZ) (fu.Pn (fun j hj=>by have:=xC j hj;omega)) (fl.mono hG) (fd.mono hG) ((rl.mono cw hG).keeps cw CZ) ((rd.mono dV hG).keeps dV CZ)
 simp-implicitDefEqProofs(disch:=omega)only[aj,QS,WP,↓reduceIte,hn,av.ga tI rfl]
 refine aA iH (by decide) (eO.keeps afU) rfl rfl rfl Aq.ok ?_
 intro s8 uj UI H4
 simp-implicitDefEqProofs(disch:=omega)only[aj,al,oneOf,QS,WP,↓reduceIte,hn,av.ga uj rfl,aV,Tryz.results48]
 exact lW.put Aq (fun j hj=>⟨by omega,by omega⟩) UI H4 (bm.trans (afU.weaken iJ)) (Nat.le_refl _)
set_option maxHeartbeats 4000000 in
theorem Yi {lib:az}(hl:lib.at 61=none)(hle:lib.at 97=none)(js:lib.at 98=none)(Al:lib.at 36=none)(yQ:lib.at 99=none)(F:Nat->Prop)(s:aq)(cs:List Value)(o:O)(ho:dk F s cs o)(lP:Small o)(k:List UInt8):
  Runs Tryz.prog lib 61 [.agg cs.toArray,.string ⟨k.toArray⟩] s (lW s (fB o k)):=by
 have jH:=ho.len
 refine Runs.enter 25 Tryz.func61 rfl hl rfl rfl ?_
 intro f hn hf
 have h0:f.get 0= .agg cs.toArray:=hf 0
 have h1:f.get 1= .string ⟨k.toArray⟩:=hf 1
 clear hf
 simp-implicitDefEqProofs(disch:=omega)only[aj,QS,↓reduceIte,hn,h0]
 refine ax ?_
 intro s1 eO bm iY
 have mO:cU.length+1=6:=rfl
 simp-implicitDefEqProofs(disch:=omega)only[aj,QS,Nat.reduceAdd,↓reduceIte,hn,jH,zO,xB]
 refine ax ?_
 intro s2 dZ aU oN
 have dg:ar s.next s s2:=bm.trans (aU.weaken (by omega))
 have uY:=eO.keeps aU
 simp-implicitDefEqProofs(disch:=omega)only[aj,ak,ad,QS,WP,↓reduceIte,hn,av.ga uY jH,mO]
 refine(zM hle F s2 cs o (ho.keeps dg)).mono ?_
 rintro _ s3 ⟨rfl,bH⟩
 have Ke:=uY.keeps bH
 have ao6:=dZ.keeps bH
 have ij:=dg.trans (bH.weaken dg.next)
 cases hh:o.has with
 |false=>
  have e:fB o k=O.none:=by unfold fB;rw[hh];rfl
  rw[e]
  simp-implicitDefEqProofs(disch:=omega)only[aj,ak,ad,QS,↓reduceIte,hn]
  refine(C1 yQ s3).mono ?_
  rintro _ q4 ⟨iE,rfl,xx,hq4⟩
  have U9:=xx.len
  have q24:=(bH).trans (hq4.weaken (bH).next)
  have iJ:=bm.next
  have im:=dg.next
  have mm:=(bH).next
  simp-implicitDefEqProofs(disch:=omega)only[aj,QS,WP,↓reduceIte,hn]
  refine aA iH (by decide) (dZ.keeps q24) rfl rfl U9 xx.ok ?_
  intro q5 vv MW Ap
  simp-implicitDefEqProofs(disch:=omega)only[aj,al,oneOf,QS,WP,↓reduceIte,hn,av.ga vv U9,aV,Tryz.results61]
  exact lW.put xx (fun j hj=>⟨by omega,by omega⟩) MW Ap (dg.trans (q24.weaken dg.next)) iJ
 |true=>
 cases o with
 |mk kind num b l d=>
 obtain⟨bv,lv,dv,lc,dc,rfl,hb,hL,hD,fb,fl,fd,rl,rd⟩:=ho.parts
 cases lP with
 |mk gu jS tT hK1 hL1 hD1=>
 have hg:fB (.mk kind num b l d) k=oi d k:=by unfold fB;rw[hh];rfl
 have Kp:=hD.keeps ij
 have l9:aR Tryz.prog s3 24 (.pointer (some ⟨s.next,4,some 6⟩))=some dv:=Ke.load X0 (off:=4) (c:=6) rfl (by simp)
 simp-implicitDefEqProofs(disch:=omega)only[aj,ad,QS,WP,↓reduceIte,hn,of4,l9,Kp.bh Tryz.underlying24]
 refine Comes.bK (fun z f t=>∃i:Nat,z=d.length-i/\i<=d.length/\(∀j (h:j<d.length),j<i->d[j].1≠k)/\ar s2.next s2 t/\f.n=25/\f.get 1= .string ⟨k.toArray⟩/\f.get 4= .pointer (some ⟨s1.next,0,some 6⟩)/\f.get 10=dv/\f.get 11= .int .i64 (d.length:Nat)/\f.get 12= .int .i64 (i:Nat))
  (fun z f t=>(z= .ret/\f.n=25/\f.get 4= .pointer (some ⟨s1.next,0,some 6⟩)/\∃iE,av t s1.next iE/\dk (fun j=>s2.next<=j) t iE (fB (.mk kind num b l d) k)/\ar s.next s t)\/(z= .exit 0/\f.n=25/\f.get 4= .pointer (some ⟨s1.next,0,some 6⟩)/\fB (.mk kind num b l d) k=O.none/\ar s2.next s2 t))
  ⟨0,rfl,by omega,fun j h h' =>by omega,bH,by simp only[ag,hn],by simp only[aa,↓reduceIte,WP,h1],by simp only[aa,↓reduceIte,WP],by simp only[aa,↓reduceIte,WP],by simp only[aa,↓reduceIte,WP],by simp only[aa,↓reduceIte];rfl⟩ ?_ ?_
 ·clear hn h0 h1 f
  rintro Q hQ z f t ⟨i,rfl,hi,hP,aD,hn,h1,h4,gK,AH,AJ⟩
  by_cases bc:i<d.length
  rotate_left
  ·obtain rfl:i=d.length:=by omega
   have d1:¬((d.length:Nat):Int)<((d.length:Nat):Int):=by omega
   simp-implicitDefEqProofs(disch:=omega)only[aj,ak,QS,↓reduceIte,hn,AH,AJ,eq_false d1]
   exact hQ _ _ _ (.inr ⟨rfl,by simp only[ag,hn],by simp only[aa,↓reduceIte,WP,h4],by rw[hg];exact M7 (fun j h=>hP j h h),aD⟩)
  have d1:(i:Int)<(d.length:Int):=by omega
  have RE:ar s.next s t:=dg.trans (aD.weaken dg.next)
  have hDt:=hD.keeps RE
  have ln:=hDt.indexAddr (P:=Tryz.prog) (k:= .i64) (x:=(i:Int)) Tryz.underlying24 qv (by omega) (by omega)
  rw[Int.toNat_natCast] at ln
  have xH:=hDt.fm (P:=Tryz.prog) Ru qv bc
  obtain⟨r,ou,gr,Ag⟩:=rd.row i bc
  have oC:=gr.len
  rw[ou] at xH
  obtain⟨xs,vt⟩:∃xs,xs=Value.string ⟨(d[i].1).toArray⟩::r:=⟨_,rfl⟩
  rw[<-vt] at xH
  have vq:xs.length=6:=by rw[vt];simp[oC]
  have UN:xs.all aJ=true:=by rw[vt,List.all_cons,gr.ok];rfl
  have X7:wN.length+1=7:=rfl
  simp-implicitDefEqProofs(disch:=omega)only[aj,ak,QS,WP,↓reduceIte,hn,gK,AH,AJ,eq_true d1,ln,xH,zE,Uy]
  refine ax ?_
  intro t1 abT zN afN
  simp-implicitDefEqProofs(disch:=omega)only[aj,QS,WP,↓reduceIte,hn,X7]
  refine aA qv (by decide) abT rfl rfl vq UN ?_
  intro t2 H7 afO U2
  have H7:av t2 t.next xs:=H7
  have Kn:ar t.next t t2:=zN.trans ⟨by omega,fun j hj=>U2 j (by omega)⟩
  have l17:aR Tryz.prog t2 9 (.pointer (some ⟨t.next,0,some 7⟩))=some (.string ⟨(d[i].1).toArray⟩):=by
   have:=H7.load (P:=Tryz.prog) Ka (off:=0) (c:=7) (by rw[vq]) (by omega)
   rw[this,vt];rfl
  have l21:aR Tryz.prog t2 26 (.pointer (some ⟨t.next,1,some 7⟩))=some (.agg r.toArray):=by
   have:=av.tn (P:=Tryz.prog) Gm iH H7 (off:=1) (c:=7) (by rw[vq]) (by omega)
   rw[this,vt,List.drop_succ_cons,List.drop_zero,List.take_of_length_le (by omega)]
  have EE:ar s2.next s2 t2:=aD.trans (Kn.weaken aD.next)
  have U0:ar s.next s t2:=dg.trans (EE.weaken dg.next)
  by_cases hke:d[i].1=k
  ·have aj5:Small d[i].2:=hD1 _ (List.getElem_mem bc)
   simp-implicitDefEqProofs(disch:=omega)only[aj,ak,ad,QS,WP,↓reduceIte,hn,h1,UG,X2,l17,kh,l21,decide_eq_true hke]
   refine(Pt js Al _ d[i].2 (Nat.le_refl _) F t2 _ (gr.keeps U0) aj5).mono ?_
   intro v t3 h3
   obtain⟨iE,rfl,nJ,gI⟩:=h3.is
   have C0:=nJ.len
   have afW:ar s2.next s2 t3:=EE.trans (gI.weaken EE.next)
   have ao8:=EE.next
   simp-implicitDefEqProofs(disch:=omega)only[aj,QS,WP,↓reduceIte,hn,h4]
   refine aA iH (by decide) (dZ.keeps afW) rfl rfl C0 nJ.ok ?_
   intro t4 ie Am wR
   simp-implicitDefEqProofs(disch:=omega)only[aj]
   have iJ:=bm.next
   refine hQ _ _ _ (.inl ⟨rfl,by simp only[ag,hn],by simp only[aa,↓reduceIte,WP,h4],iE,ie,?_,(dg.trans (afW.weaken dg.next)).trans ⟨by omega,fun j hj=>wR j (by omega)⟩⟩)
   rw[hg,U5 bc hke (fun j hj=>hP j (by omega) hj)]
   exact(nJ.aI Am wR (by omega)).mono (fun j hj=>by omega)
  ·simp-implicitDefEqProofs(disch:=omega)only[aj,QS,WP,↓reduceIte,hn,h1,AJ,UG,l17,kh,decide_eq_false hke,aB]
   refine au (d.length-(i+1)) (by omega) ⟨i+1,rfl,by omega,fun j h hj=> ?_,EE,by simp only[ag,hn],by simp only[aa,↓reduceIte,WP,h1],by simp only[aa,↓reduceIte,WP,h4],by simp only[aa,↓reduceIte,WP,gK],by simp only[aa,↓reduceIte,WP,AH],by simp only[aa,↓reduceIte];rfl⟩
   by_cases gz:j=i
   ·subst gz;exact hke
   ·exact hP j h (by omega)
 clear hn h0 h1 f
 rintro z f t (⟨rfl,hn,h4,iE,ie,xx,dY⟩|⟨rfl,hn,h4,OE,aD⟩)
 ·simp-implicitDefEqProofs(disch:=omega)only[aj,al,oneOf,QS,↓reduceIte,hn,h4,av.ga ie xx.len,aV,Tryz.results61]
  have:=dg.next
  exact⟨iE,rfl,xx.mono (fun j hj=>by omega),dY⟩
 ·rw[OE]
  have RE:ar s.next s t:=dg.trans (aD.weaken dg.next)
  simp-implicitDefEqProofs(disch:=omega)only[aj,ak,ad,↓reduceIte]
  refine(C1 yQ t).mono ?_
  rintro _ q4 ⟨iE,rfl,xx,hq4⟩
  have U9:=xx.len
  have q24:=(aD).trans (hq4.weaken (aD).next)
  have iJ:=bm.next
  have im:=dg.next
  have mm:=(aD).next
  simp-implicitDefEqProofs(disch:=omega)only[aj,QS,WP,↓reduceIte,hn,h4]
  refine aA iH (by decide) (dZ.keeps q24) rfl rfl U9 xx.ok ?_
  intro q5 vv MW Ap
  simp-implicitDefEqProofs(disch:=omega)only[aj,al,oneOf,QS,WP,↓reduceIte,hn,h4,av.ga vv U9,aV,Tryz.results61]
  exact lW.put xx (fun j hj=>⟨by omega,by omega⟩) MW Ap (dg.trans (q24.weaken dg.next)) iJ
end Go.Proofs.YtdfjfncifneocaaGreat
namespace Go.Cl
end Go.Cl
namespace Go.Proofs.YtdfjfncifneocaaGreat
open Go.Cl Go.Lib
set_option maxHeartbeats 4000000 in
theorem Yj {lib:az}(hl:lib.at 89=none)(js:lib.at 98=none)(Al:lib.at 36=none)(F:Nat->Prop)(s:aq)(x:Value)(l:List O)(lc:List Value)(hx:aN s 5 x l.length lc)(rl:aS dk 5 F s l lc)(yQ:l.length<=100000)(hL1:∀o∈l,Small o):
  Runs Tryz.prog lib 89 [x] s (lW s (.mk 6 0 [] l [])):=by
 refine Runs.enter 22 Tryz.func89 rfl hl rfl rfl ?_
 intro f hn hf
 have h0:f.get 0=x:=hf 0
 clear hf
 simp-implicitDefEqProofs(disch:=omega)only[aj,↓reduceIte,zO,xB]
 refine ax ?_
 intro s1 eO bm iY
 have mO:cU.length+1=6:=rfl
 simp-implicitDefEqProofs(disch:=omega)only[aj,ae,QS,↓reduceIte,hn,mO,bO1,zO,xB]
 refine ax ?_
 intro s2 dZ aU oN
 simp-implicitDefEqProofs(disch:=omega)only[aj,QS,WP,↓reduceIte,hn,mO]
 refine aA iH (by decide) dZ rfl rfl rfl rfl ?_
 intro s3 jt M8 U7
 have jt:av s3 s1.next [.int .i64 6,.int .i64 0,.slice none 0 0,.slice none 0 0,.slice none 0 0]:=jt
 have Yk:ar s1.next s1 s3:=aU.trans ⟨by omega,fun j hj=>U7 j (by omega)⟩
 have ij:ar s.next s s3:=bm.trans (Yk.weaken (by omega))
 have Ke:=eO.keeps Yk
 have ZK:=hx.keeps ij
 have iJ:=bm.next
 have ao9:=Yk.next
 have afX:=jt.lt
 simp-implicitDefEqProofs(disch:=omega)only[aj,ad,QS,WP,↓reduceIte,hn,h0,ZK.bh Tryz.underlying23]
 obtain⟨FF,SM⟩:∃FF:Value->Nat->Prop,FF=fun v j=>s3.next<=j/\¬(fun _=>False) j/\aE v≠some j:=⟨_,rfl⟩
 refine Comes.bK (fun z f t=>∃(i:Nat) (y:Value) (LC:List Value),z=l.length-i/\i<=l.length/\Own t 5 y i LC/\aS dk 5 (FF y) t (l.take i) LC/\aH s3.next y/\av t s1.next [.int .i64 6,.int .i64 0,.slice none 0 0,y,.slice none 0 0]/\ar s1.next s1 t/\s3.next<=t.next/\f.n=22/\f.get 2= .pointer (some ⟨s.next,0,some 6⟩)/\f.get 3= .pointer (some ⟨s1.next,0,some 6⟩)/\f.get 7=x/\f.get 8= .int .i64 (l.length:Nat)/\f.get 9= .int .i64 (i:Nat))
  (fun z f t=>z= .exit 0/\∃(y:Value) (LC:List Value),Own t 5 y l.length LC/\aS dk 5 (FF y) t l LC/\aH s3.next y/\av t s1.next [.int .i64 6,.int .i64 0,.slice none 0 0,y,.slice none 0 0]/\ar s1.next s1 t/\f.n=22/\f.get 2= .pointer (some ⟨s.next,0,some 6⟩)/\f.get 3= .pointer (some ⟨s1.next,0,some 6⟩))
  ⟨0,.slice none 0 0,[],rfl,by omega,.nil,by rw[List.take_zero];exact aS.nil,aH.nil _,jt,Yk,Nat.le_refl _,by simp only[ag,hn],by simp only[aa,↓reduceIte,WP],by simp only[aa,↓reduceIte,WP],by simp only[aa,↓reduceIte,WP],by simp only[aa,↓reduceIte,WP],by simp only[aa,↓reduceIte];rfl⟩ ?_ ?_
 ·clear hn h0 f
  rintro Q hQ z f s6 ⟨i,y,LC,rfl,hi,hy,hR,kJ,ks,eD,X6,hn,h2,h3,h7,h8,h9⟩
  have ZU:ar s.next s s6:=bm.trans (eD.weaken iJ)
  have UH:=hx.keeps ZU
  by_cases bc:i<l.length
  rotate_left
  ·obtain rfl:i=l.length:=by omega
   rw[List.take_length] at hR
   have d1:¬((l.length:Nat):Int)<((l.length:Nat):Int):=by omega
   simp-implicitDefEqProofs(disch:=omega)only[aj,QS,↓reduceIte,hn,h8,h9,eq_false d1]
   exact hQ _ _ _ ⟨rfl,y,LC,hy,hR,kJ,ks,eD,by simp only[ag,hn],by simp only[aa,↓reduceIte,WP,h2],by simp only[aa,↓reduceIte,WP,h3]⟩
  have vE:aE y≠some s1.next:=fun e=>by have:=kJ _ e;omega
  have d1:(i:Int)<(l.length:Int):=by omega
  have ln:=UH.indexAddr (P:=Tryz.prog) (k:= .i64) (x:=(i:Int)) Tryz.underlying23 iH (by omega) (by omega)
  rw[Int.toNat_natCast] at ln
  have iF:=UH.fm (P:=Tryz.prog) Gm iH bc
  have uZ:=(rl.row i bc).keeps ZU
  obtain⟨xs,vt⟩:∃xs,xs=(lc.drop (i*5)).take 5:=⟨_,rfl⟩
  rw[<-vt] at iF uZ
  have vq:=uZ.len
  simp-implicitDefEqProofs(disch:=omega)only[aj,QS,WP,↓reduceIte,hn,h7,h8,h9,eq_true d1,ln,iF,zO,xB]
  refine ax ?_
  intro s7 tI mF rq
  simp-implicitDefEqProofs(disch:=omega)only[aj,QS,WP,↓reduceIte,hn,mO]
  refine aA iH (by decide) tI rfl rfl vq uZ.ok ?_
  intro s8 uj UI H4
  have uj:av s8 s6.next xs:=uj
  have iy:ar s6.next s6 s8:=mF.trans ⟨by omega,fun j hj=>H4 j (by omega)⟩
  have ks:=ks.keeps iy
  have hy:=hy.keeps iy
  have hR:=hR.keeps cw iy
  have uZ:=uZ.keeps iy
  simp-implicitDefEqProofs(disch:=omega)only[aj]
  obtain⟨A,hA⟩:∃A:Nat->Bool,A=fun j=>decide (j<s8.next):=⟨_,rfl⟩
  have nH:∀j,A j=true->j<s8.next:=by
   intro j h
   rw[hA] at h
   exact of_decide_eq_true h
  have Ao:∀j,j<s8.next->A j=true:=fun j h=>by rw[hA];exact decide_eq_true h
  refine LB.da.fL A nH 1 1 (by kernel_rfl) (by kernel_rfl) ?_
  have eI:=ar.spare s8 1
  have X3:(spare s8 1).next=s8.next+1:=bU _ _
  have zK:∀k,LA.fg A (some (.pointer (some ⟨s1.next,k,some 6⟩)))=true:=fun k=>LA.cD (A:=A) (i:=s1.next) (Ao _ ks.lt)
  have Gq:∀k,LA.fg A (some (.pointer (some ⟨s6.next,k,some 6⟩)))=true:=fun k=>LA.cD (A:=A) (i:=s6.next) (Ao _ uj.lt)
  have l8:aR Tryz.prog (spare s8 1) 23 (.pointer (some ⟨s1.next,3,some 6⟩))=some y:=(ks.keeps eI).load UA (off:=3) (c:=6) rfl (by simp)
  have l9:aR Tryz.prog (spare s8 1) 26 (.pointer (some ⟨s6.next,0,some 6⟩))=some (.agg xs.toArray):=av.bu Gm (by rw[vq];exact iH) (uj.keeps eI) (by rw[vq])
  have uZ:=uZ.keeps eI
  simp-implicitDefEqProofs(disch:=omega)only[aj,ak,bS,bT,Nat.sub_self,ad,ae,QS,WP,↓reduceIte,hn,h3,ZO,zK,Gq,l8,l9,hy.self,uZ.self]
  refine(Pt js Al _ l[i] (Nat.le_refl _) F (spare s8 1) _ uZ (hL1 _ (List.getElem_mem bc))).mono ?_
  intro v9 s9 h9'
  obtain⟨UJ,rfl,Aq,sK⟩:=h9'.is
  have hn9:=sK.next
  refine⟨fun _=>LA.ar.OW nH (sK.weaken (by omega)),?_⟩
  have yp:=Aq.len
  simp-implicitDefEqProofs(disch:=omega)only[fM (cs:=UJ.toArray) Tryz.underlying23 iH zO xB rfl yp (by decide)]
  refine LB.dx (base:=s8.next) yp (by omega) (Nat.le_refl _) ?_
  intro bs sa m8 gn MX Rz UL
  have gJ:ar s8.next s8 sa:=(eI.trans (sK.weaken (by omega))).trans MX
  have Mn:=gJ.next
  have WI:dk (FF y) sa UJ l[i]:=by
   refine(Aq.turns (u:= .pointer (some ⟨s8.next,0,none⟩)) (aY.aI Rz UL) (fun j hj e=> ?_)).mono (fun j hj=> ?_)
   ·have e:some s8.next=some j:=e
    injection e with e;omega
   ·rw[SM];exact⟨by omega,fun h=>h,fun e=>by have:=hy.g8 _ e;omega⟩
  simp-implicitDefEqProofs(disch:=omega)only[aj,bT,ad,QS,WP,↓reduceIte,hn]
  refine LB.j9 Tryz.underlying23 Tryz.underlying23 (.inl ⟨_,rfl⟩) iH byO zO rfl (hy.keeps gJ) m8.aG.src yp (by decide) WI.ok (by omega) (by omega) (base:=s3.next) kJ (by omega) (fun h=>absurd rfl h) (fun j hj=>by have:=nH j hj;omega) ?_
  intro y' sb WJ ZR oO qU
  have Eh:=oO.next
  have hR8:=hR.keeps cw gJ
  rw[SM] at hR8 WI
  have hR9:=hR8.grow cw yp WI oO qU
  rw[show(fun j=>s3.next<=j/\¬(fun _=>False) j/\aE y' ≠some j)=FF y' by rw[SM]] at hR9
  have abI:aE y' ≠some s1.next:=fun e=>by have:=ZR _ e;omega
  simp-implicitDefEqProofs(disch:=omega)only[aj,bS,bT,Nat.reduceSub,QS,WP,↓reduceIte,hn,h3,ZO]
  refine LB.eN EA (by decide) ((ks.keeps gJ).turns oO vE) (off:=3) (c:=6) rfl (vs:=[y']) WJ.aG.su rfl (by simp) (by simp[WJ.aG.aJ]) (fun h=>absurd rfl h) ?_
  intro sc DP wU sL
  have DP:av sc s1.next [.int .i64 6,.int .i64 0,.slice none 0 0,y',.slice none 0 0]:=DP
  have huc:aY (.pointer (some ⟨s1.next,0,none⟩)) sb sc:=aY.aI wU sL
  have RA:∀j,FF y' j->aE (.pointer (some ⟨s1.next,0,none⟩))≠some j:=fun j hj e=>by
   have e:some s1.next=some j:=e
   injection e with e
   rw[SM] at hj;have:=hj.1;omega
  simp-implicitDefEqProofs(disch:=omega)only[aj,bT,Nat.reduceSub,QS,WP,↓reduceIte,hn,h9,aB]
  have aj6:=eD.next
  refine au (l.length-(i+1)) (by omega) ⟨i+1,y',LC++UJ,rfl,by omega,WJ.aI wU sL abI,?_,ZR,DP,?_,by omega,by simp only[ag,hn],by simp only[aa,↓reduceIte,WP,h2],by simp only[aa,↓reduceIte,WP,h3],by simp only[aa,↓reduceIte,WP,h7],by simp only[aa,↓reduceIte,WP,h8],by simp only[aa,↓reduceIte];rfl⟩
  ·rw[List.take_add_one,List.getElem?_eq_getElem bc]
   exact hR9.turns cw huc RA
  ·exact(((eD.trans (iy.weaken aj6)).trans (gJ.weaken (by have:=iy.next;omega))).trans ((oO.keeps kJ (by omega)).weaken (by omega))).trans ⟨by omega,fun j hj=>sL j (by omega)⟩
 clear hn h0 f
 rintro z f t ⟨rfl,y,LC,hy,hR,kJ,ks,aD,hn,h2,h3⟩
 have H8:dk (fun j=>s3.next<=j) t [.int .i64 6,.int .i64 0,.slice none 0 0,y,.slice none 0 0] (.mk 6 0 [] l []):=dk.whole .nil hy.aG .nil trivial (fu.fresh kJ) trivial (hR.mono cw (fun j hj=>by rw[SM] at hj;exact hj.1)) aS.nil
 simp-implicitDefEqProofs(disch:=omega)only[aj,QS,WP,↓reduceIte,hn,h2,h3,av.ga ks rfl]
 refine aA iH (by decide) (eO.keeps aD) rfl rfl rfl H8.ok ?_
 intro s7 tI rq wV
 simp-implicitDefEqProofs(disch:=omega)only[aj,al,oneOf,QS,WP,↓reduceIte,hn,h2,av.ga tI rfl,aV,Tryz.results89]
 exact lW.put H8 (fun j hj=>⟨by omega,by omega⟩) rq wV (bm.trans (aD.weaken iJ)) (Nat.le_refl _)
end Go.Proofs.YtdfjfncifneocaaGreat
