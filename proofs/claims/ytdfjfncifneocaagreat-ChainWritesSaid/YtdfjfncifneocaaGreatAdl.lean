import Derived.Test.YtdfjfncifneocaaGreatFixY
import Derived.Test.YtdfjfncifneocaaGreatPrA
import Derived.Test.YtdfjfncifneocaaGreatDraw
import Derived.Test.YtdfjfncifneocaaGreatStoP
import Derived.Test.YtdfjfncifneocaaGreatCutA
set_option linter.unusedSimpArgs false
set_option linter.unusedVariables false
set_option maxRecDepth 100000
namespace Go.Cl.Fx
open Go.Cl.Rw Go.Cl.Sto
theorem Qh (p:List UInt8×Nat)(x:Int):ko p (x%2) 1=ko p x 1:=by
 show lO p ((x%2).fdiv (2^0))=lO p (x.fdiv (2^0))
 have e1:(x%2).fdiv (2^0)=x%2:=by simp
 have e2:x.fdiv (2^0)=x:=by simp
 rw[e1,e2]
 unfold lO uA
 rw[show x%2%2=x%2 by omega]
def Sc (i:Nat):List Nat:=(List.range 288).map fun s=>if s<i then(ks s).2 else 0
theorem To:Sc 288=dp:=by
 unfold Sc dp
 refine List.map_congr_left (fun s hs=> ?_)
 rw[if_pos (List.mem_range.1 hs)]
theorem Tp (g:Nat->Nat)(n:Nat):List.replicate n 0=(List.range n).map fun s=>if s<0 then g s else 0:=by
 refine List.ext_getElem (by simp) (fun i h1 h2=>by simp)
theorem Qi:List.replicate 288 0=Sc 0:=Tp (fun s=>(ks s).2) 288
theorem Tq {i:Nat}(h:i<288):(Sc i).set i (ks i).2=Sc (i+1):=by
 unfold Sc
 refine List.ext_getElem (by simp) (fun j h1 h2=> ?_)
 rw[List.getElem_set]
 simp only[List.getElem_map,List.getElem_range]
 by_cases c:i=j
 ·subst c;simp
 ·rw[if_neg c]
  by_cases c2:j<i
  ·rw[if_pos c2,if_pos (by omega)]
  ·rw[if_neg c2,if_neg (by omega)]
def Qj (i:Nat):List Nat:=(List.range 32).map fun s=>if s<i then 5 else 0
theorem Ts:Qj 32=Wm:=by decide
theorem Qk:List.replicate 32 0=Qj 0:=by decide
theorem Tt {i:Nat}(h:i<32):(Qj i).set i 5=Qj (i+1):=by
 unfold Qj
 refine List.ext_getElem (by simp) (fun j h1 h2=> ?_)
 rw[List.getElem_set]
 simp only[List.getElem_map,List.getElem_range]
 by_cases c:i=j
 ·subst c;simp
 ·rw[if_neg c]
  by_cases c2:j<i
  ·rw[if_pos c2,if_pos (by omega)]
  ·rw[if_neg c2,if_neg (by omega)]
end Go.Cl.Fx
namespace Go.Proofs.YtdfjfncifneocaaGreat
open Go.Cl Go.Cl.Rw Go.Cl.Sto Go.Cl.Fx
set_option maxHeartbeats 4000000 in
theorem qj {lib:ay}(hl:lib.at 182=none)(kx:lib.at 179=none)(base:Nat)(s:aq)(j:Nat)(v:Value)(p:List UInt8×Nat)(n w:Nat)(h:fT base s j v p)(hb:base<=s.next)(hp:p.2+w<=1000000000)(hw:w<=16):
  Runs Tryz.prog lib 182 [jH j,.int .i64 (n:Int),.int .i64 (w:Int)] s fun _ s' =>jA base j v s (pn p n w) s' :=by
 refine Runs.enter 20 Tryz.func182 rfl hl rfl rfl ?_
 intro f hn hf
 have h0:f.get 0=jH j:=hf 0
 have h1:f.get 1= .int .i64 (n:Int):=hf 1
 have h2:f.get 2= .int .i64 (w:Int):=hf 2
 clear hf
 simp-implicitDefEqProofs(disch:=omega)only[ai,Nat.reduceLT,↓reduceIte,hn,h2,aD]
 refine Comes.eY (fun q f s' =>∃(k:Nat) (p1:List UInt8×Nat),q=k/\k<=w/\jA base j v s p1 s' /\p1.2+k=p.2+w/\pn p1 n k=pn p n w/\f.n=20/\f.get 0=jH j/\f.get 1= .int .i64 (n:Int)/\f.get 6= .int .i64 ((k:Int)-1))
  ⟨w,p,rfl,by omega,jA.start h,rfl,rfl,by simp only[ae,hn],by simp only[aa,↓reduceIte,Nat.reduceEqDiff,h0],by simp only[aa,↓reduceIte,Nat.reduceEqDiff,h1],by simp only[aa,↓reduceIte]⟩ ?_
 clear hn h0 h1 h2 f
 rintro k f s1 ⟨_,p1,rfl,hk,⟨v1,kH,qE⟩,cJ,Sa,hn,h0,h1,h6⟩
 by_cases zA:k=0
 ·subst zA
  have d1:¬((0:Nat):Int)-1>=0:=by omega
  simp-implicitDefEqProofs(disch:=omega)only[ai,ak,Nat.reduceLT,↓reduceIte,hn,h6,eq_false d1,Tryz.results182]
  rw[<-Sa]
  exact⟨v1,kH,qE⟩
 obtain⟨m,rfl⟩:∃m,k=m+1:=⟨k-1,by omega⟩
 have e1:((m+1:Nat):Int)-1=(m:Int):=by omega
 rw[e1] at h6
 have d1:(m:Int)>=0:=by omega
 simp-implicitDefEqProofs(disch:=omega)only[ai,aj,ad,Nat.reduceLT,Nat.reduceEqDiff,↓reduceIte,hn,h0,h1,h6,eq_true d1,bd Tryz.underlying3 Tryz.underlying115,kr,xC,ia,FN]
 refine(r9 kx base s1 j v1 p1 ((n:Int).fdiv (2^m)%2) 1 kH (Nat.le_trans hb qE.next) (by omega)).mono ?_
 rintro _ s2 ⟨v2,iT,xD⟩
 rw[HL,Qh] at iT
 simp-implicitDefEqProofs(disch:=omega)only[ai,Nat.reduceLT,Nat.reduceEqDiff,↓reduceIte,hn,h6,aD]
 exact au m (by omega) ⟨m,_,rfl,by omega,⟨v2,iT,qE.trans xD⟩,by rw[ly];omega,Sa,by simp only[ae,hn],by simp only[aa,↓reduceIte,Nat.reduceEqDiff,h0],by simp only[aa,↓reduceIte,Nat.reduceEqDiff,h1],by simp only[aa,↓reduceIte]⟩
def Tu (s:aq)(v:Value)(s' :aq):Prop:=∃a b,v= .tuple #[a,b]/\Own s' 1 a 288 (fh dp)/\Own s' 1 b 32 (fh Wm)/\aN s.next a/\aN s.next b/\ar s.next s s'
set_option maxHeartbeats 4000000 in
theorem Ka {lib:ay}(hl:lib.at 164=none)(s:aq):Runs Tryz.prog lib 164 [] s (Tu s):=by
 refine Runs.enter 42 Tryz.func164 rfl hl rfl rfl ?_
 intro f hn hf
 clear hf
 simp-implicitDefEqProofs(disch:=omega)only[ai,Nat.reduceLT,↓reduceIte,hn]
 obtain⟨B,hB⟩:∃B:Nat->Bool,B=fun j=>decide (j<s.next):=⟨_,rfl⟩
 have OM:∀j,B j=true->j<s.next:=by
  intro j h
  rw[hB] at h
  exact of_decide_eq_true h
 refine LB.cF.dy B OM 0 2 (by kernel_rfl) (by kernel_rfl) ?_
 have vb:=ar.spare s 2
 have YF:(spare s 2).next=s.next+2:=bT _ _
 have mk1:∀t:aq,eu Tryz.prog t 195 (.int .i64 288) (.int .i64 288)=aX t (List.replicate 288 (.int .i64 0)) 288 1:=fun t=>vF (n:=288) ni cG Qg J9 (by decide) (by decide)
 have mk2:∀t:aq,eu Tryz.prog t 195 (.int .i64 32) (.int .i64 32)=aX t (List.replicate 32 (.int .i64 0)) 32 1:=fun t=>vF (n:=32) ni cG Qg J9 (by decide) (by decide)
 simp-implicitDefEqProofs(disch:=omega)only[ai,bp,↓reduceIte,mk1]
 refine LB.bF (base:=s.next) (by rw[List.length_replicate,Nat.mul_one]) (by omega) (Nat.le_refl _) ?_
 intro a s1 ha X0 bB jb acO
 simp-implicitDefEqProofs(disch:=omega)only[ai,bp,Nat.reduceLT,↓reduceIte,hn,mk2]
 refine LB.bF (base:=s.next) (by rw[List.length_replicate,Nat.mul_one]) (by omega) (by omega) ?_
 intro b s2 hb XM bD na HO
 have df:ar s.next s s2:=⟨by omega,fun i hi=>by rw[HO i (by omega),acO i (by omega),vb.get i hi]⟩
 have CZ:∀i,aJ a=some i->aJ b≠some i:=fun i h1 h2=>by
  rw[X0] at h1;rw[XM] at h2
  injection h1 with h1;injection h2 with h2;omega
 have hba:∀i,aJ b=some i->aJ a≠some i:=fun i h1 h2=>CZ i h2 h1
 have Sd:aN s.next a:=fun i h=>by rw[X0] at h;injection h with h;omega
 have GB:aN s.next b:=fun i h=>by rw[XM] at h;injection h with h;omega
 have ug:Own s2 1 a 288 (fh (Sc 0)):=by
  rw[<-Qi,<-xL]
  exact ha.bc na HO (fun e=>by rw[X0] at e;injection e with e;omega)
 have eR:Own s2 1 b 32 (fh (Qj 0)):=by rw[<-Qk,<-xL];exact hb
 clear ha hb
 simp-implicitDefEqProofs(disch:=omega)only[ai,bn,bp,Nat.reduceLT,Nat.reduceEqDiff,↓reduceIte,ai,Nat.reduceLT,Nat.reduceEqDiff,↓reduceIte,hn,ug.self,eR.self]
 refine Comes.bC (fun z f t=>∃i:Nat,z=288-i/\i<=288/\Own t 1 a 288 (fh (Sc i))/\Own t 1 b 32 (fh (Qj 0))/\ar s.next s t/\f.n=42/\f.get 2=a/\f.get 3=b/\f.get 4= .int .i64 (i:Nat))
  (fun z f t=>z= .exit 0/\Own t 1 a 288 (fh dp)/\Own t 1 b 32 (fh (Qj 0))/\ar s.next s t/\f.n=42/\f.get 2=a/\f.get 3=b)
  ⟨0,rfl,by omega,ug,eR,df,by simp only[ae,hn],by simp only[aa,↓reduceIte,Nat.reduceEqDiff],by simp only[aa,↓reduceIte,Nat.reduceEqDiff],by simp only[aa,↓reduceIte];rfl⟩ ?_ ?_
 ·clear hn f ug eR
  rintro Q hQ z f t ⟨i,rfl,hi,ug,eR,aA,hn,h2,h3,h4⟩
  by_cases aP:i<288
  rotate_left
  ·obtain rfl:i=288:=by omega
   have d1:¬((288:Nat):Int)<288:=by omega
   rw[To] at ug
   simp-implicitDefEqProofs(disch:=omega)only[ai,Nat.reduceLT,↓reduceIte,hn,h4,eq_false d1]
   exact hQ _ _ _ ⟨rfl,ug,eR,aA,by simp only[ae,hn],by simp only[aa,↓reduceIte,Nat.reduceEqDiff,h2],by simp only[aa,↓reduceIte,Nat.reduceEqDiff,h3]⟩
  have d1:(i:Int)<288:=by omega
  have dI:=ug.aH.indexAddr (P:=Tryz.prog) (k:= .i64) (x:=(i:Int)) ni cG (by omega) (by omega)
  rw[Int.toNat_natCast] at dI
  have FU:=Tq aP
  have key:∀(f' :aR) (w:Nat),(ks i).2=w->f'.n=42->f'.get 2=a->f'.get 3=b->f'.get 4= .int .i64 (i:Nat)->∀t2,Own t2 1 a 288 ((fh (Sc i)).set i (.int .i64 ((w:Nat):Int)))->bm a t t2->Own t2 1 a 288 (fh (Sc (i+1)))/\Own t2 1 b 32 (fh (Qj 0))/\ar s.next s t2:=by
   intro f' w hw _ _ _ _ t2 h1 h2
   rw[xK,<-hw,FU] at h1
   exact⟨h1,eR.turns h2 (fun j hj=>hba j hj),aA.trans (h2.keeps Sd aA.next)⟩
  unfold ks at key
  by_cases c1:i<144
  ·have d2:(i:Int)<=143:=by omega
   rw[if_pos c1] at key
   simp-implicitDefEqProofs(disch:=omega)only[ai,Nat.reduceLT,Nat.reduceEqDiff,↓reduceIte,hn,h2,h4,eq_true d1,eq_true d2,dI]
   refine dq cG ug aP rfl ?_
   intro t2 pQ fm
   obtain⟨k1,k2,k3⟩:=key f 8 rfl hn h2 h3 h4 t2 pQ fm
   simp-implicitDefEqProofs(disch:=omega)only[ai,Nat.reduceLT,Nat.reduceEqDiff,↓reduceIte,hn,h4,aD]
   exact au (288-(i+1)) (by omega) ⟨i+1,rfl,by omega,k1,k2,k3,by simp only[ae,hn],by simp only[aa,↓reduceIte,Nat.reduceEqDiff,h2],by simp only[aa,↓reduceIte,Nat.reduceEqDiff,h3],by simp only[aa,↓reduceIte];rfl⟩
  have d2:¬(i:Int)<=143:=by omega
  rw[if_neg c1] at key
  by_cases c2:i<256
  ·have d3:(i:Int)<=255:=by omega
   rw[if_pos c2] at key
   simp-implicitDefEqProofs(disch:=omega)only[ai,Nat.reduceLT,Nat.reduceEqDiff,↓reduceIte,hn,h2,h4,eq_true d1,eq_false d2,eq_true d3,dI]
   refine dq cG ug aP rfl ?_
   intro t2 pQ fm
   obtain⟨k1,k2,k3⟩:=key f 9 rfl hn h2 h3 h4 t2 pQ fm
   simp-implicitDefEqProofs(disch:=omega)only[ai,Nat.reduceLT,Nat.reduceEqDiff,↓reduceIte,hn,h4,aD]
   exact au (288-(i+1)) (by omega) ⟨i+1,rfl,by omega,k1,k2,k3,by simp only[ae,hn],by simp only[aa,↓reduceIte,Nat.reduceEqDiff,h2],by simp only[aa,↓reduceIte,Nat.reduceEqDiff,h3],by simp only[aa,↓reduceIte];rfl⟩
  have d3:¬(i:Int)<=255:=by omega
  rw[if_neg c2] at key
  by_cases c3:i<280
  ·have d4:(i:Int)<=279:=by omega
   rw[if_pos c3] at key
   simp-implicitDefEqProofs(disch:=omega)only[ai,Nat.reduceLT,Nat.reduceEqDiff,↓reduceIte,hn,h2,h4,eq_true d1,eq_false d2,eq_false d3,eq_true d4,dI]
   refine dq cG ug aP rfl ?_
   intro t2 pQ fm
   obtain⟨k1,k2,k3⟩:=key f 7 rfl hn h2 h3 h4 t2 pQ fm
   simp-implicitDefEqProofs(disch:=omega)only[ai,Nat.reduceLT,Nat.reduceEqDiff,↓reduceIte,hn,h4,aD]
   exact au (288-(i+1)) (by omega) ⟨i+1,rfl,by omega,k1,k2,k3,by simp only[ae,hn],by simp only[aa,↓reduceIte,Nat.reduceEqDiff,h2],by simp only[aa,↓reduceIte,Nat.reduceEqDiff,h3],by simp only[aa,↓reduceIte];rfl⟩
  ·have d4:¬(i:Int)<=279:=by omega
   rw[if_neg c3] at key
   simp-implicitDefEqProofs(disch:=omega)only[ai,Nat.reduceLT,Nat.reduceEqDiff,↓reduceIte,hn,h2,h4,eq_true d1,eq_false d2,eq_false d3,eq_false d4,dI]
   refine dq cG ug aP rfl ?_
   intro t2 pQ fm
   obtain⟨k1,k2,k3⟩:=key f 8 rfl hn h2 h3 h4 t2 pQ fm
   simp-implicitDefEqProofs(disch:=omega)only[ai,Nat.reduceLT,Nat.reduceEqDiff,↓reduceIte,hn,h4,aD]
   exact au (288-(i+1)) (by omega) ⟨i+1,rfl,by omega,k1,k2,k3,by simp only[ae,hn],by simp only[aa,↓reduceIte,Nat.reduceEqDiff,h2],by simp only[aa,↓reduceIte,Nat.reduceEqDiff,h3],by simp only[aa,↓reduceIte];rfl⟩
 clear hn f ug eR
 rintro z f t ⟨rfl,ug,eR,aA,hn,h2,h3⟩
 simp-implicitDefEqProofs(disch:=omega)only[ai,Nat.reduceLT,↓reduceIte,hn]
 refine Comes.bC (fun z f t=>∃i:Nat,z=32-i/\i<=32/\Own t 1 a 288 (fh dp)/\Own t 1 b 32 (fh (Qj i))/\ar s.next s t/\f.n=42/\f.get 2=a/\f.get 3=b/\f.get 5= .int .i64 (i:Nat))
  (fun z f t=>z= .exit 3/\Own t 1 a 288 (fh dp)/\Own t 1 b 32 (fh Wm)/\ar s.next s t/\f.n=42/\f.get 2=a/\f.get 3=b)
  ⟨0,rfl,by omega,ug,eR,aA,by simp only[ae,hn],by simp only[aa,↓reduceIte,Nat.reduceEqDiff,h2],by simp only[aa,↓reduceIte,Nat.reduceEqDiff,h3],by simp only[aa,↓reduceIte];rfl⟩ ?_ ?_
 ·clear hn h2 h3 f ug eR aA
  rintro Q hQ z f t ⟨i,rfl,hi,ug,eR,aA,hn,h2,h3,h5⟩
  by_cases aP:i<32
  rotate_left
  ·obtain rfl:i=32:=by omega
   have d1:¬((32:Nat):Int)<32:=by omega
   rw[Ts] at eR
   simp-implicitDefEqProofs(disch:=omega)only[ai,Nat.reduceLT,↓reduceIte,hn,h5,eq_false d1]
   exact hQ _ _ _ ⟨rfl,ug,eR,aA,by simp only[ae,hn],by simp only[aa,↓reduceIte,Nat.reduceEqDiff,h2],by simp only[aa,↓reduceIte,Nat.reduceEqDiff,h3]⟩
  have d1:(i:Int)<32:=by omega
  have dI:=eR.aH.indexAddr (P:=Tryz.prog) (k:= .i64) (x:=(i:Int)) ni cG (by omega) (by omega)
  rw[Int.toNat_natCast] at dI
  simp-implicitDefEqProofs(disch:=omega)only[ai,Nat.reduceLT,Nat.reduceEqDiff,↓reduceIte,hn,h3,h5,eq_true d1,dI]
  refine dq cG eR aP rfl ?_
  intro t2 pQ fm
  have pQ:Own t2 1 b 32 ((fh (Qj i)).set i (.int .i64 ((5:Nat):Int))):=pQ
  rw[xK,Tt aP] at pQ
  simp-implicitDefEqProofs(disch:=omega)only[ai,Nat.reduceLT,Nat.reduceEqDiff,↓reduceIte,hn,h5,aD]
  exact au (32-(i+1)) (by omega) ⟨i+1,rfl,by omega,ug.turns fm (fun j hj=>CZ j hj),pQ,aA.trans (fm.keeps GB aA.next),by simp only[ae,hn],by simp only[aa,↓reduceIte,Nat.reduceEqDiff,h2],by simp only[aa,↓reduceIte,Nat.reduceEqDiff,h3],by simp only[aa,↓reduceIte];rfl⟩
 clear hn h2 h3 f ug eR aA
 rintro z f t ⟨rfl,ug,eR,aA,hn,h2,h3⟩
 simp-implicitDefEqProofs(disch:=omega)only[ai,al,oneOf,Nat.reduceLT,Nat.reduceEqDiff,↓reduceIte,hn,h2,h3,Tryz.results164]
 exact⟨a,b,rfl,ug,eR,Sd,GB,aA⟩
end Go.Proofs.YtdfjfncifneocaaGreat
set_option linter.unusedSimpArgs false
set_option linter.unusedVariables false
set_option maxRecDepth 100000
namespace Go.Cl.Fx
open Go.Cl.Rw Go.Cl.Sto
theorem Zd (P:Program)(t:TypeId)(k' :IntKind){x k:Nat}(hk:k<=16)(hx:x*2^k<=1000000):du P .shl t (.int .i64 ((x:Nat):Int)) (.int k' (k:Nat))=some (.int .i64 ((x*2^k:Nat):Int)):=by
 rw[sM P t .i64 _ _ k' (by omega)]
 have e:min ((k:Nat):Int).toNat IntKind.i64.bits=k:=by
  have:IntKind.i64.bits=64:=rfl
  rw[this,Int.toNat_natCast];omega
 have e2:((x:Nat):Int)*(2:Int)^k=((x*2^k:Nat):Int):=by norm_cast
 rw[e,e2,aD (by omega)]
theorem LZ {k m:Nat}(h:k<=m):2^k<=2^m:=Nat.pow_le_pow_right (by omega) h
end Go.Cl.Fx
namespace Go.Proofs.YtdfjfncifneocaaGreat
open Go.Cl Go.Cl.Rw Go.Cl.Sto Go.Cl.Fx
set_option maxHeartbeats 4000000 in
theorem BV {lib:ay}(hl:lib.at 183=none)(s:aq)(n:Nat)(h3:3<=n)(hn:n<=258):
  Runs Tryz.prog lib 183 [.int .i64 (n:Int)] s (Qd s (fo n)):=by
 refine Runs.enter 35 Tryz.func183 rfl hl rfl rfl ?_
 intro f fp hf
 have h0:f.get 0= .int .i64 (n:Int):=hf 0
 clear hf
 by_cases c:n=258
 ·have d1:(n:Int)=258:=by omega
  have e:fo n=(285,0,0):=by unfold fo;rw[if_pos c]
  simp-implicitDefEqProofs(disch:=omega)only[ai,al,oneOf,Nat.reduceLT,Nat.reduceEqDiff,↓reduceIte,fp,h0,eq_true d1,Tryz.results183]
  rw[e];exact⟨rfl,rfl⟩
 have d1:¬(n:Int)=258:=by omega
 have j6:=(HJ h3 (by omega)).1
 rw[<-j6]
 generalize hLD:J1 n 20=LD
 simp-implicitDefEqProofs(disch:=omega)only[ai,Nat.reduceLT,Nat.reduceEqDiff,↓reduceIte,fp,h0,eq_false d1]
 refine Comes.bC (fun z f t=>∃k:Nat,z=k/\k<=20/\LD=J1 n k/\t=s/\f.n=35/\f.get 0= .int .i64 (n:Int)/\f.get 5= .int .i64 ((264+k:Nat):Int))
  (fun z f t=>(z= .ret/\t=s/\f.n=35/\f.get 2= .int .i64 ((LD).1:Nat)/\f.get 3= .int .i64 ((LD).2.1:Nat)/\f.get 4= .int .i64 ((LD).2.2:Nat))\/(z= .exit 0/\t=s/\f.n=35/\f.get 0= .int .i64 (n:Int)/\LD=(n+254,0,0)))
  ⟨20,rfl,by omega,hLD.symm,rfl,by simp only[ae,fp],by simp only[aa,↓reduceIte,Nat.reduceEqDiff,h0],by simp only[aa,↓reduceIte];rfl⟩ ?_ ?_
 ·clear fp h0 f
  rintro Q hQ k f t ⟨_,rfl,hk,hD,rfl,fp,h0,h5⟩
  by_cases zA:k=0
  ·subst zA
   have d2:¬((264+0:Nat):Int)>264:=by omega
   simp-implicitDefEqProofs(disch:=omega)only[ai,Nat.reduceLT,Nat.reduceAdd,↓reduceIte,fp,h5,eq_false d2]
   exact hQ _ _ _ (.inr ⟨rfl,rfl,by simp only[ae,fp],by simp only[aa,↓reduceIte,Nat.reduceEqDiff,h0],hD⟩)
  obtain⟨m,rfl⟩:∃m,k=m+1:=⟨k-1,by omega⟩
  have h5:f.get 5= .int .i64 ((265+m:Nat):Int):=by rw[h5];congr 2;omega
  have d2:((265+m:Nat):Int)>264:=by omega
  have e1:((265+m:Nat):Int)-261=((4+m:Nat):Int):=by omega
  have e2:((265+m:Nat):Int)-265=((m:Nat):Int):=by omega
  have q4:((4+m:Nat):Int).tdiv 4=(((4+m)/4:Nat):Int):=by rw[Int.tdiv_eq_ediv_of_nonneg (by omega)];omega
  have r4:((m:Nat):Int).tmod 4=((m%4:Nat):Int):=by rw[Int.tmod_eq_emod_of_nonneg (by omega)];omega
  have e3:(4:Int)+((m%4:Nat):Int)=((4+m%4:Nat):Int):=by omega
  have hp:=LZ (show(4+m)/4<=5 by omega)
  have hm7:4+m%4<=7:=by omega
  have hx:(4+m%4)*2^((4+m)/4)<=7*2^5:=Nat.mul_le_mul hm7 hp
  have Dp:=Zd Tryz.prog 3 .u64 (x:=4+m%4) (k:=(4+m)/4) (by omega) (by omega)
  rw[J1] at hD
  generalize hX:(4+m%4)*2^((4+m)/4)=X at hD hx Dp
  by_cases c2:X+3<=n
  ·have d3:(n:Int)>=((X:Nat):Int)+3:=by omega
   rw[if_pos c2] at hD
   have hY:(n:Int)-(((X:Nat):Int)+3)=((n-(X+3):Nat):Int):=by omega
   simp-implicitDefEqProofs(disch:=omega)only[ai,Nat.reduceLT,Nat.reduceEqDiff,↓reduceIte,fp,h0,h5,eq_true d2,aD,e1,ej,q4,e2,cK,r4,e3,bd Tryz.underlying3 Tryz.underlying115,kr,Dp,eq_true d3]
   refine hQ _ _ _ (.inl ⟨rfl,rfl,by simp only[ae,fp],by simp only[aa,↓reduceIte,Nat.reduceEqDiff];rw[hD],by simp only[aa,↓reduceIte,Nat.reduceEqDiff];rw[hD,hY],by simp only[aa,↓reduceIte];rw[hD]⟩)
  ·have d3:¬(n:Int)>=((X:Nat):Int)+3:=by omega
   rw[if_neg c2] at hD
   simp-implicitDefEqProofs(disch:=omega)only[ai,Nat.reduceLT,Nat.reduceEqDiff,↓reduceIte,fp,h0,h5,eq_true d2,aD,e1,ej,q4,e2,cK,r4,e3,bd Tryz.underlying3 Tryz.underlying115,kr,Dp,eq_false d3]
   exact au m (by omega) ⟨m,rfl,by omega,hD,rfl,by simp only[ae,fp],by simp only[aa,↓reduceIte,Nat.reduceEqDiff,h0],by simp only[aa,↓reduceIte];congr 1;omega⟩
 clear fp h0 f
 rintro z f t (⟨rfl,rfl,fp,h2,h3,h4⟩|⟨rfl,rfl,fp,h0,hD⟩)
 ·simp-implicitDefEqProofs(disch:=omega)only[ai,al,oneOf,Nat.reduceLT,↓reduceIte,fp,h2,h3,h4,Tryz.results183]
  exact⟨rfl,rfl⟩
 ·simp-implicitDefEqProofs(disch:=omega)only[ai,al,oneOf,Nat.reduceLT,Nat.reduceEqDiff,↓reduceIte,fp,h0,aD,Tryz.results183]
  rw[hD];exact⟨rfl,rfl⟩
set_option maxHeartbeats 4000000 in
theorem xM {lib:ay}(hl:lib.at 184=none)(s:aq)(n:Nat)(h1:1<=n)(hn:n<=64):
  Runs Tryz.prog lib 184 [.int .i64 (n:Int)] s (Qd s (mo n)):=by
 have j6:=(vR h1 hn).1
 rw[<-j6]
 generalize hLD:J2 n 26=LD
 refine Runs.enter 32 Tryz.func184 rfl hl rfl rfl ?_
 intro f fp hf
 have h0:f.get 0= .int .i64 (n:Int):=hf 0
 clear hf
 simp-implicitDefEqProofs(disch:=omega)only[ai,Nat.reduceLT,↓reduceIte,fp]
 refine Comes.bC (fun z f t=>∃k:Nat,z=k/\k<=26/\LD=J2 n k/\t=s/\f.n=32/\f.get 0= .int .i64 (n:Int)/\f.get 5= .int .i64 ((3+k:Nat):Int))
  (fun z f t=>(z= .ret/\t=s/\f.n=32/\f.get 2= .int .i64 ((LD).1:Nat)/\f.get 3= .int .i64 ((LD).2.1:Nat)/\f.get 4= .int .i64 ((LD).2.2:Nat))\/(z= .exit 0/\t=s/\f.n=32/\f.get 0= .int .i64 (n:Int)/\LD=(n-1,0,0)))
  ⟨26,rfl,by omega,hLD.symm,rfl,by simp only[ae,fp],by simp only[aa,↓reduceIte,Nat.reduceEqDiff,h0],by simp only[aa,↓reduceIte];rfl⟩ ?_ ?_
 ·clear fp h0 f
  rintro Q hQ k f t ⟨_,rfl,hk,hD,rfl,fp,h0,h5⟩
  by_cases zA:k=0
  ·subst zA
   have d2:¬((3+0:Nat):Int)>3:=by omega
   simp-implicitDefEqProofs(disch:=omega)only[ai,Nat.reduceLT,Nat.reduceAdd,↓reduceIte,fp,h5,eq_false d2]
   exact hQ _ _ _ (.inr ⟨rfl,rfl,by simp only[ae,fp],by simp only[aa,↓reduceIte,Nat.reduceEqDiff,h0],hD⟩)
  obtain⟨m,rfl⟩:∃m,k=m+1:=⟨k-1,by omega⟩
  have h5:f.get 5= .int .i64 ((4+m:Nat):Int):=by rw[h5];congr 2;omega
  have d2:((4+m:Nat):Int)>3:=by omega
  have q4:((4+m:Nat):Int).tdiv 2=(((4+m)/2:Nat):Int):=by rw[Int.tdiv_eq_ediv_of_nonneg (by omega)];omega
  have e1:(((4+m)/2:Nat):Int)-1=(((4+m)/2-1:Nat):Int):=by omega
  have r4:((4+m:Nat):Int).tmod 2=((m%2:Nat):Int):=by rw[Int.tmod_eq_emod_of_nonneg (by omega)];omega
  have e3:(2:Int)+((m%2:Nat):Int)=((2+m%2:Nat):Int):=by omega
  have hp:=LZ (show(4+m)/2-1<=13 by omega)
  have hm7:2+m%2<=3:=by omega
  have hx:(2+m%2)*2^((4+m)/2-1)<=3*2^13:=Nat.mul_le_mul hm7 hp
  have Dp:=Zd Tryz.prog 3 .u64 (x:=2+m%2) (k:=(4+m)/2-1) (by omega) (by omega)
  rw[J2] at hD
  generalize hX:(2+m%2)*2^((4+m)/2-1)=X at hD hx Dp
  by_cases c2:X+1<=n
  ·have d3:(n:Int)>=((X:Nat):Int)+1:=by omega
   rw[if_pos c2] at hD
   have hY:(n:Int)-(((X:Nat):Int)+1)=((n-(X+1):Nat):Int):=by omega
   simp-implicitDefEqProofs(disch:=omega)only[ai,Nat.reduceLT,Nat.reduceEqDiff,↓reduceIte,fp,h0,h5,eq_true d2,ej,q4,aD,e1,cK,r4,e3,bd Tryz.underlying3 Tryz.underlying115,kr,Dp,eq_true d3]
   refine hQ _ _ _ (.inl ⟨rfl,rfl,by simp only[ae,fp],by simp only[aa,↓reduceIte,Nat.reduceEqDiff];rw[hD],by simp only[aa,↓reduceIte,Nat.reduceEqDiff];rw[hD,hY],by simp only[aa,↓reduceIte];rw[hD]⟩)
  ·have d3:¬(n:Int)>=((X:Nat):Int)+1:=by omega
   rw[if_neg c2] at hD
   simp-implicitDefEqProofs(disch:=omega)only[ai,Nat.reduceLT,Nat.reduceEqDiff,↓reduceIte,fp,h0,h5,eq_true d2,ej,q4,aD,e1,cK,r4,e3,bd Tryz.underlying3 Tryz.underlying115,kr,Dp,eq_false d3]
   exact au m (by omega) ⟨m,rfl,by omega,hD,rfl,by simp only[ae,fp],by simp only[aa,↓reduceIte,Nat.reduceEqDiff,h0],by simp only[aa,↓reduceIte];congr 1;omega⟩
 clear fp h0 f
 rintro z f t (⟨rfl,rfl,fp,h2,h3,h4⟩|⟨rfl,rfl,fp,h0,hD⟩)
 ·simp-implicitDefEqProofs(disch:=omega)only[ai,al,oneOf,Nat.reduceLT,↓reduceIte,fp,h2,h3,h4,Tryz.results184]
  exact⟨rfl,rfl⟩
 ·simp-implicitDefEqProofs(disch:=omega)only[ai,al,oneOf,Nat.reduceLT,Nat.reduceEqDiff,↓reduceIte,fp,h0,aD,Tryz.results184]
  rw[hD]
  refine⟨?_,rfl⟩
  rw[show(((n-1,0,0):Nat×Nat×Nat).1:Int)=(n:Int)-1 by show((n-1:Nat):Int)=_;omega]
  rfl
end Go.Proofs.YtdfjfncifneocaaGreat
namespace Go.Cl
theorem LA.di {A:Nat->Bool}{s:aq}{z:Nat}{v:Value}{n:Nat}{l:List Value}(h:aM s z v n l)(hA:∀i,i<s.next->A i=true){k:Nat}(hk:k<n):LA.dB A (some (aT z v k))=true:=by
 cases h with
 |nil=>omega
 |bare=>omega
 |of i off n c bl l hi Ze hz hl hc hlen fL ht=>simp only[aT,LA.dB];exact hA i hi
theorem LA.gy {A:Nat->Bool}{s:aq}{z:Nat}{v:Value}{n:Nat}{l:List Value}(h:aM s z v n l)(hA:∀i,i<s.next->A i=true){k:Nat}(hk:k<n)(j:Nat):LA.dB A (some (bR (aT z v k) j))=true:=by
 cases h with
 |nil=>omega
 |bare=>omega
 |of i off n c bl l hi Ze hz hl hc hlen fL ht=>simp only[aT,bR,LA.dB];exact hA i hi
end Go.Cl
set_option linter.unusedSimpArgs false
set_option linter.unusedVariables false
set_option maxRecDepth 100000
namespace Go.Cl.Fx
open Go.Cl.Rw Go.Cl.Sto
def uC (j:Nat)(v a:Value):Prop:=∀i,aJ a=some i->i≠j/\aJ v≠some i
theorem uC.own {j:Nat}{v v' a:Value}{s s' :aq}{n:Nat}{L:List Value}(h:uC j v a)(ho:Own s 1 a n L)(k:dK j v s v' s'):Own s' 1 a n L/\uC j v' a:=by
 refine⟨?_,fun i hi=>⟨(h i hi).1,?_⟩⟩
 ·cases ho with
  |nil=>exact .nil
  |of i n low l hi hb hl hlen=>
   have:=h i rfl
   refine .of i _ low _ (Nat.lt_of_lt_of_le hi k.next) ?_ hl hlen
   simp only[aq.bK,k.get i hi this.1 this.2];exact hb
 ·rcases k.id with e|⟨q,e,hq⟩
  ·rw[e];exact(h i hi).2
  ·rw[e];intro e2;injection e2 with e2;have:=ho.jh i hi;omega
theorem Ql:ko (ko ([],0) 1 1) 1 2=pr:=by decide
end Go.Cl.Fx
namespace Go.Proofs.YtdfjfncifneocaaGreat
open Go.Cl Go.Cl.Rw Go.Cl.Sto Go.Cl.Fx
theorem Wn (a b:Value):cN (.tuple #[a,b]) 0=some a:=rfl
theorem Wo (a b:Value):cN (.tuple #[a,b]) 1=some b:=rfl
theorem acR:dM Tryz.prog 212 []=some (.agg #[.slice none 0 0,.int .i64 0]):=by kernel_rfl
set_option maxHeartbeats 8000000 in
theorem Kb {lib:ay}(hl:lib.at 143=none)(Qm:lib.at 164=none)(hco:lib.at 180=none)(wY:lib.at 181=none)(DO:lib.at 182=none)(hZ:lib.at 183=none)(hdc:lib.at 184=none)(kx:lib.at 179=none)(SV:lib.at 185=none)(Wp:lib.at 39=none)
  (s:aq) (x:Value) (l:List UInt8) (hx:aM s 1 x l.length (ofBytes l)) (hlen:l.length<=10000000):
  Runs Tryz.prog lib 143 [x] s (Qe s l):=by
 refine Runs.enter 115 Tryz.func143 rfl hl rfl rfl ?_
 intro f hn hf
 have h0:f.get 0=x:=hf 0
 clear hf
 simp-implicitDefEqProofs(disch:=omega)only[ai,ag,Nat.reduceLT,↓reduceIte,hn,acR]
 refine aw ?_
 intro s1 fa bB jb
 have fa:av s1 s.next [.slice none 0 0,.int .i64 0]:=fa
 have kH:fT s.next s1 s.next (.slice none 0 0) ([],0):=⟨fa,.nil,aN.nil _,(fun e=>by cases e),Nat.le_refl _,⟨Nat.le_refl _,by decide⟩⟩
 simp-implicitDefEqProofs(disch:=omega)only[ai,aj,ad,Nat.reduceLT,Nat.reduceAdd,↓reduceIte,hn,List.length_cons,List.length_nil]
 refine(r9 kx s.next s1 s.next (.slice none 0 0) ([],0) 1 1 kH bB.next (by decide)).mono ?_
 rintro _ s2 ⟨v2,iT,to2⟩
 have df:ar s.next s s2:=bB.trans (to2.stay (Nat.le_refl _) (aN.nil _) bB.next)
 have iT:fT s.next s2 s.next v2 (ko ([],0) 1 1):=iT
 simp-implicitDefEqProofs(disch:=omega)only[ai,aj,ad,Nat.reduceLT,Nat.reduceEqDiff,↓reduceIte,hn]
 refine(r9 kx s.next s2 s.next v2 _ 1 2 iT df.next (by decide)).mono ?_
 rintro _ s3 ⟨v3,yh,Sb⟩
 have ij:ar s.next s s3:=df.trans (Sb.stay (Nat.le_refl _) iT.fresh df.next)
 have yh:fT s.next s3 s.next v3 (ko (ko ([],0) 1 1) 1 2):=yh
 rw[Ql] at yh
 have n3:=ij.next
 have V8:=yh.iP.lt
 simp-implicitDefEqProofs(disch:=omega)only[ai,aj,ad,Nat.reduceLT,↓reduceIte,hn]
 refine(Ka Qm s3).mono ?_
 rintro _ s4 ⟨ta,tb,rfl,hA,hB,hAF,hBF,k4⟩
 have n4:=k4.next
 simp-implicitDefEqProofs(disch:=omega)only[ai,aj,ad,Nat.reduceLT,Nat.reduceEqDiff,↓reduceIte,hn,Wn,Wo]
 have ef:dp.length=288:=sg
 refine(NG hco s4 ta dp (by rw[ef];exact hA.aH) (by rw[ef];decide)).mono ?_
 rintro tc s5 ⟨hC,-,hCF,k5⟩
 rw[J8,ef] at hC
 have hA5:=hA.keeps k5
 have U0:=(yh.keeps k4).keeps k5
 have vX:ar s.next s s5:=(ij.trans (k4.weaken n3)).trans (k5.weaken (by omega))
 have CK:∀i,aJ v3=some i->i<s3.next:=fun i hi=>yh.own.jh i hi
 have pA:uC s.next v3 ta:=fun i hi=>⟨by have:=hAF i hi;omega,fun e=>by have:=CK i e;have:=hAF i hi;omega⟩
 have pC:uC s.next v3 tc:=fun i hi=>⟨by have:=hCF i hi;omega,fun e=>by have:=CK i e;have:=hCF i hi;omega⟩
 have hF:=vU.2
 simp-implicitDefEqProofs(disch:=omega)only[ai,Nat.reduceLT,↓reduceIte,hn]
 refine Comes.bC (fun z f t=>∃(a:Nat) (p:List UInt8×Nat) (v:Value),z=l.length-a/\a<=l.length/\fT s.next t s.next v p/\p.2<=3+9*a/\vS l a p=vS l 0 pr/\ar s.next s t/\Own t 1 ta 288 (fh dp)/\Own t 1 tc 288 (fh J7)/\uC s.next v ta/\uC s.next v tc/\f.n=115/\f.get 0=x/\f.get 3=jH s.next/\f.get 4=ta/\f.get 6=tc/\f.get 7= .int .i64 (a:Nat))
  (fun z f t=>z= .exit 0/\∃(p:List UInt8×Nat) (v:Value),fT s.next t s.next v p/\p.2<=3+9*l.length/\p=vS l 0 pr/\ar s.next s t/\Own t 1 ta 288 (fh dp)/\Own t 1 tc 288 (fh J7)/\f.n=115/\f.get 3=jH s.next/\f.get 4=ta/\f.get 6=tc)
  ⟨0,pr,v3,rfl,by omega,U0,by omega,rfl,vX,hA5,hC,pA,pC,by simp only[ae,hn],by simp only[aa,↓reduceIte,Nat.reduceEqDiff,h0],by simp only[aa,↓reduceIte,Nat.reduceEqDiff],by simp only[aa,↓reduceIte,Nat.reduceEqDiff],by simp only[aa,↓reduceIte,Nat.reduceEqDiff],by simp only[aa,↓reduceIte];rfl⟩ ?_ ?_
 ·clear hn h0 f hA hB hA5 hC U0 vX
  rintro Q hQ z f t ⟨a,p,v,rfl,ha,hr,hp,xJ,aA,hA,hC,pA,pC,hn,h0,h3,h4,h6,h7⟩
  have lH:=hx.keeps aA
  by_cases aP:a<l.length
  rotate_left
  ·obtain rfl:a=l.length:=by omega
   have d1:¬((l.length:Nat):Int)<((l.length:Nat):Int):=by omega
   rw[vT l p (Nat.le_refl _)] at xJ
   simp-implicitDefEqProofs(disch:=omega)only[ai,ad,Nat.reduceLT,Nat.reduceEqDiff,↓reduceIte,hn,h0,h7,lH.aV Tryz.underlying22,eq_false d1]
   exact hQ _ _ _ ⟨rfl,p,v,hr,hp,xJ,aA,hA,hC,by simp only[ae,hn],by simp only[aa,↓reduceIte,Nat.reduceEqDiff,h3],by simp only[aa,↓reduceIte,Nat.reduceEqDiff,h4],by simp only[aa,↓reduceIte,Nat.reduceEqDiff,h6]⟩
  have d1:(a:Int)<(l.length:Int):=by omega
  rw[xH l p aP] at xJ
  simp-implicitDefEqProofs(disch:=omega)only[ai,ad,Nat.reduceLT,Nat.reduceEqDiff,↓reduceIte,hn,h0,h7,lH.aV Tryz.underlying22,eq_true d1]
  refine Comes.bC (fun z f t' =>∃k:Nat,z=gx a-k/\k<=gx a/\t' =t/\f.n=115/\f.get 0=x/\f.get 3=jH s.next/\f.get 4=ta/\f.get 6=tc/\f.get 7= .int .i64 (a:Nat)/\f.get 8= .int .i64 ((bZ l a k).1:Nat)/\f.get 9= .int .i64 ((bZ l a k).2:Nat)/\f.get 10= .int .i64 ((k:Int)+1))
   (fun z f t' =>z= .exit 2/\t' =t/\f.n=115/\f.get 0=x/\f.get 3=jH s.next/\f.get 4=ta/\f.get 6=tc/\f.get 7= .int .i64 (a:Nat)/\f.get 8= .int .i64 ((bZ l a (gx a)).1:Nat)/\f.get 9= .int .i64 ((bZ l a (gx a)).2:Nat))
   ⟨0,rfl,by omega,rfl,by simp only[ae,hn],by simp only[aa,↓reduceIte,Nat.reduceEqDiff,h0],by simp only[aa,↓reduceIte,Nat.reduceEqDiff,h3],by simp only[aa,↓reduceIte,Nat.reduceEqDiff,h4],by simp only[aa,↓reduceIte,Nat.reduceEqDiff,h6],by simp only[aa,↓reduceIte,Nat.reduceEqDiff,h7],by simp only[aa,↓reduceIte,Nat.reduceEqDiff];rfl,by simp only[aa,↓reduceIte,Nat.reduceEqDiff];rfl,by simp only[aa,↓reduceIte];rfl⟩ ?_ ?_
  ·clear hn h0 h3 h4 h6 h7 f
   rintro Q2 Qf z f t' ⟨k,rfl,hk,rfl,hn,h0,h3,h4,h6,h7,h8,h9,dz⟩
   by_cases XZ:k<gx a
   rotate_left
   ·obtain rfl:k=gx a:=by omega
    by_cases c64:gx a+1<=64
    ·have d2:((gx a:Nat):Int)+1<=64:=by omega
     have d3:¬((gx a:Nat):Int)+1<=(a:Int):=by unfold gx at c64|-;omega
     simp-implicitDefEqProofs(disch:=omega)only[ai,aj,Nat.reduceLT,Nat.reduceEqDiff,↓reduceIte,hn,h7,dz,eq_true d2,eq_false d3]
     exact Qf _ _ _ ⟨rfl,rfl,by simp only[ae,hn],by simp only[aa,↓reduceIte,Nat.reduceEqDiff,h0],by simp only[aa,↓reduceIte,Nat.reduceEqDiff,h3],by simp only[aa,↓reduceIte,Nat.reduceEqDiff,h4],by simp only[aa,↓reduceIte,Nat.reduceEqDiff,h6],by simp only[aa,↓reduceIte,Nat.reduceEqDiff,h7],by simp only[aa,↓reduceIte,Nat.reduceEqDiff,h8],by simp only[aa,↓reduceIte,Nat.reduceEqDiff,h9]⟩
    ·have d2:¬((gx a:Nat):Int)+1<=64:=by omega
     simp-implicitDefEqProofs(disch:=omega)only[ai,aj,Nat.reduceLT,Nat.reduceEqDiff,↓reduceIte,undef,hn,dz,eq_false d2]
     exact Qf _ _ _ ⟨rfl,rfl,by simp only[ae,hn],by simp only[aa,↓reduceIte,Nat.reduceEqDiff,h0],by simp only[aa,↓reduceIte,Nat.reduceEqDiff,h3],by simp only[aa,↓reduceIte,Nat.reduceEqDiff,h4],by simp only[aa,↓reduceIte,Nat.reduceEqDiff,h6],by simp only[aa,↓reduceIte,Nat.reduceEqDiff,h7],by simp only[aa,↓reduceIte,Nat.reduceEqDiff,h8],by simp only[aa,↓reduceIte,Nat.reduceEqDiff,h9]⟩
   have hka:k+1<=a/\k+1<=64:=by unfold gx at XZ;omega
   have d2:(k:Int)+1<=64:=by omega
   have d2' :(k:Int)+1<=(a:Int):=by omega
   simp-implicitDefEqProofs(disch:=omega)only[ai,aj,ad,Nat.reduceLT,Nat.reduceEqDiff,↓reduceIte,hn,h0,h7,dz,eq_true d2,eq_true d2']
   refine(ND wY t' x l lH (by omega) a (k+1) (by omega) hka.1 ha).mono ?_
   rintro _ t2 ⟨rfl,rfl⟩
   by_cases c:(bZ l a k).1<Dn l a (k+1)
   ·have d3:((Dn l a (k+1):Nat):Int)>((bZ l a k).1:Nat):=by omega
    have hb:bZ l a (k+1)=(Dn l a (k+1),k+1):=by rw[bZ,if_pos c]
    simp-implicitDefEqProofs(disch:=omega)only[ai,Nat.reduceLT,Nat.reduceEqDiff,↓reduceIte,hn,h8,dz,eq_true d3,aD]
    exact au (gx a-(k+1)) (by omega) ⟨k+1,rfl,by omega,rfl,by simp only[ae,hn],by simp only[aa,↓reduceIte,Nat.reduceEqDiff,h0],by simp only[aa,↓reduceIte,Nat.reduceEqDiff,h3],by simp only[aa,↓reduceIte,Nat.reduceEqDiff,h4],by simp only[aa,↓reduceIte,Nat.reduceEqDiff,h6],by simp only[aa,↓reduceIte,Nat.reduceEqDiff,h7],by simp only[aa,↓reduceIte,Nat.reduceEqDiff];rw[hb],by simp only[aa,↓reduceIte,Nat.reduceEqDiff];rw[hb];rfl,by simp only[aa,↓reduceIte];rfl⟩
   ·have d3:¬((Dn l a (k+1):Nat):Int)>((bZ l a k).1:Nat):=by omega
    have hb:bZ l a (k+1)=bZ l a k:=by rw[bZ,if_neg c]
    simp-implicitDefEqProofs(disch:=omega)only[ai,Nat.reduceLT,Nat.reduceEqDiff,↓reduceIte,hn,h8,dz,eq_false d3,aD]
    exact au (gx a-(k+1)) (by omega) ⟨k+1,rfl,by omega,rfl,by simp only[ae,hn],by simp only[aa,↓reduceIte,Nat.reduceEqDiff,h0],by simp only[aa,↓reduceIte,Nat.reduceEqDiff,h3],by simp only[aa,↓reduceIte,Nat.reduceEqDiff,h4],by simp only[aa,↓reduceIte,Nat.reduceEqDiff,h6],by simp only[aa,↓reduceIte,Nat.reduceEqDiff,h7],by simp only[aa,↓reduceIte,Nat.reduceEqDiff,h8];rw[hb],by simp only[aa,↓reduceIte,Nat.reduceEqDiff,h9];rw[hb],by simp only[aa,↓reduceIte];rfl⟩
  clear hn h0 h3 h4 h6 h7 f
  rintro z f t' ⟨rfl,rfl,hn,h0,h3,h4,h6,h7,h8,h9⟩
  have uT:=BN l aP
  have hsg:=sd l a
  have pH:=BP l a p
  obtain⟨B,hB⟩:∃B:Nat->Bool,B=fun j=>decide (j<t'.next):=⟨_,rfl⟩
  have OM:∀j,B j=true->j<t'.next:=by
   intro j h
   rw[hB] at h
   exact of_decide_eq_true h
  have Tv:∀j,j<t'.next->B j=true:=fun j h=>by rw[hB];exact decide_eq_true h
  have lx:=fun k=>LA.di lH Tv (k:=k)
  have lA:=fun k=>LA.di hA.aH Tv (k:=k)
  have lC:=fun k=>LA.di hC.aH Tv (k:=k)
  have vb:=ar.spare t' 0
  have YF:(spare t' 0).next=t'.next+0:=bT _ _
  have toq:dK s.next v t' v (spare t' 0):=⟨by omega,fun i hi _ _=>vb.get i hi,.inl rfl⟩
  have I6:∀(q:Nat),q<288->(∀(K:IntKind),dC Tryz.prog 134 tc (.int K (q:Nat))=some (aT 1 tc q))/\(∀(K:IntKind),dC Tryz.prog 195 ta (.int K (q:Nat))=some (aT 1 ta q))/\aG Tryz.prog (spare t' 0) 3 (aT 1 tc q)=some (.int .i64 ((ks q).1:Nat))/\aG Tryz.prog (spare t' 0) 3 (aT 1 ta q)=some (.int .i64 ((ks q).2:Nat)):=by
   intro q hq
   have k1:=(hC.keeps vb).aH.cU (P:=Tryz.prog) BU (k:=q) hq
   have k2:=(hA.keeps vb).aH.cU (P:=Tryz.prog) BU (k:=q) hq
   rw[nh (by rw[yT];exact hq),LX hq] at k1
   rw[nh (by rw[sg];exact hq),LW hq] at k2
   refine⟨fun K=> ?_,fun K=> ?_,k1,k2⟩
   ·have:=(hC.keeps vb).aH.indexAddr (P:=Tryz.prog) (k:=K) (x:=(q:Int)) FT cG (by omega) (by omega)
    rw[Int.toNat_natCast] at this;exact this
   ·have:=(hA.keeps vb).aH.indexAddr (P:=Tryz.prog) (k:=K) (x:=(q:Int)) ni cG (by omega) (by omega)
    rw[Int.toNat_natCast] at this;exact this
  have U2:=(l.getD a 0).toNat_lt
  by_cases c3:(bZ l a (gx a)).1<3
  ·have d3:(((bZ l a (gx a)).1:Nat):Int)<3:=by omega
   have eA:kF l a=a+1:=by unfold kF;rw[if_pos c3]
   have eP:nf l a p=qS p (l.getD a 0).toNat:=by unfold nf;rw[if_pos c3]
   rw[eA,eP] at xJ pH
   have xI:=(lH.keeps vb).indexAddr (P:=Tryz.prog) (k:= .i64) (x:=(a:Int)) Tryz.underlying22 bh (by omega) (by omega)
   rw[Int.toNat_natCast] at xI
   have k1:=(lH.keeps vb).cU (P:=Tryz.prog) gZ aP
   rw[aZ aP] at k1
   obtain⟨i2,i3,k2,k3⟩:=I6 (l.getD a 0).toNat (by omega)
   have Lh:=vQ (l.getD a 0).toNat
   simp-implicitDefEqProofs(disch:=omega)only[ai,Nat.reduceLT,↓reduceIte,hn,h8,eq_true d3]
   refine LB.cF.dy B OM 0 0 (by kernel_rfl) (by kernel_rfl) ?_
   simp-implicitDefEqProofs(disch:=omega)only[ai,aj,bn,bp,Nat.reduceSub,ad,Nat.reduceLT,Nat.reduceEqDiff,↓reduceIte,hn,h0,h3,h4,h6,h7,xI,k1,i2,i3,k2,k3,lx,lA,lC,lH.self,hA.self,hC.self]
   refine(qj DO kx s.next (spare t' 0) s.next v p (ks (l.getD a 0).toNat).1 (ks (l.getD a 0).toNat).2 (hr.keeps vb) (by have:=aA.next;omega) (by omega) (by omega)).mono ?_
   rintro _ t2 ⟨v',zg,Tl⟩
   refine⟨fun h=>h.elim,?_⟩
   have Qn:=toq.trans Tl
   obtain⟨X1,pA'⟩:=pA.own hA Qn
   obtain⟨hC',pC'⟩:=pC.own hC Qn
   simp-implicitDefEqProofs(disch:=omega)only[aD]
   exact au (l.length-(a+1)) (by omega) ⟨a+1,_,v',rfl,by omega,zg,by show(qS p (l.getD a 0).toNat).2<=_;omega,xJ,aA.trans (Qn.stay (Nat.le_refl _) hr.fresh aA.next),X1,hC',pA',pC',by simp only[ae,hn],by simp only[aa,↓reduceIte,Nat.reduceEqDiff,h0],by simp only[aa,↓reduceIte,Nat.reduceEqDiff,h3],by simp only[aa,↓reduceIte,Nat.reduceEqDiff,h4],by simp only[aa,↓reduceIte,Nat.reduceEqDiff,h6],by simp only[aa,↓reduceIte];rfl⟩
  ·have uU:=BO c3
   have d3:¬(((bZ l a (gx a)).1:Nat):Int)<3:=by omega
   have eA:kF l a=a+(bZ l a (gx a)).1:=by unfold kF;rw[if_neg c3]
   have eP:nf l a p=qh p (bZ l a (gx a)).1 (bZ l a (gx a)).2:=by unfold nf;rw[if_neg c3]
   rw[eA] at uT hsg
   rw[eA,eP] at xJ pH
   have Wl:=xE uU.1 uU.2.1
   have hds:=vR uU.2.2.1 uU.2.2.2.1
   have Lh:=vQ (fo (bZ l a (gx a)).1).1
   obtain⟨i2,i3,k2,k3⟩:=I6 (fo (bZ l a (gx a)).1).1 (by omega)
   simp-implicitDefEqProofs(disch:=omega)only[ai,aj,ad,Nat.reduceLT,Nat.reduceEqDiff,↓reduceIte,hn,h8,eq_false d3]
   refine(BV hZ t' (bZ l a (gx a)).1 uU.1 uU.2.1).mono ?_
   rintro _ t1 ⟨rfl,rfl⟩
   simp-implicitDefEqProofs(disch:=omega)only[ai,Nat.reduceLT,Nat.reduceEqDiff,↓reduceIte,hn,LR,LS,LU]
   refine LB.cF.dy B OM 0 0 (by kernel_rfl) (by kernel_rfl) ?_
   simp-implicitDefEqProofs(disch:=omega)only[ai,aj,bn,bp,Nat.reduceSub,ad,Nat.reduceLT,Nat.reduceEqDiff,↓reduceIte,hn,h3,h4,h6,i2,i3,k2,k3,lA,lC,hA.self,hC.self]
   refine(qj DO kx s.next (spare t1 0) s.next v p (ks (fo (bZ l a (gx a)).1).1).1 (ks (fo (bZ l a (gx a)).1).1).2 (hr.keeps vb) (by have:=aA.next;omega) (by omega) (by omega)).mono ?_
   rintro _ t2 ⟨v2',Wq,acY⟩
   have Wq:fT s.next t2 s.next v2' (qS p (fo (bZ l a (gx a)).1).1):=Wq
   have Sb:=toq.trans acY
   refine⟨fun h=>h.elim,?_⟩
   have nb:=aA.next
   have n2' :=Sb.next
   try simp-implicitDefEqProofs(disch:=omega)only[ai,aj,bn,bp,Nat.sub_self,Nat.add_one_sub_one,Nat.reduceSub,oneOf,ad,ag,ah,Nat.reduceLT,Nat.reduceLeDiff,Nat.reduceEqDiff,Nat.reduceAdd,↓reduceIte,ai,aj,oneOf,ad,ag,ah,Nat.reduceLT,Nat.reduceLeDiff,Nat.reduceEqDiff,Nat.reduceAdd,↓reduceIte,hn,h0,h3,h4,h6,h7,h8,h9]
   refine(r9 kx s.next t2 s.next v2' _ ((fo (bZ l a (gx a)).1).2.1:Nat) ((fo (bZ l a (gx a)).1).2.2:Nat) Wq (by omega) (by rw[lz];omega)).mono ?_
   rintro _ t3 ⟨v3',Zf,UZ⟩
   rw[vV _ _ (by omega)] at Zf
   have UZ:=Sb.trans UZ
   have n3' :=UZ.next
   simp-implicitDefEqProofs(disch:=omega)only[ai,aj,ad,Nat.reduceLT,Nat.reduceEqDiff,↓reduceIte,hn,h9]
   refine(xM hdc t3 (bZ l a (gx a)).2 uU.2.2.1 uU.2.2.2.1).mono ?_
   rintro _ t4 ⟨rfl,rfl⟩
   simp-implicitDefEqProofs(disch:=omega)only[ai,aj,ad,Nat.reduceLT,Nat.reduceEqDiff,↓reduceIte,hn,h3,LR,LS,LU]
   refine(qj DO kx s.next t4 s.next v3' _ (mo (bZ l a (gx a)).2).1 5 Zf (by omega) (by rw[se,lz];omega) (by omega)).mono ?_
   rintro _ t5 ⟨v5,U0,to5⟩
   have to5:=UZ.trans to5
   have n5' :=to5.next
   simp-implicitDefEqProofs(disch:=omega)only[ai,aj,ad,Nat.reduceLT,Nat.reduceEqDiff,↓reduceIte,hn,h3]
   refine(r9 kx s.next t5 s.next v5 _ ((mo (bZ l a (gx a)).2).2.1:Nat) ((mo (bZ l a (gx a)).2).2.2:Nat) U0 (by omega) (by rw[po,se,lz];omega)).mono ?_
   rintro _ t6 ⟨v6,Se,Zg⟩
   rw[vV _ _ (by omega)] at Se
   have Se:fT s.next t6 s.next v6 (qh p (bZ l a (gx a)).1 (bZ l a (gx a)).2):=Se
   have Zg:=to5.trans Zg
   obtain⟨X1,pA'⟩:=pA.own hA Zg
   obtain⟨hC',pC'⟩:=pC.own hC Zg
   simp-implicitDefEqProofs(disch:=omega)only[ai,Nat.reduceLT,Nat.reduceEqDiff,↓reduceIte,hn,h7,h8,aD]
   exact au (l.length-(a+(bZ l a (gx a)).1)) (by omega) ⟨a+(bZ l a (gx a)).1,_,v6,rfl,by omega,Se,by omega,xJ,aA.trans (Zg.stay (Nat.le_refl _) hr.fresh aA.next),X1,hC',pA',pC',by simp only[ae,hn],by simp only[aa,↓reduceIte,Nat.reduceEqDiff,h0],by simp only[aa,↓reduceIte,Nat.reduceEqDiff,h3],by simp only[aa,↓reduceIte,Nat.reduceEqDiff,h4],by simp only[aa,↓reduceIte,Nat.reduceEqDiff,h6],by simp only[aa,↓reduceIte];rfl⟩
 clear hn h0 f hA hB hA5 hC U0 vX
 rintro z f t ⟨rfl,p,v,hr,hp,YV,aA,hA,hC,hn,h3,h4,h6⟩
 obtain⟨B,hB⟩:∃B:Nat->Bool,B=fun j=>decide (j<t.next):=⟨_,rfl⟩
 have OM:∀j,B j=true->j<t.next:=by
  intro j h
  rw[hB] at h
  exact of_decide_eq_true h
 have Tv:∀j,j<t.next->B j=true:=fun j h=>by rw[hB];exact decide_eq_true h
 have lA:=fun k=>LA.di hA.aH Tv (k:=k)
 have lC:=fun k=>LA.di hC.aH Tv (k:=k)
 have vb:=ar.spare t 0
 have YF:(spare t 0).next=t.next+0:=bT _ _
 have toq:dK s.next v t v (spare t 0):=⟨by omega,fun i hi _ _=>vb.get i hi,.inl rfl⟩
 have k1:=(hC.keeps vb).aH.cU (P:=Tryz.prog) BU (k:=256) (by decide)
 have k2:=(hA.keeps vb).aH.cU (P:=Tryz.prog) BU (k:=256) (by decide)
 rw[nh (by rw[yT];decide),LX (by decide)] at k1
 rw[nh (by rw[sg];decide),LW (by decide)] at k2
 have i1:=(hC.keeps vb).aH.indexAddr (P:=Tryz.prog) (k:= .i64) (x:=256) FT cG (by omega) (by omega)
 have i2:=(hA.keeps vb).aH.indexAddr (P:=Tryz.prog) (k:= .i64) (x:=256) ni cG (by omega) (by omega)
 have acZ:(256:Int).toNat=256:=rfl
 rw[acZ] at i1 i2
 simp-implicitDefEqProofs(disch:=omega)only[ai,↓reduceIte]
 refine LB.cF.dy B OM 0 0 (by kernel_rfl) (by kernel_rfl) ?_
 simp-implicitDefEqProofs(disch:=omega)only[ai,aj,bn,bp,Nat.reduceSub,ad,Nat.reduceLT,Nat.reduceEqDiff,↓reduceIte,hn,h3,h4,h6,i1,i2,k1,k2,lA,lC,hA.self,hC.self]
 refine(qj DO kx s.next (spare t 0) s.next v p (ks 256).1 (ks 256).2 (hr.keeps vb) (by have:=aA.next;omega) (by have:(ks 256).2=7:=rfl;omega) (by decide)).mono ?_
 rintro _ t2 ⟨v',zg,Tl⟩
 have zg:fT s.next t2 s.next v' (qS p 256):=zg
 refine⟨fun h=>h.elim,?_⟩
 have Qn:=toq.trans Tl
 have bD:=aA.trans (Qn.stay (Nat.le_refl _) hr.fresh aA.next)
 try simp-implicitDefEqProofs(disch:=omega)only[ai,aj,bn,bp,Nat.sub_self,Nat.add_one_sub_one,Nat.reduceSub,oneOf,ad,ag,ah,Nat.reduceLT,Nat.reduceLeDiff,Nat.reduceEqDiff,Nat.reduceAdd,↓reduceIte,ai,aj,oneOf,ad,ag,ah,Nat.reduceLT,Nat.reduceLeDiff,Nat.reduceEqDiff,Nat.reduceAdd,↓reduceIte,hn,h3,h4,h6]
 have HN:=mu l
 have e:fixed l=(qS p 256).1:=by unfold fixed;rw[FQ,YV]
 rw[e] at HN
 refine(JZ SV Wp s.next t2 s.next v' _ zg (by omega)).mono ?_
 rintro w t3 ⟨ho,hF,cf⟩
 simp-implicitDefEqProofs(disch:=omega)only[ai,al,oneOf,Nat.reduceLT,↓reduceIte,hn,Tryz.results143]
 exact⟨by rw[e];exact ho,fun i hi=>Nat.le_trans bD.next (hF i hi),bD.trans (cf.weaken bD.next)⟩
end Go.Proofs.YtdfjfncifneocaaGreat
namespace Go.Cl
def FW (w n j:Nat):List UInt8:=(List.range j).map fun q=>UInt8.ofNat (n/256^(w-1-q))
def be (w n:Nat):List UInt8:=FW w n w
theorem NH (w n j:Nat):FW w n (j+1)=FW w n j++[UInt8.ofNat (n/256^(w-1-j))]:=by
 unfold FW;rw[List.range_succ,List.map_append];rfl
theorem si (w n j:Nat):(FW w n j).length=j:=by simp[FW]
theorem tg (w n:Nat):(be w n).length=w:=si _ _ _
theorem Tw (n:Nat):be 4 n=[UInt8.ofNat (n/16777216),UInt8.ofNat (n/65536),UInt8.ofNat (n/256),UInt8.ofNat n]:=by
 simp[be,FW,List.range_succ]
theorem Zh (n:Nat):IntKind.u8.wrap (n:Int)=((UInt8.ofNat n).toNat:Int):=by
 rw[eZ,UInt8.toNat_ofNat'];omega
theorem Zi {x:Int}(h0:0<=x)(h:x<18446744073709551616):IntKind.u64.wrap x=x:=by
 have e1:IntKind.u64.bits=64:=rfl
 have e2:IntKind.u64.signed=false:=rfl
 simp only[IntKind.wrap,e1,e2,Bool.false_and]
 simp
 omega
theorem Tx (a b:Nat):((a:Nat):Int).fdiv ((b:Nat):Int)=((a/b:Nat):Int):=by
 rw[Int.fdiv_eq_ediv_of_nonneg _ (by omega)];omega
theorem Qo (P:Program)(t:TypeId)(k' :IntKind)(n:Nat){x:Int}(i:Nat)(hx:x=((8*i:Nat):Int))(hi:i<8):du P .shr t (.int .i64 (n:Nat)) (.int k' x)=some (.int .i64 ((n/256^i:Nat):Int)):=by
 subst hx
 rw[sO P t .i64 _ _ k' (by omega)]
 have e1:min ((8*i:Nat):Int).toNat IntKind.i64.bits=8*i:=by
  have:IntKind.i64.bits=64:=rfl
  omega
 have e2:(256:Nat)^i=2^(8*i):=by rw[Nat.pow_mul]
 rw[e1,e2]
 have e3:(2:Int)^(8*i)=((2^(8*i):Nat):Int):=by push_cast;rfl
 rw[e3,Tx]
end Go.Cl
set_option linter.unusedSimpArgs false
set_option linter.unusedVariables false
set_option maxRecDepth 100000
namespace Go.Proofs.YtdfjfncifneocaaGreat
open Go.Cl
theorem Qp {lib:ay}(hl:lib.at 145=none)(s:aq)(n w:Nat)(hw:w<=8)(hn:n<9223372036854775808):
  Runs Tryz.prog lib 145 [.int .i64 (n:Nat),.int .i64 (w:Nat)] s fun v s' =>bU s v s' (be w n):=by
 refine Runs.enter 23 Tryz.func145 rfl hl rfl rfl ?_
 intro f OO hf
 have h0:f.get 0= .int .i64 (n:Nat):=hf 0
 have h1:f.get 1= .int .i64 (w:Nat):=hf 1
 clear hf
 simp-implicitDefEqProofs(disch:=omega)only[ai,Nat.reduceLT,Nat.reduceEqDiff,↓reduceIte,OO,h1,aD]
 refine Comes.eY (fun z f s1=>∃(j:Nat) (o:Value),z=w-j/\j<=w/\Own s1 1 o (FW w n j).length (ofBytes (FW w n j))/\aN s.next o/\ar s.next s s1/\f.n=23/\f.get 0= .int .i64 (n:Nat)/\f.get 5=o/\f.get 6= .int .i64 ((w:Int)-1-(j:Int)))
  ⟨0,.slice none 0 0,rfl,by omega,.nil,aN.nil _,ar.refl _ _,by simp only[ae,OO],by simp only[aa,↓reduceIte,Nat.reduceEqDiff,h0],by simp only[aa,↓reduceIte,Nat.reduceEqDiff],by simp only[aa,↓reduceIte];rw[Int.natCast_zero,Int.sub_zero]⟩ ?_
 clear OO h0 h1 f
 rintro z f s1 ⟨j,o,rfl,hj,ho,hF,aA,OO,h0,h5,h6⟩
 by_cases aP:j<w
 ·have e1:(0:Int)<=(w:Int)-1-(j:Int):=by omega
  have e2:8*((w:Int)-1-(j:Int))=((8*(w-1-j):Nat):Int):=by omega
  simp-implicitDefEqProofs(disch:=omega)only[ai,ag,Nat.reduceLT,Nat.reduceEqDiff,↓reduceIte,OO,h0,h5,h6,eq_true e1,aD,bd Tryz.underlying3 Tryz.underlying115,Zi,Qo Tryz.prog 3 .u64 n (w-1-j) e2,bd Tryz.underlying3 Tryz.underlying5,Zh,gN Tryz.underlying22 bh gR]
  refine a9 Tryz.underlying22 bh gh gR rfl ho (by simp only[aa,↓reduceIte,Nat.reduceEqDiff]) (by decide) (by simp only[ae,OO];decide) (by simp only[ae,OO];decide) (by rfl) (by decide) rfl (by rw[si];omega) (by rw[si];omega) hF aA.next ?_
  intro bs o' s2 j8 vE bD _ _
  simp-implicitDefEqProofs(disch:=omega)only[ai,Nat.reduceLT,Nat.reduceEqDiff,↓reduceIte,OO,h6,aD]
  refine au (w-(j+1)) (by omega) ⟨j+1,o',rfl,by omega,?_,vE,aA.trans bD,by simp only[ae,OO],by simp only[aa,↓reduceIte,Nat.reduceEqDiff,h0],by simp only[aa,↓reduceIte,Nat.reduceEqDiff],?_⟩
  ·rw[NH,aK,List.length_append];exact j8
  ·simp only[aa,↓reduceIte]
   rw[show(w:Int)-1-(j:Int)-1=(w:Int)-1-((j+1:Nat):Int) by omega]
 ·obtain rfl:j=w:=by omega
  have e1:¬(0:Int)<=(j:Int)-1-(j:Int):=by omega
  simp-implicitDefEqProofs(disch:=omega)only[ai,al,oneOf,Nat.reduceLT,Nat.reduceEqDiff,↓reduceIte,OO,h5,h6,eq_false e1,Tryz.results145]
  exact⟨ho,hF,aA⟩
end Go.Proofs.YtdfjfncifneocaaGreat
set_option linter.unusedSimpArgs false
set_option linter.unusedVariables false
set_option maxRecDepth 100000
namespace Go.Cl
def Ty (q:Nat×Nat)(c:UInt8):Nat×Nat:=((q.1+c.toNat)%65521,(q.2+(q.1+c.toNat)%65521)%65521)
def mv (l:List UInt8):Nat×Nat:=l.foldl Ty (1,0)
def yU (l:List UInt8):Nat:=(mv l).2*65536+(mv l).1
theorem vY (l:List UInt8):(mv l).1<65521/\(mv l).2<65521:=by
 have key:∀(l:List UInt8) (q:Nat×Nat),q.1<65521/\q.2<65521->(l.foldl Ty q).1<65521/\(l.foldl Ty q).2<65521:=by
  intro l
  induction l with
  |nil=>intro q h;exact h
  |cons c l ih=>intro q h;exact ih _ ⟨Nat.mod_lt _ (by omega),Nat.mod_lt _ (by omega)⟩
 exact key l _ (by decide)
theorem Qq (l:List UInt8):yU l<4294967296:=by
 have:=vY l
 unfold yU;omega
theorem Er {l:List UInt8}{i:Nat}(h:i<l.length):mv (l.take (i+1))=Ty (mv (l.take i)) (l.getD i 0):=by
 unfold mv
 rw[List.take_add_one,List.getElem?_eq_getElem h,List.foldl_append,List.getD_eq_getElem?_getD,List.getElem?_eq_getElem h];rfl
theorem pt {x:Int}(h0:0<=x)(h:x<4294967296):IntKind.u32.wrap x=x:=by
 have e1:IntKind.u32.bits=32:=rfl
 have e2:IntKind.u32.signed=false:=rfl
 simp only[IntKind.wrap,e1,e2,Bool.false_and]
 simp
 omega
theorem orU {y x:Nat}(hy:y<65536)(hx:x<65536):IntKind.u32.wrap (((BitVec.ofInt IntKind.u32.bits ((y*65536:Nat):Int)|||BitVec.ofInt IntKind.u32.bits (x:Int)).toNat:Nat):Int)=((y*65536+x:Nat):Int):=by
 have e1:IntKind.u32.bits=32:=rfl
 rw[e1]
 have:(BitVec.ofInt 32 ((y*65536:Nat):Int)|||BitVec.ofInt 32 (x:Int)).toNat=y*65536+x:=by
  rw[BitVec.toNat_or,BitVec.ofInt_natCast,BitVec.ofInt_natCast,BitVec.toNat_ofNat,BitVec.toNat_ofNat,Nat.mod_eq_of_lt (by omega),Nat.mod_eq_of_lt (by omega)]
  have:=Nat.shiftLeft_add_eq_or_of_lt (i:=16) (b:=x) (by omega) y
  rw[Nat.shiftLeft_eq] at this
  exact this.symm
 rw[this,pt (by omega) (by omega)]
theorem ac0 (P:Program)(t:TypeId)(k' :IntKind){y:Nat}(hy:y<65536):du P .shl t (.int .u32 (y:Int)) (.int k' 16)=some (.int .u32 ((y*65536:Nat):Int)):=by
 rw[sM P t .u32 _ _ k' (by omega)]
 have e:min (16:Int).toNat IntKind.u32.bits=16:=by decide
 rw[e]
 have e2:(y:Int)*(2:Int)^16=((y*65536:Nat):Int):=by omega
 rw[e2,pt (by omega) (by omega)]
end Go.Cl
namespace Go.Proofs.YtdfjfncifneocaaGreat
open Go.Cl
theorem Qr (n:Nat):((n:Int)).tmod 65521=((n%65521:Nat):Int):=by rw[Int.tmod_eq_emod_of_nonneg (by omega)];omega
theorem Zj:IntKind.u32.wrap (((BitVec.ofInt IntKind.u32.bits 1&&&BitVec.ofInt IntKind.u32.bits 65535).toNat:Nat):Int)=1:=by decide
set_option maxHeartbeats 4000000 in
theorem Qs {lib:ay}(hl:lib.at 151=none)(s:aq)(x:Value)(l:List UInt8)(hx:aM s 1 x l.length (ofBytes l))(hlen:l.length<=1000000000):
  Runs Tryz.prog lib 151 [.int .u32 1,x] s fun v s' =>v= .int .u32 (yU l:Nat)/\s' =s:=by
 refine Runs.enter 35 Tryz.func151 rfl hl rfl rfl ?_
 intro f hn hf
 have h0:f.get 0= .int .u32 1:=hf 0
 have h1:f.get 1=x:=hf 1
 clear hf
 have m1:(1:Int).tmod 65521=1:=by decide
 have m0:(0:Int).tmod 65521=0:=by decide
 have s0:du Tryz.prog .shr 117 (.int .u32 1) (.int .u64 16)=some (.int .u32 0):=by
  rw[sO _ _ .u32 _ _ .u64 (by omega)];rfl
 simp-implicitDefEqProofs(disch:=omega)only[ai,ad,Nat.reduceLT,Nat.reduceEqDiff,↓reduceIte,hn,h0,h1,ia,Zj,cK,m1,m0,s0,hx.aV Tryz.underlying22]
 refine Comes.bC (fun z f t=>∃i:Nat,z=l.length-i/\i<=l.length/\t=s/\f.n=35/\f.get 5= .int .u32 ((mv (l.take i)).1:Nat)/\f.get 6= .int .u32 ((mv (l.take i)).2:Nat)/\f.get 15=x/\f.get 16= .int .i64 (l.length:Nat)/\f.get 17= .int .i64 (i:Nat))
  (fun z f t=>z= .exit 0/\t=s/\f.n=35/\f.get 5= .int .u32 ((mv l).1:Nat)/\f.get 6= .int .u32 ((mv l).2:Nat))
  ⟨0,rfl,by omega,rfl,by simp only[ae,hn],by simp only[aa,↓reduceIte,Nat.reduceEqDiff];rfl,by simp only[aa,↓reduceIte,Nat.reduceEqDiff];rfl,by simp only[aa,↓reduceIte,Nat.reduceEqDiff],by simp only[aa,↓reduceIte,Nat.reduceEqDiff],by simp only[aa,↓reduceIte];rfl⟩ ?_ ?_
 ·clear hn h0 h1 f
  rintro Q hQ z f t ⟨i,rfl,hi,rfl,hn,h5,h6,lI,NI,BK⟩
  by_cases aP:i<l.length
  rotate_left
  ·obtain rfl:i=l.length:=by omega
   have d1:¬((l.length:Nat):Int)<((l.length:Nat):Int):=by omega
   rw[List.take_length] at h5 h6
   simp-implicitDefEqProofs(disch:=omega)only[ai,Nat.reduceLT,↓reduceIte,hn,NI,BK,eq_false d1]
   exact hQ _ _ _ ⟨rfl,rfl,by simp only[ae,hn],by simp only[aa,↓reduceIte,Nat.reduceEqDiff,h5],by simp only[aa,↓reduceIte,Nat.reduceEqDiff,h6]⟩
  have d1:(i:Int)<(l.length:Int):=by omega
  have xI:=hx.indexAddr (P:=Tryz.prog) (k:= .i64) (x:=(i:Int)) Tryz.underlying22 bh (by omega) (by omega)
  rw[Int.toNat_natCast] at xI
  have k1:=hx.cU (P:=Tryz.prog) gZ aP
  rw[aZ aP] at k1
  have hc:=(l.getD i 0).toNat_lt
  have hq:=vY (l.take i)
  have ht:=Er aP
  generalize mv (l.take i)=q at h5 h6 hq ht
  obtain⟨q1,q2⟩:=q
  simp only at h5 h6 hq
  have e1:(q1:Int)+((l.getD i 0).toNat:Int)=((q1+(l.getD i 0).toNat:Nat):Int):=by omega
  have e2:(q2:Int)+((((q1+(l.getD i 0).toNat)%65521:Nat)):Int)=((q2+(q1+(l.getD i 0).toNat)%65521:Nat):Int):=by omega
  simp-implicitDefEqProofs(disch:=omega)only[ai,Nat.reduceLT,Nat.reduceEqDiff,↓reduceIte,hn,h5,h6,lI,NI,BK,eq_true d1,xI,k1,bd Tryz.underlying5 Tryz.underlying117,pt,e1,cK,Qr,e2,aD]
  exact au (l.length-(i+1)) (by omega) ⟨i+1,rfl,by omega,rfl,by simp only[ae,hn],by simp only[aa,↓reduceIte,Nat.reduceEqDiff];rw[ht];rfl,by simp only[aa,↓reduceIte,Nat.reduceEqDiff];rw[ht];rfl,by simp only[aa,↓reduceIte,Nat.reduceEqDiff,lI],by simp only[aa,↓reduceIte,Nat.reduceEqDiff,NI],by simp only[aa,↓reduceIte];rfl⟩
 clear hn h0 h1 f
 rintro z f t ⟨rfl,rfl,hn,h5,h6⟩
 have hq:=vY l
 have nJ:=orU (y:=(mv l).2) (x:=(mv l).1) (by omega) (by omega)
 have uT:=ac0 Tryz.prog 117 .u64 (y:=(mv l).2) (by omega)
 simp-implicitDefEqProofs(disch:=omega)only[ai,al,oneOf,Nat.reduceLT,Nat.reduceEqDiff,↓reduceIte,hn,h5,h6,uT,mS,nJ,Tryz.results151]
 rfl
set_option maxHeartbeats 4000000 in
theorem NJ {lib:ay}(hl:lib.at 168=none)(s:aq)(x:Value)(l:List UInt8)(hx:aM s 1 x l.length (ofBytes l))(hlen:l.length<=1000000000):
  Runs Tryz.prog lib 168 [.int .u32 1,x] s fun v s' =>v= .int .u32 (yU l:Nat)/\s' =s:=by
 refine Runs.enter 36 Tryz.func168 rfl hl rfl rfl ?_
 intro f hn hf
 have h0:f.get 0= .int .u32 1:=hf 0
 have h1:f.get 1=x:=hf 1
 clear hf
 have m2:(1:Int).tmod 65536=1:=by decide
 have m1:(1:Int).tmod 65521=1:=by decide
 have m0:(0:Int).tmod 65521=0:=by decide
 have q0:(1:Int).tdiv 65536=0:=by decide
 simp-implicitDefEqProofs(disch:=omega)only[ai,Nat.reduceLT,Nat.reduceEqDiff,↓reduceIte,hn,h0,cK,ej,m2,m1,m0,q0,pt]
 refine Comes.bC (fun z f t=>∃i:Nat,z=l.length-i/\i<=l.length/\t=s/\f.n=36/\f.get 1=x/\f.get 5= .int .u32 ((mv (l.take i)).1:Nat)/\f.get 6= .int .u32 ((mv (l.take i)).2:Nat)/\f.get 7= .int .i64 (i:Nat))
  (fun z f t=>z= .exit 0/\t=s/\f.n=36/\f.get 5= .int .u32 ((mv l).1:Nat)/\f.get 6= .int .u32 ((mv l).2:Nat))
  ⟨0,rfl,by omega,rfl,by simp only[ae,hn],by simp only[aa,↓reduceIte,Nat.reduceEqDiff,h1],by simp only[aa,↓reduceIte,Nat.reduceEqDiff];rfl,by simp only[aa,↓reduceIte,Nat.reduceEqDiff];rfl,by simp only[aa,↓reduceIte];rfl⟩ ?_ ?_
 ·clear hn h0 h1 f
  rintro Q hQ z f t ⟨i,rfl,hi,rfl,hn,h1,h5,h6,h7⟩
  by_cases aP:i<l.length
  rotate_left
  ·obtain rfl:i=l.length:=by omega
   have d1:¬((l.length:Nat):Int)<((l.length:Nat):Int):=by omega
   rw[List.take_length] at h5 h6
   simp-implicitDefEqProofs(disch:=omega)only[ai,ad,Nat.reduceLT,Nat.reduceEqDiff,↓reduceIte,hn,h1,h7,hx.aV Tryz.underlying22,eq_false d1]
   exact hQ _ _ _ ⟨rfl,rfl,by simp only[ae,hn],by simp only[aa,↓reduceIte,Nat.reduceEqDiff,h5],by simp only[aa,↓reduceIte,Nat.reduceEqDiff,h6]⟩
  have d1:(i:Int)<(l.length:Int):=by omega
  have xI:=hx.indexAddr (P:=Tryz.prog) (k:= .i64) (x:=(i:Int)) Tryz.underlying22 bh (by omega) (by omega)
  rw[Int.toNat_natCast] at xI
  have k1:=hx.cU (P:=Tryz.prog) gZ aP
  rw[aZ aP] at k1
  have hc:=(l.getD i 0).toNat_lt
  have hq:=vY (l.take i)
  have ht:=Er aP
  generalize mv (l.take i)=q at h5 h6 hq ht
  obtain⟨q1,q2⟩:=q
  simp only at h5 h6 hq
  have e1:(q1:Int)+((l.getD i 0).toNat:Int)=((q1+(l.getD i 0).toNat:Nat):Int):=by omega
  have e2:(q2:Int)+((((q1+(l.getD i 0).toNat)%65521:Nat)):Int)=((q2+(q1+(l.getD i 0).toNat)%65521:Nat):Int):=by omega
  simp-implicitDefEqProofs(disch:=omega)only[ai,ad,Nat.reduceLT,Nat.reduceEqDiff,↓reduceIte,hn,h1,h5,h6,h7,hx.aV Tryz.underlying22,eq_true d1,xI,k1,bd Tryz.underlying5 Tryz.underlying117,pt,e1,cK,Qr,e2,aD]
  exact au (l.length-(i+1)) (by omega) ⟨i+1,rfl,by omega,rfl,by simp only[ae,hn],by simp only[aa,↓reduceIte,Nat.reduceEqDiff,h1],by simp only[aa,↓reduceIte,Nat.reduceEqDiff];rw[ht];rfl,by simp only[aa,↓reduceIte,Nat.reduceEqDiff];rw[ht];rfl,by simp only[aa,↓reduceIte];rfl⟩
 clear hn h0 h1 f
 rintro z f t ⟨rfl,rfl,hn,h5,h6⟩
 have hq:=vY l
 have e1:(((mv l).2:Nat):Int)*65536=(((mv l).2*65536:Nat):Int):=by omega
 have e2:(((mv l).2*65536:Nat):Int)+(((mv l).1:Nat):Int)=((yU l:Nat):Int):=by unfold yU;omega
 have e3:=Qq l
 simp-implicitDefEqProofs(disch:=omega)only[ai,al,oneOf,Nat.reduceLT,Nat.reduceEqDiff,↓reduceIte,hn,h5,h6,e1,pt,e2,Tryz.results168]
 try exact⟨rfl,rfl⟩
theorem Kc {lib:ay}(pT:lib.at 119=none)(hl:lib.at 168=none)(s:aq)(x:Value)(l:List UInt8)(hx:aM s 1 x l.length (ofBytes l))(hlen:l.length<=1000000000):
  Runs Tryz.prog lib 119 [x] s fun v s' =>v= .int .u32 (yU l:Nat)/\s' =s:=by
 refine Runs.enter 5 Tryz.func119 rfl pT rfl rfl ?_
 intro f hn hf
 have h0:f.get 0=x:=hf 0
 clear hf
 simp-implicitDefEqProofs(disch:=omega)only[ai,aj,ad,Nat.reduceLT,Nat.reduceEqDiff,↓reduceIte,hn,h0]
 refine(NJ hl s x l hx hlen).mono ?_
 rintro _ s2 ⟨rfl,rfl⟩
 simp-implicitDefEqProofs(disch:=omega)only[ai,al,oneOf,Nat.reduceLT,↓reduceIte,hn,Tryz.results119]
 try exact⟨rfl,rfl⟩
theorem NK {lib:ay}(pT:lib.at 104=none)(hl:lib.at 151=none)(s:aq)(y x:Value)(l:List UInt8)(hy:aM s 1 y 1 [x])(hx:aM s 1 x l.length (ofBytes l))(hlen:l.length<=1000000000):
  Runs Tryz.prog lib 104 [y] s fun v s' =>v= .int .u32 (yU l:Nat)/\s' =s:=by
 refine Runs.enter 17 Tryz.func104 rfl pT rfl rfl ?_
 intro f hn hf
 have h0:f.get 0=y:=hf 0
 clear hf
 simp-implicitDefEqProofs(disch:=omega)only[ai,ad,Nat.reduceLT,Nat.reduceEqDiff,↓reduceIte,hn,h0,hy.aV Tryz.underlying137]
 refine Comes.bC (fun z f t=>∃i:Nat,z=1-i/\i<=1/\t=s/\f.n=17/\f.get 3= .int .u32 ((if i=0 then 1 else yU l:Nat):Int)/\f.get 6=y/\f.get 7= .int .i64 ((1:Nat):Int)/\f.get 8= .int .i64 (i:Nat))
  (fun z f t=>z= .exit 0/\t=s/\f.n=17/\f.get 3= .int .u32 (yU l:Nat))
  ⟨0,rfl,by omega,rfl,by simp only[ae,hn],by simp only[aa,↓reduceIte,Nat.reduceEqDiff];try rfl,by simp only[aa,↓reduceIte,Nat.reduceEqDiff],by simp only[aa,↓reduceIte,Nat.reduceEqDiff],by simp only[aa,↓reduceIte];try rfl⟩ ?_ ?_
 ·clear hn h0 f
  rintro Q hQ z f t ⟨i,rfl,hi,rfl,hn,h3,h6,h7,h8⟩
  by_cases aP:i<1
  rotate_left
  ·obtain rfl:i=1:=by omega
   have d1:¬((1:Nat):Int)<((1:Nat):Int):=by omega
   simp-implicitDefEqProofs(disch:=omega)only[ai,Nat.reduceLT,↓reduceIte,hn,h7,h8,eq_false d1]
   exact hQ _ _ _ ⟨rfl,rfl,by simp only[ae,hn],by simp only[aa,↓reduceIte,Nat.reduceEqDiff,h3];try rfl⟩
  obtain rfl:i=0:=by omega
  have h3:f.get 3= .int .u32 1:=h3
  have d1:((0:Nat):Int)<((1:Nat):Int):=by omega
  have xI:=hy.indexAddr (P:=Tryz.prog) (k:= .i64) (x:=((0:Nat):Int)) Tryz.underlying137 iY (by omega) (by omega)
  rw[Int.toNat_natCast] at xI
  have k1:=hy.cU (P:=Tryz.prog) mV (k:=0) (by omega)
  have k1:aG Tryz.prog t 22 (aT 1 y 0)=some x:=k1
  simp-implicitDefEqProofs(disch:=omega)only[ai,aj,ad,Nat.reduceLT,Nat.reduceEqDiff,↓reduceIte,hn,h3,h6,h7,h8,eq_true d1,xI,k1]
  refine(Qs hl t x l hx hlen).mono ?_
  rintro _ t2 ⟨rfl,rfl⟩
  simp-implicitDefEqProofs(disch:=omega)only[ai,Nat.reduceLT,Nat.reduceEqDiff,↓reduceIte,hn,h8,aD]
  exact au 0 (by omega) ⟨1,rfl,by omega,rfl,by simp only[ae,hn],by simp only[aa,↓reduceIte,Nat.reduceEqDiff];try rfl,by simp only[aa,↓reduceIte,Nat.reduceEqDiff,h6],by simp only[aa,↓reduceIte,Nat.reduceEqDiff,h7],by simp only[aa,↓reduceIte];try rfl⟩
 clear hn h0 f
 rintro z f t ⟨rfl,rfl,hn,h3⟩
 simp-implicitDefEqProofs(disch:=omega)only[ai,al,oneOf,Nat.reduceLT,↓reduceIte,hn,h3,Tryz.results104]
 try exact⟨rfl,rfl⟩
end Go.Proofs.YtdfjfncifneocaaGreat
