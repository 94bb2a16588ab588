import Derived.Test.YtdfjfncifneocaaGreatFixW
import Derived.Test.YtdfjfncifneocaaGreatDraw
import Derived.Test.YtdfjfncifneocaaGreatNum
import Derived.Test.YtdfjfncifneocaaGreatLooseA
import Derived.Test.YtdfjfncifneocaaGreatMcA
import Derived.Laws.Externs
import GoSem.Extern.BytealgCompare
import Derived.Test.YtdfjfncifneocaaGreatMcB
import Derived.Laws.AppendOwn
import Derived.KernelRfl
open Nat renaming reduceLT->QS,reduceEqDiff->WP
set_option linter.unusedSimpArgs false
set_option linter.unusedVariables false
set_option maxRecDepth 100000
namespace Go.Cl.Fx
open Go.Cl.Rw Go.Cl.Sto
theorem F9 {l:List UInt8}{a d n f:Nat}(h:¬(a+n<l.length/\l.getD (a+n-d) 0=l.getD (a+n) 0)):comm l a d n f=n:=by
 cases f with
 |zero=>rfl
 |succ f=>unfold comm;rw[if_neg h]
theorem XM {l:List UInt8}{a d n f:Nat}(h:a+n<l.length/\l.getD (a+n-d) 0=l.getD (a+n) 0):comm l a d n (f+1)=comm l a d (n+1) f:=by rw[comm,if_pos h]
end Go.Cl.Fx
namespace Go.Proofs.YtdfjfncifneocaaGreat
open Go.Cl Go.Cl.Rw Go.Cl.Sto Go.Cl.Fx
set_option maxHeartbeats 4000000 in
theorem Re {lib:az}(hl:lib.at 171=none)(s:aq)(x:Value)(l:List UInt8)(hx:aN s 1 x l.length (ofBytes l))(hlen:l.length<=1000000000)(a d:Nat)(tT:1<=d)(Ee:d<=a)(Tl:a<=l.length):
  Runs Tryz.prog lib 171 [x,.int .i64 (a:Int),.int .i64 ((a-d:Nat):Int)] s fun v s' =>v= .int .i64 (MF l a d:Nat)/\s' =s:=by
 refine Runs.enter 36 Tryz.func171 rfl hl rfl rfl ?_
 intro f hn hf
 have h0:f.get 0=x:=hf 0
 have h1:f.get 1= .int .i64 (a:Int):=hf 1
 have h2:f.get 2= .int .i64 ((a-d:Nat):Int):=hf 2
 clear hf
 simp-implicitDefEqProofs(disch:=omega)only[aj,QS,↓reduceIte,hn]
 refine Comes.bK (fun q f s' =>∃k:Nat,q=258-k/\k<=258/\a+k<=l.length/\MF l a d=comm l a d k (258-k)/\s' =s/\f.n=36/\f.get 0=x/\f.get 1= .int .i64 (a:Int)/\f.get 2= .int .i64 ((a-d:Nat):Int)/\f.get 7= .int .i64 (k:Nat))
  (fun z f s' =>z= .exit 0/\s' =s/\f.n=36/\f.get 7= .int .i64 (MF l a d:Nat))
  ⟨0,rfl,by omega,Tl,rfl,rfl,by simp only[ag,hn],by simp only[aa,↓reduceIte,WP,h0],by simp only[aa,↓reduceIte,WP,h1],by simp only[aa,↓reduceIte,WP,h2],by simp only[aa,↓reduceIte];rfl⟩ ?_ ?_
 ·clear hn h0 h1 h2 f
  rintro Q hQ q f s' ⟨k,rfl,hk,hak,hc,rfl,hn,h0,h1,h2,h7⟩
  have e2:(a:Int)+(k:Int)=((a+k:Nat):Int):=by omega
  have e1:((a-d:Nat):Int)+(k:Int)=((a+k-d:Nat):Int):=by omega
  by_cases c1:k<258
  rotate_left
  ·obtain rfl:k=258:=by omega
   have d1:¬((258:Nat):Int)<258:=by omega
   simp-implicitDefEqProofs(disch:=omega)only[aj,ak,QS,WP,↓reduceIte,undef,hn,h7,eq_false d1]
   exact hQ _ _ _ ⟨rfl,rfl,by simp only[ag,hn],by simp only[aa,↓reduceIte,WP,h7];rw[hc];rfl⟩
  have d1:(k:Int)<258:=by omega
  by_cases c2:a+k<l.length
  rotate_left
  ·have d2:¬((a+k:Nat):Int)<(l.length:Int):=by omega
   have Af:=F9 (l:=l) (a:=a) (d:=d) (n:=k) (f:=258-k) (fun h=>c2 h.1)
   simp-implicitDefEqProofs(disch:=omega)only[aj,ak,ad,QS,WP,↓reduceIte,undef,hn,h0,h1,h7,eq_true d1,e2,aB,hx.bh Tryz.underlying22,hx.self,eq_false d2]
   exact hQ _ _ _ ⟨rfl,rfl,by simp only[ag,hn],by simp only[aa,↓reduceIte,WP,h7];rw[hc,Af]⟩
  have d2:((a+k:Nat):Int)<(l.length:Int):=by omega
  have bc:a+k-d<l.length:=by omega
  have qo:=hx.indexAddr (P:=Tryz.prog) (k:= .i64) (x:=((a+k:Nat):Int)) Tryz.underlying22 bL (by omega) (by omega)
  have IF:=hx.indexAddr (P:=Tryz.prog) (k:= .i64) (x:=((a+k-d:Nat):Int)) Tryz.underlying22 bL (by omega) (by omega)
  rw[Int.toNat_natCast] at qo IF
  have k1:=hx.dJ (P:=Tryz.prog) mB c2
  have k2:=hx.dJ (P:=Tryz.prog) mB bc
  rw[bG c2] at k1
  rw[bG bc] at k2
  by_cases c3:l.getD (a+k-d) 0=l.getD (a+k) 0
  ·have Af:=XM (l:=l) (a:=a) (d:=d) (n:=k) (f:=258-(k+1)) ⟨c2,c3⟩
   rw[show 258-(k+1)+1=258-k by omega] at Af
   rw[c3] at k2
   simp-implicitDefEqProofs(disch:=omega)only[aj,ak,ad,QS,WP,↓reduceIte,hn,h0,h1,h2,h7,eq_true d1,e2,e1,aB,hx.bh Tryz.underlying22,hx.self,eq_true d2,qo,IF,k1,k2]
   exact au (258-(k+1)) (by omega) ⟨k+1,rfl,by omega,by omega,by rw[hc,Af],rfl,by simp only[ag,hn],by simp only[aa,↓reduceIte,WP,h0],by simp only[aa,↓reduceIte,WP,h1],by simp only[aa,↓reduceIte,WP,h2],by simp only[aa,↓reduceIte];rfl⟩
  ·have d3:¬((l.getD (a+k-d) 0).toNat:Int)=((l.getD (a+k) 0).toNat:Int):=fun e=>c3 (UInt8.toNat_inj.1 (by omega))
   have d4:¬((l.getD (a+k) 0).toNat:Int)=((l.getD (a+k-d) 0).toNat:Int):=fun e=>d3 e.symm
   have Af:=F9 (l:=l) (a:=a) (d:=d) (n:=k) (f:=258-k) (fun h=>c3 h.2)
   simp-implicitDefEqProofs(disch:=omega)only[aj,ak,ad,QS,WP,↓reduceIte,hn,h0,h1,h2,h7,eq_true d1,e2,e1,aB,hx.bh Tryz.underlying22,hx.self,eq_true d2,qo,IF,k1,k2,eq_false d3]
   exact hQ _ _ _ ⟨rfl,rfl,by simp only[ag,hn],by simp only[aa,↓reduceIte,WP,h7];rw[hc,Af]⟩
 clear hn h0 h1 h2 f
 rintro z f s' ⟨rfl,rfl,hn,h7⟩
 simp-implicitDefEqProofs(disch:=omega)only[aj,al,oneOf,QS,↓reduceIte,hn,h7,Tryz.results171]
 try exact⟨rfl,rfl⟩
def abr (s:aq)(l:List UInt8)(v:Value)(s' :aq):Prop:=Own s' 1 v (fixed l).length (ofBytes (fixed l))/\aH s.next v/\ar s.next s s'
theorem ajc:cE Tryz.prog 202 []=some (.agg #[.slice none 0 0,.int .i64 0]):=by kernel_rfl
set_option maxHeartbeats 4000000 in
theorem Rf {lib:az}(hl:lib.at 133=none)(lP:lib.at 171=none)(hla:lib.at 173=none)(hlg:lib.at 202=none)(DR:lib.at 172=none)(js:lib.at 201=none)(jQ:lib.at 170=none)(lj:lib.at 200=none)(hly:lib.at 138=none)(Al:lib.at 36=none)
  (s:aq) (x:Value) (l:List UInt8) (hx:aN s 1 x l.length (ofBytes l)) (hlen:l.length<=10000000):
  Runs Tryz.prog lib 133 [x] s (abr s l):=by
 refine Runs.enter 60 Tryz.func133 rfl hl rfl rfl ?_
 intro f hn hf
 have h0:f.get 0=x:=hf 0
 clear hf
 simp-implicitDefEqProofs(disch:=omega)only[aj,ae,QS,↓reduceIte,hn,ajc]
 refine ax ?_
 intro s1 eO bm iY
 have eO:av s1 s.next [.slice none 0 0,.int .i64 0]:=eO
 have ou:kx s.next s1 s.next (.slice none 0 0) ([],0):=⟨eO,.nil,aH.nil _,(fun e=>by cases e),Nat.le_refl _,⟨Nat.le_refl _,by decide⟩⟩
 simp-implicitDefEqProofs(disch:=omega)only[aj,ak,ad,QS,Nat.reduceAdd,↓reduceIte,hn,Ua,List.length_cons,List.length_nil]
 refine(Az jQ lj s.next s1 s.next (.slice none 0 0) ([],0) 3 3 ou bm.next (by decide)).mono ?_
 rintro _ s2 ⟨v2,gr,AD⟩
 have gr:kx s.next s2 s.next v2 jK:=gr
 have dg:ar s.next s s2:=bm.trans (AD.stay (Nat.le_refl _) (aH.nil _) bm.next)
 obtain⟨j,hj⟩:∃j,j=s.next:=⟨_,rfl⟩
 have hF:=wB.2
 simp-implicitDefEqProofs(disch:=omega)only[aj,QS,↓reduceIte,hn]
 refine Comes.bK (fun z f t=>∃(a:Nat) (p:List UInt8×Nat) (v:Value),z=l.length-a/\a<=l.length/\kx s.next t s.next v p/\p.2<=3+9*a/\tG l a p=tG l 0 jK/\ar s.next s t/\f.n=60/\f.get 0=x/\f.get 3=ql s.next/\f.get 4= .int .i64 (a:Nat))
  (fun z f t=>z= .exit 0/\∃(p:List UInt8×Nat) (v:Value),kx s.next t s.next v p/\p.2<=3+9*l.length/\p=tG l 0 jK/\ar s.next s t/\f.n=60/\f.get 3=ql s.next)
  ⟨0,jK,v2,rfl,by omega,gr,by omega,rfl,dg,by simp only[ag,hn],by simp only[aa,↓reduceIte,WP,h0],by simp only[aa,↓reduceIte,WP],by simp only[aa,↓reduceIte];rfl⟩ ?_ ?_
 ·clear hn h0 f
  rintro Q hQ z f t ⟨a,p,v,rfl,ha,hr,hp,Ga,aD,hn,h0,h3,h4⟩
  have xz:=hx.keeps aD
  by_cases bc:a<l.length
  rotate_left
  ·obtain rfl:a=l.length:=by omega
   have d1:¬((l.length:Nat):Int)<((l.length:Nat):Int):=by omega
   rw[pC l p (Nat.le_refl _)] at Ga
   simp-implicitDefEqProofs(disch:=omega)only[aj,ad,QS,WP,↓reduceIte,hn,h0,h4,xz.bh Tryz.underlying22,eq_false d1]
   exact hQ _ _ _ ⟨rfl,p,v,hr,hp,Ga,aD,by simp only[ag,hn],by simp only[aa,↓reduceIte,WP,h3]⟩
  have d1:(a:Int)<(l.length:Int):=by omega
  rw[tj l p bc] at Ga
  simp-implicitDefEqProofs(disch:=omega)only[aj,ad,QS,WP,↓reduceIte,hn,h0,h4,xz.bh Tryz.underlying22,eq_true d1]
  refine Comes.bK (fun z f t' =>∃k:Nat,z=nL a-k/\k<=nL a/\t' =t/\f.n=60/\f.get 0=x/\f.get 3=ql s.next/\f.get 4= .int .i64 (a:Nat)/\f.get 5= .int .i64 ((cS l a k).1:Nat)/\f.get 6= .int .i64 ((cS l a k).2:Nat)/\f.get 7= .int .i64 ((k:Int)+1))
   (fun z f t' =>z= .exit 2/\t' =t/\f.n=60/\f.get 0=x/\f.get 3=ql s.next/\f.get 4= .int .i64 (a:Nat)/\f.get 5= .int .i64 ((cS l a (nL a)).1:Nat)/\f.get 6= .int .i64 ((cS l a (nL a)).2:Nat))
   ⟨0,rfl,by omega,rfl,by simp only[ag,hn],by simp only[aa,↓reduceIte,WP,h0],by simp only[aa,↓reduceIte,WP,h3],by simp only[aa,↓reduceIte,WP,h4],by simp only[aa,↓reduceIte,WP];rfl,by simp only[aa,↓reduceIte,WP];rfl,by simp only[aa,↓reduceIte];rfl⟩ ?_ ?_
  ·clear hn h0 h3 h4 f
   rintro Q2 ZD z f t' ⟨k,rfl,hk,rfl,hn,h0,h3,h4,h5,h6,h7⟩
   have ae4:(if(64:Int)<(a:Int) then(64:Int) else(a:Int))=((nL a:Nat):Int):=by unfold nL;split<;>omega
   by_cases hkf:k<nL a
   rotate_left
   ·obtain rfl:k=nL a:=by omega
    have d2:¬((nL a:Nat):Int)+1<=((nL a:Nat):Int):=by omega
    simp-implicitDefEqProofs(disch:=omega)only[aj,ad,QS,WP,↓reduceIte,hn,h4,h7,ae4,eq_false d2]
    exact ZD _ _ _ ⟨rfl,rfl,by simp only[ag,hn],by simp only[aa,↓reduceIte,WP,h0],by simp only[aa,↓reduceIte,WP,h3],by simp only[aa,↓reduceIte,WP,h4],by simp only[aa,↓reduceIte,WP,h5],by simp only[aa,↓reduceIte,WP,h6]⟩
   have hka:k+1<=a:=by unfold nL at hkf;omega
   have d2:(k:Int)+1<=((nL a:Nat):Int):=by omega
   simp-implicitDefEqProofs(disch:=omega)only[aj,ak,ad,QS,WP,↓reduceIte,hn,h0,h4,h7,ae4,eq_true d2,aB]
   rw[show(a:Int)-((k:Int)+1)=((a-(k+1):Nat):Int) by omega]
   refine(Re lP t' x l xz (by omega) a (k+1) (by omega) hka ha).mono ?_
   rintro _ t2 ⟨rfl,rfl⟩
   by_cases c:(cS l a k).1<MF l a (k+1)
   ·have d3:((MF l a (k+1):Nat):Int)>((cS l a k).1:Nat):=by omega
    have hb:cS l a (k+1)=(MF l a (k+1),k+1):=by rw[cS,if_pos c]
    simp-implicitDefEqProofs(disch:=omega)only[aj,QS,WP,↓reduceIte,hn,h5,h7,eq_true d3,aB]
    exact au (nL a-(k+1)) (by omega) ⟨k+1,rfl,by omega,rfl,by simp only[ag,hn],by simp only[aa,↓reduceIte,WP,h0],by simp only[aa,↓reduceIte,WP,h3],by simp only[aa,↓reduceIte,WP,h4],by simp only[aa,↓reduceIte,WP];rw[hb],by simp only[aa,↓reduceIte,WP];rw[hb];rfl,by simp only[aa,↓reduceIte];rfl⟩
   ·have d3:¬((MF l a (k+1):Nat):Int)>((cS l a k).1:Nat):=by omega
    have hb:cS l a (k+1)=cS l a k:=by rw[cS,if_neg c]
    simp-implicitDefEqProofs(disch:=omega)only[aj,QS,WP,↓reduceIte,hn,h5,h7,eq_false d3,aB]
    exact au (nL a-(k+1)) (by omega) ⟨k+1,rfl,by omega,rfl,by simp only[ag,hn],by simp only[aa,↓reduceIte,WP,h0],by simp only[aa,↓reduceIte,WP,h3],by simp only[aa,↓reduceIte,WP,h4],by simp only[aa,↓reduceIte,WP,h5];rw[hb],by simp only[aa,↓reduceIte,WP,h6];rw[hb],by simp only[aa,↓reduceIte];rfl⟩
  clear hn h0 h3 h4 f
  rintro z f t' ⟨rfl,rfl,hn,h0,h3,h4,h5,h6⟩
  have tH:=CH l bc
  have Pb:=pA l a
  have oY:=JO l a p
  by_cases c3:(cS l a (nL a)).1<3
  ·have d3:(((cS l a (nL a)).1:Nat):Int)<3:=by omega
   have eA:iX l a=a+1:=by unfold iX;rw[if_pos c3]
   have eP:iA l a p=iW p (l.getD a 0).toNat:=by unfold iA;rw[if_pos c3]
   rw[eA,eP] at Ga oY
   have qo:=xz.indexAddr (P:=Tryz.prog) (k:= .i64) (x:=(a:Int)) Tryz.underlying22 bL (by omega) (by omega)
   rw[Int.toNat_natCast] at qo
   have k1:=xz.dJ (P:=Tryz.prog) mB bc
   rw[bG bc] at k1
   have hc:=(l.getD a 0).toNat_lt
   simp-implicitDefEqProofs(disch:=omega)only[aj,ak,ad,QS,WP,↓reduceIte,hn,h0,h3,h4,h5,eq_true d3,qo,k1,bR Tryz.underlying5 Tryz.underlying3,aB]
   refine(qn DR js jQ lj s.next t' s.next v p (l.getD a 0).toNat hr aD.next (by omega) (by omega)).mono ?_
   rintro _ t2 ⟨v',Mc,to'⟩
   simp-implicitDefEqProofs(disch:=omega)only[aj,QS,WP,↓reduceIte,hn,h4,aB]
   exact au (l.length-(a+1)) (by omega) ⟨a+1,_,v',rfl,by omega,Mc,by omega,Ga,aD.trans (to'.stay (Nat.le_refl _) hr.fresh aD.next),by simp only[ag,hn],by simp only[aa,↓reduceIte,WP,h0],by simp only[aa,↓reduceIte,WP,h3],by simp only[aa,↓reduceIte];rfl⟩
  ·have Ud:=CI c3
   have d3:¬(((cS l a (nL a)).1:Nat):Int)<3:=by omega
   have eA:iX l a=a+(cS l a (nL a)).1:=by unfold iX;rw[if_neg c3]
   have eP:iA l a p=lU p (cS l a (nL a)).1 (cS l a (nL a)).2:=by unfold iA;rw[if_neg c3]
   rw[eA] at tH Pb
   rw[eA,eP] at Ga oY
   simp-implicitDefEqProofs(disch:=omega)only[aj,ak,ad,QS,WP,↓reduceIte,hn,h3,h5,h6,eq_false d3]
   refine(Rd hla hlg DR js jQ lj s.next t' s.next v p _ _ hr aD.next (by omega) Ud.1 Ud.2.1 Ud.2.2.1 Ud.2.2.2.1).mono ?_
   rintro _ t2 ⟨v',Mc,to'⟩
   simp-implicitDefEqProofs(disch:=omega)only[aj,QS,WP,↓reduceIte,hn,h4,h5,aB]
   exact au (l.length-(a+(cS l a (nL a)).1)) (by omega) ⟨a+(cS l a (nL a)).1,_,v',rfl,by omega,Mc,by omega,Ga,aD.trans (to'.stay (Nat.le_refl _) hr.fresh aD.next),by simp only[ag,hn],by simp only[aa,↓reduceIte,WP,h0],by simp only[aa,↓reduceIte,WP,h3],by simp only[aa,↓reduceIte];rfl⟩
 clear hn h0 f
 rintro z f t ⟨rfl,p,v,hr,hp,hpe,aD,hn,h3⟩
 simp-implicitDefEqProofs(disch:=omega)only[aj,ak,ad,QS,↓reduceIte,hn,h3]
 refine(qn DR js jQ lj s.next t s.next v p 256 hr aD.next (by omega) (by omega)).mono ?_
 rintro _ t2 ⟨v',Mc,to'⟩
 have aU:=aD.trans (to'.stay (Nat.le_refl _) hr.fresh aD.next)
 simp-implicitDefEqProofs(disch:=omega)only[aj,ak,ad,QS,WP,↓reduceIte,hn,h3,Ua]
 have HW:=wC l
 have e:fixed l=(iW p 256).1:=by unfold fixed;rw[AB,hpe]
 rw[e] at HW
 refine(Q8 hly Al s.next t2 s.next v' _ Mc (by omega)).mono ?_
 rintro w t3 ⟨ho,hF,bH⟩
 simp-implicitDefEqProofs(disch:=omega)only[aj,al,oneOf,QS,↓reduceIte,hn,Tryz.results133]
 refine⟨by rw[e];exact ho,fun i hi=>Nat.le_trans aU.next (hF i hi),aU.trans (bH.weaken aU.next)⟩
end Go.Proofs.YtdfjfncifneocaaGreat
set_option linter.unusedSimpArgs false
set_option linter.unusedVariables false
set_option maxRecDepth 100000
namespace Go.Cl.Fx
open Go.Cl.Rw Go.Cl.Sto
def fZ (L:List Nat):List Value:=L.map fun n:Nat=> .int .i64 (n:Int)
theorem uR {L:List Nat}{i:Nat}(h:i<L.length):(fZ L).getD i undef= .int .i64 ((L.getD i 0:Nat):Int):=by
 simp[fZ,List.getD_eq_getElem?_getD,List.getElem?_map,List.getElem?_eq_getElem h]
def fG:List Nat:=(List.range 288).map fun s=>(gB s).2
theorem zC:fG.length=288:=by simp[fG]
end Go.Cl.Fx
namespace Go.Cl.Fx
end Go.Cl.Fx
namespace Go.Proofs.YtdfjfncifneocaaGreat
open Go.Cl Go.Cl.Rw Go.Cl.Sto Go.Cl.Fx
theorem Ue:fe Tryz.prog 3=some 8:=by kernel_rfl
theorem Pc:bW Tryz.prog 3=some (.int .i64 0):=by kernel_rfl
theorem qp:Tryz.prog.underlying 134=some (.slice 3):=Tryz.underlying134
end Go.Proofs.YtdfjfncifneocaaGreat
set_option linter.unusedSimpArgs false
set_option linter.unusedVariables false
set_option maxRecDepth 100000
namespace Go.Cl.Fx
open Go.Cl.Rw Go.Cl.Sto
end Go.Cl.Fx
namespace Go.Proofs.YtdfjfncifneocaaGreat
open Go.Cl Go.Cl.Rw Go.Cl.Sto Go.Cl.Fx
end Go.Proofs.YtdfjfncifneocaaGreat
set_option linter.unusedSimpArgs false
set_option linter.unusedVariables false
set_option maxRecDepth 100000
namespace Go.Cl.Fx
open Go.Cl.Rw Go.Cl.Sto
theorem ajd (P:Program)(t:TypeId)(k' :IntKind){x k:Nat}(hk:k<=16)(hx:x*2^k<=1000000):cI P .shl t (.int .i64 ((x:Nat):Int)) (.int k' (k:Nat))=some (.int .i64 ((x*2^k:Nat):Int)):=by
 rw[my P t .i64 _ _ k' (by omega)]
 have e:min ((k:Nat):Int).toNat IntKind.i64.bits=k:=by
  have:IntKind.i64.bits=64:=rfl
  rw[this,Int.toNat_natCast];omega
 have e2:((x:Nat):Int)*(2:Int)^k=((x*2^k:Nat):Int):=by norm_cast
 rw[e,e2,aB (by omega)]
end Go.Cl.Fx
namespace Go.Proofs.YtdfjfncifneocaaGreat
open Go.Cl Go.Cl.Rw Go.Cl.Sto Go.Cl.Fx
end Go.Proofs.YtdfjfncifneocaaGreat
namespace Go.Cl
open Go.RowKit Go.ChangeShapes Go.WideShapes
theorem XN {α:Type}{q:Nat->α->Prop}:∀n:Nat,(∀i,i<n->∃d,q i d)->∃D:List α,D.length=n/\∀i,i<n->∃d,D[i]?=some d/\q i d:=by
 intro n
 induction n with
 |zero=>intro _;exact⟨[],rfl,fun i h=>by omega⟩
 |succ n ih=>
  intro h
  obtain⟨D,h1,h2⟩:=ih (fun i hi=>h i (by omega))
  obtain⟨d,hd⟩:=h n (by omega)
  refine⟨D++[d],by simp[h1],fun i hi=> ?_⟩
  by_cases L1:i<n
  ·obtain⟨e,e1,e2⟩:=h2 i L1
   exact⟨e,by rw[List.getElem?_append_left (by omega)];exact e1,e2⟩
  ·obtain rfl:i=n:=by omega
   exact⟨d,by rw[List.getElem?_append_right (by omega),h1,Nat.sub_self];rfl,hd⟩
theorem JR {α:Type}{f:α->List Value}{z:Nat}(hl:∀d,(f d).length=z):∀D:List α,(D.flatMap f).length=D.length*z:=by
 intro D
 induction D with
 |nil=>simp
 |cons d D ih=>rw[List.flatMap_cons,List.length_append,hl,ih,List.length_cons,Nat.succ_mul,Nat.add_comm]
theorem CK {α:Type}{f:α->List Value}{z:Nat}(hl:∀d,(f d).length=z){j:Nat}(hj:j<z):∀(D:List α) (i:Nat) (d:α),D[i]?=some d->(D.flatMap f).getD (i*z+j) undef=(f d).getD j undef:=by
 intro D
 induction D with
 |nil=>intro i d h;simp at h
 |cons e D ih=>
  intro i d h
  rw[List.flatMap_cons,List.getD_eq_getElem?_getD]
  cases i with
  |zero=>
   simp at h;subst h
   rw[Nat.zero_mul,Nat.zero_add,List.getElem?_append_left (by rw[hl];exact hj),List.getD_eq_getElem?_getD]
  |succ i=>
   have h' :D[i]?=some d:=by simpa using h
   rw[List.getElem?_append_right (by rw[hl,Nat.succ_mul];omega),hl]
   have e2:(i+1)*z+j-z=i*z+j:=by rw[Nat.succ_mul];omega
   rw[e2,<-List.getD_eq_getElem?_getD]
   exact ih i d h'
theorem JS (b o n:Nat):(⟨b,o,none⟩:Addr).add n=⟨b,o+n,none⟩:=by
 unfold Addr.add;split
 ·rename_i h;subst h;rfl
 ·rfl
theorem Rg {W:World}{a:Addr}{v:Value}(h:W.cell? a=some v):a.spot=none:=by
 unfold World.cell? at h
 split at h
 ·split at h
  ·cases h
  ·rename_i q;simpa using q
 ·cases h
theorem Rh {W:World}{b o:Nat}{v:Value}(h:W.cell? ⟨b,o,none⟩=some v):∃arr E fr,W.heap[b]?=some (.cells arr E fr)/\o<arr.size:=by
 unfold World.cell? at h
 split at h
 ·rename_i c E fr hh
  refine⟨c,E,fr,hh,?_⟩
  simp only[Option.isSome_none,Bool.false_eq_true,if_false] at h
  rcases Nat.lt_or_ge o c.size with q|q
  ·exact q
  ·rw[Array.getElem?_eq_none q] at h;cases h
 ·cases h
variable {H:Type} {enc:TypeId×Value->H} {P:Program}
theorem mj.rows {W:World}{S:St}(h:mj W S){α:Type}(f:α->List Value)(p:α->Prop){t e:TypeId}{z:Nat}{r:Reach}{b0:Nat}{v:Value}{d:DataW H}{ps:List MemPlace}(ht:P.underlying t=some (.slice e))(hc:P.cellsOf e=z)(hz:0<z)
  (qq:∀fuel cs x,DataW.trod enc P W 0 (fun _=>true) true fuel e cs=some x->∃d,p d/\cs=f d) (hl:∀d,(f d).length=z) (hvr:∀(S:St) d v,v∈f d->VR S v v)
  (Jw:Value.okWide P W r b0 t v) (hd:DataW.Trod enc P W 0 (fun _=>true) true t v d ps):
  ∃(S' :St) (v' :Value) (D:List α),Jv W S S' v' v/\aN S'.s z v' D.length (D.flatMap f)/\(∀d∈D,p d):=by
 obtain⟨a,len,cap,rfl⟩:=okWide_slice ht Jw
 obtain⟨fuel,hf⟩:=hd
 have dead:∀v',VR S v' (.slice a len cap)->∃S',Jv W S S' v' (.slice a len cap):=fun v' hv=>by
  obtain⟨h1,h2,h3,h4⟩:=h.push ⟨[],2,false,1⟩ (0,0) rfl (by simp) (fun c hc=>by simp only[Live,List.length_nil] at hc;omega) (fun c hc=>by simp only[Live,List.length_nil] at hc;omega) (fun c hc=>by simp only[Live,List.length_nil] at hc;omega)
  exact⟨_,h1,h2,h3,h4,hv.mono h2⟩
 rcases DataW.trod_slice ht hf with ⟨Af,_⟩|⟨a',aa4,aa5,elems,rest,n,_,Af,_,hb,js,hm,ef,yj,eI,_⟩
 ·have uI:[Value.slice a len cap]=[Value.slice none 0 0]:=Af
  injection uI with uI _
  injection uI with e1 e2 e3;subst e1;subst e2;subst e3
  obtain⟨S',hj⟩:=dead (.slice none 0 0) .gq
  exact⟨S',_,[],hj,.nil,fun d hd=>by cases hd⟩
 ·have uI:[Value.slice a len cap]=[Value.slice (some a') aa4 aa5]:=Af
  injection uI with uI _
  injection uI with e1 e2 e3;subst e1;subst e2;subst e3
  by_cases oZ:cap=0
  ·subst oZ
   obtain rfl:len=0:=by omega
   obtain⟨S',hj⟩:=dead (.slice (some ⟨0,0,none⟩) 0 0) (.slice 0 0 0 0 a' 0 (Nat.le_refl _) (fun _=>rfl) (fun hx=>by omega))
   exact⟨S',_,[],hj,.bare _ _,fun d hd=>by cases hd⟩
  ·rw[hc] at yj eI
   have each:∀i,i<cap->∃d,p d/\W.cells? 0 (a'.add (i*z)) z=some (f d):=by
    intro i hi
    have:∃y,(W.cells? 0 (a'.add (i*z)) z).bind (DataW.trod enc P W 0 (fun _=>true) true n e)=some y:=by
     by_cases Xj:i<len
     ·have:=yj i Xj
      rw[List.getElem?_eq_getElem (by omega)] at this
      exact⟨_,this⟩
     ·obtain⟨ou,gr⟩:=eI rfl
      have:=gr (i-len) (by omega)
      rw[show len+(i-len)=i by omega,List.getElem?_eq_getElem (by omega)] at this
      exact⟨_,this⟩
    obtain⟨y,hy⟩:=this
    rw[Option.bind_eq_some_iff] at hy
    obtain⟨cs,Af,hy⟩:=hy
    obtain⟨d,hd,rfl⟩:=qq _ _ _ hy
    exact⟨d,hd,Af⟩
   obtain⟨D,hDl,hD⟩:=XN cap each
   have ZE:a'.spot=none:=by
    obtain⟨d,_,_,hd⟩:=hD 0 (by omega)
    obtain⟨_,_,hg⟩:=World.cells?_some hd
    have h0:=hg 0 hz
    rw[List.getElem?_eq_getElem (by rw[hl];exact hz)] at h0
    have:=Rg h0
    rw[Nat.zero_mul] at this
    simpa [Addr.add] using this
   obtain⟨ab,ao,asp⟩:=a'
   simp only at ZE;subst ZE
   have iz:∀i d j,D[i]?=some d->j<z->W.cell? ⟨ab,ao+(i*z+j),none⟩=some ((f d).getD j undef):=by
    intro i d j hi hj
    have DS:i<cap:=by
     rcases Nat.lt_or_ge i D.length with q|q
     ·omega
     ·rw[List.getElem?_eq_none q] at hi;cases hi
    obtain⟨d',e1,_,hd⟩:=hD i DS
    rw[hi] at e1;injection e1 with e1;subst e1
    obtain⟨_,_,hg⟩:=World.cells?_some hd
    have:=hg j hj
    rw[JS,JS,List.getElem?_eq_getElem (by rw[hl];exact hj)] at this
    rw[<-Nat.add_assoc,this]
    simp[List.getD,List.getElem?_eq_getElem (show j<(f d).length by rw[hl];exact hj)]
   have nI:∃arr E fr,W.heap[ab]?=some (.cells arr E fr)/\ao+cap*z<=arr.size:=by
    obtain⟨d,hd,_⟩:=hD (cap-1) (by omega)
    obtain⟨arr,E,fr,h1,h2⟩:=Rh (iz (cap-1) d (z-1) hd (by omega))
    refine⟨arr,E,fr,h1,?_⟩
    have:cap*z=(cap-1)*z+z:=by
     conv=>lhs;rw[show cap=(cap-1)+1 by omega,Nat.succ_mul]
    omega
   obtain⟨arr,E,fr,hh,b6⟩:=nI
   have bc:ab<W.heap.size:=by
    rcases Nat.lt_or_ge ab W.heap.size with q|q
    ·exact q
    ·rw[Array.getElem?_eq_none q] at hh;cases hh
   have hTl:(D.take len).length=len:=by rw[List.length_take];omega
   have hFl:((D.take len).flatMap f).length=len*z:=by rw[JR hl,hTl]
   have hFg:∀q,q<len*z->∃i d j,D[i]?=some d/\j<z/\q=i*z+j/\((D.take len).flatMap f).getD q undef=(f d).getD j undef:=by
    intro q hq
    have hqz:q/z<len:=Nat.div_lt_of_lt_mul (by rw[Nat.mul_comm];exact hq)
    have Ax:q=q/z*z+q%z:=by rw[Nat.mul_comm];exact(Nat.div_add_mod q z).symm
    have hm2:q%z<z:=Nat.mod_lt _ hz
    obtain⟨d,hd,_⟩:=hD (q/z) (by omega)
    have hdt:(D.take len)[q/z]?=some d:=by rw[List.getElem?_take,if_pos hqz];exact hd
    refine⟨q/z,d,q%z,hd,hm2,Ax,?_⟩
    conv=>lhs;rw[Ax]
    exact CK hl hm2 _ _ _ hdt
   obtain⟨h1,h2,h3,h4⟩:=h.push ⟨(D.take len).flatMap f,len*z+1,false,z⟩ (ab,ao) rfl (by simp) (fun c hc=>by simp only[Live,hFl] at hc|-;omega) (fun c _=>bc) (fun c _ q hq=>by
    simp only[hFl] at hq
    obtain⟨i,d,j,hd,hj,e1,e2⟩:=hFg q hq
    refine⟨(f d).getD j undef,by rw[e1];exact iz i d j hd hj,?_⟩
    rw[e2]
    have SL:j<(f d).length:=by rw[hl];exact hj
    refine hvr _ d _ ?_
    rw[List.getD_eq_getElem?_getD,List.getElem?_eq_getElem SL]
    exact List.getElem_mem SL)
   have Eh:(S.cH ⟨(D.take len).flatMap f,len*z+1,false,z⟩ (ab,ao)).s.bA S.s.next=some ⟨(D.take len).flatMap f,len*z+1,false,z⟩:=nU _ _
   refine⟨_,.slice (some ⟨S.s.next,0,none⟩) len (len*z+1),D.take len,⟨h1,h2,h3,h4,?_⟩,?_,fun d hd=> ?_⟩
   ·refine .slice _ _ _ _ _ cap js (fun q=>by omega) (fun _=>⟨⟨_,Eh,by simp only[hFl];omega,fun _=> ?_⟩,fun b hb hl=> ?_⟩)
    ·simp only[St.cH,if_true];simp
    ·rw[Eh] at hb;obtain rfl:=Option.some.inj hb
     exact⟨arr,E,fr,by show S.w.heap[ab]?=_;rw[h.w];exact hh,b6⟩
   ·rw[hTl]
    refine .of S.s.next 0 len _ _ _ (by rw[h4];omega) Eh rfl (by simp) (by simp only[hFl];omega) hFl (by omega) ?_
    rw[List.drop_zero];exact List.take_of_length_le (by rw[hFl];exact Nat.le_refl _)
   ·obtain⟨i,hi⟩:=List.getElem?_of_mem (List.mem_of_mem_take hd)
    have DS:i<cap:=by
     rcases Nat.lt_or_ge i D.length with q|q
     ·omega
     ·rw[List.getElem?_eq_none q] at hi;cases hi
    obtain⟨d',e1,hp,_⟩:=hD i DS
    rw[hi] at e1;injection e1 with e1;subst e1;exact hp
def ft:Value->Nat->Value
 | .pointer (some ⟨i,o,some c⟩),j=> .pointer (some ⟨i,o+j,some c⟩)
 |v,_=>v
theorem CL (z:Nat)(v:Value)(k j:Nat):cf (ft (bJ z v k) j) (ft (bJ z v k) j)=true:=by
 unfold bJ
 split<;>exact lg _
theorem aN.Gb {e:TypeId}(nK:bY P e=some false){s:aq}{z:Nat}{v:Value}{n:Nat}{l:List Value}(h:aN s z v n l){k j:Nat}(hk:k<n)(hj:j<z):aR P s e (ft (bJ z v k) j)=some (l.getD (k*z+j) undef):=by
 have hlen:=h.length
 cases h with
 |nil=>omega
 |bare=>omega
 |of i off n c b l hi hb hz hl hc hlen eZ ht=>
  have hkz:k*z+z<=n*z:=by
   have:(k+1)*z<=n*z:=Nat.mul_le_mul_right z hk
   rwa [Nat.succ_mul] at this
  show aR P s e (.pointer (some ⟨i,off+k*z+j,some c⟩))=_
  unfold aR
  simp only[nK]
  rw[gi hb hl hc (by omega)]
  have e2:b.cells.drop (off+k*z+j)=(b.cells.drop off).drop (k*z+j):=by rw[List.drop_drop];congr 1;omega
  have xH:k*z+j<l.length:=by omega
  have e3:((b.cells.drop off).drop (k*z+j)).take 1=[l.getD (k*z+j) undef]:=by
   have:((b.cells.drop off).drop (k*z+j)).take 1=(((b.cells.drop off).take (n*z)).drop (k*z+j)).take 1:=by
    rw[List.drop_take,List.take_take];congr 1;omega
   rw[this,ht,List.drop_eq_getElem_cons xH,List.take_succ_cons,List.take_zero,List.getD_eq_getElem?_getD,List.getElem?_eq_getElem xH]
   rfl
  rw[e2,e3]
end Go.Cl
namespace Go.Cl
theorem LA.mD {A:Nat->Bool}{s:aq}{z:Nat}{v:Value}{n:Nat}{l:List Value}(h:aN s z v n l)(hA:∀i,i<s.next->A i=true){k:Nat}(hk:k<n):LA.fg A (some (bJ z v k))=true:=by
 cases h with
 |nil=>omega
 |bare=>omega
 |of i off n c bl l hi hbb hz hl hc hlen eZ ht=>simp only[bJ,LA.fg];exact hA i hi
end Go.Cl
set_option linter.unusedSimpArgs false
set_option linter.unusedVariables false
set_option maxRecDepth 100000
namespace Go.Cl.Fx
open Go.Cl.Rw Go.Cl.Sto
def MI (j:Nat)(v a:Value):Prop:=∀i,aE a=some i->i≠j/\aE v≠some i
theorem MI.own {j:Nat}{v v' a:Value}{s s' :aq}{n:Nat}{L:List Value}(h:MI j v a)(ho:Own s 1 a n L)(k:cZ j v s v' s'):Own s' 1 a n L/\MI j v' a:=by
 refine⟨?_,fun i hi=>⟨(h i hi).1,?_⟩⟩
 ·cases ho with
  |nil=>exact .nil
  |of i n low l hi hb hl hlen=>
   have:=h i rfl
   refine .of i _ low _ (Nat.lt_of_lt_of_le hi k.next) ?_ hl hlen
   simp only[aq.bA,k.get i hi this.1 this.2];exact hb
 ·rcases k.id with e|⟨q,e,hq⟩
  ·rw[e];exact(h i hi).2
  ·rw[e];intro e2;injection e2 with e2;have:=ho.g8 i hi;omega
end Go.Cl.Fx
namespace Go.Proofs.YtdfjfncifneocaaGreat
open Go.Cl Go.Cl.Rw Go.Cl.Sto Go.Cl.Fx
end Go.Proofs.YtdfjfncifneocaaGreat
namespace Go.Cl
def HX (w n j:Nat):List UInt8:=(List.range j).map fun q=>UInt8.ofNat (n/256^(w-1-q))
def be (w n:Nat):List UInt8:=HX w n w
theorem Ri (w n j:Nat):HX w n (j+1)=HX w n j++[UInt8.ofNat (n/256^(w-1-j))]:=by
 unfold HX;rw[List.range_succ,List.map_append];rfl
theorem JT (w n j:Nat):(HX w n j).length=j:=by simp[HX]
theorem pD (w n:Nat):(be w n).length=w:=JT _ _ _
theorem XO (n:Nat):be 4 n=[UInt8.ofNat (n/16777216),UInt8.ofNat (n/65536),UInt8.ofNat (n/256),UInt8.ofNat n]:=by
 simp[be,HX,List.range_succ]
theorem MJ (w n:Nat):∀j,j<=w->jJ (HX w n j)=n/256^(w-j)%256^j:=by
 intro j
 induction j with
 |zero=>intro _;simp[HX,jJ,Nat.mod_one]
 |succ j ih=>
  intro hj
  rw[Ri,uP,ih (by omega)]
  have e:w-j=w-1-j+1:=by omega
  rw[UInt8.toNat_ofNat',e,show w-(j+1)=w-1-j by omega,Nat.pow_succ,<-Nat.div_div_eq_div_mul,Nat.pow_succ 256 j,Nat.mul_comm (256^j) 256,Nat.mod_mul]
  omega
theorem Uf {w n:Nat}(h:n<256^w):jJ (be w n)=n:=by
 unfold be
 rw[MJ w n w (Nat.le_refl _),Nat.sub_self,Nat.pow_zero,Nat.div_one,Nat.mod_eq_of_lt h]
end Go.Cl
set_option linter.unusedSimpArgs false
set_option linter.unusedVariables false
set_option maxRecDepth 100000
namespace Go.Proofs.YtdfjfncifneocaaGreat
open Go.Cl
end Go.Proofs.YtdfjfncifneocaaGreat
set_option linter.unusedSimpArgs false
set_option linter.unusedVariables false
set_option maxRecDepth 100000
namespace Go.Cl
def XP (q:Nat×Nat)(c:UInt8):Nat×Nat:=((q.1+c.toNat)%65521,(q.2+(q.1+c.toNat)%65521)%65521)
def uS (l:List UInt8):Nat×Nat:=l.foldl XP (1,0)
def zD (l:List UInt8):Nat:=(uS l).2*65536+(uS l).1
theorem HY (l:List UInt8):(uS l).1<65521/\(uS l).2<65521:=by
 have key:∀(l:List UInt8) (q:Nat×Nat),q.1<65521/\q.2<65521->(l.foldl XP q).1<65521/\(l.foldl XP q).2<65521:=by
  intro l
  induction l with
  |nil=>intro q h;exact h
  |cons c l ih=>intro q h;exact ih _ ⟨Nat.mod_lt _ (by omega),Nat.mod_lt _ (by omega)⟩
 exact key l _ (by decide)
theorem Ug (l:List UInt8):zD l<4294967296:=by
 have:=HY l
 unfold zD;omega
theorem Rj {l:List UInt8}{i:Nat}(h:i<l.length):uS (l.take (i+1))=XP (uS (l.take i)) (l.getD i 0):=by
 unfold uS
 rw[List.take_add_one,List.getElem?_eq_getElem h,List.foldl_append,List.getD_eq_getElem?_getD,List.getElem?_eq_getElem h];rfl
theorem wD {x:Int}(h0:0<=x)(h:x<4294967296):IntKind.u32.wrap x=x:=by
 have e1:IntKind.u32.bits=32:=rfl
 have e2:IntKind.u32.signed=false:=rfl
 simp only[IntKind.wrap,e1,e2,Bool.false_and]
 simp
 omega
theorem orU {y x:Nat}(hy:y<65536)(hx:x<65536):IntKind.u32.wrap (((BitVec.ofInt IntKind.u32.bits ((y*65536:Nat):Int)|||BitVec.ofInt IntKind.u32.bits (x:Int)).toNat:Nat):Int)=((y*65536+x:Nat):Int):=by
 have e1:IntKind.u32.bits=32:=rfl
 rw[e1]
 have:(BitVec.ofInt 32 ((y*65536:Nat):Int)|||BitVec.ofInt 32 (x:Int)).toNat=y*65536+x:=by
  rw[BitVec.toNat_or,BitVec.ofInt_natCast,BitVec.ofInt_natCast,BitVec.toNat_ofNat,BitVec.toNat_ofNat,Nat.mod_eq_of_lt (by omega),Nat.mod_eq_of_lt (by omega)]
  have:=Nat.shiftLeft_add_eq_or_of_lt (i:=16) (b:=x) (by omega) y
  rw[Nat.shiftLeft_eq] at this
  exact this.symm
 rw[this,wD (by omega) (by omega)]
theorem ajf (P:Program)(t:TypeId)(k' :IntKind){y:Nat}(hy:y<65536):cI P .shl t (.int .u32 (y:Int)) (.int k' 16)=some (.int .u32 ((y*65536:Nat):Int)):=by
 rw[my P t .u32 _ _ k' (by omega)]
 have e:min (16:Int).toNat IntKind.u32.bits=16:=by decide
 rw[e]
 have e2:(y:Int)*(2:Int)^16=((y*65536:Nat):Int):=by omega
 rw[e2,wD (by omega) (by omega)]
end Go.Cl
namespace Go.Proofs.YtdfjfncifneocaaGreat
open Go.Cl
theorem abv (n:Nat):((n:Int)).tmod 65521=((n%65521:Nat):Int):=by rw[Int.tmod_eq_emod_of_nonneg (by omega)];omega
theorem ae7:IntKind.u32.wrap (((BitVec.ofInt IntKind.u32.bits 1&&&BitVec.ofInt IntKind.u32.bits 65535).toNat:Nat):Int)=1:=by decide
set_option maxHeartbeats 4000000 in
theorem Ui {lib:az}(hl:lib.at 151=none)(s:aq)(x:Value)(l:List UInt8)(hx:aN s 1 x l.length (ofBytes l))(hlen:l.length<=1000000000):
  Runs Tryz.prog lib 151 [.int .u32 1,x] s fun v s' =>v= .int .u32 (zD l:Nat)/\s' =s:=by
 refine Runs.enter 35 Tryz.func151 rfl hl rfl rfl ?_
 intro f hn hf
 have h0:f.get 0= .int .u32 1:=hf 0
 have h1:f.get 1=x:=hf 1
 clear hf
 have m1:(1:Int).tmod 65521=1:=by decide
 have m0:(0:Int).tmod 65521=0:=by decide
 have s0:cI Tryz.prog .shr 117 (.int .u32 1) (.int .u64 16)=some (.int .u32 0):=by
  rw[kZ _ _ .u32 _ _ .u64 (by omega)];rfl
 simp-implicitDefEqProofs(disch:=omega)only[aj,ad,QS,WP,↓reduceIte,hn,h0,h1,eL,ae7,eK,m1,m0,s0,hx.bh Tryz.underlying22]
 refine Comes.bK (fun z f t=>∃i:Nat,z=l.length-i/\i<=l.length/\t=s/\f.n=35/\f.get 5= .int .u32 ((uS (l.take i)).1:Nat)/\f.get 6= .int .u32 ((uS (l.take i)).2:Nat)/\f.get 15=x/\f.get 16= .int .i64 (l.length:Nat)/\f.get 17= .int .i64 (i:Nat))
  (fun z f t=>z= .exit 0/\t=s/\f.n=35/\f.get 5= .int .u32 ((uS l).1:Nat)/\f.get 6= .int .u32 ((uS l).2:Nat))
  ⟨0,rfl,by omega,rfl,by simp only[ag,hn],by simp only[aa,↓reduceIte,WP];rfl,by simp only[aa,↓reduceIte,WP];rfl,by simp only[aa,↓reduceIte,WP],by simp only[aa,↓reduceIte,WP],by simp only[aa,↓reduceIte];rfl⟩ ?_ ?_
 ·clear hn h0 h1 f
  rintro Q hQ z f t ⟨i,rfl,hi,rfl,hn,h5,h6,oU,Ra,Ak⟩
  by_cases bc:i<l.length
  rotate_left
  ·obtain rfl:i=l.length:=by omega
   have d1:¬((l.length:Nat):Int)<((l.length:Nat):Int):=by omega
   rw[List.take_length] at h5 h6
   simp-implicitDefEqProofs(disch:=omega)only[aj,QS,↓reduceIte,hn,Ra,Ak,eq_false d1]
   exact hQ _ _ _ ⟨rfl,rfl,by simp only[ag,hn],by simp only[aa,↓reduceIte,WP,h5],by simp only[aa,↓reduceIte,WP,h6]⟩
  have d1:(i:Int)<(l.length:Int):=by omega
  have qo:=hx.indexAddr (P:=Tryz.prog) (k:= .i64) (x:=(i:Int)) Tryz.underlying22 bL (by omega) (by omega)
  rw[Int.toNat_natCast] at qo
  have k1:=hx.dJ (P:=Tryz.prog) mB bc
  rw[bG bc] at k1
  have hc:=(l.getD i 0).toNat_lt
  have hq:=HY (l.take i)
  have ht:=Rj bc
  generalize uS (l.take i)=q at h5 h6 hq ht
  obtain⟨q1,q2⟩:=q
  simp only at h5 h6 hq
  have e1:(q1:Int)+((l.getD i 0).toNat:Int)=((q1+(l.getD i 0).toNat:Nat):Int):=by omega
  have e2:(q2:Int)+((((q1+(l.getD i 0).toNat)%65521:Nat)):Int)=((q2+(q1+(l.getD i 0).toNat)%65521:Nat):Int):=by omega
  simp-implicitDefEqProofs(disch:=omega)only[aj,QS,WP,↓reduceIte,hn,h5,h6,oU,Ra,Ak,eq_true d1,qo,k1,bR Tryz.underlying5 Tryz.underlying117,wD,e1,eK,abv,e2,aB]
  exact au (l.length-(i+1)) (by omega) ⟨i+1,rfl,by omega,rfl,by simp only[ag,hn],by simp only[aa,↓reduceIte,WP];rw[ht];rfl,by simp only[aa,↓reduceIte,WP];rw[ht];rfl,by simp only[aa,↓reduceIte,WP,oU],by simp only[aa,↓reduceIte,WP,Ra],by simp only[aa,↓reduceIte];rfl⟩
 clear hn h0 h1 f
 rintro z f t ⟨rfl,rfl,hn,h5,h6⟩
 have hq:=HY l
 have qU:=orU (y:=(uS l).2) (x:=(uS l).1) (by omega) (by omega)
 have tH:=ajf Tryz.prog 117 .u64 (y:=(uS l).2) (by omega)
 simp-implicitDefEqProofs(disch:=omega)only[aj,al,oneOf,QS,WP,↓reduceIte,hn,h5,h6,tH,jB,qU,Tryz.results151]
 rfl
theorem Gd {lib:az}(m9:lib.at 104=none)(hl:lib.at 151=none)(s:aq)(y x:Value)(l:List UInt8)(hy:aN s 1 y 1 [x])(hx:aN s 1 x l.length (ofBytes l))(hlen:l.length<=1000000000):
  Runs Tryz.prog lib 104 [y] s fun v s' =>v= .int .u32 (zD l:Nat)/\s' =s:=by
 refine Runs.enter 17 Tryz.func104 rfl m9 rfl rfl ?_
 intro f hn hf
 have h0:f.get 0=y:=hf 0
 clear hf
 simp-implicitDefEqProofs(disch:=omega)only[aj,ad,QS,WP,↓reduceIte,hn,h0,hy.bh Tryz.underlying137]
 refine Comes.bK (fun z f t=>∃i:Nat,z=1-i/\i<=1/\t=s/\f.n=17/\f.get 3= .int .u32 ((if i=0 then 1 else zD l:Nat):Int)/\f.get 6=y/\f.get 7= .int .i64 ((1:Nat):Int)/\f.get 8= .int .i64 (i:Nat))
  (fun z f t=>z= .exit 0/\t=s/\f.n=17/\f.get 3= .int .u32 (zD l:Nat))
  ⟨0,rfl,by omega,rfl,by simp only[ag,hn],by simp only[aa,↓reduceIte,WP];try rfl,by simp only[aa,↓reduceIte,WP],by simp only[aa,↓reduceIte,WP],by simp only[aa,↓reduceIte];try rfl⟩ ?_ ?_
 ·clear hn h0 f
  rintro Q hQ z f t ⟨i,rfl,hi,rfl,hn,h3,h6,h7,h8⟩
  by_cases bc:i<1
  rotate_left
  ·obtain rfl:i=1:=by omega
   have d1:¬((1:Nat):Int)<((1:Nat):Int):=by omega
   simp-implicitDefEqProofs(disch:=omega)only[aj,QS,↓reduceIte,hn,h7,h8,eq_false d1]
   exact hQ _ _ _ ⟨rfl,rfl,by simp only[ag,hn],by simp only[aa,↓reduceIte,WP,h3];try rfl⟩
  obtain rfl:i=0:=by omega
  have h3:f.get 3= .int .u32 1:=h3
  have d1:((0:Nat):Int)<((1:Nat):Int):=by omega
  have qo:=hy.indexAddr (P:=Tryz.prog) (k:= .i64) (x:=((0:Nat):Int)) Tryz.underlying137 gv (by omega) (by omega)
  rw[Int.toNat_natCast] at qo
  have k1:=hy.dJ (P:=Tryz.prog) gw (k:=0) (by omega)
  have k1:aR Tryz.prog t 22 (bJ 1 y 0)=some x:=k1
  simp-implicitDefEqProofs(disch:=omega)only[aj,ak,ad,QS,WP,↓reduceIte,hn,h3,h6,h7,h8,eq_true d1,qo,k1]
  refine(Ui hl t x l hx hlen).mono ?_
  rintro _ t2 ⟨rfl,rfl⟩
  simp-implicitDefEqProofs(disch:=omega)only[aj,QS,WP,↓reduceIte,hn,h8,aB]
  exact au 0 (by omega) ⟨1,rfl,by omega,rfl,by simp only[ag,hn],by simp only[aa,↓reduceIte,WP];try rfl,by simp only[aa,↓reduceIte,WP,h6],by simp only[aa,↓reduceIte,WP,h7],by simp only[aa,↓reduceIte];try rfl⟩
 clear hn h0 f
 rintro z f t ⟨rfl,rfl,hn,h3⟩
 simp-implicitDefEqProofs(disch:=omega)only[aj,al,oneOf,QS,↓reduceIte,hn,h3,Tryz.results104]
 try exact⟨rfl,rfl⟩
end Go.Proofs.YtdfjfncifneocaaGreat
set_option linter.unusedSimpArgs false
set_option linter.unusedVariables false
set_option maxRecDepth 100000
namespace Go.Proofs.YtdfjfncifneocaaGreat
open Go.Cl Go.Cl.Sto
theorem JU {lib:az}(hl:lib.at 174=none)(s:aq)(b:Bool):
  Runs Tryz.prog lib 174 [.bool b] s fun v s' =>v= .int .i64 (if b then 1 else 0)/\s' =s:=by
 refine Runs.enter 4 Tryz.func174 rfl hl rfl rfl ?_
 intro f hn hf
 have h0:f.get 0= .bool b:=hf 0
 clear hf
 cases b with
 |true=>simp-implicitDefEqProofs(disch:=omega)only[aj,al,oneOf,QS,WP,↓reduceIte,hn,h0,Tryz.results174]
 |false=>simp-implicitDefEqProofs(disch:=omega)only[aj,al,oneOf,QS,WP,↓reduceIte,hn,h0,Tryz.results174]
set_option maxRecDepth 100000 in
set_option maxHeartbeats 4000000 in
theorem MK {lib:az}(hl:lib.at 134=none)(IJ:lib.at 174=none)(s:aq)(x:Value)(l:List UInt8)(hx:aN s 1 x l.length (ofBytes l))(hlen:l.length<=1000000000):
  Runs Tryz.prog lib 134 [x] s fun v s' =>cC s v s' (yf l):=by
 refine Runs.enter 41 Tryz.func134 rfl hl rfl rfl ?_
 intro f hn hf
 have h0:f.get 0=x:=hf 0
 clear hf
 have nP:blocks l.length<=200000:=by unfold blocks;omega
 simp-implicitDefEqProofs(disch:=omega)only[aj,QS,↓reduceIte,hn]
 refine Comes.eU (fun q f s' =>∃(r P:List UInt8) (o w:Value),q=r.length/\P++yf r=yf l/\r.length<=l.length/\Own s' 1 o P.length (ofBytes P)/\aH s.next o/\aN s' 1 w r.length (ofBytes r)/\(∀s2,ar s.next s s2->aN s2 1 w r.length (ofBytes r))/\ar s.next s s' /\f.n=41/\f.get 0=w/\f.get 3=o)
  ⟨l,[],_,x,rfl,rfl,by omega,.nil,aH.nil _,hx,fun s2 h2=>hx.keeps h2,ar.refl _ _,by simp only[ag,hn],by simp only[aa,↓reduceIte,WP,h0],by simp only[aa,↓reduceIte]⟩ ?_
 clear hn h0 f
 rintro q f s1 ⟨r,P,o,w,rfl,hP,oC,ho,hoF,hw,hwA,aD,hn,h0,h3⟩
 have tH:=qm _ l (Nat.le_refl _)
 have hsr:=qm _ r (Nat.le_refl _)
 have ZF:P.length+(yf r).length=l.length+5*blocks l.length:=by rw[<-tH,<-hP,List.length_append]
 by_cases D5:r.length<=65535
 ·have e1:¬(65535:Int)<r.length:=by omega
  have ajg:r.length<4611686018427387904:=by omega
  simp-implicitDefEqProofs(disch:=omega)only[aj,ak,ad,QS,WP,↓reduceIte,hn,h0,h3,hw.bh Tryz.underlying22,e1]
  refine(JU IJ s1 true).mono ?_
  rintro _ s2 ⟨rfl,dg⟩
  subst dg
  have eb:IntKind.u8.wrap 1=((UInt8.ofNat 1).toNat:Int):=rfl
  simp-implicitDefEqProofs(disch:=omega)only[aj,ae,QS,WP,↓reduceIte,hn,bR Tryz.underlying3 Tryz.underlying5,eb,b0,XF,O0,b1,aeX,b2,b3,TP Tryz.underlying22 bL lh]
  refine bI Tryz.underlying22 bL kG lh rfl ho (by simp only[aa,↓reduceIte,WP]) (by decide) (by simp only[ag,hn];decide) (by simp only[ag,hn];decide) (by rfl) (by decide) rfl (by omega) (by omega) hoF aD.next ?_
  intro bs o2 s3 fx abw bH _ _
  have gI:=aD.trans bH
  have JV:=hwA s3 gI
  have ez:=JV.sx (lo:=0) (hi:=r.length) (by omega) (by omega)
  rw[List.drop_zero,Nat.sub_zero] at ez
  have JW:(r.take (r.length)).length=r.length:=by rw[List.length_take];omega
  rw[JW] at ez
  simp-implicitDefEqProofs(disch:=omega)only[aj,ad,ai,QS,WP,↓reduceIte,hn,h0,JV.kF Tryz.underlying22 bL]
  refine bV Tryz.underlying22 Tryz.underlying22 (.inl ⟨_,rfl⟩) bL kG lh rfl fx ez.src (by rw[bF,JW,Nat.mul_one]) (by decide) (dj _) (by omega) (by omega) abw gI.next ?_
  intro o4 s4 xx abx dY _ _
  have hh:[Value.int .u8 (((UInt8.ofNat 1).toNat:Nat):Int),Value.int .u8 (((UInt8.ofNat (r.length)).toNat:Nat):Int),Value.int .u8 (((UInt8.ofNat (r.length/256)).toNat:Nat):Int),Value.int .u8 (((UInt8.ofNat (255-r.length%256)).toNat:Nat):Int),Value.int .u8 (((UInt8.ofNat (255-r.length/256%256)).toNat:Nat):Int)]=ofBytes (F5 (r.length) 1):=rfl
  rw[hh] at xx
  have iZ:=gI.trans dY
  have JX:=hwA s4 iZ
  have wE:=JX.sx (lo:=r.length) (hi:=r.length) (by omega) (by omega)
  rw[List.drop_length,List.take_nil] at wE
  have e2:((([]:List UInt8).length:Nat):Int)=0:=rfl
  simp-implicitDefEqProofs(disch:=omega)only[aj,al,oneOf,ad,ai,QS,WP,↓reduceIte,hn,h0,JX.fp Tryz.underlying22 bL,wE.bh Tryz.underlying22,e2,Tryz.results134]
  refine⟨?_,abx,iZ⟩
  rw[<-hP,sD D5,List.length_append,List.length_append,ia,bn,bn,<-List.append_assoc,<-Nat.add_assoc]
  rw[List.take_length] at xx
  exact xx
 ·have e1:(65535:Int)<r.length:=by omega
  have e0:¬((65535:Int)=r.length):=by omega
  obtain⟨m,hm⟩:∃m:Nat,m=65535:=⟨_,rfl⟩
  have ajg:m<4611686018427387904:=by omega
  simp-implicitDefEqProofs(disch:=omega)only[aj,ak,ad,QS,WP,↓reduceIte,hn,h0,h3,hw.bh Tryz.underlying22,e1,eq_false e0]
  refine(JU IJ s1 false).mono ?_
  rintro _ s2 ⟨rfl,dg⟩
  subst dg
  have eb:IntKind.u8.wrap 0=((UInt8.ofNat 0).toNat:Int):=rfl
  have en:(65535:Int)=(m:Int):=by omega
  simp-implicitDefEqProofs(disch:=omega)only[aj,QS,↓reduceIte,hn,en]
  simp-implicitDefEqProofs(disch:=omega)only[aj,ae,QS,WP,↓reduceIte,hn,bR Tryz.underlying3 Tryz.underlying5,eb,b0,XF,O0,b1,aeX,b2,b3,TP Tryz.underlying22 bL lh]
  refine bI Tryz.underlying22 bL kG lh rfl ho (by simp only[aa,↓reduceIte,WP]) (by decide) (by simp only[ag,hn];decide) (by simp only[ag,hn];decide) (by rfl) (by decide) rfl (by omega) (by omega) hoF aD.next ?_
  intro bs o2 s3 fx abw bH _ _
  have gI:=aD.trans bH
  have JV:=hwA s3 gI
  have ez:=JV.sx (lo:=0) (hi:=m) (by omega) (by omega)
  rw[List.drop_zero,Nat.sub_zero] at ez
  have JW:(r.take (m)).length=m:=by rw[List.length_take];omega
  rw[JW] at ez
  simp-implicitDefEqProofs(disch:=omega)only[aj,ad,ai,QS,WP,↓reduceIte,hn,h0,JV.kF Tryz.underlying22 bL]
  refine bV Tryz.underlying22 Tryz.underlying22 (.inl ⟨_,rfl⟩) bL kG lh rfl fx ez.src (by rw[bF,JW,Nat.mul_one]) (by decide) (dj _) (by omega) (by omega) abw gI.next ?_
  intro o4 s4 xx abx dY _ _
  have hh:[Value.int .u8 (((UInt8.ofNat 0).toNat:Nat):Int),Value.int .u8 (((UInt8.ofNat (m)).toNat:Nat):Int),Value.int .u8 (((UInt8.ofNat (m/256)).toNat:Nat):Int),Value.int .u8 (((UInt8.ofNat (255-m%256)).toNat:Nat):Int),Value.int .u8 (((UInt8.ofNat (255-m/256%256)).toNat:Nat):Int)]=ofBytes (F5 (m) 0):=rfl
  rw[hh] at xx
  have iZ:=gI.trans dY
  have JX:=hwA s4 iZ
  have wE:=JX.sx (lo:=m) (hi:=r.length) (by omega) (by omega)
  have et:(r.drop m).take (r.length-m)=r.drop m:=List.take_of_length_le (by rw[List.length_drop];omega)
  rw[et] at wE
  have ck:¬(((r.drop m).length:Nat):Int)=0:=by rw[List.length_drop];omega
  simp-implicitDefEqProofs(disch:=omega)only[aj,ad,ai,QS,WP,↓reduceIte,hn,h0,JX.fp Tryz.underlying22 bL,wE.bh Tryz.underlying22,eq_false ck]
  refine au (r.drop m).length (by rw[List.length_drop];omega) ⟨r.drop m,P++(F5 m 0++r.take m),o4,eB 1 w m r.length,rfl,?_,by rw[List.length_drop];omega,?_,abx,wE,fun s2 h2=> ?_,iZ,by simp only[ag,hn],by simp only[aa,↓reduceIte,WP],by simp only[aa,↓reduceIte,WP]⟩
  ·rw[<-hP,wz D5,<-hm,List.append_assoc]
  ·rw[bn,bn,List.length_append,List.length_append,ia,JW,<-List.append_assoc,<-Nat.add_assoc]
   exact xx
  ·have:=(hwA s2 h2).sx (lo:=m) (hi:=r.length) (by omega) (by omega)
   rw[et] at this
   exact this
end Go.Proofs.YtdfjfncifneocaaGreat
namespace Go.Cl
def Room (s:aq)(v:Value)(n:Nat)(l:List Value):Prop:=Own s 1 v n l\/(n=0/\l=[]/\∃i off,v= .slice (some ⟨i,off,none⟩) 0 0)
theorem Own.room {s:aq}{v:Value}{n:Nat}{l:List Value}(h:Own s 1 v n l):Room s v n l:= .inl h
theorem Room.aG {s:aq}{v:Value}{n:Nat}{l:List Value}(h:Room s v n l):aN s 1 v n l:=by
 rcases h with h|⟨rfl,rfl,i,off,rfl⟩
 ·exact h.aG
 ·exact .bare i off
theorem Room.own {s:aq}{v:Value}{n:Nat}{l:List Value}(h:Room s v n l)(hn:0<n):Own s 1 v n l:=by
 rcases h with h|⟨h,_⟩
 ·exact h
 ·omega
theorem Room.keeps {s s' :aq}{v:Value}{n:Nat}{l:List Value}(h:Room s v n l)(k:ar s.next s s'):Room s' v n l:=by
 rcases h with h|h
 ·exact .inl (h.keeps k)
 ·exact .inr h
theorem JY (l:List Value)(off:Nat):over l off []=l:=by unfold over;simp
theorem JZ {a b c:List Value}{off:Nat}(h:off=a.length):over (a++c) off b=a++b++c.drop b.length:=by
 subst h
 unfold over
 rw[List.take_left,<-List.drop_drop,List.drop_left]
theorem Room.afb {P:Program}{t e:TypeId}(hu:P.underlying t=some (.slice e))(b6:aW P e=some 1){s:aq}{v:Value}{n:Nat}{l:List Value}(h:Room s v n l){lo:Nat}(ra:lo<=n){y y2:Value}{k:Nat}{new:List Value}
  (hc:pY (n-lo) y=some (k,y2)) (hs:k≠0->dH s 1 y2=some (k,new)) (hk:new.length=k) (hkn:k<=n-lo) (dF:new.all aJ=true):
  ∃s',mh P s t (eB 1 v lo n) y=some (.int .i64 k,s')/\Room s' v n (over l lo new)/\aY v s s' /\s'.next=s.next:=by
 have hzero:k=0->∀a c,mh P s t (.slice a (n-lo) c) y=some (.int .i64 k,s):=by
  intro h0 a c
  subst h0
  unfold mh
  simp only[hu,b6,hc];rfl
 rcases h with h|⟨rfl,rfl,i,off,rfl⟩
 ·cases h with
  |nil=>
   obtain rfl:k=0:=by omega
   obtain rfl:new=[]:=List.eq_nil_of_length_eq_zero hk
   obtain rfl:lo=0:=by omega
   refine⟨s,hzero rfl none 0,?_,⟨Nat.le_refl _,fun _ _ _=>rfl⟩,rfl⟩
   rw[JY];exact .inl .nil
  |of i n low l hi hb hl hlen=>
   have ef:l.length=n:=by omega
   cases k with
   |zero=>
    obtain rfl:new=[]:=List.eq_nil_of_length_eq_zero hk
    refine⟨s,hzero rfl _ _,?_,⟨Nat.le_refl _,fun _ _ _=>rfl⟩,rfl⟩
    rw[JY];exact .inl (.of i n low l hi hb hl hlen)
   |succ k=>
    have EW:(over l lo new).length=l.length:=sC (by omega)
    have yc:setAt l (0+lo*1) new=some (over l lo new):=by
     rw[show 0+lo*1=lo by omega];exact j7 _ _ _ (by omega)
    have aD:s.storeAt i (0+lo*1) (l.length+1) new=some (s.put i (.dK ⟨over l lo new,l.length+1,true,1⟩)):=by
     unfold aq.storeAt
     have gX:(true&&Nat.ble low (l.length+1)&&Nat.beq (l.length+1) (l.length+1)&&new.all aJ)=true:=by
      simp only[dF,Bool.and_true,Bool.true_and,Bool.and_eq_true,Nat.ble_eq,Nat.beq_eq];exact⟨hl,trivial⟩
     rw[hb]
     simp only[gX,if_true]
     cases new with
     |nil=>simp at hk
     |cons a w=>simp only[yc]
    refine⟨s.put i (.dK ⟨over l lo new,l.length+1,true,1⟩),?_,.inl ?_,⟨by simp[aq.put],fun j _ hj=> ?_⟩,rfl⟩
    ·unfold mh
     simp only[hu,b6,eB,hc,hs (by omega),aD,Nat.beq_refl]
    ·have:=Own.of (s:=s.put i (.dK ⟨over l lo new,l.length+1,true,1⟩)) (z:=1) i n (l.length+1) (over l lo new) (by simpa [aq.put] using hi) (aq.b9 _ _ _ (by omega)) (by omega) (by omega)
     rw[EW] at this
     exact this
    ·rw[aq.bD]
     intro e;subst e;exact hj rfl
 ·obtain rfl:k=0:=by omega
  obtain rfl:new=[]:=List.eq_nil_of_length_eq_zero hk
  obtain rfl:lo=0:=by omega
  refine⟨s,?_,.inr ⟨rfl,rfl,i,off,rfl⟩,⟨Nat.le_refl _,fun _ _ _=>rfl⟩,rfl⟩
  exact hzero rfl (some ⟨i,off+0*1,none⟩) 0
theorem Uj {s:aq}{v:Value}{n:Nat}{l:List Value}(h:Room s v n l):eB 1 v 0 n=v:=by
 rcases h with h|⟨rfl,rfl,i,off,rfl⟩
 ·cases h<;>simp[eB]
 ·simp[eB]
theorem aN.pY {s:aq}{y:Value}{m:Nat}{new:List Value}(h:aN s 1 y m new)(r:Nat):∃y2,Cl.pY r y=some (min m r,y2)/\dH s 1 y2=some (min m r,new.take (min m r)):=by
 have hl:=h.length
 have ez:=(h.cut (lo:=0) (hi:=min m r) (by omega) (by omega)).src
 rw[Nat.zero_mul,List.drop_zero,Nat.sub_zero,Nat.mul_one] at ez
 cases h with
 |nil=>exact⟨.slice none (min 0 r) 0,rfl,by simpa [eB] using ez⟩
 |bare i off=>exact⟨.slice (some ⟨i,off,none⟩) (min 0 r) 0,rfl,by simpa [eB] using ez⟩
 |of i off n c b l hi hb hz hl hc hlen eZ ht=>exact⟨.slice (some ⟨i,off,none⟩) (min m r) c,rfl,by simpa [eB] using ez⟩
theorem Room.slice {P:Program}{t e:TypeId}(hu:P.underlying t=some (.slice e))(b6:aW P e=some 1){s:aq}{v:Value}{n:Nat}{l:List Value}(h:Room s v n l){k:IntKind}{x:Int}(h0:0<=x)(h2:x<=n):du P s t v (some (.int k x)) none none=some (eB 1 v x.toNat n):=h.aG.fp hu b6 h0 h2
theorem Own.tight {P:Program}{t e:TypeId}(hu:P.underlying t=some (.slice e))(b6:aW P e=some 1){s:aq}{v:Value}{n:Nat}{l:List Value}(h:Own s 1 v n l){k k2:IntKind}:∃v',du P s t v none (some (.int k (n:Nat))) (some (.int k2 (n:Nat)))=some v' /\Room s v' n l/\(0<n->v' =v)/\(∀i,aE v' =some i->aE v=some i):=by
 have iJ:∀k d,gU (some (.int k ((n:Nat):Int))) d=some n:=fun _ _=>rfl
 cases h with
 |nil=>
  refine⟨.slice none 0 0,?_,.inl .nil,fun h=>(by omega),fun i h=>h⟩
  unfold du;rw[hu];simp[gU,b6]
 |of i n low l hi hb hl hlen=>
  have ef:l.length=n:=by omega
  have he:jT s i (l.length+1) 1=true:=by
   unfold jT
   split
   ·rfl
   ·rw[hb];rfl
  have hle:(Nat.ble 0 n&&Nat.ble n n)=true:=by simp
  by_cases h0:n=0
  ·subst h0
   refine⟨.slice (some ⟨i,0,none⟩) 0 0,?_,.inr ⟨rfl,List.eq_nil_of_length_eq_zero ef,i,0,rfl⟩,fun h=>(by omega),fun j h=>h⟩
   unfold du;rw[hu];simp only[gj,iJ,b6,hle,if_true,he];rfl
  ·refine⟨.slice (some ⟨i,0,none⟩) n (l.length+1),?_,.inl (.of i n low l hi hb hl hlen),fun _=>rfl,fun j h=>h⟩
   unfold du;rw[hu]
   have uv:Nat.beq 0 n=false:=by
    rw[<-Bool.not_eq_true,Nat.beq_eq];omega
   simp only[gj,iJ,b6,hle,if_true,he,uv]
   simp
section
variable {P:Program} {lib:az} {all r:List Oper} {f:aT} {s:aq} {d:Option Tmp} {Q:aT->aq->Prop}
theorem CM {t e:TypeId}(hu:P.underlying t=some (.slice e))(b6:aW P e=some 1){v:Value}{n:Nat}{l:List Value}(h:Room s v n l){lo:Nat}(ra:lo<=n){y:Value}{m:Nat}{new:List Value}(hy:aN s 1 y m new)(dF:new.all aJ=true)
  (K:∀s',Room s' v n (over l lo (new.take (min m (n-lo))))->aY v s s' ->s'.next=s.next->dI P lib all r f s d Q (some (.val (.int .i64 ((min m (n-lo):Nat):Int)) s'))):dI P lib all r f s d Q (nO (mh P s t (eB 1 v lo n) y)):=by
 obtain⟨y2,h1,h2⟩:=hy.pY (n-lo)
 have hl:=hy.length
 obtain⟨s',g1,g2,g3,g4⟩:=h.afb hu b6 ra h1 (fun _=>h2) (by rw[List.length_take];omega) (by omega) (by
  rw[List.all_eq_true] at dF|-
  exact fun x hx=>dF x (List.mem_of_mem_take hx))
 rw[g1,eV]
 exact K s' g2 g3 g4
theorem Eu {t e:TypeId}(hu:P.underlying t=some (.slice e))(b6:aW P e=some 1){v:Value}{n:Nat}{l:List Value}(h:Room s v n l){y:Value}{m:Nat}{new:List Value}(hy:aN s 1 y m new)(dF:new.all aJ=true)
  (K:∀s',Room s' v n (over l 0 (new.take (min m n)))->aY v s s' ->s'.next=s.next->dI P lib all r f s d Q (some (.val (.int .i64 ((min m n:Nat):Int)) s'))):dI P lib all r f s d Q (nO (mh P s t v y)):=by
 have:=CM (lib:=lib) (all:=all) (r:=r) (f:=f) (d:=d) (Q:=Q) hu b6 h (Nat.zero_le n) hy dF K
 rwa [Uj h] at this
end
theorem Runs.XQ {P:Program}{lib:az}{g:FuncId}{p:Prim}(h:lib.at g=some p)(hf:xO p){args:List Value}{s s' :aq}{v:Value}{Q:Value->aq->Prop}(hp:p args s=some (v,s'))(hq:Q v s'):Runs P lib g args s Q:=by
 intro hw
 obtain⟨_,_,_,hk⟩:=hf s s (fun _=>none) args v s' (ct.refl s) hw hp
 refine⟨v,s',⟨0,fun m _=> ?_⟩,hk,hq⟩
 simp only[gV,dP,h,hp]
theorem Rk {P:Program}{t e:TypeId}{z:Nat}(hu:P.underlying t=some (.slice e))(b6:aW P e=some z)(s:aq)(a:Option Addr)(n c:Nat):mh P s t (.slice a n c) (.slice none 0 0)=some (.int .i64 0,s):=by
 unfold mh
 simp only[hu,b6,Cl.pY,Nat.zero_min]
end Go.Cl
namespace Go.Cl
def nY:Prim:=fun args s=>
 match args with
 |[.int .i64 (.ofNat n)]=>if Nat.ble n 4294967296 then aZ s (List.replicate n (.chan none)) n 1 else none
 |_=>none
def iw:Prim:=fun args s=>
 match args with
 |[.string a,.string b]=>some (.int .i64 (Extern.BytealgCompare.cmp a b),s)
 |_=>none
end Go.Cl
namespace Go.Cl
open Go.RowKit
def ZH (P:Program)(g:FuncId)(e:Array Value->Sem Value):Prop:=
 ∃fn,P.funcs[g]?=some fn/\(fn.name== "runtime.NumGoroutine")=false/\fn.body.isNone=true/\Extern.findNext fn=none/\Extern.find fn=some e
def yk (P:Program)(e:Array Value->Sem Value)(p:Prim):Prop:=
 ∀(base:Nat) (S:St) (args:List Value) (v:Value) (s' :aq),SR base S->p args S.s=some (v,s')->∀args' :Array Value,er S args args'.toList->
  ∃T v',(e args').run P S.w= .ok v' T.w/\T.s=s' /\VR T v v' /\Good base S T
theorem yk.ok {P:Program}{g:FuncId}{e:Array Value->Sem Value}{p:Prim}(Pre:Nat->World->Prop)(he:ZH P g e)(hf:xO p)(h:yk P e p):Hz P Pre g p:=by
 intro base S s args v s' lJ hs _ hp args' LL
 obtain⟨t',k1,k2,_⟩:=hf s S.s _ args v s' lJ (lJ.wf hs.wf) hp
 obtain⟨T,v',h1,h2,h3,h4⟩:=h base S args v t' hs k1 args' LL
 obtain⟨fn,e1,e2,e3,e4,e5⟩:=he
 refine .inr ⟨T,v',?_,by rw[h2];exact k2,h3,h4⟩
 rw[run_callFunc_extern e1 e2 e3 e4 e5,h1]
 rfl
theorem er.L2 {S:St}{a:Value}{args:Array Value}(h:er S [a] args.toList):∃a',args= #[a']/\VR S a a' :=by
 obtain⟨a',r,e,h1,h2⟩:=h.cons_inv
 rw[h2.jq] at e
 exact⟨a',by rw[<-Array.toList_inj,e],h1⟩
theorem er.aaP {S:St}{a b:Value}{args:Array Value}(h:er S [a,b] args.toList):∃a' b',args= #[a',b']/\VR S a a' /\VR S b b' :=by
 obtain⟨a',r,e,h1,h2⟩:=h.cons_inv
 obtain⟨b',r2,e2,h3,h4⟩:=h2.cons_inv
 rw[h4.jq] at e2
 rw[e2] at e
 exact⟨a',b',by rw[<-Array.toList_inj,e],h1,h3⟩
theorem zF:∀(n t:Nat) (acc:Array Value),(∀i,i<acc.size->∃m,acc.toList.getD i undef= .int .u8 m)->
  (Extern.BytealgMakeNoZero.digits n t acc).size=acc.size+n/\∀i,i<acc.size+n->∃m,(Extern.BytealgMakeNoZero.digits n t acc).toList.getD i undef= .int .u8 m
 |0,_,acc,h=>⟨rfl,h⟩
 |n+1,t,acc,h=>by
  have:=zF n (t/256) (acc.push (.int .u8 (Int.ofNat (t%256)))) (fun i hi=>by
   by_cases hia:i<acc.size
   ·obtain⟨m,hm⟩:=h i hia
    refine⟨m,?_⟩
    rw[Array.toList_push,dR _ _ _ (by simpa using hia)];exact hm
   ·have e:i=acc.size:=by simp at hi;omega
    refine⟨Int.ofNat (t%256),?_⟩
    rw[Array.toList_push,jY _ _ _ (by simp;omega),e]
    simp)
  rw[Extern.BytealgMakeNoZero.digits]
  refine⟨by rw[this.1];simp;omega,fun i hi=>this.2 i (by simp;omega)⟩
theorem CN (n i:Nat)(v:Value)(h:i<n):(List.replicate n v).getD i undef=v:=by
 simp[List.getD_eq_getElem?_getD,h]
theorem uT:xO nY:=by
 intro s s' X args v t h hw hp
 unfold nY at hp|-
 split at hp
 ·split at hp
  ·rename_i hc
   rw[if_pos hc]
   exact gY h hw hp
  ·cases hp
 ·cases hp
theorem ML {P:Program}{ps:Array TypeId}{t e:TypeId}(ht:P.underlying t=some (.slice e)):yk P (Extern.BytealgMakeNoZero.makeNoZero ps #[t]) nY:=by
 intro base S args v s' hs hp args' LL
 unfold nY at hp
 split at hp
 case h_2=>cases hp
 rename_i n
 split at hp
 case isFalse=>cases hp
 rename_i hc
 simp only[Nat.ble_eq] at hc
 obtain⟨a',rfl,ha⟩:=LL.L2
 cases ha
 have aby:Extern.BytealgMakeNoZero.makeNoZero ps #[t] #[.int .i64 (Int.ofNat n)]=
   (do
    let .slice elem<-underlying t|stuck "bytealg.MakeNoZero: slice type expected"
    if(Int.ofNat n)<0||(Int.ofNat n)>2^48 then runtimePanic (.error "makeslice: len out of range")
    let cap<-choose (.appendCap (Int.ofNat n).toNat 0 elem)
    askRoom cap
    let bytes<-choose (.extern "internal/bytealg.MakeNoZero.bytes" 0)
    let a<-newRow elem (Extern.BytealgMakeNoZero.digits cap bytes #[])
    pure (.slice (some a) (Int.ofNat n).toNat cap)):=rfl
 obtain⟨nN,rS⟩:∃b:Nat,b=(Question.extern "internal/bytealg.MakeNoZero.bytes" 0).cut (S.w.tape (S.w.drawn+1) (.extern "internal/bytealg.MakeNoZero.bytes" 0)):=⟨_,rfl⟩
 obtain⟨d1,d2⟩:=zF (grownCap S.w n 0 e) nN #[] (fun i hi=>by simp at hi)
 have I5:=grownCap_ge S.w n 0 e
 have Hq:∀(W:World) (k:Nat),(askRoom k).run P W= .ok () W:=fun W k=>by
  unfold askRoom
  split
  ·rfl
  ·rfl
 have fT:(Extern.BytealgMakeNoZero.makeNoZero ps #[t] #[.int .i64 (Int.ofNat n)]).run P S.w= .ok (.slice (some ⟨S.w.heap.size,0,none⟩) n (grownCap S.w n 0 e)) (S.w.drew.drew.alloc (.cells (Extern.BytealgMakeNoZero.digits (grownCap S.w n 0 e) nN #[]) e)):=by
  rw[aby,rS]
  have h1:¬(n:Int)<0:=by omega
  have h2:¬(281474976710656:Int)<(n:Int):=by omega
  simp[run_underlying ht,h1,h2,Question.forced,newRow,grownCap,Hq]
 obtain⟨T,k1,k2,k3,k4⟩:=rP hs hp (Extern.BytealgMakeNoZero.digits (grownCap S.w n 0 e) nN #[]) e (0,0) (S.w.drew.drew.alloc (.cells (Extern.BytealgMakeNoZero.digits (grownCap S.w n 0 e) nN #[]) e)) (grownCap S.w n 0 e) ⟨rfl,rfl,rfl,rfl⟩ (.inl rfl)
  (by rw[List.length_replicate,d1];simp;omega) (fun p hp=>by
   rw[List.length_replicate] at hp
   obtain⟨m,hm⟩:=d2 p (by simp;omega)
   rw[CN _ _ _ hp,hm]
   exact .unk m) (by omega) (by rw[d1];simp)
 exact⟨T,_,by rw[k2];exact fT,k1,k3,k4⟩
theorem uU:xO iw:=by
 intro s s' X args v t h hw hp
 unfold iw at hp|-
 split at hp
 ·injection hp with hp;injection hp with e1 e2;subst e1;subst e2;exact⟨_,rfl,h,bN.refl hw⟩
 ·cases hp
theorem MM {P:Program}:yk P Extern.BytealgCompare.compare iw:=by
 intro base S args v s' hs hp args' LL
 unfold iw at hp
 split at hp
 ·injection hp with hp;injection hp with e1 e2;subst e1;subst e2
  obtain⟨a',b',rfl,ha,hb⟩:=LL.aaP
  cases ha;cases hb
  refine⟨S,_,?_,rfl,.int _ _,Good.refl hs⟩
  rename_i a b
  have aby:Extern.BytealgCompare.compare #[.string a,.string b]=(do pure (goInt (Extern.BytealgCompare.cmp (<-Extern.Bytes.bytesOf (.string a)) (<-Extern.Bytes.bytesOf (.string b))))):=rfl
  rw[aby]
  simp[Extern.Bytes.bytesOf,goInt]
 ·cases hp
theorem ly.cons {g:Nat}{p:Prim}{l:az}(h:xO p)(k:ly l):ly ((g,p)::l):=by
 intro q r hq
 simp only[az.at] at hq
 split at hq
 ·obtain rfl:=Option.some.inj hq;exact h
 ·exact k q r hq
theorem pa.cons {P:Program}{Pre:Nat->World->Prop}{g:Nat}{p:Prim}{l:az}(h:Hz P Pre g p)(k:pa P Pre l):pa P Pre ((g,p)::l):=by
 intro q r hq
 simp only[az.at] at hq
 split at hq
 ·rename_i hc
  obtain rfl:=Option.some.inj hq
  obtain rfl:g=q:=Nat.eq_of_beq_eq_true hc
  exact h
 ·exact k q r hq
end Go.Cl
