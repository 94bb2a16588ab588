import Derived.Test.YtdfjfncifneocaaGreatPrD
import Derived.Test.YtdfjfncifneocaaGreatStoP
import Derived.Test.YtdfjfncifneocaaGreatAdl
import Derived.Test.YtdfjfncifneocaaGreatLzwD
import Derived.Test.YtdfjfncifneocaaGreatCutA
set_option linter.unusedSimpArgs false
set_option linter.unusedVariables false
set_option maxRecDepth 100000
namespace Go.Proofs.YtdfjfncifneocaaGreat
open Go.Cl Go.Cl.Pr
structure Rz (lib:ay):Prop where
 may:lib.at 50=none
 aeG:lib.at 129=none
 P5:lib.at 130=none
 aaE:lib.at 169=none
 gx:lib.at 199=none
 copy:lib.at 39=none
set_option maxHeartbeats 4000000 in
theorem IB {lib:ay}(L:Rz lib)(s:aq)(a b c:Int)(ha:0<=a/\a<=255)(hb:0<=b/\b<=255)(hc:0<=c/\c<=255):Runs Tryz.prog lib 169 [.int .i64 a,.int .i64 b,.int .i64 c] s fun v s' =>v= .int .i64 (eL a b c)/\s' =s:=by
 obtain⟨QQ,gj⟩:∃QQ:Value->aq->Prop,QQ=fun v s' =>v= .int .i64 (eL a b c)/\s' =s:=⟨_,rfl⟩
 rw[<-gj]
 refine Runs.enter 39 Tryz.func169 rfl L.aaE rfl rfl ?_
 intro f hn hf
 have h0:f.get 0= .int .i64 a:=hf 0
 have h1:f.get 1= .int .i64 b:=hf 1
 have h2:f.get 2= .int .i64 c:=hf 2
 clear hf
 simp-implicitDefEqProofs(disch:=omega)only[ai,aj,ad,Nat.reduceLT,Nat.reduceEqDiff,↓reduceIte,hn,h0,h1,h2,aD]
 refine(xB L.gx _ (a+b-c) a (by omega) (by omega)).mono ?_
 rintro _ _ ⟨rfl,rfl⟩
 simp-implicitDefEqProofs(disch:=omega)only[ai,aj,ad,Nat.reduceLT,Nat.reduceEqDiff,↓reduceIte,hn,h1]
 refine(xB L.gx _ (a+b-c) b (by omega) (by omega)).mono ?_
 rintro _ _ ⟨rfl,rfl⟩
 simp-implicitDefEqProofs(disch:=omega)only[ai,aj,ad,Nat.reduceLT,Nat.reduceEqDiff,↓reduceIte,hn,h2]
 refine(xB L.gx _ (a+b-c) c (by omega) (by omega)).mono ?_
 rintro _ _ ⟨rfl,rfl⟩
 by_cases c1:km (a+b-c) a<=km (a+b-c) b
 ·by_cases c2:km (a+b-c) a<=km (a+b-c) c
  ·have e:eL a b c=a:=by unfold eL;rw[if_pos ⟨c1,c2⟩]
   simp-implicitDefEqProofs(disch:=omega)only[ai,aj,al,oneOf,Nat.reduceLT,Nat.reduceEqDiff,↓reduceIte,hn,h0,eq_true c1,eq_true c2,Tryz.results169]
   rw[gj];exact⟨by rw[e],rfl⟩
  ·by_cases c3:km (a+b-c) b<=km (a+b-c) c
   ·have e:eL a b c=b:=by unfold eL;rw[if_neg (fun h=>c2 h.2),if_pos c3]
    simp-implicitDefEqProofs(disch:=omega)only[ai,aj,al,oneOf,Nat.reduceLT,Nat.reduceEqDiff,↓reduceIte,hn,h1,eq_true c1,eq_false c2,eq_true c3,Tryz.results169]
    rw[gj];exact⟨by rw[e],rfl⟩
   ·have e:eL a b c=c:=by unfold eL;rw[if_neg (fun h=>c2 h.2),if_neg c3]
    simp-implicitDefEqProofs(disch:=omega)only[ai,aj,al,oneOf,Nat.reduceLT,Nat.reduceEqDiff,↓reduceIte,hn,h2,eq_true c1,eq_false c2,eq_false c3,Tryz.results169]
    rw[gj];exact⟨by rw[e],rfl⟩
 ·by_cases c3:km (a+b-c) b<=km (a+b-c) c
  ·have e:eL a b c=b:=by unfold eL;rw[if_neg (fun h=>c1 h.1),if_pos c3]
   simp-implicitDefEqProofs(disch:=omega)only[ai,aj,al,oneOf,Nat.reduceLT,Nat.reduceEqDiff,↓reduceIte,undef,hn,h1,eq_false c1,eq_true c3,Tryz.results169]
   rw[gj];exact⟨by rw[e],rfl⟩
  ·have e:eL a b c=c:=by unfold eL;rw[if_neg (fun h=>c1 h.1),if_neg c3]
   simp-implicitDefEqProofs(disch:=omega)only[ai,aj,al,oneOf,Nat.reduceLT,Nat.reduceEqDiff,↓reduceIte,undef,hn,h2,eq_false c1,eq_false c3,Tryz.results169]
   rw[gj];exact⟨by rw[e],rfl⟩
set_option maxHeartbeats 4000000 in
theorem IC {lib:ay}(L:Rz lib)(s:aq)(t a b c:Int)(ha:0<=a/\a<=255)(hb:0<=b/\b<=255)(hc:0<=c/\c<=255):Runs Tryz.prog lib 130 [.int .i64 t,.int .i64 a,.int .i64 b,.int .i64 c] s fun v s' =>v= .int .i64 (gi t a b c)/\s' =s:=by
 obtain⟨QQ,gj⟩:∃QQ:Value->aq->Prop,QQ=fun v s' =>v= .int .i64 (gi t a b c)/\s' =s:=⟨_,rfl⟩
 rw[<-gj]
 refine Runs.enter 28 Tryz.func130 rfl L.P5 rfl rfl ?_
 intro f hn hf
 have h0:f.get 0= .int .i64 t:=hf 0
 have h1:f.get 1= .int .i64 a:=hf 1
 have h2:f.get 2= .int .i64 b:=hf 2
 have h3:f.get 3= .int .i64 c:=hf 3
 clear hf
 by_cases c1:t=1
 ·have e:gi t a b c=a:=by unfold gi;rw[if_pos c1]
  simp-implicitDefEqProofs(disch:=omega)only[ai,al,oneOf,Nat.reduceLT,Nat.reduceEqDiff,↓reduceIte,hn,h0,h1,eq_true c1,Tryz.results130]
  rw[gj];exact⟨by rw[e],rfl⟩
 by_cases c2:t=2
 ·have e:gi t a b c=b:=by unfold gi;rw[if_neg c1,if_pos c2]
  simp-implicitDefEqProofs(disch:=omega)only[ai,al,oneOf,Nat.reduceLT,Nat.reduceEqDiff,↓reduceIte,hn,h0,h2,eq_false c1,eq_true c2,Tryz.results130]
  rw[gj];exact⟨by rw[e],rfl⟩
 by_cases c3:t=3
 ·have e:gi t a b c=(a+b)/2:=by unfold gi;rw[if_neg c1,if_neg c2,if_pos c3]
  have eh:(a+b).tdiv 2=(a+b)/2:=Int.tdiv_eq_ediv_of_nonneg (by omega)
  simp-implicitDefEqProofs(disch:=omega)only[ai,al,oneOf,Nat.reduceLT,Nat.reduceEqDiff,↓reduceIte,hn,h0,h1,h2,eq_false c1,eq_false c2,eq_true c3,aD,ej,eh,Tryz.results130]
  rw[gj];exact⟨by rw[e],rfl⟩
 by_cases c4:t=4
 ·have e:gi t a b c=eL a b c:=by unfold gi;rw[if_neg c1,if_neg c2,if_neg c3,if_pos c4]
  simp-implicitDefEqProofs(disch:=omega)only[ai,aj,ad,Nat.reduceLT,Nat.reduceEqDiff,↓reduceIte,hn,h0,h1,h2,h3,eq_false c1,eq_false c2,eq_false c3,eq_true c4]
  refine(IB L s a b c ha hb hc).mono ?_
  rintro _ _ ⟨rfl,rfl⟩
  simp-implicitDefEqProofs(disch:=omega)only[ai,al,oneOf,Nat.reduceLT,↓reduceIte,hn,Tryz.results130]
  rw[gj];exact⟨by rw[e],rfl⟩
 have e:gi t a b c=0:=by unfold gi;rw[if_neg c1,if_neg c2,if_neg c3,if_neg c4]
 simp-implicitDefEqProofs(disch:=omega)only[ai,al,oneOf,Nat.reduceLT,Nat.reduceEqDiff,↓reduceIte,hn,h0,eq_false c1,eq_false c2,eq_false c3,eq_false c4,Tryz.results130]
 rw[gj];exact⟨by rw[e],rfl⟩
def aaF (s:aq)(a b c:Int)(v:Value)(s' :aq):Prop:=v= .tuple #[.int .i64 a,.int .i64 b,.int .i64 c]/\ar s.next s s'
set_option maxHeartbeats 4000000 in
theorem KR {lib:ay}(L:Rz lib)(s:aq)(p:Int)(c m n:Nat)(x:Value)(l:List UInt8)(hx:aM s 1 x l.length (ofBytes l))(hl:l.length<=200000000)(i:Nat)(hi:i<=l.length)(sK:n=c*m)(kX:1<=n)(nH:n<=16384)(hc:1<=c)(Dt:c<=n):
  Runs Tryz.prog lib 129 [i3 p c m,x,.int .i64 i] s (aaF s (lu l n c i) (iZ l n i) (fC l n c i)):=by
 refine Runs.enter 61 Tryz.func129 rfl L.aeG rfl rfl ?_
 intro f hn hf
 have h0:f.get 0=i3 p c m:=hf 0
 have h1:f.get 1=x:=hf 1
 have h2:f.get 2= .int .i64 i:=hf 2
 clear hf
 have BG:[Value.int .i64 p,.int .i64 (c:Int),.int .i64 (m:Int)].length+1=4:=rfl
 have hmul:IntKind.i64.wrap ((c:Int)*(m:Int))=(n:Int):=by
  have e:(c:Int)*(m:Int)=(n:Int):=by rw[sK];exact(Int.natCast_mul c m).symm
  rw[e,aD (by omega)]
 have lU:=Nat.mod_le i n
 have hml:=Nat.mod_lt i (show n>0 by omega)
 obtain⟨j,hj⟩:∃j,j=i%n:=⟨_,rfl⟩
 rw[<-hj] at lU hml
 have KS:((i:Nat):Int).tmod (n:Int)=(j:Int):=by rw[hj,Int.tmod_eq_emod_of_nonneg (by omega)];rfl
 have SO:¬(n:Int)=0:=by omega
 simp-implicitDefEqProofs(disch:=omega)only[ai,Nat.reduceLT,↓reduceIte,hn,h0]
 refine aw ?_
 intro s1 ht aA uS
 have ht:av s1 s.next (l3 p c m):=ht
 have p1:aG Tryz.prog s1 3 (.pointer (some ⟨s.next,1,some 4⟩))=some (.int .i64 c):=ht.load cj (off:=1) (c:=4) rfl (by simp)
 have p2:aG Tryz.prog s1 3 (.pointer (some ⟨s.next,2,some 4⟩))=some (.int .i64 m):=ht.load cj (off:=2) (c:=4) rfl (by simp)
 have iU:=hx.keeps aA
 simp-implicitDefEqProofs(disch:=omega)only[ai,Nat.reduceLT,Nat.reduceEqDiff,↓reduceIte,hn,h2,BG,xA,Dj,p1,p2,hmul,cK,KS]
 generalize hK:mR Tryz.prog lib (Code.seq (Code.seq (Code.region _ _ _) _) (Code.seq _ _)) _=K
 have fM:∀q:Nat,q<l.length->dC Tryz.prog 22 x (.int .i64 q)=some (aT 1 x q)/\aG Tryz.prog s1 5 (aT 1 x q)=some (.int .u8 ((l.getD q 0).toNat:Nat)):=fun q hq=>by
  have dI:=iU.indexAddr (P:=Tryz.prog) (k:= .i64) (x:=(q:Int)) Tryz.underlying22 bh (by omega) (by omega)
  rw[Int.toNat_natCast] at dI
  have hl:=iU.cU (P:=Tryz.prog) gZ hq
  rw[aZ hq] at hl
  exact⟨dI,hl⟩
 have go:∀f,f.n=61->f.get 1=x->f.get 2= .int .i64 i->f.get 3= .pointer (some ⟨s.next,0,some 4⟩)->f.get 9= .int .i64 n->f.get 10= .int .i64 (lu l n c i)->f.get 11= .int .i64 0->f.get 12= .int .i64 0->K .normal f s1:=by
  clear hn h0 h1 h2 f
  subst hK
  intro f hn h1 h2 h3 h9 dz gX pB
  by_cases zx:n<=i
  rotate_left
  ·have O3:¬(n:Int)<=(i:Int):=by omega
   have e1:iZ l n i=0:=by unfold iZ;rw[if_neg zx]
   have e2:fC l n c i=0:=by unfold fC;rw[if_neg (fun h=>zx h.1)]
   simp-implicitDefEqProofs(disch:=omega)only[ai,Nat.reduceLT,Nat.reduceEqDiff,↓reduceIte,hn,h2,h9,dz,gX,pB,eq_false O3]
   simp-implicitDefEqProofs(disch:=omega)only[ai,al,oneOf,Nat.reduceLT,Nat.reduceEqDiff,↓reduceIte,hn,Tryz.results129]
   exact⟨by rw[e1,e2],aA⟩
  have O3:(n:Int)<=(i:Int):=by omega
  obtain⟨g1,g2⟩:=fM (i-n) (by omega)
  have w8:=qD (l.getD (i-n) 0)
  have eA:((((l.getD (i-n) 0).toNat:Nat):Int))=iZ l n i:=by unfold iZ;rw[if_pos zx]
  rw[eA] at g2 w8
  have e1:(i:Int)-(n:Int)=((i-n:Nat):Int):=by omega
  by_cases Ul:c<=j
  rotate_left
  ·have Xp:¬(c:Int)<=(j:Int):=by omega
   have e2:fC l n c i=0:=by unfold fC;rw[if_neg (fun h=>Ul (by rw[hj];exact h.2))]
   simp-implicitDefEqProofs(disch:=omega)only[ai,Nat.reduceLT,Nat.reduceEqDiff,↓reduceIte,hn,h1,h2,h3,h9,dz,pB,eq_true O3,aD,e1,g1,g2,bd Tryz.underlying5 Tryz.underlying3,xA,p1,cK,KS,eq_false Xp]
   simp-implicitDefEqProofs(disch:=omega)only[ai,al,oneOf,Nat.reduceLT,Nat.reduceEqDiff,↓reduceIte,hn,Tryz.results129]
   exact⟨by rw[e2],aA⟩
  have Xp:(c:Int)<=(j:Int):=by omega
  obtain⟨g3,g4⟩:=fM (i-n-c) (by omega)
  have w9:=qD (l.getD (i-n-c) 0)
  have eB:((((l.getD (i-n-c) 0).toNat:Nat):Int))=fC l n c i:=by unfold fC;rw[if_pos ⟨zx,by rw[<-hj];exact Ul⟩]
  rw[eB] at g4 w9
  have UQ:c<=i-n:=by
   have h1:(i-n)%n=i%n:=(Nat.mod_eq_sub_mod zx).symm
   have h2:=Nat.mod_le (i-n) n
   omega
  have e2:((i-n:Nat):Int)-(c:Int)=((i-n-c:Nat):Int):=by omega
  simp-implicitDefEqProofs(disch:=omega)only[ai,Nat.reduceLT,Nat.reduceEqDiff,↓reduceIte,hn,h1,h2,h3,h9,dz,eq_true O3,aD,e1,e2,g1,g2,g3,g4,bd Tryz.underlying5 Tryz.underlying3,xA,p1,cK,KS,eq_true Xp]
  simp-implicitDefEqProofs(disch:=omega)only[ai,al,oneOf,Nat.reduceLT,Nat.reduceEqDiff,↓reduceIte,hn,Tryz.results129]
  exact⟨rfl,aA⟩
 by_cases Ul:c<=j
 rotate_left
 ·have e0:lu l n c i=0:=by unfold lu;rw[if_neg (by rw[<-hj];exact Ul)]
  simp-implicitDefEqProofs(disch:=omega)only[ai,eq_false Ul]
  exact go _ (by simp only[ae,hn]) (by simp only[aa,↓reduceIte,Nat.reduceEqDiff,h1]) (by simp only[aa,↓reduceIte,Nat.reduceEqDiff,h2]) (by simp only[aa,↓reduceIte,Nat.reduceEqDiff]) (by simp only[aa,↓reduceIte,Nat.reduceEqDiff]) (by simp only[aa,↓reduceIte,Nat.reduceEqDiff,e0]) (by simp only[aa,↓reduceIte,Nat.reduceEqDiff]) (by simp only[aa,↓reduceIte,Nat.reduceEqDiff])
 obtain⟨g1,g2⟩:=fM (i-c) (by omega)
 have w8:=qD (l.getD (i-c) 0)
 have eB:((((l.getD (i-c) 0).toNat:Nat):Int))=lu l n c i:=by unfold lu;rw[if_pos (by rw[<-hj];exact Ul)]
 rw[eB] at g2 w8
 have e1:(i:Int)-(c:Int)=((i-c:Nat):Int):=by omega
 simp-implicitDefEqProofs(disch:=omega)only[ai,Nat.reduceLT,Nat.reduceEqDiff,↓reduceIte,hn,h1,h2,eq_true Ul,aD,xA,p1,e1,g1,g2,bd Tryz.underlying5 Tryz.underlying3]
 exact go _ (by simp only[ae,hn]) (by simp only[aa,↓reduceIte,Nat.reduceEqDiff,h1]) (by simp only[aa,↓reduceIte,Nat.reduceEqDiff,h2]) (by simp only[aa,↓reduceIte,Nat.reduceEqDiff]) (by simp only[aa,↓reduceIte,Nat.reduceEqDiff]) (by simp only[aa,↓reduceIte]) (by simp only[aa,↓reduceIte,Nat.reduceEqDiff]) (by simp only[aa,↓reduceIte,Nat.reduceEqDiff])
end Go.Proofs.YtdfjfncifneocaaGreat
set_option linter.unusedSimpArgs false
set_option linter.unusedVariables false
set_option maxRecDepth 100000
namespace Go.Proofs.YtdfjfncifneocaaGreat
open Go.Cl Go.Cl.Pr
set_option maxHeartbeats 8000000 in
theorem RA {lib:ay}(L:Rz lib)(hl:lib.at 93=none)(s:aq)(p co cl:Int)(x:Value)(l:List UInt8)(hx:aM s 1 x l.length (ofBytes l))(hlen:l.length<=100000000):
  Runs Tryz.prog lib 93 [i3 p co cl,x] s (EC s (fE p co cl l)):=by
 refine Runs.enter 83 Tryz.func93 rfl hl rfl rfl ?_
 intro f hn hf
 have h0:f.get 0=i3 p co cl:=hf 0
 have h1:f.get 1=x:=hf 1
 clear hf
 have BG:[Value.int .i64 p,.int .i64 co,.int .i64 cl].length+1=4:=rfl
 simp-implicitDefEqProofs(disch:=omega)only[ai,Nat.reduceLT,↓reduceIte,hn,h0]
 refine aw ?_
 intro s1 ht aA uS
 have ht:av s1 s.next (l3 p co cl):=ht
 have la:aG Tryz.prog s1 66 (.pointer (some ⟨s.next,0,some 4⟩))=some (i3 p co cl):=av.cY (P:=Tryz.prog) (cs:=l3 p co cl) HC yS ht (c:=4) rfl
 simp-implicitDefEqProofs(disch:=omega)only[ai,aj,ad,Nat.reduceLT,Nat.reduceEqDiff,↓reduceIte,hn,BG,la]
 refine(Ei L.may s1 p co cl).mono ?_
 rintro _ s2 ⟨rfl,df⟩
 have MJ:=aA.trans (df.weaken aA.next)
 have fm:=ht.keeps df
 have n1:=aA.next
 have n2:=df.next
 have kC:=hx.keeps MJ
 by_cases hm:qO p co cl
 rotate_left
 ·rw[decide_eq_false hm]
  simp-implicitDefEqProofs(disch:=omega)only[ai,al,oneOf,Nat.reduceLT,Nat.reduceEqDiff,↓reduceIte,hn,Tryz.results93]
  have e:fE p co cl l=([],1):=by unfold fE;rw[if_pos hm]
  rw[e]
  exact⟨_,rfl,⟨.nil,aN.nil _,MJ⟩⟩
 rw[decide_eq_true hm]
 have q0:∀t,ar s2.next s2 t->aG Tryz.prog t 3 (.pointer (some ⟨s.next,0,some 4⟩))=some (.int .i64 p):=fun t h=>(fm.keeps h).load cj (off:=0) (c:=4) rfl (by simp)
 have q1:∀t,ar s2.next s2 t->aG Tryz.prog t 3 (.pointer (some ⟨s.next,1,some 4⟩))=some (.int .i64 co):=fun t h=>(fm.keeps h).load cj (off:=1) (c:=4) rfl (by simp)
 have q2:∀t,ar s2.next s2 t->aG Tryz.prog t 3 (.pointer (some ⟨s.next,2,some 4⟩))=some (.int .i64 cl):=fun t h=>(fm.keeps h).load cj (off:=2) (c:=4) rfl (by simp)
 have k2:=ar.refl s2.next s2
 by_cases nD:p=1
 ·have e:fE p co cl l=(l,0):=by unfold fE;rw[if_neg (fun h=>h hm),if_pos nD]
  rw[e]
  simp-implicitDefEqProofs(disch:=omega)only[ai,aj,ad,Nat.reduceLT,Nat.reduceEqDiff,↓reduceIte,hn,h1,tA,q0 _ k2,eq_true nD]
  refine(r6 L.copy s2 x l kC (by omega)).mono ?_
  rintro w s3 ⟨hw,hF,ij⟩
  simp-implicitDefEqProofs(disch:=omega)only[ai,al,oneOf,Nat.reduceLT,Nat.reduceEqDiff,↓reduceIte,hn,Tryz.results93]
  exact⟨w,rfl,⟨hw,fun j hj=>by have:=hF j hj;omega,MJ.trans (ij.weaken (by omega))⟩⟩
 obtain⟨UY,oT,va,nF,oP⟩:=id hm
 obtain⟨c,rfl⟩:∃c:Nat,co=c:=⟨co.toNat,by omega⟩
 obtain⟨m,rfl⟩:∃m:Nat,cl=m:=⟨cl.toNat,by omega⟩
 obtain⟨n,sK⟩:∃n:Nat,n=c*m:=⟨_,rfl⟩
 have kX:1<=n:=by rw[sK];exact Nat.mul_le_mul (show 1<=c by omega) (show 1<=m by omega)
 have nH:n<=16384:=by rw[sK];exact Nat.mul_le_mul (show c<=4 by omega) (show m<=4096 by omega)
 have Dt:c<=n:=by rw[sK];exact Nat.le_mul_of_pos_right c (by omega)
 have ep:fE p (c:Int) (m:Int) l=if l.length%n≠0 then([],4) else(mX (mY p) (decide (10<=p)) l n c l.length,0):=by
  unfold fE
  rw[if_neg (fun h=>h hm),if_neg nD,Int.toNat_natCast,Int.toNat_natCast,<-sK]
 rw[ep]
 have hmul:IntKind.i64.wrap ((c:Int)*(m:Int))=(n:Int):=by
  have e:(c:Int)*(m:Int)=(n:Int):=by rw[sK];exact(Int.natCast_mul c m).symm
  rw[e,aD (by omega)]
 have SO:¬(n:Int)=0:=by omega
 have KS:∀i:Nat,((i:Nat):Int).tmod (n:Int)=((i%n:Nat):Int):=fun i=>by rw[Int.tmod_eq_emod_of_nonneg (by omega)];rfl
 by_cases lU:l.length%n=0
 rotate_left
 ·rw[if_pos lU]
  have RB:¬((l.length%n:Nat):Int)=0:=by omega
  simp-implicitDefEqProofs(disch:=omega)only[ai,aj,al,oneOf,ad,Nat.reduceLT,Nat.reduceEqDiff,↓reduceIte,hn,h1,tA,xA,Dj,q0 _ k2,q1 _ k2,q2 _ k2,eq_false nD,hmul,kC.aV Tryz.underlying22,cK,KS,eq_false RB,Tryz.results93]
  exact⟨_,rfl,⟨.nil,aN.nil _,MJ⟩⟩
 rw[if_neg (fun h=>h lU)]
 have RB:((l.length%n:Nat):Int)=0:=by omega
 have hT:=It UY
 obtain⟨T,TY⟩:∃T,T=mY p:=⟨_,rfl⟩
 rw[<-TY] at hT|-
 obtain⟨g,So⟩:∃g:Bool,g=decide (10<=p):=⟨_,rfl⟩
 rw[<-So]
 simp-implicitDefEqProofs(disch:=omega)only[ai,aj,ad,Nat.reduceLT,Nat.reduceEqDiff,↓reduceIte,hn,h1,tA,xA,Dj,q0 _ k2,q1 _ k2,q2 _ k2,eq_false nD,hmul,kC.aV Tryz.underlying22,cK,KS,eq_true RB,aD]
 generalize hK1:mR Tryz.prog lib (Code.seq (Code.seq (Code.region _ _ _) _) (Code.seq (Code.region _ _ _) _)) _=K1
 have go1:∀f T1,f.n=83->f.get 1=x->f.get 2= .pointer (some ⟨s.next,0,some 4⟩)->f.get 6= .int .i64 n->f.get 7= .int .i64 T1->(p≠2->T1=T)->K1 .normal f s2:=by
  clear hn h0 h1 f
  subst hK1
  intro f T1 hn h1 h2 h6 h7 hT1
  simp-implicitDefEqProofs(disch:=omega)only[ai,Nat.reduceLT,↓reduceIte,hn,h2,tA,q0 _ k2]
  generalize hK:mR Tryz.prog lib (Code.seq (Code.region _ _ _) (Code.seq (Code.seq (Code.region _ _ _) _) _)) _=K
  have go:∀f,f.n=83->f.get 1=x->f.get 2= .pointer (some ⟨s.next,0,some 4⟩)->f.get 6= .int .i64 n->f.get 7= .int .i64 T->K .normal f s2:=by
   clear hn h1 h2 h6 h7 hT1 f
   subst hK
   intro f hn h1 h2 h6 h7
   simp-implicitDefEqProofs(disch:=omega)only[ai,Nat.reduceLT,↓reduceIte,hn]
   refine Comes.bC (fun z f t=>∃(i:Nat) (o:Value),z=l.length-i/\i<=l.length/\Own t 1 o (mX T g l n c i).length (ofBytes (mX T g l n c i))/\aN s2.next o/\ar s2.next s2 t/\f.n=83/\f.get 1=x/\f.get 2= .pointer (some ⟨s.next,0,some 4⟩)/\f.get 6= .int .i64 n/\f.get 7= .int .i64 T/\f.get 8=o/\f.get 9= .int .i64 (i:Nat))
    (fun z f t=>z= .exit 0/\∃o,Own t 1 o (mX T g l n c l.length).length (ofBytes (mX T g l n c l.length))/\aN s2.next o/\ar s2.next s2 t/\f.n=83/\f.get 8=o)
    ⟨0,.slice none 0 0,rfl,by omega,.nil,aN.nil _,ar.refl _ _,by simp only[ae,hn],by simp only[aa,↓reduceIte,Nat.reduceEqDiff,h1],by simp only[aa,↓reduceIte,Nat.reduceEqDiff,h2],by simp only[aa,↓reduceIte,Nat.reduceEqDiff,h6],by simp only[aa,↓reduceIte,Nat.reduceEqDiff,h7],by simp only[aa,↓reduceIte,Nat.reduceEqDiff],by simp only[aa,↓reduceIte];rfl⟩ ?_ ?_
   ·clear hn h1 h2 h6 h7 f
    rintro Q hQ z f t ⟨i,o,rfl,hi,ho,hF,aA,hn,h1,h2,h6,h7,h8,h9⟩
    have lH:=kC.keeps aA
    by_cases aP:i<l.length
    rotate_left
    ·obtain rfl:i=l.length:=by omega
     have d1:¬((l.length:Nat):Int)<((l.length:Nat):Int):=by omega
     simp-implicitDefEqProofs(disch:=omega)only[ai,ad,Nat.reduceLT,Nat.reduceEqDiff,↓reduceIte,hn,h1,h9,lH.aV Tryz.underlying22,eq_false d1]
     exact hQ _ _ _ ⟨rfl,o,ho,hF,aA,by simp only[ae,hn],by simp only[aa,↓reduceIte,Nat.reduceEqDiff,h8]⟩
    have d1:((i:Nat):Int)<((l.length:Nat):Int):=by omega
    have hl8:=vH T g l n c i
    simp-implicitDefEqProofs(disch:=omega)only[ai,aj,ad,Nat.reduceLT,Nat.reduceEqDiff,↓reduceIte,hn,h1,h6,h9,lH.aV Tryz.underlying22,eq_true d1,cK,KS]
    generalize hK2:mR Tryz.prog lib (Code.seq (Code.region _ _ _) (Code.region _ _ _)) _=K2
    have go2:∀f t o,f.n=83->f.get 1=x->f.get 2= .pointer (some ⟨s.next,0,some 4⟩)->f.get 6= .int .i64 n->f.get 7= .int .i64 T->f.get 8=o->f.get 9= .int .i64 (i:Nat)->Own t 1 o (mX T g l n c i++Hu T g n i).length (ofBytes (mX T g l n c i++Hu T g n i))->aN s2.next o->ar s2.next s2 t->K2 .normal f t:=by
     clear hn h1 h2 h6 h7 h8 h9 lH aA ho hF f t o
     subst hK2
     intro f t o hn h1 h2 h6 h7 h8 h9 ho hF aA
     have lH:=kC.keeps aA
     have n2t:=aA.next
     have la:aG Tryz.prog t 66 (.pointer (some ⟨s.next,0,some 4⟩))=some (i3 p c m):=av.cY (P:=Tryz.prog) (cs:=l3 p c m) HC yS (fm.keeps aA) (c:=4) rfl
     simp-implicitDefEqProofs(disch:=omega)only[ai,aj,ad,Nat.reduceLT,Nat.reduceEqDiff,↓reduceIte,hn,h1,h2,h9,la]
     refine(KR L t p c m n x l lH (by omega) i (by omega) sK kX nH (by omega) Dt).mono ?_
     rintro _ t1 ⟨rfl,bB⟩
     have n3t:=bB.next
     have x0:cN (.tuple #[.int .i64 (lu l n c i),.int .i64 (iZ l n i),.int .i64 (fC l n c i)]) 0=some (.int .i64 (lu l n c i)):=rfl
     have x1:cN (.tuple #[.int .i64 (lu l n c i),.int .i64 (iZ l n i),.int .i64 (fC l n c i)]) 1=some (.int .i64 (iZ l n i)):=rfl
     have x2:cN (.tuple #[.int .i64 (lu l n c i),.int .i64 (iZ l n i),.int .i64 (fC l n c i)]) 2=some (.int .i64 (fC l n c i)):=rfl
     have k21:ar s2.next s2 t1:=aA.trans (bB.weaken aA.next)
     simp-implicitDefEqProofs(disch:=omega)only[ai,Nat.reduceLT,Nat.reduceEqDiff,↓reduceIte,hn,x0,x1,x2]
     obtain⟨A,hA⟩:∃A:Nat->Bool,A=fun j=>decide (j<s2.next):=⟨_,rfl⟩
     have aeH:∀j,A j=true->j<s2.next:=by
      intro j h
      rw[hA] at h
      exact of_decide_eq_true h
     have ef:∀j,A j=true->j<t1.next:=fun j h=>by have:=aeH j h;omega
     have gW:∀j,j<s2.next->A j=true:=fun j h=>by rw[hA];exact decide_eq_true h
     refine LB.cF.dy A ef 1 1 (by kernel_rfl) (by kernel_rfl) ?_
     have db:=ar.spare t1 1
     have F1:(spare t1 1).next=t1.next+1:=bT _ _
     have hxq:aM (spare t1 1) 1 x l.length (ofBytes l):=(kC.keeps k21).keeps db
     have dI:=hxq.indexAddr (P:=Tryz.prog) (k:= .i64) (x:=(i:Int)) Tryz.underlying22 bh (by omega) (by omega)
     rw[Int.toNat_natCast] at dI
     have fM:=hxq.cU (P:=Tryz.prog) gZ aP
     rw[aZ aP] at fM
     have hle:=LA.di kC gW aP
     have hoq:=((ho.keeps bB).keeps db)
     simp-implicitDefEqProofs(disch:=omega)only[ai,aj,bn,bp,Nat.sub_self,ad,Nat.reduceLT,Nat.reduceEqDiff,↓reduceIte,hn,h1,h7,h8,h9,hxq.self,hoq.self,dI,fM,hle]
     refine(IC L _ T _ _ _ (PY l n c i) (Nn l n i) (JQ l n c i)).mono ?_
     rintro _ _ ⟨rfl,rfl⟩
     refine⟨fun _=>LA.ar.lM ef (ar.refl _ _),?_⟩
     have eg:gi T (lu l n c i) (iZ l n i) (fC l n c i)=gs T l n c i:=rfl
     have ew:IntKind.u8.wrap ((((l.getD i 0).toNat:Nat):Int)-IntKind.u8.wrap (gs T l n c i))=((pf ((((l.getD i 0).toNat:Nat):Int)-gs T l n c i)).toNat:Int):=by
      rw[sV,eZ,eZ];omega
     simp-implicitDefEqProofs(disch:=omega)only[ai,bn,bp,Nat.reduceSub,ag,Nat.reduceLT,Nat.reduceEqDiff,↓reduceIte,hn,eg,bd Tryz.underlying3 Tryz.underlying5,ew,gN Tryz.underlying22 bh gR]
     have aiz:=JR T g n i
     refine LB.bF (base:=t1.next) (by rfl) (by omega) (Nat.le_refl _) ?_
     intro bs t6 pS fc aaG ZY W5
     simp-implicitDefEqProofs(disch:=omega)only[ai,bp,ad,Nat.reduceLT,Nat.reduceEqDiff,↓reduceIte,hn]
     have aeJ:([Value.int .u8 ((pf ((((l.getD i 0).toNat:Nat):Int)-gs T l n c i)).toNat:Int)]:List Value).all aO=true:=by rfl
     refine LB.cZ Tryz.underlying22 Tryz.underlying22 (.inl ⟨_,rfl⟩) bh gh gR rfl ((ho.keeps bB).keeps (db.trans aaG)) pS.aH.src rfl (by decide) aeJ (by rw[List.length_append];omega) (by rw[List.length_append];omega) (base:=s2.next) hF (by omega) (fun h=>absurd rfl h) (fun j hj=>by have:=ef j hj;omega) ?_
     intro o' t7 j8 vE aaH nJ
     have m7:=aaH.next
     simp-implicitDefEqProofs(disch:=omega)only[ai,bn,bp,Nat.reduceSub,Nat.reduceLT,Nat.reduceEqDiff,↓reduceIte,ai,Nat.reduceLT,Nat.reduceEqDiff,↓reduceIte,hn,h9,aD,j8.self]
     refine au (l.length-(i+1)) (by omega) ⟨i+1,o',rfl,by omega,?_,vE,?_,by simp only[ae,hn],by simp only[aa,↓reduceIte,Nat.reduceEqDiff,h1],by simp only[aa,↓reduceIte,Nat.reduceEqDiff,h2],by simp only[aa,↓reduceIte,Nat.reduceEqDiff,h6],by simp only[aa,↓reduceIte,Nat.reduceEqDiff,h7],by simp only[aa,↓reduceIte,Nat.reduceEqDiff],by simp only[aa,↓reduceIte];rfl⟩
     ·rw[xu,List.length_append,aK]
      exact j8
     ·exact⟨by omega,fun j hj=>by rw[aaH.get j (by omega) (fun e=>by have:=hF _ e;omega),aaG.get j (by omega),db.get j (by omega),k21.get j hj]⟩
    by_cases hz:i%n=0
    rotate_left
    ·have pR:¬((i%n:Nat):Int)=0:=by omega
     have eh:Hu T g n i=[]:=by unfold Hu;rw[if_neg (fun h=>hz h.2)]
     simp-implicitDefEqProofs(disch:=omega)only[ai,aj,Nat.reduceLT,Nat.reduceEqDiff,↓reduceIte,undef,hn,eq_false pR]
     exact go2 _ _ _ (by simp only[ae,hn]) (by simp only[aa,↓reduceIte,Nat.reduceEqDiff,h1]) (by simp only[aa,↓reduceIte,Nat.reduceEqDiff,h2]) (by simp only[aa,↓reduceIte,Nat.reduceEqDiff,h6]) (by simp only[aa,↓reduceIte,Nat.reduceEqDiff,h7]) (by simp only[aa,↓reduceIte,Nat.reduceEqDiff,h8]) (by simp only[aa,↓reduceIte,Nat.reduceEqDiff,h9]) (by rw[eh,List.append_nil];exact ho) hF aA
    have pR:((i%n:Nat):Int)=0:=by omega
    by_cases Mf:10<=p
    rotate_left
    ·have eg:g=false:=by rw[So];exact decide_eq_false Mf
     have eh:Hu T g n i=[]:=by unfold Hu;rw[eg,if_neg (fun h=>by cases h.1)]
     simp-implicitDefEqProofs(disch:=omega)only[ai,aj,Nat.reduceLT,Nat.reduceEqDiff,↓reduceIte,hn,h2,eq_true pR,tA,q0 _ aA,eq_false Mf]
     exact go2 _ _ _ (by simp only[ae,hn]) (by simp only[aa,↓reduceIte,Nat.reduceEqDiff,h1]) (by simp only[aa,↓reduceIte,Nat.reduceEqDiff,h2]) (by simp only[aa,↓reduceIte,Nat.reduceEqDiff,h6]) (by simp only[aa,↓reduceIte,Nat.reduceEqDiff,h7]) (by simp only[aa,↓reduceIte,Nat.reduceEqDiff,h8]) (by simp only[aa,↓reduceIte,Nat.reduceEqDiff,h9]) (by rw[eh,List.append_nil];exact ho) hF aA
    have eg:g=true:=by rw[So];exact decide_eq_true Mf
    have eh:Hu T g n i=[pf T]:=by unfold Hu;rw[if_pos ⟨eg,hz⟩]
    have ew:IntKind.u8.wrap T=((pf T).toNat:Int):=by rw[sV,eZ]
    simp-implicitDefEqProofs(disch:=omega)only[ai,aj,ag,Nat.reduceLT,Nat.reduceEqDiff,↓reduceIte,hn,h2,h7,h8,eq_true pR,tA,q0 _ aA,eq_true Mf,bd Tryz.underlying3 Tryz.underlying5,ew,gN Tryz.underlying22 bh gR]
    refine a9 Tryz.underlying22 bh gh gR rfl ho (by simp only[aa,↓reduceIte,Nat.reduceEqDiff]) (by decide) (by simp only[ae,hn];decide) (by simp only[ae,hn];decide) (by rfl) (by decide) rfl (by omega) (by omega) hF (by have:=aA.next;omega) ?_
    intro bs o' t4 j8 vE iH _ _
    simp-implicitDefEqProofs(disch:=omega)only[ai,Nat.reduceLT,↓reduceIte,hn]
    exact go2 _ _ _ (by simp only[ae,hn]) (by simp only[aa,↓reduceIte,Nat.reduceEqDiff,h1]) (by simp only[aa,↓reduceIte,Nat.reduceEqDiff,h2]) (by simp only[aa,↓reduceIte,Nat.reduceEqDiff,h6]) (by simp only[aa,↓reduceIte,Nat.reduceEqDiff,h7]) (by simp only[aa,↓reduceIte]) (by simp only[aa,↓reduceIte,Nat.reduceEqDiff,h9]) (by rw[eh,List.length_append,aK];exact j8) vE (aA.trans iH)
   clear hn h1 h2 h6 h7 f
   rintro z f t ⟨rfl,o,ho,hF,aA,hn,h8⟩
   simp-implicitDefEqProofs(disch:=omega)only[ai,al,oneOf,Nat.reduceLT,Nat.reduceEqDiff,↓reduceIte,hn,h8,Tryz.results93]
   exact⟨o,rfl,⟨ho,fun j hj=>by have:=hF j hj;omega,MJ.trans (aA.weaken MJ.next)⟩⟩
  by_cases c2:p=2
  ·have eT:T=1:=by rw[TY];unfold mY;rw[if_neg (by omega),if_neg (by omega)]
   simp-implicitDefEqProofs(disch:=omega)only[ai,Nat.reduceLT,↓reduceIte,hn,eq_true c2]
   exact go _ (by simp only[ae,hn]) (by simp only[aa,↓reduceIte,Nat.reduceEqDiff,h1]) (by simp only[aa,↓reduceIte,Nat.reduceEqDiff,h2]) (by simp only[aa,↓reduceIte,Nat.reduceEqDiff,h6]) (by simp only[aa,↓reduceIte,eT])
  ·have eT:=hT1 c2
   simp-implicitDefEqProofs(disch:=omega)only[ai,eq_false c2]
   exact go _ (by simp only[ae,hn]) (by simp only[aa,↓reduceIte,Nat.reduceEqDiff,h1]) (by simp only[aa,↓reduceIte,Nat.reduceEqDiff,h2]) (by simp only[aa,↓reduceIte,Nat.reduceEqDiff,h6]) (by simp only[aa,↓reduceIte,Nat.reduceEqDiff,h7,eT])
 by_cases Rc:p=15
 ·have eT:T=2:=by rw[TY];unfold mY;rw[if_pos Rc]
  simp-implicitDefEqProofs(disch:=omega)only[ai,Nat.reduceLT,↓reduceIte,hn,eq_true Rc]
  exact go1 _ 2 (by simp only[ae,hn]) (by simp only[aa,↓reduceIte,Nat.reduceEqDiff,h1]) (by simp only[aa,↓reduceIte,Nat.reduceEqDiff]) (by simp only[aa,↓reduceIte,Nat.reduceEqDiff]) (by simp only[aa,↓reduceIte]) (fun _=>eT.symm)
 ·simp-implicitDefEqProofs(disch:=omega)only[ai,eq_false Rc]
  exact go1 _ (p-10) (by simp only[ae,hn]) (by simp only[aa,↓reduceIte,Nat.reduceEqDiff,h1]) (by simp only[aa,↓reduceIte,Nat.reduceEqDiff]) (by simp only[aa,↓reduceIte,Nat.reduceEqDiff]) (by simp only[aa,↓reduceIte,Nat.reduceEqDiff]) (fun h=>by rw[TY];unfold mY;rw[if_neg Rc,if_pos (by omega)])
end Go.Proofs.YtdfjfncifneocaaGreat
namespace Go.Cl.Lz
theorem RC:∀v:Fin 256,∀k:Fin 8,v.val%2^(k.val+1)=0->(v.val|||2^k.val)=v.val+2^k.val:=by decide+kernel
def b8 (l:List Nat):Nat:=l.getD 0 0*128+l.getD 1 0*64+l.getD 2 0*32+l.getD 3 0*16+l.getD 4 0*8+l.getD 5 0*4+l.getD 6 0*2+l.getD 7 0
theorem ID (l:List Nat):fF l=UInt8.ofNat (b8 l):=rfl
theorem EO (B:List Nat)(x t:Nat):(B++[x]).getD t 0=if t=B.length then x else B.getD t 0:=by
 by_cases h:t<B.length
 ·rw[if_neg (by omega),uc h]
 ·by_cases h2:t=B.length
  ·subst h2
   have:=sD (L:=B) (M:=[x]) 0
   rw[Nat.add_zero] at this
   rw[this,if_pos rfl];rfl
  ·rw[if_neg h2,List.getD_eq_getElem?_getD,List.getElem?_eq_none (by simp;omega),List.getD_eq_getElem?_getD,List.getElem?_eq_none (by omega)]
theorem Ol (B:List Nat){t:Nat}(h:B.length<=t):B.getD t 0=0:=by rw[List.getD_eq_getElem?_getD,List.getElem?_eq_none h];rfl
theorem RD {B:List Nat}(h:∀i,B.getD i 0<2)(h7:B.length<=7){x:Nat}(hx:x<2):fF B|||UInt8.ofNat (x*2^(7-B.length))=fF (B++[x]):=by
 have key:b8 (B++[x])=b8 B+x*2^(7-B.length)/\b8 B%2^(7-B.length+1)=0/\b8 B<256:=by
  have hh:=h
  have hs:=EO B x
  have ho:∀t,B.length<=t->B.getD t 0=0:=fun t ht=>Ol B ht
  have a0:=h 0;have a1:=h 1;have a2:=h 2;have a3:=h 3;have a4:=h 4;have a5:=h 5;have a6:=h 6;have a7:=h 7
  unfold b8
  rw[hs 0,hs 1,hs 2,hs 3,hs 4,hs 5,hs 6,hs 7]
  have hr:B.length=0\/B.length=1\/B.length=2\/B.length=3\/B.length=4\/B.length=5\/B.length=6\/B.length=7:=by omega
  rcases hr with r|r|r|r|r|r|r|r
  ·have o0:=ho 0 (by omega);have o1:=ho 1 (by omega);have o2:=ho 2 (by omega);have o3:=ho 3 (by omega);have o4:=ho 4 (by omega);have o5:=ho 5 (by omega);have o6:=ho 6 (by omega);have o7:=ho 7 (by omega)
   rw[r];simp only[o0,o1,o2,o3,o4,o5,o6,o7,reduceIte,Nat.reduceSub,Nat.reduceAdd,Nat.reducePow,Nat.reduceEqDiff,eq_self];exact⟨by omega,trivial,by omega⟩
  ·have o1:=ho 1 (by omega);have o2:=ho 2 (by omega);have o3:=ho 3 (by omega);have o4:=ho 4 (by omega);have o5:=ho 5 (by omega);have o6:=ho 6 (by omega);have o7:=ho 7 (by omega)
   rw[r];simp only[o1,o2,o3,o4,o5,o6,o7,reduceIte,Nat.reduceSub,Nat.reduceAdd,Nat.reducePow,Nat.reduceEqDiff,eq_self];omega
  ·have o2:=ho 2 (by omega);have o3:=ho 3 (by omega);have o4:=ho 4 (by omega);have o5:=ho 5 (by omega);have o6:=ho 6 (by omega);have o7:=ho 7 (by omega)
   rw[r];simp only[o2,o3,o4,o5,o6,o7,reduceIte,Nat.reduceSub,Nat.reduceAdd,Nat.reducePow,Nat.reduceEqDiff,eq_self];omega
  ·have o3:=ho 3 (by omega);have o4:=ho 4 (by omega);have o5:=ho 5 (by omega);have o6:=ho 6 (by omega);have o7:=ho 7 (by omega)
   rw[r];simp only[o3,o4,o5,o6,o7,reduceIte,Nat.reduceSub,Nat.reduceAdd,Nat.reducePow,Nat.reduceEqDiff,eq_self];omega
  ·have o4:=ho 4 (by omega);have o5:=ho 5 (by omega);have o6:=ho 6 (by omega);have o7:=ho 7 (by omega)
   rw[r];simp only[o4,o5,o6,o7,reduceIte,Nat.reduceSub,Nat.reduceAdd,Nat.reducePow,Nat.reduceEqDiff,eq_self];omega
  ·have o5:=ho 5 (by omega);have o6:=ho 6 (by omega);have o7:=ho 7 (by omega)
   rw[r];simp only[o5,o6,o7,reduceIte,Nat.reduceSub,Nat.reduceAdd,Nat.reducePow,Nat.reduceEqDiff,eq_self];omega
  ·have o6:=ho 6 (by omega);have o7:=ho 7 (by omega)
   rw[r];simp only[o6,o7,reduceIte,Nat.reduceSub,Nat.reduceAdd,Nat.reducePow,Nat.reduceEqDiff,eq_self];omega
  ·have o7:=ho 7 (by omega)
   rw[r];simp only[o7,reduceIte,Nat.reduceSub,Nat.reduceAdd,Nat.reducePow,Nat.reduceEqDiff,eq_self];omega
 obtain⟨k1,k2,k3⟩:=key
 rw[ID,ID,k1]
 apply UInt8.toNat_inj.mp
 have hp:2^(7-B.length)<=2^7:=Nat.pow_le_pow_right (by omega) (by omega)
 rw[UInt8.toNat_or,UInt8.toNat_ofNat',UInt8.toNat_ofNat',UInt8.toNat_ofNat']
 have kC:x=0\/x=1:=by omega
 rcases kC with rfl|rfl
 ·simp
 ·have hle:b8 B+2^(7-B.length)<=255:=by
   have nJ:=RC ⟨b8 B,k3⟩ ⟨7-B.length,by omega⟩ k2
   simp only at nJ
   rw[<-nJ]
   have h1:b8 B<2^8:=k3
   have h2:2^(7-B.length)<2^8:=by omega
   have:=Nat.or_lt_two_pow h1 h2
   omega
  rw[Nat.one_mul,Nat.mod_eq_of_lt (by omega),Nat.mod_eq_of_lt (by omega),Nat.mod_eq_of_lt (by omega)]
  exact RC ⟨b8 B,k3⟩ ⟨7-B.length,by omega⟩ k2
def half (L:List Nat):List UInt8×List Nat:=L.foldl sj ([],[])
theorem ya (L:List Nat)(x:Nat):half (L++[x])=sj (half L) x:=by simp[half]
theorem EP (L:List Nat):(half L).1++pack (half L).2=pack L:=by
 have:=(ql L ([],[]) (by simp)).1
 simpa [half] using this
theorem CC (L:List Nat):∀i,i<=L.length->(half (L.take i)).1.length=i/8/\(half (L.take i)).2.length=i%8
 |0,h=>by simp[half]
 |i+1,h=>by
  obtain⟨h1,h2⟩:=CC L i (by omega)
  rw[List.take_succ_eq_append_getElem (by omega),ya]
  unfold sj
  by_cases c:(half (L.take i)).2.length=7
  ·rw[if_pos c];simp only[List.length_append,List.length_singleton,List.length_nil];omega
  ·rw[if_neg c];simp only[List.length_append,List.length_singleton];omega
theorem IE (L:List Nat)(h:∀x∈L,x<2):∀i,i<=L.length->∀k,(half (L.take i)).2.getD k 0<2
 |0,_,k=>by simp[half]
 |i+1,hi,k=>by
  have ih:=IE L h i (by omega)
  rw[List.take_succ_eq_append_getElem (by omega),ya]
  unfold sj
  by_cases c:(half (L.take i)).2.length=7
  ·rw[if_pos c];simp
  ·rw[if_neg c]
   simp only
   rw[EO]
   split
   ·exact h _ (List.getElem_mem _)
   ·exact ih k
def laid (L:List Nat)(i:Nat):List UInt8:=pack (L.take i)
def roomy (L:List Nat)(i:Nat):List UInt8:=(half (L.take i)).1++[fF (half (L.take i)).2]
theorem Om {L:List Nat}{i:Nat}(hi:i<L.length):roomy L i=if i%8=0 then laid L i++[0] else laid L i:=by
 obtain⟨h1,h2⟩:=CC L i (by omega)
 unfold roomy laid
 rw[<-EP (L.take i)]
 by_cases c:i%8=0
 ·rw[if_pos c]
  have:(half (L.take i)).2=[]:=List.eq_nil_of_length_eq_zero (by omega)
  rw[this,lB,List.append_nil];rfl
 ·rw[if_neg c]
  have:(half (L.take i)).2≠[]:=by intro e;rw[e] at h2;simp at h2;omega
  rw[nn this (by omega)]
theorem On {L:List Nat}(h:∀x∈L,x<2){i:Nat}(hi:i<L.length):
  i/8<(roomy L i).length/\(roomy L i).set (i/8) ((roomy L i).getD (i/8) 0|||UInt8.ofNat (L.getD i 0*2^(7-i%8)))=laid L (i+1):=by
 obtain⟨h1,h2⟩:=CC L i (by omega)
 have hb:=IE L h i (by omega)
 have hx:L.getD i 0<2:=by rw[List.getD_eq_getElem?_getD,List.getElem?_eq_getElem hi];exact h _ (List.getElem_mem _)
 have nJ:=RD hb (by omega) hx
 rw[h2] at nJ
 refine⟨by unfold roomy;rw[List.length_append,h1,List.length_singleton];omega,?_⟩
 have hg:(roomy L i).getD (i/8) 0=fF (half (L.take i)).2:=by
  unfold roomy
  rw[<-h1,List.getD_eq_getElem?_getD,List.getElem?_append_right (Nat.le_refl _),Nat.sub_self];rfl
 rw[hg,nJ]
 unfold roomy laid
 rw[<-h1,List.set_append_right _ _ (Nat.le_refl _),Nat.sub_self,List.set_cons_zero,<-EP (L.take (i+1)),List.take_succ_eq_append_getElem hi,ya]
 have Uz:L.getD i 0=L[i]:=by rw[List.getD_eq_getElem?_getD,List.getElem?_eq_getElem hi];rfl
 rw[Uz]
 unfold sj
 by_cases c:(half (L.take i)).2.length=7
 ·rw[if_pos c];simp only;rw[lB,List.append_nil]
 ·rw[if_neg c];simp only;rw[nn (by simp) (by rw[List.length_append,List.length_singleton];omega)]
end Go.Cl.Lz
set_option linter.unusedSimpArgs false
set_option linter.unusedVariables false
set_option maxRecDepth 100000
namespace Go.Proofs.YtdfjfncifneocaaGreat
open Go.Cl
def iX (l:List UInt8)(p:Nat)(t:List UInt8):Prop:=p+t.length<=l.length/\(l.drop p).take t.length=t
instance (l:List UInt8) (p:Nat) (t:List UInt8):Decidable (iX l p t):=by unfold iX;infer_instance
abbrev Xq (t:List UInt8):Value:= .string ⟨t.toArray⟩
theorem KT {lib:ay}(hl:lib.at 147=none)(s:aq)(x:Value)(l:List UInt8)(p:Nat)(t:List UInt8)(hx:aM s 1 x l.length (ofBytes l))(nA:l.length<=100000000)(hp:p<=l.length)(ht:t.length<9223372036854775808):
  Runs Tryz.prog lib 147 [x,.int .i64 p,Xq t] s fun v s' =>v= .bool (decide (iX l p t))/\s' =s:=by
 refine Runs.enter 35 Tryz.func147 rfl hl rfl rfl ?_
 intro f hn hf
 have h0:f.get 0=x:=hf 0
 have h1:f.get 1= .int .i64 p:=hf 1
 have h2:f.get 2=Xq t:=hf 2
 clear hf
 have c0:¬(p:Int)<0:=by omega
 by_cases c1:l.length<t.length
 ·have hs:decide (iX l p t)=false:=decide_eq_false (fun h=>by have:=h.1;omega)
  have qG:(l.length:Int)<t.length:=by omega
  simp-implicitDefEqProofs(disch:=omega)only[ai,aj,al,oneOf,ad,Nat.reduceLT,Nat.reduceEqDiff,↓reduceIte,hn,h0,h1,h2,eq_false c0,hx.aV Tryz.underlying22,qa Tryz.underlying9,eq_true qG,hs,Tryz.results147]
 ·have qG:¬(l.length:Int)<t.length:=by omega
  by_cases c2:l.length-t.length<p
  ·have hs:decide (iX l p t)=false:=decide_eq_false (fun h=>by have:=h.1;omega)
   have wD:(l.length:Int)-t.length<p:=by omega
   simp-implicitDefEqProofs(disch:=omega)only[ai,aj,al,oneOf,ad,Nat.reduceLT,Nat.reduceEqDiff,↓reduceIte,hn,h0,h1,h2,eq_false c0,hx.aV Tryz.underlying22,qa Tryz.underlying9,eq_false qG,aD,eq_true wD,hs,Tryz.results147]
  ·have wD:¬(l.length:Int)-t.length<p:=by omega
   have dA:=hx.lL (lo:=p) (hi:=p+t.length) (by omega) (by omega)
   rw[Nat.add_sub_cancel_left] at dA
   have e1:((p:Int)+t.length).toNat=p+t.length:=by omega
   have hs:decide ((l.drop p).take t.length=t)=decide (iX l p t):=by
    by_cases h:(l.drop p).take t.length=t
    ·rw[decide_eq_true h,decide_eq_true (show iX l p t from⟨by omega,h⟩)]
    ·rw[decide_eq_false h,decide_eq_false (fun q=>h q.2)]
   simp-implicitDefEqProofs(disch:=omega)only[ai,aj,al,oneOf,ad,ah,Nat.reduceLT,Nat.reduceEqDiff,↓reduceIte,hn,h0,h1,h2,eq_false c0,hx.aV Tryz.underlying22,qa Tryz.underlying9,eq_false qG,aD,eq_false wD,hx.mF Tryz.underlying22 bh,e1,dA.str Tryz.underlying22 Tryz.underlying9 Tryz.underlying5,gO,hs,Tryz.results147]
end Go.Proofs.YtdfjfncifneocaaGreat
