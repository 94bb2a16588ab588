import Derived.Test.YtdfjfncifneocaaGreatPrA
import Derived.Test.YtdfjfncifneocaaGreatCutA
import Derived.Test.YtdfjfncifneocaaGreatMem
set_option linter.unusedSimpArgs false
set_option linter.unusedVariables false
set_option maxRecDepth 100000
namespace Go.Cl
theorem Dl {P:Program}{d:Option Tmp}{ty:TypeId}{ps:String}{af:Array Edge}{gd:Option (Nat×Bool)}{f:aR}{s:aq}(g:FuncId)(xs bs:Array Operand):cy P ⟨d,.makeFunc (.func g) xs bs,ty,ps,af,gd⟩ f s=match ad f xs.toList,ad f bs.toList with
  |some l,some m=>some (.val (.func (.func g) l.toArray m.toArray) s)
  |_,_=>none:=rfl
theorem LL {P:Program}{s:aq}{t e:TypeId}{zv a b c d x:Value}(hu:P.underlying t=some (.slice e))(cJ:bq P e=some 1)(hz:cE P e=some zv)(pH:cH zv=true)(mf:∃w,zv.cells.toList=[w])(h1:a.cells.toList=[a])(h2:b.cells.toList=[b])(h3:c.cells.toList=[c])(h4:d.cells.toList=[d])(h5:x.cells.toList=[x]):aU P s t 5 [(0,a),(1,b),(2,c),(3,d),(4,x)]=aX s [a,b,c,d,x] 5 1:=by
 obtain⟨w,hw⟩:=mf
 unfold aU;rw[hu];simp only[cJ,hz,pH,hw,bS,iM,h1,h2,h3,h4,h5,List.length_singleton];rfl
end Go.Cl
namespace Go.Proofs.YtdfjfncifneocaaGreat
open Go.Cl Go.Cl.Pr
structure Dm (lib:ay):Prop where
 We:lib.at 157=none
 first:lib.at 158=none
 upper:lib.at 159=none
 half:lib.at 160=none
 nearest:lib.at 161=none
 gx:lib.at 193=none
 P5:lib.at 116=none
 Wf:lib.at 115=none
 parts:lib.at 114=none
 may:lib.at 46=none
def BI (s:aq)(z:Int)(v:Value)(s' :aq):Prop:=v= .int .i64 z/\ar s.next s s'
theorem HE:(2:Int)≠0:=by decide
theorem Nv {lib:ay}(L:Dm lib)(s:aq)(a b c:Int)(ha:0<=a/\a<=255)(hb:0<=b/\b<=255)(hc:0<=c/\c<=255):Runs Tryz.prog lib 157 [i3 a b c] s (BI s (gi 0 a b c)):=by
 refine Runs.enter 3 Tryz.func157 rfl L.We rfl rfl ?_
 intro f hn hf
 have h0:f.get 0=i3 a b c:=hf 0
 clear hf
 simp-implicitDefEqProofs(disch:=omega)only[ai,Nat.reduceLT,↓reduceIte,hn,h0]
 refine aw ?_
 intro s1 ht aA uS
 have ht:av s1 s.next (l3 a b c):=ht
 have p0:aG Tryz.prog s1 3 (.pointer (some ⟨s.next,0,some 4⟩))=some (.int .i64 a):=ht.load cj (off:=0) (c:=4) rfl (by simp)
 have p1:aG Tryz.prog s1 3 (.pointer (some ⟨s.next,1,some 4⟩))=some (.int .i64 b):=ht.load cj (off:=1) (c:=4) rfl (by simp)
 have p2:aG Tryz.prog s1 3 (.pointer (some ⟨s.next,2,some 4⟩))=some (.int .i64 c):=ht.load cj (off:=2) (c:=4) rfl (by simp)
 have BG:[Value.int .i64 a,.int .i64 b,.int .i64 c].length+1=4:=rfl
 have eh:=HE
 simp-implicitDefEqProofs(disch:=omega)only[ai,al,oneOf,Nat.reduceLT,↓reduceIte,hn,BG,Tryz.results157]
 exact⟨rfl,aA⟩
theorem JU {lib:ay}(L:Dm lib)(s:aq)(a b c:Int)(ha:0<=a/\a<=255)(hb:0<=b/\b<=255)(hc:0<=c/\c<=255):Runs Tryz.prog lib 158 [i3 a b c] s (BI s (gi 1 a b c)):=by
 refine Runs.enter 5 Tryz.func158 rfl L.first rfl rfl ?_
 intro f hn hf
 have h0:f.get 0=i3 a b c:=hf 0
 clear hf
 simp-implicitDefEqProofs(disch:=omega)only[ai,Nat.reduceLT,↓reduceIte,hn,h0]
 refine aw ?_
 intro s1 ht aA uS
 have ht:av s1 s.next (l3 a b c):=ht
 have p0:aG Tryz.prog s1 3 (.pointer (some ⟨s.next,0,some 4⟩))=some (.int .i64 a):=ht.load cj (off:=0) (c:=4) rfl (by simp)
 have p1:aG Tryz.prog s1 3 (.pointer (some ⟨s.next,1,some 4⟩))=some (.int .i64 b):=ht.load cj (off:=1) (c:=4) rfl (by simp)
 have p2:aG Tryz.prog s1 3 (.pointer (some ⟨s.next,2,some 4⟩))=some (.int .i64 c):=ht.load cj (off:=2) (c:=4) rfl (by simp)
 have BG:[Value.int .i64 a,.int .i64 b,.int .i64 c].length+1=4:=rfl
 have eh:=HE
 simp-implicitDefEqProofs(disch:=omega)only[ai,al,oneOf,Nat.reduceLT,Nat.reduceEqDiff,↓reduceIte,hn,BG,Dk,p0,Tryz.results158]
 exact⟨rfl,aA⟩
theorem JV {lib:ay}(L:Dm lib)(s:aq)(a b c:Int)(ha:0<=a/\a<=255)(hb:0<=b/\b<=255)(hc:0<=c/\c<=255):Runs Tryz.prog lib 159 [i3 a b c] s (BI s (gi 2 a b c)):=by
 refine Runs.enter 5 Tryz.func159 rfl L.upper rfl rfl ?_
 intro f hn hf
 have h0:f.get 0=i3 a b c:=hf 0
 clear hf
 simp-implicitDefEqProofs(disch:=omega)only[ai,Nat.reduceLT,↓reduceIte,hn,h0]
 refine aw ?_
 intro s1 ht aA uS
 have ht:av s1 s.next (l3 a b c):=ht
 have p0:aG Tryz.prog s1 3 (.pointer (some ⟨s.next,0,some 4⟩))=some (.int .i64 a):=ht.load cj (off:=0) (c:=4) rfl (by simp)
 have p1:aG Tryz.prog s1 3 (.pointer (some ⟨s.next,1,some 4⟩))=some (.int .i64 b):=ht.load cj (off:=1) (c:=4) rfl (by simp)
 have p2:aG Tryz.prog s1 3 (.pointer (some ⟨s.next,2,some 4⟩))=some (.int .i64 c):=ht.load cj (off:=2) (c:=4) rfl (by simp)
 have BG:[Value.int .i64 a,.int .i64 b,.int .i64 c].length+1=4:=rfl
 have eh:=HE
 simp-implicitDefEqProofs(disch:=omega)only[ai,al,oneOf,Nat.reduceLT,Nat.reduceEqDiff,↓reduceIte,hn,BG,BD,p1,Tryz.results159]
 exact⟨rfl,aA⟩
theorem Nw {lib:ay}(L:Dm lib)(s:aq)(a b c:Int)(ha:0<=a/\a<=255)(hb:0<=b/\b<=255)(hc:0<=c/\c<=255):Runs Tryz.prog lib 160 [i3 a b c] s (BI s (gi 3 a b c)):=by
 refine Runs.enter 9 Tryz.func160 rfl L.half rfl rfl ?_
 intro f hn hf
 have h0:f.get 0=i3 a b c:=hf 0
 clear hf
 simp-implicitDefEqProofs(disch:=omega)only[ai,Nat.reduceLT,↓reduceIte,hn,h0]
 refine aw ?_
 intro s1 ht aA uS
 have ht:av s1 s.next (l3 a b c):=ht
 have p0:aG Tryz.prog s1 3 (.pointer (some ⟨s.next,0,some 4⟩))=some (.int .i64 a):=ht.load cj (off:=0) (c:=4) rfl (by simp)
 have p1:aG Tryz.prog s1 3 (.pointer (some ⟨s.next,1,some 4⟩))=some (.int .i64 b):=ht.load cj (off:=1) (c:=4) rfl (by simp)
 have p2:aG Tryz.prog s1 3 (.pointer (some ⟨s.next,2,some 4⟩))=some (.int .i64 c):=ht.load cj (off:=2) (c:=4) rfl (by simp)
 have BG:[Value.int .i64 a,.int .i64 b,.int .i64 c].length+1=4:=rfl
 have eh:(a+b).tdiv 2=(a+b)/2:=Int.tdiv_eq_ediv_of_nonneg (by omega)
 simp-implicitDefEqProofs(disch:=omega)only[ai,al,oneOf,Nat.reduceLT,Nat.reduceEqDiff,↓reduceIte,hn,BG,Dk,BD,p0,p1,aD,eh,ej,Tryz.results160]
 exact⟨rfl,aA⟩
set_option maxHeartbeats 4000000 in
theorem FM {lib:ay}(L:Dm lib)(s:aq)(a b c:Int)(ha:0<=a/\a<=255)(hb:0<=b/\b<=255)(hc:0<=c/\c<=255):Runs Tryz.prog lib 161 [i3 a b c] s (BI s (eL a b c)):=by
 obtain⟨QQ,gj⟩:∃QQ:Value->aq->Prop,QQ=BI s (eL a b c):=⟨_,rfl⟩
 rw[<-gj]
 refine Runs.enter 46 Tryz.func161 rfl L.nearest rfl rfl ?_
 intro f hn hf
 have h0:f.get 0=i3 a b c:=hf 0
 clear hf
 simp-implicitDefEqProofs(disch:=omega)only[ai,Nat.reduceLT,↓reduceIte,hn,h0]
 refine aw ?_
 intro s1 ht aA uS
 have ht:av s1 s.next (l3 a b c):=ht
 have BG:[Value.int .i64 a,.int .i64 b,.int .i64 c].length+1=4:=rfl
 have q0:∀t,ar s1.next s1 t->aG Tryz.prog t 3 (.pointer (some ⟨s.next,0,some 4⟩))=some (.int .i64 a):=fun t h=>(ht.keeps h).load cj (off:=0) (c:=4) rfl (by simp)
 have q1:∀t,ar s1.next s1 t->aG Tryz.prog t 3 (.pointer (some ⟨s.next,1,some 4⟩))=some (.int .i64 b):=fun t h=>(ht.keeps h).load cj (off:=1) (c:=4) rfl (by simp)
 have q2:∀t,ar s1.next s1 t->aG Tryz.prog t 3 (.pointer (some ⟨s.next,2,some 4⟩))=some (.int .i64 c):=fun t h=>(ht.keeps h).load cj (off:=2) (c:=4) rfl (by simp)
 have k1:=ar.refl s1.next s1
 simp-implicitDefEqProofs(disch:=omega)only[ai,Nat.reduceLT,Nat.reduceEqDiff,↓reduceIte,hn,BG,Dk,BD,BE,q0 _ k1,q1 _ k1,q2 _ k1,aD]
 obtain⟨A,hA⟩:∃A:Nat->Bool,A=fun j=>decide (j<s1.next):=⟨_,rfl⟩
 have ef:∀j,A j=true->j<s1.next:=by
  intro j h
  rw[hA] at h
  exact of_decide_eq_true h
 have gW:∀j,j<s1.next->A j=true:=fun j h=>by rw[hA];exact decide_eq_true h
 refine LB.cF.dy A ef 3 0 (by kernel_rfl) (by kernel_rfl) ?_
 have db:=ar.spare s1 0
 have hl:∀k,LA.dB A (some (.pointer (some ⟨s.next,k,some 4⟩)))=true:=fun k=>LA.bY (A:=A) (i:=s.next) (gW _ ht.lt)
 simp-implicitDefEqProofs(disch:=omega)only[ai,aj,bn,bp,Nat.add_one_sub_one,ad,Nat.reduceLT,Nat.reduceEqDiff,↓reduceIte,hn,hl,Dk,BD,q0 _ db]
 refine(BH L.gx _ (a+b-c) a (by omega) (by omega)).mono ?_
 rintro _ _ ⟨rfl,rfl⟩
 refine⟨fun _=>LA.ar.lM ef (ar.refl _ _),?_⟩
 simp-implicitDefEqProofs(disch:=omega)only[ai,aj,bn,bp,Nat.add_one_sub_one,ad,Nat.reduceLT,Nat.reduceEqDiff,↓reduceIte,hn,hl,BE,q1 _ db]
 refine(BH L.gx _ (a+b-c) b (by omega) (by omega)).mono ?_
 rintro _ _ ⟨rfl,rfl⟩
 refine⟨fun _=>LA.ar.lM ef (ar.refl _ _),?_⟩
 simp-implicitDefEqProofs(disch:=omega)only[ai,aj,bn,bp,Nat.sub_self,ad,Nat.reduceLT,Nat.reduceEqDiff,↓reduceIte,hn,hl,q2 _ db]
 refine(BH L.gx _ (a+b-c) c (by omega) (by omega)).mono ?_
 rintro _ _ ⟨rfl,rfl⟩
 refine⟨fun _=>LA.ar.lM ef (ar.refl _ _),?_⟩
 have df:ar s.next s (spare s1 0):=aA.trans (db.weaken aA.next)
 by_cases c1:km (a+b-c) a<=km (a+b-c) b
 ·by_cases c2:km (a+b-c) a<=km (a+b-c) c
  ·have e:eL a b c=a:=by unfold eL;rw[if_pos ⟨c1,c2⟩]
   simp-implicitDefEqProofs(disch:=omega)only[ai,aj,oneOf,Nat.reduceLT,Nat.reduceEqDiff,↓reduceIte,ai,aj,al,oneOf,Nat.reduceLT,Nat.reduceEqDiff,↓reduceIte,hn,eq_true c1,eq_true c2,Dk,q0 _ db,Tryz.results161]
   rw[gj];exact⟨by rw[e],df⟩
  ·by_cases c3:km (a+b-c) b<=km (a+b-c) c
   ·have e:eL a b c=b:=by unfold eL;rw[if_neg (fun h=>c2 h.2),if_pos c3]
    simp-implicitDefEqProofs(disch:=omega)only[ai,aj,oneOf,Nat.reduceLT,Nat.reduceEqDiff,↓reduceIte,ai,aj,al,oneOf,Nat.reduceLT,Nat.reduceEqDiff,↓reduceIte,hn,eq_true c1,eq_false c2,eq_true c3,BD,q1 _ db,Tryz.results161]
    rw[gj];exact⟨by rw[e],df⟩
   ·have e:eL a b c=c:=by unfold eL;rw[if_neg (fun h=>c2 h.2),if_neg c3]
    simp-implicitDefEqProofs(disch:=omega)only[ai,aj,oneOf,Nat.reduceLT,Nat.reduceEqDiff,↓reduceIte,ai,aj,al,oneOf,Nat.reduceLT,Nat.reduceEqDiff,↓reduceIte,hn,eq_true c1,eq_false c2,eq_false c3,BE,q2 _ db,Tryz.results161]
    rw[gj];exact⟨by rw[e],df⟩
 ·by_cases c3:km (a+b-c) b<=km (a+b-c) c
  ·have e:eL a b c=b:=by unfold eL;rw[if_neg (fun h=>c1 h.1),if_pos c3]
   simp-implicitDefEqProofs(disch:=omega)only[ai,aj,oneOf,Nat.reduceLT,Nat.reduceEqDiff,↓reduceIte,ai,aj,al,oneOf,Nat.reduceLT,Nat.reduceEqDiff,↓reduceIte,undef,hn,eq_false c1,eq_true c3,BD,q1 _ db,Tryz.results161]
   rw[gj];exact⟨by rw[e],df⟩
  ·have e:eL a b c=c:=by unfold eL;rw[if_neg (fun h=>c1 h.1),if_neg c3]
   simp-implicitDefEqProofs(disch:=omega)only[ai,aj,oneOf,Nat.reduceLT,Nat.reduceEqDiff,↓reduceIte,ai,aj,al,oneOf,Nat.reduceLT,Nat.reduceEqDiff,↓reduceIte,undef,hn,eq_false c1,eq_false c3,BE,q2 _ db,Tryz.results161]
   rw[gj];exact⟨by rw[e],df⟩
theorem acD:cE Tryz.prog 119=some .nilFunc:=by kernel_rfl
theorem UU:bq Tryz.prog 119=some 1:=by kernel_rfl
theorem Y7:cw Tryz.prog 119=some false:=by kernel_rfl
set_option maxHeartbeats 4000000 in
theorem JW {lib:ay}(L:Dm lib)(s:aq)(t a b c:Int)(ht:0<=t/\t<=4)(ha:0<=a/\a<=255)(hb:0<=b/\b<=255)(hc:0<=c/\c<=255):Runs Tryz.prog lib 116 [i3 a b c,.int .i64 t] s (BI s (gi t a b c)):=by
 refine Runs.enter 20 Tryz.func116 rfl L.P5 rfl rfl ?_
 intro f hn hf
 have h0:f.get 0=i3 a b c:=hf 0
 have h1:f.get 1= .int .i64 t:=hf 1
 clear hf
 simp-implicitDefEqProofs(disch:=omega)only[ai,Nat.reduceLT,↓reduceIte,hn,h0]
 refine aw ?_
 intro s1 R9 aA uS
 have R9:av s1 s.next (l3 a b c):=R9
 have BG:[Value.int .i64 a,.int .i64 b,.int .i64 c].length+1=4:=rfl
 have la:aG Tryz.prog s1 141 (.pointer (some ⟨s.next,0,some 4⟩))=some (i3 a b c):=av.cY (P:=Tryz.prog) (cs:=l3 a b c) P4 LK R9 (c:=4) rfl
 simp-implicitDefEqProofs(disch:=omega)only[ai,ad,ag,Nat.reduceLT,Nat.reduceEqDiff,↓reduceIte,hn,BG,la,Dl,LL (a:= .func (.func 157) #[i3 a b c] #[]) (b:= .func (.func 158) #[i3 a b c] #[]) (c:= .func (.func 159) #[i3 a b c] #[]) (d:= .func (.func 160) #[i3 a b c] #[]) (x:= .func (.func 161) #[i3 a b c] #[]) Tryz.underlying188 UU acD rfl ⟨_,rfl⟩ rfl rfl rfl rfl rfl]
 refine aQ rfl ?_
 intro v s2 hv hF bD
 have df:ar s.next s s2:=aA.trans (bD.weaken aA.next)
 obtain⟨k,rfl⟩:∃k:Nat,t=k:=⟨t.toNat,by omega⟩
 have hk:k<5:=by omega
 have dI:=hv.aH.indexAddr (P:=Tryz.prog) (k:= .i64) (x:=(k:Int)) Tryz.underlying188 UU (by omega) (by omega)
 rw[Int.toNat_natCast] at dI
 have fM:=hv.aH.cU (P:=Tryz.prog) Y7 hk
 match k,hk with
 |0,_=>
  simp-implicitDefEqProofs(disch:=omega)only[ai,aj,ad,Nat.reduceLT,Nat.reduceEqDiff,↓reduceIte,hn,h1,dI,fM]
  refine(Nv L s2 a b c ha hb hc).mono ?_
  rintro _ s3 ⟨rfl,ij⟩
  simp-implicitDefEqProofs(disch:=omega)only[ai,al,oneOf,Nat.reduceLT,↓reduceIte,hn,Tryz.results116]
  exact⟨rfl,df.trans (ij.weaken df.next)⟩
 |1,_=>
  simp-implicitDefEqProofs(disch:=omega)only[ai,aj,ad,Nat.reduceLT,Nat.reduceEqDiff,↓reduceIte,hn,h1,dI,fM]
  refine(JU L s2 a b c ha hb hc).mono ?_
  rintro _ s3 ⟨rfl,ij⟩
  simp-implicitDefEqProofs(disch:=omega)only[ai,al,oneOf,Nat.reduceLT,↓reduceIte,hn,Tryz.results116]
  exact⟨rfl,df.trans (ij.weaken df.next)⟩
 |2,_=>
  simp-implicitDefEqProofs(disch:=omega)only[ai,aj,ad,Nat.reduceLT,Nat.reduceEqDiff,↓reduceIte,hn,h1,dI,fM]
  refine(JV L s2 a b c ha hb hc).mono ?_
  rintro _ s3 ⟨rfl,ij⟩
  simp-implicitDefEqProofs(disch:=omega)only[ai,al,oneOf,Nat.reduceLT,↓reduceIte,hn,Tryz.results116]
  exact⟨rfl,df.trans (ij.weaken df.next)⟩
 |3,_=>
  simp-implicitDefEqProofs(disch:=omega)only[ai,aj,ad,Nat.reduceLT,Nat.reduceEqDiff,↓reduceIte,hn,h1,dI,fM]
  refine(Nw L s2 a b c ha hb hc).mono ?_
  rintro _ s3 ⟨rfl,ij⟩
  simp-implicitDefEqProofs(disch:=omega)only[ai,al,oneOf,Nat.reduceLT,↓reduceIte,hn,Tryz.results116]
  exact⟨rfl,df.trans (ij.weaken df.next)⟩
 |4,_=>
  simp-implicitDefEqProofs(disch:=omega)only[ai,aj,ad,Nat.reduceLT,Nat.reduceEqDiff,↓reduceIte,hn,h1,dI,fM]
  refine(FM L s2 a b c ha hb hc).mono ?_
  rintro _ s3 ⟨rfl,ij⟩
  simp-implicitDefEqProofs(disch:=omega)only[ai,al,oneOf,Nat.reduceLT,↓reduceIte,hn,Tryz.results116]
  exact⟨rfl,df.trans (ij.weaken df.next)⟩
def LM (R:List UInt8)(k c:Nat):Int:=if c<=k then(((R.getD (k-c) 0).toNat:Nat):Int) else 0
def P6 (W:List UInt8)(k:Nat):Int:=if 0<W.length then(((W.getD k 0).toNat:Nat):Int) else 0
def P7 (W:List UInt8)(k c:Nat):Int:=if 0<W.length/\c<=k then(((W.getD (k-c) 0).toNat:Nat):Int) else 0
def Y8 (s:aq)(a b c:Int)(v:Value)(s' :aq):Prop:=v=i3 a b c/\ar s.next s s'
set_option maxHeartbeats 4000000 in
theorem Tc {lib:ay}(L:Dm lib)(s:aq)(x y:Value)(R W:List UInt8)(hx:aM s 1 x R.length (ofBytes R))(hy:aM s 1 y W.length (ofBytes W))(hl:R.length<=1000000)(k c:Nat)(hk:k<R.length)(hc:1<=c)(hW:W.length=0\/W.length=R.length):
  Runs Tryz.prog lib 115 [x,y,.int .i64 k,.int .i64 c] s (Y8 s (LM R k c) (P6 W k) (P7 W k c)):=by
 refine Runs.enter 42 Tryz.func115 rfl L.Wf rfl rfl ?_
 intro f hn hf
 have h0:f.get 0=x:=hf 0
 have h1:f.get 1=y:=hf 1
 have h2:f.get 2= .int .i64 k:=hf 2
 have h3:f.get 3= .int .i64 c:=hf 3
 clear hf
 have BG:[Value.int .i64 0,.int .i64 0,.int .i64 0].length+1=4:=rfl
 simp-implicitDefEqProofs(disch:=omega)only[ai,↓reduceIte,Y6,UT]
 refine aw ?_
 intro s1 fa bB jb
 simp-implicitDefEqProofs(disch:=omega)only[ai,Nat.reduceLT,↓reduceIte,hn,Y6,UT]
 refine aw ?_
 intro s2 fm bD na
 have fa:av s2 s.next (l3 0 0 0):=av.keeps fa bD
 have fm:av s2 s1.next (l3 0 0 0):=fm
 have df:ar s.next s s2:=bB.trans (bD.weaken bB.next)
 have n1:=bB.next
 have n2:=bD.next
 have Gz:∀z:List UInt8,∀j,z.getD j 0=z.getD j 0:=fun _ _=>rfl
 have ek:c<=k->((k:Int)-(c:Int))=((k-c:Nat):Int):=fun h=>by omega
 simp-implicitDefEqProofs(disch:=omega)only[ai,Nat.reduceLT,Nat.reduceEqDiff,↓reduceIte,hn,h2,h3,BG]
 generalize hK:mR Tryz.prog lib (Code.seq (Code.seq (Code.region _ _ _) _) _) _=K1
 have go:∀f t,f.n=42->f.get 0=x->f.get 1=y->f.get 2= .int .i64 k->f.get 3= .int .i64 c->f.get 8= .pointer (some ⟨s.next,0,some 4⟩)->f.get 9= .pointer (some ⟨s1.next,0,some 4⟩)->av t s.next (l3 0 0 0)->av t s1.next (l3 (LM R k c) 0 0)->ar s.next s t->K1 .normal f t:=by
  clear hn h0 h1 h2 h3 f
  subst hK
  intro f t hn h0 h1 h2 h3 h8 h9 hA hB aA
  have hyt:=hy.keeps aA
  simp-implicitDefEqProofs(disch:=omega)only[ai,ad,Nat.reduceLT,↓reduceIte,hn,h1,hyt.aV Tryz.underlying22]
  generalize hK:mR Tryz.prog lib (Code.seq (Code.region _ _ _) Code.ret) _=K2
  have go2:∀f t A B C,f.n=42->f.get 8= .pointer (some ⟨s.next,0,some 4⟩)->f.get 9= .pointer (some ⟨s1.next,0,some 4⟩)->av t s.next (l3 0 0 0)->av t s1.next (l3 A B C)->ar s.next s t->A=LM R k c->B=P6 W k->C=P7 W k c->K2 .normal f t:=by
   clear hn h0 h1 h2 h3 h8 h9 hA hB hyt aA t f
   subst hK
   intro f t A B C hn h8 h9 hA hB aA e1 e2 e3
   have la:aG Tryz.prog t 141 (.pointer (some ⟨s1.next,0,some 4⟩))=some (i3 A B C):=av.cY (P:=Tryz.prog) (cs:=l3 A B C) P4 LK hB (c:=4) rfl
   simp-implicitDefEqProofs(disch:=omega)only[ai,Nat.reduceLT,Nat.reduceEqDiff,↓reduceIte,hn,h8,h9,la]
   refine aE LK (by decide) hA rfl rfl rfl rfl ?_
   intro t2 Nt uS hot
   have Nt:av t2 s.next (l3 A B C):=Nt
   have lb:aG Tryz.prog t2 141 (.pointer (some ⟨s.next,0,some 4⟩))=some (i3 A B C):=av.cY (P:=Tryz.prog) (cs:=l3 A B C) P4 LK Nt (c:=4) rfl
   simp-implicitDefEqProofs(disch:=omega)only[ai,al,oneOf,Nat.reduceLT,Nat.reduceEqDiff,↓reduceIte,hn,h8,lb,aW,Tryz.results115]
   refine⟨by rw[e1,e2,e3],⟨by have:=aA.next;omega,fun j hj=>by rw[hot j (by omega)];exact aA.get j hj⟩⟩
  by_cases hw:(0:Int)<((W.length:Nat):Int)
  rotate_left
  ·simp-implicitDefEqProofs(disch:=omega)only[ai,eq_false hw]
   exact go2 _ _ _ _ _ (by simp only[ae,hn]) (by simp only[aa,↓reduceIte,Nat.reduceEqDiff,h8]) (by simp only[aa,↓reduceIte,Nat.reduceEqDiff,h9]) hA hB aA rfl (by unfold P6;rw[if_neg (by omega)]) (by unfold P7;rw[if_neg (by omega)])
  have XY:k<W.length:=by omega
  have dI:=hyt.indexAddr (P:=Tryz.prog) (k:= .i64) (x:=(k:Int)) Tryz.underlying22 bh (by omega) (by omega)
  rw[Int.toNat_natCast] at dI
  have fM:=hyt.cU (P:=Tryz.prog) gZ XY
  rw[aZ XY] at fM
  have w8:=qD (W.getD k 0)
  have eA:((((W.getD k 0).toNat:Nat):Int))=P6 W k:=by unfold P6;rw[if_pos (by omega)]
  rw[eA] at fM w8
  simp-implicitDefEqProofs(disch:=omega)only[ai,Nat.reduceLT,Nat.reduceEqDiff,↓reduceIte,hn,h1,h2,h9,eq_true hw,dI,fM,bd Tryz.underlying5 Tryz.underlying3,aD,BD]
  refine cL cG hB rfl (by simp) rfl ?_
  intro t3 CP tB qR
  have CP:av t3 s1.next (l3 (LM R k c) (P6 W k) 0):=CP
  have hA3:av t3 s.next (l3 0 0 0):=hA.bc tB qR (by omega)
  have cf:ar s.next s t3:=⟨by have:=aA.next;omega,fun j hj=>by rw[qR j (by omega)];exact aA.get j hj⟩
  by_cases Gx:(c:Int)<=(k:Int)
  rotate_left
  ·simp-implicitDefEqProofs(disch:=omega)only[ai,Nat.reduceLT,Nat.reduceEqDiff,↓reduceIte,hn,h2,h3,eq_false Gx]
   exact go2 _ _ _ _ _ (by simp only[ae,hn]) (by simp only[aa,↓reduceIte,Nat.reduceEqDiff,h8]) (by simp only[aa,↓reduceIte,Nat.reduceEqDiff,h9]) hA3 CP cf rfl rfl (by unfold P7;rw[if_neg (by omega)])
  have JX:c<=k:=by omega
  have ec:=ek JX
  have JY:=hy.keeps cf
  have dI:=JY.indexAddr (P:=Tryz.prog) (k:= .i64) (x:=((k-c:Nat):Int)) Tryz.underlying22 bh (by omega) (by omega)
  rw[Int.toNat_natCast] at dI
  have OL:k-c<W.length:=by omega
  have fM:=JY.cU (P:=Tryz.prog) gZ OL
  rw[aZ OL] at fM
  have w8:=qD (W.getD (k-c) 0)
  have eB:((((W.getD (k-c) 0).toNat:Nat):Int))=P7 W k c:=by unfold P7;rw[if_pos (by omega)]
  rw[eB] at fM w8
  simp-implicitDefEqProofs(disch:=omega)only[ai,Nat.reduceLT,Nat.reduceEqDiff,↓reduceIte,hn,h1,h2,h3,h9,eq_true Gx,aD,ec,dI,fM,bd Tryz.underlying5 Tryz.underlying3,BE]
  refine cL cG CP rfl (by simp) rfl ?_
  intro t4 Wg lN jc
  have Wg:av t4 s1.next (l3 (LM R k c) (P6 W k) (P7 W k c)):=Wg
  exact go2 _ _ _ _ _ (by simp only[ae,hn]) (by simp only[aa,↓reduceIte,Nat.reduceEqDiff,h8]) (by simp only[aa,↓reduceIte,Nat.reduceEqDiff,h9]) (hA3.bc lN jc (by omega)) Wg ⟨by have:=cf.next;omega,fun j hj=>by rw[jc j (by omega)];exact cf.get j hj⟩ rfl rfl rfl
 by_cases Gx:(c:Int)<=(k:Int)
 rotate_left
 ·have e0:LM R k c=0:=by unfold LM;rw[if_neg (by omega)]
  have JX:¬c<=k:=by omega
  simp-implicitDefEqProofs(disch:=omega)only[ai,eq_false JX]
  exact go _ _ (by simp only[ae,hn]) (by simp only[aa,↓reduceIte,Nat.reduceEqDiff,h0]) (by simp only[aa,↓reduceIte,Nat.reduceEqDiff,h1]) (by simp only[aa,↓reduceIte,Nat.reduceEqDiff,h2]) (by simp only[aa,↓reduceIte,Nat.reduceEqDiff,h3]) (by simp only[aa,↓reduceIte,Nat.reduceEqDiff]) (by simp only[aa,↓reduceIte,Nat.reduceEqDiff]) fa (by rw[e0];exact fm) df
 have JX:c<=k:=by omega
 have ec:=ek JX
 have kC:=hx.keeps df
 have dI:=kC.indexAddr (P:=Tryz.prog) (k:= .i64) (x:=((k-c:Nat):Int)) Tryz.underlying22 bh (by omega) (by omega)
 rw[Int.toNat_natCast] at dI
 have OL:k-c<R.length:=by omega
 have fM:=kC.cU (P:=Tryz.prog) gZ OL
 rw[aZ OL] at fM
 have w8:=qD (R.getD (k-c) 0)
 have eB:((((R.getD (k-c) 0).toNat:Nat):Int))=LM R k c:=by unfold LM;rw[if_pos JX]
 rw[eB] at fM w8
 simp-implicitDefEqProofs(disch:=omega)only[ai,Nat.reduceLT,Nat.reduceEqDiff,↓reduceIte,hn,h0,h2,h3,eq_true JX,aD,ec,dI,fM,bd Tryz.underlying5 Tryz.underlying3,Dk]
 refine cL cG fm rfl (by simp) rfl ?_
 intro t4 Wg lN jc
 have Wg:av t4 s1.next (l3 (LM R k c) 0 0):=Wg
 exact go _ _ (by simp only[ae,hn]) (by simp only[aa,↓reduceIte,Nat.reduceEqDiff,h0]) (by simp only[aa,↓reduceIte,Nat.reduceEqDiff,h1]) (by simp only[aa,↓reduceIte,Nat.reduceEqDiff,h2]) (by simp only[aa,↓reduceIte,Nat.reduceEqDiff,h3]) (by simp only[aa,↓reduceIte,Nat.reduceEqDiff]) (by simp only[aa,↓reduceIte,Nat.reduceEqDiff]) (fa.bc lN jc (by omega)) Wg ⟨by have:=df.next;omega,fun j hj=>by rw[jc j (by omega)];exact df.get j hj⟩
end Go.Proofs.YtdfjfncifneocaaGreat
set_option linter.unusedSimpArgs false
set_option linter.unusedVariables false
set_option maxRecDepth 100000
namespace Go.Proofs.YtdfjfncifneocaaGreat
open Go.Cl
theorem r6 {lib:ay}(hl:lib.at 39=none)(s:aq)(x:Value)(a:List UInt8)(hx:aM s 1 x a.length (ofBytes a))(ha:a.length<=4294967296):
  Runs Tryz.prog lib 39 [x] s fun v s' =>bU s v s' a:=by
 refine Runs.enter 19 Tryz.func39 rfl hl rfl rfl ?_
 intro f hn hf
 have h0:f.get 0=x:=hf 0
 clear hf
 simp only[ai,Nat.reduceLT,↓reduceIte,hn]
 refine Comes.eY (fun k f s' =>∃(i:Nat) (o:Value),k=a.length-i/\i<=a.length/\Own s' 1 o i (ofBytes (a.take i))/\aN s.next o/\ar s.next s s' /\f.n=19/\f.get 0=x/\f.get 4= .int .i64 i/\f.get 3=o) ⟨0,_,rfl,by omega,.nil,aN.nil _,ar.refl _ _,by simp only[ae,hn],by simp only[aa,↓reduceIte,Nat.reduceEqDiff,h0],by simp only[aa,↓reduceIte];rfl,by simp only[aa,↓reduceIte,Nat.reduceEqDiff]⟩ ?_
 clear hn h0 f
 rintro k f s1 ⟨i,o,rfl,hi,ho,l5,aA,hn,h0,h4,h3⟩
 have iU:=hx.keeps aA
 by_cases aP:i<a.length
 ·simp (disch:=omega) only[ai,ad,ag,Nat.reduceLT,Nat.reduceEqDiff,↓reduceIte,hn,h0,h4,h3,aP,iU.aV Tryz.underlying22,iU.indexAddr Tryz.underlying22 bh,iU.cU gZ,aZ,gN Tryz.underlying22 bh gR]
  refine a9 Tryz.underlying22 bh gh gR rfl ho (by simp only[aa,↓reduceIte,Nat.reduceEqDiff]) (by decide) (by simp only[ae,hn];decide) (by simp only[ae,hn];decide) rfl (by decide) rfl (by omega) (by omega) l5 aA.next ?_
  intro bs o' s2 j8 jD cI _ _
  simp (disch:=omega) only[ai,Nat.reduceLT,Nat.reduceEqDiff,↓reduceIte,hn,h4,aD]
  refine au (a.length-(i+1)) (by omega) ⟨i+1,o',rfl,by omega,?_,jD,aA.trans cI,by simp only[ae,hn],by simp only[aa,↓reduceIte,Nat.reduceEqDiff,h0],by simp only[aa,↓reduceIte];rfl,by simp only[aa,↓reduceIte,Nat.reduceEqDiff]⟩
  rw[sU aP,aK];exact j8
 ·simp (disch:=omega) only[ai,al,oneOf,ad,Nat.reduceLT,Nat.reduceEqDiff,↓reduceIte,hn,h0,h4,h3,aP,iU.aV Tryz.underlying22,Tryz.results39]
  obtain rfl:i=a.length:=by omega
  rw[List.take_of_length_le (Nat.le_refl _)] at ho
  exact⟨ho,l5,aA⟩
end Go.Proofs.YtdfjfncifneocaaGreat
namespace Go.Cl
end Go.Cl
namespace Go.Cl.Rw
def uA (y:UInt8)(x:Int)(k:Nat):UInt8:=y|||UInt8.ofNat ((x%2).toNat*2^k)
def room (p:List UInt8×Nat):List UInt8:=if p.2%8=0 then p.1++[0] else p.1
def lO (p:List UInt8×Nat)(x:Int):List UInt8×Nat:=((room p).set (p.2/8) (uA ((room p).getD (p.2/8) 0) x (p.2%8)),p.2+1)
def ko (p:List UInt8×Nat)(x:Int):Nat->List UInt8×Nat
 |0=>p
 |k+1=>lO (ko p x k) (x.fdiv (2^k))
def Ok (p:List UInt8×Nat):Prop:=p.2<=8*p.1.length/\8*p.1.length<p.2+8
theorem vL {p:List UInt8×Nat}(h:Ok p):p.2/8<(room p).length/\8*(room p).length<p.2+9:=by
 obtain⟨h1,h2⟩:=h
 unfold room
 by_cases hz:p.2%8=0
 ·rw[if_pos hz,List.length_append,List.length_singleton];omega
 ·rw[if_neg hz];omega
theorem zG {p:List UInt8×Nat}{x:Int}(h:Ok p):Ok (lO p x):=by
 obtain⟨h1,h2⟩:=vL h
 unfold Ok lO
 simp only[List.length_set]
 omega
theorem vM {p:List UInt8×Nat}{x:Int}(h:Ok p):∀k,Ok (ko p x k)
 |0=>h
 |k+1=>zG (vM h k)
theorem ly (p:List UInt8×Nat)(x:Int):∀k,(ko p x k).2=p.2+k
 |0=>rfl
 |k+1=>by
  show(ko p x k).2+1=_
  rw[ly p x k];omega
theorem FN (x:Int):IntKind.i64.wrap (((BitVec.ofInt IntKind.i64.bits x&&&BitVec.ofInt IntKind.i64.bits 1).toNat:Nat):Int)=x%2:=by
 have e1:IntKind.i64.bits=64:=rfl
 rw[e1]
 have:(BitVec.ofInt 64 x&&&BitVec.ofInt 64 1).toNat=(x%18446744073709551616).toNat%2:=by
  rw[BitVec.toNat_and,BitVec.toNat_ofInt]
  show(x%18446744073709551616).toNat&&&1=_
  exact Nat.and_one_is_mod _
 rw[this,aD (by omega)]
 omega
theorem BJ (x:Int):IntKind.u8.wrap (x%2)=(((x%2).toNat:Nat):Int):=by rw[eZ];omega
theorem acE {k:Nat}(h:k<8):2^k<=128:=by
 have:2^k<=2^7:=Nat.pow_le_pow_right (by omega) (by omega)
 exact this
theorem HF (P:Program)(t:TypeId)(k' :IntKind)(x:Int){k:Nat}(h:k<8):du P .shl t (.int .u8 (((x%2).toNat:Nat):Int)) (.int k' (k:Nat))=some (.int .u8 (((x%2).toNat*2^k:Nat):Int)):=by
 rw[sM P t .u8 _ _ k' (by omega)]
 have e:min ((k:Nat):Int).toNat IntKind.u8.bits=k:=by
  have:IntKind.u8.bits=8:=rfl
  rw[this,Int.toNat_natCast];omega
 have hp:=acE h
 have hx:(x%2).toNat=0\/(x%2).toNat=1:=by omega
 rw[e,eZ]
 rcases hx with hx|hx
 ·rw[hx];simp
 ·rw[hx]
  have e2:((1:Nat):Int)*(2:Int)^k=((1*2^k:Nat):Int):=by norm_cast
  rw[e2]
  congr 2
  generalize 2^k=q at hp
  omega
theorem UW (y:UInt8)(x:Int)(k:Nat):IntKind.u8.wrap (((BitVec.ofInt IntKind.u8.bits (y.toNat:Int)|||BitVec.ofInt IntKind.u8.bits (((x%2).toNat*2^k:Nat):Int)).toNat:Nat):Int)=((uA y x k).toNat:Int):=by
 have e1:IntKind.u8.bits=8:=rfl
 have hy:=y.toNat_lt
 rw[e1,eZ]
 unfold uA
 generalize (x%2).toNat*2^k=w
 have:(BitVec.ofInt 8 (y.toNat:Int)|||BitVec.ofInt 8 (w:Int)).toNat=(y|||UInt8.ofNat w).toNat:=by
  rw[BitVec.toNat_or,BitVec.ofInt_natCast,BitVec.ofInt_natCast,BitVec.toNat_ofNat,BitVec.toNat_ofNat,UInt8.toNat_or,UInt8.toNat_ofNat',Nat.mod_eq_of_lt (by omega)]
 rw[this]
 have:=(y|||UInt8.ofNat w).toNat_lt
 omega
theorem xC (P:Program)(t:TypeId)(k' :IntKind)(x:Int){k:Nat}(h:k<64):du P .shr t (.int .i64 x) (.int k' (k:Nat))=some (.int .i64 (x.fdiv (2^k))):=by
 rw[sO P t .i64 _ _ k' (by omega)]
 have e:min ((k:Nat):Int).toNat IntKind.i64.bits=k:=by
  have:IntKind.i64.bits=64:=rfl
  rw[this,Int.toNat_natCast];omega
 rw[e]
theorem tC (n:Nat):((n:Int)).tmod 8=((n%8:Nat):Int):=by rw[Int.tmod_eq_emod_of_nonneg (by omega)];omega
theorem HG (n:Nat):((n:Int)).tdiv 8=((n/8:Nat):Int):=by rw[Int.tdiv_eq_ediv_of_nonneg (by omega)];omega
theorem ei {P:Program}{lib:ay}{all r:List Oper}{id:Nat}{f:aR}{s:aq}{d:Option Tmp}{Q:aR->aq->Prop}{e:TypeId}(cJ:bq P e=some 1){v:Value}{n:Nat}{l:List Value}(h:Own s 1 v n l){k:Nat}(hk:k<n){w:Value}(hw:aO w=true)
  (K:∀s',Own s' 1 v n (l.set k w)->bm v s s' ->yN P lib all r id f d Q undef s'):qC P lib all r id f d s Q (CT (fi P s e (aT 1 v k) w)):=by
 obtain⟨s',h1,h2,h3⟩:=h.put cJ hk hw
 rw[h1,j9]
 exact K s' h2 h3
structure dK (j:Nat) (v:Value) (s:aq) (v' :Value) (s' :aq):Prop where
 next:s.next<=s'.next
 get:∀i,i<s.next->i≠j->aJ v≠some i->s'.heap.get i=s.heap.get i
 id:aJ v' =aJ v\/∃i,aJ v' =some i/\s.next<=i
theorem dK.refl (j:Nat)(v:Value)(s:aq):dK j v s v s:=⟨Nat.le_refl _,fun _ _ _ _=>rfl,.inl rfl⟩
theorem dK.trans {j:Nat}{v v' v'' :Value}{s s' Bf:aq}(h:dK j v s v' s')(k:dK j v' s' v'' Bf):dK j v s v'' Bf:=by
 refine⟨Nat.le_trans h.next k.next,fun i hi hj hv=> ?_,?_⟩
 ·rw[k.get i (Nat.lt_of_lt_of_le hi h.next) hj ?_,h.get i hi hj hv]
  rcases h.id with e|⟨q,e,hq⟩
  ·rw[e];exact hv
  ·rw[e];intro q2;injection q2 with q2;omega
 ·rcases k.id with e|⟨q,e,hq⟩
  ·rcases h.id with e2|⟨q,e2,hq⟩
   ·exact .inl (by rw[e,e2])
   ·exact .inr ⟨q,by rw[e,e2],hq⟩
  ·exact .inr ⟨q,e,Nat.le_trans h.next hq⟩
theorem dK.stay {j base:Nat}{v v' :Value}{s s' :aq}(h:dK j v s v' s')(hj:base<=j)(hF:aN base v)(hb:base<=s.next):ar base s s' :=
 ⟨h.next,fun i hi=>h.get i (by omega) (by omega) (fun e=>by have:=hF i e;omega)⟩
theorem dK.turns {j:Nat}{v v' :Value}{s s' :aq}(h:bm v s s')(fc:aJ v' =aJ v\/∃i,aJ v' =some i/\s.next<=i):dK j v s v' s' :=⟨h.next,fun i hi _ hv=>h.get i hi hv,fc⟩
theorem dK.put {j:Nat}{v:Value}{s s' :aq}(hn:s'.next=s.next)(h:∀i,i≠j->s'.heap.get i=s.heap.get i):dK j v s v s' :=⟨by omega,fun i _ hj _=>h i hj,.inl rfl⟩
structure fT (base:Nat) (s:aq) (j:Nat) (v:Value) (p:List UInt8×Nat):Prop where
 iP:av s j [v,.int .i64 p.2]
 own:Own s 1 v p.1.length (ofBytes p.1)
 fresh:aN base v
 ne:aJ v≠some j
 lo:base<=j
 ok:Ok p
theorem fT.other {base j j2:Nat}{s s' :aq}{v v' v2:Value}{p:List UInt8×Nat}(h:fT base s j2 v2 p)(k:dK j v s v' s')(h1:j2≠j)(h2:aJ v2≠some j)(h3:aJ v≠some j2)(h4:∀i,aJ v2=some i->aJ v≠some i):fT base s' j2 v2 p:=by
 obtain⟨t,o,f,n,l,ok⟩:=h
 refine⟨⟨Nat.lt_of_lt_of_le t.lt k.next,?_⟩,?_,f,n,l,ok⟩
 ·obtain⟨low,z,e1,e2⟩:=t.dL
  refine⟨low,z,?_,e2⟩
  simp only[aq.bK,k.get j2 t.lt h1 h3];exact e1
 ·generalize p.1.length=m at o
  generalize ofBytes p.1=cs at o
  cases o with
  |nil=>exact .nil
  |of i n low l hi hb hl hlen=>
   refine .of i _ low _ (Nat.lt_of_lt_of_le hi k.next) ?_ hl hlen
   simp only[aq.bK,k.get i hi (fun e=>h2 (by rw[<-e];rfl)) (h4 i rfl)];exact hb
theorem fT.keeps {base j:Nat}{s s' :aq}{v:Value}{p:List UInt8×Nat}(h:fT base s j v p)(k:ar s.next s s'):fT base s' j v p:=
 ⟨h.iP.keeps k,h.own.keeps k,h.fresh,h.ne,h.lo,h.ok⟩
end Go.Cl.Rw
set_option linter.unusedSimpArgs false
set_option linter.unusedVariables false
set_option maxRecDepth 100000
namespace Go.Proofs.YtdfjfncifneocaaGreat
open Go.Cl Go.Cl.Rw
theorem kr {x:Int}(h0:0<=x)(h:x<18446744073709551616):IntKind.u64.wrap x=x:=by
 have e1:IntKind.u64.bits=64:=rfl
 have e2:IntKind.u64.signed=false:=rfl
 simp only[IntKind.wrap,e1,e2,Bool.false_and]
 simp
 omega
theorem iG (l:List UInt8)(k:Nat)(c:UInt8):(ofBytes l).set k (.int .u8 (c.toNat:Int))=ofBytes (l.set k c):=by
 simp[ofBytes,List.map_set]
abbrev jH (j:Nat):Value:= .pointer (some ⟨j,0,some 3⟩)
theorem Ej (i o c:Nat):az Tryz.prog 162 (.pointer (some ⟨i,o,some c⟩)) 0=some (.pointer (some ⟨i,o+0,some c⟩)):=by
 unfold az;rw[Tryz.underlying162];simp[iY]
theorem Ek (i o c:Nat):az Tryz.prog 162 (.pointer (some ⟨i,o,some c⟩)) 1=some (.pointer (some ⟨i,o+1,some c⟩)):=by
 unfold az;rw[Tryz.underlying162];simp[cG]
theorem El (i o c:Nat):az Tryz.prog 212 (.pointer (some ⟨i,o,some c⟩)) 0=some (.pointer (some ⟨i,o+0,some c⟩)):=by
 unfold az;rw[Tryz.underlying212];simp[iY]
theorem Em (i o c:Nat):az Tryz.prog 212 (.pointer (some ⟨i,o,some c⟩)) 1=some (.pointer (some ⟨i,o+1,some c⟩)):=by
 unfold az;rw[Tryz.underlying212];simp[cG]
def jA (base:Nat)(j:Nat)(v:Value)(s:aq)(p:List UInt8×Nat)(s' :aq):Prop:=∃v',fT base s' j v' p/\dK j v s v' s'
set_option maxRecDepth 100000 in
set_option maxHeartbeats 4000000 in
theorem Td {lib:ay}(hl:lib.at 200=none)(base:Nat)(s:aq)(j:Nat)(v:Value)(p:List UInt8×Nat)(x:Int)(h:fT base s j v p)(hb:base<=s.next)(hp:p.2<=1073741824):
  Runs Tryz.prog lib 200 [jH j,.int .i64 x] s fun _ s' =>jA base j v s (lO p x) s' :=by
 obtain⟨B,n⟩:=p
 obtain⟨ho,hB,hF,cD,hj,dE⟩:=h
 obtain⟨nG,hrb⟩:=vL dE
 have HH:=zG (x:=x) dE
 simp only at ho hB hp
 obtain⟨iW,kY⟩:=dE
 simp only at iW kY
 refine Runs.enter 48 Tryz.func200 rfl hl rfl rfl ?_
 intro f hn hf
 have h0:f.get 0=jH j:=hf 0
 have h1:f.get 1= .int .i64 x:=hf 1
 clear hf
 have l0:=ho.load (P:=Tryz.prog) mV (off:=0) (c:=3) rfl (by simp)
 have l1:=ho.load (P:=Tryz.prog) cj (off:=1) (c:=3) rfl (by simp)
 have Wh:n%8<8:=Nat.mod_lt _ (by omega)
 by_cases hz:n%8=0
 ·have pR:((n%8:Nat):Int)=0:=by omega
  have dh:room (B,n)=B++[0]:=by unfold room;rw[if_pos hz]
  simp-implicitDefEqProofs(disch:=omega)only[ai,aj,ag,Nat.reduceLT,Nat.reduceEqDiff,↓reduceIte,hn,h0,Ej,Ek,l0,l1,cK,tC,eq_true pR,gN Tryz.underlying22 bh gR]
  refine a9 Tryz.underlying22 bh gh gR rfl hB (by simp only[aa,↓reduceIte]) (by decide) (by simp only[ae,hn];decide) (by simp only[ae,hn];decide) (by rfl) (by decide) rfl (by omega) (by omega) (base:=base) hF hb ?_
  intro bs B' s2 UX vE cI M4 vk
  have fK:=ho.turns M4 cD
  have vN:aJ B' ≠some j:=by
   rcases vk with e|⟨i,e,hi⟩
   ·rw[e];exact cD
   ·rw[e];intro q;injection q with q;have:=ho.lt;omega
  simp-implicitDefEqProofs(disch:=omega)only[ai,Nat.reduceLT,Nat.reduceEqDiff,↓reduceIte,hn,Ej]
  refine cL iY fK rfl (by simp) UX.aH.aO ?_
  intro s3 mm td cf
  have e1:ofBytes B++[.int .u8 0]=ofBytes (B++[0]):=by rw[aK];rfl
  have e2:B.length+1=(B++[0]).length:=by simp
  have CP:=UX.bc td cf vN
  rw[e1,e2] at CP
  have aP:n/8<(B++[0]).length:=by rw[<-dh];exact nG
  simp-implicitDefEqProofs(disch:=omega)only[ai]
  refine cF.p9 (by kernel_rfl) ?_
  have l0:=(mm).load (P:=Tryz.prog) mV (off:=0) (c:=3) rfl (by simp)
  have l1:=(mm).load (P:=Tryz.prog) cj (off:=1) (c:=3) rfl (by simp)
  have k1:=(CP).aH.cU (P:=Tryz.prog) gZ aP
  rw[aZ aP] at k1
  simp-implicitDefEqProofs(disch:=omega)only[ai,aj,Nat.reduceLT,Nat.reduceEqDiff,↓reduceIte,hn,h0,h1,Ej,Ek,l0,l1,(CP).self,cK,tC,ej,HG,aD,(CP).aH.indexAddr Tryz.underlying22 bh,k1,ia,FN,bd Tryz.underlying3 Tryz.underlying5,BJ,HF,mS,UW]
  refine ei bh CP aP rfl ?_
  intro t1 jv fa
  have mO:=(mm).turns fa vN
  have P8:=mO.load (P:=Tryz.prog) cj (off:=1) (c:=3) rfl (by simp)
  simp-implicitDefEqProofs(disch:=omega)only[ai,aj,Nat.reduceLT,Nat.reduceEqDiff,↓reduceIte,hn,h0,Ek,P8,aD]
  refine cL cG mO rfl (by simp) rfl ?_
  intro t2 fK nH df
  have eR:=jv.bc nH df vN
  simp-implicitDefEqProofs(disch:=omega)only[ai,ak,Tryz.results200]
  rw[iG] at eR
  have hr:(lO (B,n) x).1=(B++[0]).set (n/8) (uA ((B++[0]).getD (n/8) 0) x (n%8)):=by simp only[lO,dh]
  refine⟨B',⟨fK,?_,vE,vN,hj,HH⟩,((dK.turns M4 vk).trans (dK.put td cf)).trans ((dK.turns fa (.inl rfl)).trans (dK.put nH df))⟩
  rw[hr,List.length_set];exact eR
 ·have pR:¬((n%8:Nat):Int)=0:=by omega
  have dh:room (B,n)=B:=by unfold room;rw[if_neg hz]
  have aP:n/8<B.length:=by rw[<-dh];exact nG
  simp-implicitDefEqProofs(disch:=omega)only[ai,aj,Nat.reduceLT,↓reduceIte,hn,h0,Ek,l1,cK,tC,eq_false pR]
  refine cF.p9 (by kernel_rfl) ?_
  have l0:=(ho).load (P:=Tryz.prog) mV (off:=0) (c:=3) rfl (by simp)
  have l1:=(ho).load (P:=Tryz.prog) cj (off:=1) (c:=3) rfl (by simp)
  have k1:=(hB).aH.cU (P:=Tryz.prog) gZ aP
  rw[aZ aP] at k1
  simp-implicitDefEqProofs(disch:=omega)only[ai,aj,Nat.reduceLT,Nat.reduceEqDiff,↓reduceIte,hn,h0,h1,Ej,Ek,l0,l1,(hB).self,cK,tC,ej,HG,aD,(hB).aH.indexAddr Tryz.underlying22 bh,k1,ia,FN,bd Tryz.underlying3 Tryz.underlying5,BJ,HF,mS,UW]
  refine ei bh hB aP rfl ?_
  intro t1 jv fa
  have mO:=(ho).turns fa cD
  have P8:=mO.load (P:=Tryz.prog) cj (off:=1) (c:=3) rfl (by simp)
  simp-implicitDefEqProofs(disch:=omega)only[ai,aj,Nat.reduceLT,Nat.reduceEqDiff,↓reduceIte,hn,h0,Ek,P8,aD]
  refine cL cG mO rfl (by simp) rfl ?_
  intro t2 fK nH df
  have eR:=jv.bc nH df cD
  simp-implicitDefEqProofs(disch:=omega)only[ai,ak,Tryz.results200]
  rw[iG] at eR
  have hr:(lO (B,n) x).1=B.set (n/8) (uA (B.getD (n/8) 0) x (n%8)):=by simp only[lO,dh]
  refine⟨v,⟨fK,?_,hF,cD,hj,HH⟩,(dK.turns fa (.inl rfl)).trans (dK.put nH df)⟩
  rw[hr,List.length_set];exact eR
theorem jA.start {base j:Nat}{v:Value}{s:aq}{p:List UInt8×Nat}(h:fT base s j v p):jA base j v s p s:=⟨v,h,dK.refl _ _ _⟩
def vO (p:List UInt8×Nat)(x w:Int):List UInt8×Nat:=if w<1\/16<w then p else ko p x w.toNat
set_option maxRecDepth 100000 in
set_option maxHeartbeats 4000000 in
theorem zH {lib:ay}(hl:lib.at 170=none)(nd:lib.at 200=none)(base:Nat)(s:aq)(j:Nat)(v:Value)(p:List UInt8×Nat)(x w:Int)(h:fT base s j v p)(hb:base<=s.next)(hp:p.2<=1000000000):
  Runs Tryz.prog lib 170 [jH j,.int .i64 x,.int .i64 w] s fun _ s' =>jA base j v s (vO p x w) s' :=by
 refine Runs.enter 27 Tryz.func170 rfl hl rfl rfl ?_
 intro f hn hf
 have h0:f.get 0=jH j:=hf 0
 have h1:f.get 1= .int .i64 x:=hf 1
 have h2:f.get 2= .int .i64 w:=hf 2
 clear hf
 by_cases c1:w<1
 ·simp-implicitDefEqProofs(disch:=omega)only[ai,aj,al,Nat.reduceLT,Nat.reduceEqDiff,↓reduceIte,hn,h0,h2,lr Tryz.underlying206,eq_true c1,Tryz.results170]
  unfold vO;rw[if_pos (.inl c1)];exact jA.start h
 ·by_cases c2:16<w
  ·simp-implicitDefEqProofs(disch:=omega)only[ai,aj,al,Nat.reduceLT,Nat.reduceEqDiff,↓reduceIte,hn,h0,h2,lr Tryz.underlying206,eq_false c1,eq_true c2,Tryz.results170]
   unfold vO;rw[if_pos (.inr c2)];exact jA.start h
  ·obtain⟨m,rfl⟩:∃m:Nat,w=m:=⟨w.toNat,by omega⟩
   have HI:vO p x m=ko p x m:=by unfold vO;rw[if_neg (by omega),Int.toNat_natCast]
   simp-implicitDefEqProofs(disch:=omega)only[ai,aj,Nat.reduceLT,Nat.reduceEqDiff,↓reduceIte,hn,h0,h2,lr Tryz.underlying206,eq_false c1,eq_false c2]
   refine Comes.eY (fun q f s' =>∃(k:Nat),q=m-k/\k<=m/\jA base j v s (ko p x k) s' /\f.n=27/\f.get 0=jH j/\f.get 1= .int .i64 x/\f.get 17= .int .i64 m/\f.get 18= .int .i64 k)
    ⟨0,rfl,by omega,jA.start h,by simp only[ae,hn],by simp only[aa,↓reduceIte,Nat.reduceEqDiff,h0],by simp only[aa,↓reduceIte,Nat.reduceEqDiff,h1],by simp only[aa,↓reduceIte,Nat.reduceEqDiff],by simp only[aa,↓reduceIte];rfl⟩ ?_
   clear hn h0 h1 h2 f
   rintro q f s1 ⟨k,rfl,hk,⟨v1,kH,qE⟩,hn,h0,h1,BK,GA⟩
   by_cases hkm:k<m
   ·have zl:(k:Int)<m:=by omega
    simp-implicitDefEqProofs(disch:=omega)only[ai,aj,ad,Nat.reduceLT,Nat.reduceEqDiff,↓reduceIte,hn,h0,h1,BK,GA,eq_true zl,xC]
    refine(Td nd base s1 j v1 (ko p x k) (x.fdiv (2^k)) kH (Nat.le_trans hb qE.next) (by rw[ly];omega)).mono ?_
    rintro _ s2 ⟨v2,iT,xD⟩
    simp-implicitDefEqProofs(disch:=omega)only[ai,Nat.reduceLT,Nat.reduceEqDiff,↓reduceIte,hn,GA,aD]
    refine au (m-(k+1)) (by omega) ⟨k+1,rfl,by omega,⟨v2,iT,qE.trans xD⟩,by simp only[ae,hn],by simp only[aa,↓reduceIte,Nat.reduceEqDiff,h0],by simp only[aa,↓reduceIte,Nat.reduceEqDiff,h1],by simp only[aa,↓reduceIte,Nat.reduceEqDiff,BK],by simp only[aa,↓reduceIte];rfl⟩
   ·obtain rfl:k=m:=by omega
    have zl:¬(k:Int)<k:=by omega
    simp-implicitDefEqProofs(disch:=omega)only[ai,ak,Nat.reduceLT,↓reduceIte,hn,BK,GA,eq_false zl,Tryz.results170]
    rw[HI];exact⟨v1,kH,qE⟩
set_option maxRecDepth 100000 in
set_option maxHeartbeats 4000000 in
theorem r9 {lib:ay}(hl:lib.at 179=none)(base:Nat)(s:aq)(j:Nat)(v:Value)(p:List UInt8×Nat)(x w:Int)(h:fT base s j v p)(hb:base<=s.next)(hp:p.2<=1000000000):
  Runs Tryz.prog lib 179 [jH j,.int .i64 x,.int .i64 w] s fun _ s' =>jA base j v s (vO p x w) s' :=by
 refine Runs.enter 75 Tryz.func179 rfl hl rfl rfl ?_
 intro f hn hf
 have h0:f.get 0=jH j:=hf 0
 have h1:f.get 1= .int .i64 x:=hf 1
 have h2:f.get 2= .int .i64 w:=hf 2
 clear hf
 by_cases c1:w<1
 ·simp-implicitDefEqProofs(disch:=omega)only[ai,aj,al,Nat.reduceLT,Nat.reduceEqDiff,↓reduceIte,hn,h2,eq_true c1,Tryz.results179]
  unfold vO;rw[if_pos (.inl c1)];exact jA.start h
 ·by_cases c2:16<w
  ·simp-implicitDefEqProofs(disch:=omega)only[ai,aj,al,Nat.reduceLT,Nat.reduceEqDiff,↓reduceIte,hn,h2,eq_false c1,eq_true c2,Tryz.results179]
   unfold vO;rw[if_pos (.inr c2)];exact jA.start h
  ·obtain⟨m,rfl⟩:∃m:Nat,w=m:=⟨w.toNat,by omega⟩
   have HI:vO p x m=ko p x m:=by unfold vO;rw[if_neg (by omega),Int.toNat_natCast]
   simp-implicitDefEqProofs(disch:=omega)only[ai,aj,Nat.reduceLT,Nat.reduceEqDiff,↓reduceIte,hn,h2,eq_false c1,eq_false c2]
   refine Comes.eY (fun q f s' =>∃(k:Nat),q=m-k/\k<=m/\jA base j v s (ko p x k) s' /\f.n=75/\f.get 0=jH j/\f.get 1= .int .i64 x/\f.get 2= .int .i64 m/\f.get 6= .int .i64 k)
    ⟨0,rfl,by omega,jA.start h,by simp only[ae,hn],by simp only[aa,↓reduceIte,Nat.reduceEqDiff,h0],by simp only[aa,↓reduceIte,Nat.reduceEqDiff,h1],by simp only[aa,↓reduceIte,Nat.reduceEqDiff,h2],by simp only[aa,↓reduceIte];rfl⟩ ?_
   clear hn h0 h1 h2 f
   rintro q f s1 ⟨k,rfl,hk,⟨v1,kH,qE⟩,hn,h0,h1,h2,h6⟩
   by_cases hkm:k<m
   ·have zl:(k:Int)<m:=by omega
    have jv:=Nat.le_trans hb qE.next
    have nD:(ko p x k).2<=1073741824:=by rw[ly];omega
    have Wi:ko p x (k+1)=lO (ko p x k) (x.fdiv (2^k)):=rfl
    obtain⟨pk,UY⟩:∃pk,pk=ko p x k:=⟨_,rfl⟩
    rw[<-UY] at kH nD Wi
    obtain⟨B,n⟩:=pk
    obtain⟨ho,hB,hF,cD,hj,dE⟩:=kH
    obtain⟨nG,hrb⟩:=vL dE
    have HH:=zG (x:=x.fdiv (2^k)) dE
    simp only at ho hB nD
    obtain⟨iW,kY⟩:=dE
    simp only at iW kY
    have l0:=ho.load (P:=Tryz.prog) mV (off:=0) (c:=3) rfl (by simp)
    have l1:=ho.load (P:=Tryz.prog) cj (off:=1) (c:=3) rfl (by simp)
    have Wh:n%8<8:=Nat.mod_lt _ (by omega)
    by_cases hz:n%8=0
    ·have pR:((n%8:Nat):Int)=0:=by omega
     have dh:room (B,n)=B++[0]:=by unfold room;rw[if_pos hz]
     simp-implicitDefEqProofs(disch:=omega)only[ai,aj,ag,Nat.reduceLT,Nat.reduceEqDiff,↓reduceIte,hn,h0,h2,h6,eq_true zl,El,Em,l0,l1,cK,tC,eq_true pR,gN Tryz.underlying22 bh gR]
     refine a9 Tryz.underlying22 bh gh gR rfl hB (by simp only[aa,↓reduceIte]) (by decide) (by simp only[ae,hn];decide) (by simp only[ae,hn];decide) (by rfl) (by decide) rfl (by omega) (by omega) (base:=base) hF jv ?_
     intro bs B' s2 UX vE cI M4 vk
     have fK:=ho.turns M4 cD
     have vN:aJ B' ≠some j:=by
      rcases vk with e|⟨i,e,hi⟩
      ·rw[e];exact cD
      ·rw[e];intro q;injection q with q;have:=ho.lt;omega
     simp-implicitDefEqProofs(disch:=omega)only[ai,Nat.reduceLT,Nat.reduceEqDiff,↓reduceIte,hn,El]
     refine cL iY fK rfl (by simp) UX.aH.aO ?_
     intro s3 mm td cf
     have e1:ofBytes B++[.int .u8 0]=ofBytes (B++[0]):=by rw[aK];rfl
     have e2:B.length+1=(B++[0]).length:=by simp
     have CP:=UX.bc td cf vN
     rw[e1,e2] at CP
     have aP:n/8<(B++[0]).length:=by rw[<-dh];exact nG
     simp-implicitDefEqProofs(disch:=omega)only[ai]
     refine cF.p9 (by kernel_rfl) ?_
     have l0:=(mm).load (P:=Tryz.prog) mV (off:=0) (c:=3) rfl (by simp)
     have l1:=(mm).load (P:=Tryz.prog) cj (off:=1) (c:=3) rfl (by simp)
     have k1:=(CP).aH.cU (P:=Tryz.prog) gZ aP
     rw[aZ aP] at k1
     simp-implicitDefEqProofs(maxSteps:=999999)(disch:=omega)only[ai,aj,Nat.reduceLT,Nat.reduceEqDiff,↓reduceIte,hn,h0,h1,h6,El,Em,l0,l1,(CP).self,cK,tC,ej,HG,aD,(CP).aH.indexAddr Tryz.underlying22 bh,k1,ia,FN,bd Tryz.underlying3 Tryz.underlying5,BJ,HF,mS,UW,bd Tryz.underlying3 Tryz.underlying115,kr,xC]
     refine ei bh CP aP rfl ?_
     intro t1 jv fa
     have mO:=(mm).turns fa vN
     have P8:=mO.load (P:=Tryz.prog) cj (off:=1) (c:=3) rfl (by simp)
     simp-implicitDefEqProofs(disch:=omega)only[ai,aj,Nat.reduceLT,Nat.reduceEqDiff,↓reduceIte,hn,h0,Em,P8,aD]
     refine cL cG mO rfl (by simp) rfl ?_
     intro t2 fK nH df
     have eR:=jv.bc nH df vN
     simp-implicitDefEqProofs(disch:=omega)only[ai,Nat.reduceLT,Nat.reduceEqDiff,↓reduceIte,hn,h6,aD]
     rw[iG] at eR
     have hr:(lO (B,n) (x.fdiv (2^k))).1=(B++[0]).set (n/8) (uA ((B++[0]).getD (n/8) 0) (x.fdiv (2^k)) (n%8)):=by simp only[lO,dh]
     refine au (m-(k+1)) (by omega) ⟨k+1,rfl,by omega,?_,by simp only[ae,hn],by simp only[aa,↓reduceIte,Nat.reduceEqDiff,h0],by simp only[aa,↓reduceIte,Nat.reduceEqDiff,h1],by simp only[aa,↓reduceIte,Nat.reduceEqDiff,h2],by simp only[aa,↓reduceIte];rfl⟩
     rw[Wi]
     refine⟨B',⟨fK,?_,vE,vN,hj,HH⟩,qE.trans (((dK.turns M4 vk).trans (dK.put td cf)).trans ((dK.turns fa (.inl rfl)).trans (dK.put nH df)))⟩
     rw[hr,List.length_set];exact eR
    ·have pR:¬((n%8:Nat):Int)=0:=by omega
     have dh:room (B,n)=B:=by unfold room;rw[if_neg hz]
     have aP:n/8<B.length:=by rw[<-dh];exact nG
     simp-implicitDefEqProofs(disch:=omega)only[ai,aj,Nat.reduceLT,Nat.reduceEqDiff,↓reduceIte,hn,h0,h2,h6,eq_true zl,Em,l1,cK,tC,eq_false pR]
     refine cF.p9 (by kernel_rfl) ?_
     have l0:=(ho).load (P:=Tryz.prog) mV (off:=0) (c:=3) rfl (by simp)
     have l1:=(ho).load (P:=Tryz.prog) cj (off:=1) (c:=3) rfl (by simp)
     have k1:=(hB).aH.cU (P:=Tryz.prog) gZ aP
     rw[aZ aP] at k1
     simp-implicitDefEqProofs(maxSteps:=999999)(disch:=omega)only[ai,aj,Nat.reduceLT,Nat.reduceEqDiff,↓reduceIte,hn,h0,h1,h6,El,Em,l0,l1,(hB).self,cK,tC,ej,HG,aD,(hB).aH.indexAddr Tryz.underlying22 bh,k1,ia,FN,bd Tryz.underlying3 Tryz.underlying5,BJ,HF,mS,UW,bd Tryz.underlying3 Tryz.underlying115,kr,xC]
     refine ei bh hB aP rfl ?_
     intro t1 jv fa
     have mO:=(ho).turns fa cD
     have P8:=mO.load (P:=Tryz.prog) cj (off:=1) (c:=3) rfl (by simp)
     simp-implicitDefEqProofs(disch:=omega)only[ai,aj,Nat.reduceLT,Nat.reduceEqDiff,↓reduceIte,hn,h0,Em,P8,aD]
     refine cL cG mO rfl (by simp) rfl ?_
     intro t2 fK nH df
     have eR:=jv.bc nH df cD
     simp-implicitDefEqProofs(disch:=omega)only[ai,Nat.reduceLT,Nat.reduceEqDiff,↓reduceIte,hn,h6,aD]
     rw[iG] at eR
     have hr:(lO (B,n) (x.fdiv (2^k))).1=B.set (n/8) (uA (B.getD (n/8) 0) (x.fdiv (2^k)) (n%8)):=by simp only[lO,dh]
     refine au (m-(k+1)) (by omega) ⟨k+1,rfl,by omega,?_,by simp only[ae,hn],by simp only[aa,↓reduceIte,Nat.reduceEqDiff,h0],by simp only[aa,↓reduceIte,Nat.reduceEqDiff,h1],by simp only[aa,↓reduceIte,Nat.reduceEqDiff,h2],by simp only[aa,↓reduceIte];rfl⟩
     rw[Wi]
     refine⟨v1,⟨fK,?_,hF,cD,hj,HH⟩,qE.trans ((dK.turns fa (.inl rfl)).trans (dK.put nH df))⟩
     rw[hr,List.length_set];exact eR
   ·obtain rfl:k=m:=by omega
    have zl:¬(k:Int)<k:=by omega
    simp-implicitDefEqProofs(disch:=omega)only[ai,ak,Nat.reduceLT,Nat.reduceEqDiff,↓reduceIte,hn,h2,h6,eq_false zl,Tryz.results179]
    rw[HI];exact⟨v1,kH,qE⟩
theorem FO {lib:ay}(hl:lib.at 36=none)(s:aq)(x:Value)(a:List UInt8)(hx:aM s 1 x a.length (ofBytes a))(ha:a.length<=4294967296):
  Runs Tryz.prog lib 36 [x] s fun v s' =>bU s v s' a:=by
 refine Runs.enter 8 Tryz.func36 rfl hl rfl rfl ?_
 intro f hn hf
 have h0:f.get 0=x:=hf 0
 clear hf
 cases qN:Bh x with
 |true=>
  obtain⟨e1,_,e2⟩:=hx.isNil qN
  obtain rfl:a=[]:=List.eq_nil_of_length_eq_zero e1
  simp-implicitDefEqProofs(disch:=omega)only[ai,al,oneOf,Nat.reduceLT,Nat.reduceEqDiff,↓reduceIte,hn,h0,hx.p5 Tryz.underlying22,qN,Tryz.results36]
  exact⟨.nil,aN.nil _,ar.refl _ _⟩
 |false=>
  simp-implicitDefEqProofs(disch:=omega)only[ai,ag,Nat.reduceLT,Nat.reduceEqDiff,↓reduceIte,hn,h0,hx.p5 Tryz.underlying22,qN,xk Tryz.underlying22 bh gR rfl rfl]
  refine aQ (n:=0) (by rfl) ?_
  intro b s2 hb GB bD
  simp-implicitDefEqProofs(disch:=omega)only[ai,ad,Nat.reduceLT,Nat.reduceEqDiff,↓reduceIte,hn,h0]
  refine bG Tryz.underlying22 Tryz.underlying22 (.inl ⟨_,rfl⟩) bh gh gR rfl hb (hx.keeps bD).src (by rw[br,Nat.mul_one]) (by decide) (cX _) (by omega) (by omega) GB (by have:=bD.next;omega) ?_
  intro o' s3 j8 vE cI M4 vk
  simp-implicitDefEqProofs(disch:=omega)only[ai,al,oneOf,Nat.reduceLT,↓reduceIte,hn,Tryz.results36]
  rw[Nat.zero_add,List.nil_append] at j8
  exact⟨j8,vE,bD.trans cI⟩
theorem Nx {lib:ay}(hl:lib.at 138=none)(hZ:lib.at 36=none)(base:Nat)(s:aq)(j:Nat)(v:Value)(p:List UInt8×Nat)(h:fT base s j v p)(hp:p.1.length<=1000000000):
  Runs Tryz.prog lib 138 [jH j] s fun w s' =>bU s w s' p.1:=by
 refine Runs.enter 10 Tryz.func138 rfl hl rfl rfl ?_
 intro f hn hf
 have h0:f.get 0=jH j:=hf 0
 clear hf
 have l0:=h.iP.load (P:=Tryz.prog) mV (off:=0) (c:=3) rfl (by simp)
 simp-implicitDefEqProofs(disch:=omega)only[ai,aj,ad,Nat.reduceLT,Nat.reduceEqDiff,↓reduceIte,hn,h0,lr Tryz.underlying206,Ej,l0]
 refine(FO hZ s v p.1 h.own.aH (by omega)).mono ?_
 intro w s2 hw
 simp-implicitDefEqProofs(disch:=omega)only[ai,al,oneOf,Nat.reduceLT,↓reduceIte,hn,Tryz.results138]
 exact hw
theorem JZ {lib:ay}(hl:lib.at 185=none)(hZ:lib.at 39=none)(base:Nat)(s:aq)(j:Nat)(v:Value)(p:List UInt8×Nat)(h:fT base s j v p)(hp:p.1.length<=1000000000):
  Runs Tryz.prog lib 185 [jH j] s fun w s' =>bU s w s' p.1:=by
 refine Runs.enter 8 Tryz.func185 rfl hl rfl rfl ?_
 intro f hn hf
 have h0:f.get 0=jH j:=hf 0
 clear hf
 have l0:=h.iP.load (P:=Tryz.prog) mV (off:=0) (c:=3) rfl (by simp)
 simp-implicitDefEqProofs(disch:=omega)only[ai,aj,ad,Nat.reduceLT,Nat.reduceEqDiff,↓reduceIte,hn,h0,El,l0]
 refine(r6 hZ s v p.1 h.own.aH (by omega)).mono ?_
 intro w s2 hw
 simp-implicitDefEqProofs(disch:=omega)only[ai,al,oneOf,Nat.reduceLT,↓reduceIte,hn,Tryz.results185]
 exact hw
end Go.Proofs.YtdfjfncifneocaaGreat
namespace Go.Cl.Sto
def J0 (n:Nat)(last:Nat):List UInt8:=[UInt8.ofNat last,UInt8.ofNat n,UInt8.ofNat (n/256),UInt8.ofNat (255-n%256),UInt8.ofNat (255-n/256%256)]
def En (l:List UInt8):List UInt8:=
 if _h:l.length<=65535 then J0 l.length 1++l else(J0 65535 0++l.take 65535)++En (l.drop 65535)
termination_by l.length
decreasing_by rw[List.length_drop];omega
theorem vP {l:List UInt8}(h:l.length<=65535):En l=J0 l.length 1++l:=by rw[En,dif_pos h]
theorem BL {l:List UInt8}(h:¬l.length<=65535):En l=(J0 65535 0++l.take 65535)++En (l.drop 65535):=by rw[En,dif_neg h]
theorem jI (n k:Nat):(J0 n k).length=5:=rfl
def blocks (n:Nat):Nat:=max 1 ((n+65534)/65535)
theorem jJ:∀(k:Nat) (l:List UInt8),l.length<=k->(En l).length=l.length+5*blocks l.length:=by
 intro k
 induction k with
 |zero=>intro l hl;rw[vP (by omega),List.length_append,jI];unfold blocks;omega
 |succ k ih=>
  intro l hl
  by_cases h:l.length<=65535
  ·rw[vP h,List.length_append,jI];unfold blocks;omega
  ·have:=ih (l.drop 65535) (by rw[List.length_drop];omega)
   rw[BL h,List.length_append,List.length_append,jI,this,List.length_take,List.length_drop]
   unfold blocks
   omega
theorem Te {n:Nat}(h:n<4611686018427387904):Uu .xor (.int .i64 (n:Int))=some (.int .i64 (-(n:Int)-1)):=by
 show some (Value.int .i64 (IntKind.i64.wrap (((BitVec.ofInt 64 (-1)^^^BitVec.ofInt 64 (n:Int)).toNat:Nat):Int)))=_
 have e:(BitVec.ofInt 64 (-1)^^^BitVec.ofInt 64 (n:Int)).toNat=18446744073709551615-n:=by
  have h1:BitVec.ofInt 64 (-1)=BitVec.allOnes 64:=by decide
  rw[h1,BitVec.allOnes_xor,BitVec.toNat_not,BitVec.ofInt_natCast,BitVec.toNat_ofNat,Nat.mod_eq_of_lt (by omega)]
 rw[e]
 congr 2
 have e1:IntKind.i64.bits=64:=rfl
 have e2:IntKind.i64.signed=true:=rfl
 simp only[IntKind.wrap,e1,e2,Bool.true_and]
 split<;>simp_all<;>omega
theorem Tf (P:Program)(t:TypeId)(k' :IntKind)(a:Int):du P .shr t (.int .i64 a) (.int k' 8)=some (.int .i64 (a.fdiv 256)):=by
 rw[sO P t .i64 a 8 k' (by decide)];rfl
theorem zI (a:Int):a.fdiv 256=a/256:=Int.fdiv_eq_ediv_of_nonneg _ (by omega)
theorem b0 (n:Nat):IntKind.u8.wrap (n:Int)=((UInt8.ofNat n).toNat:Int):=by rw[eZ,UInt8.toNat_ofNat'];omega
theorem b1 (n:Nat):IntKind.u8.wrap ((n:Int)/256)=((UInt8.ofNat (n/256)).toNat:Int):=by rw[eZ,UInt8.toNat_ofNat'];omega
theorem b2 (n:Nat):IntKind.u8.wrap (-(n:Int)-1)=((UInt8.ofNat (255-n%256)).toNat:Int):=by rw[eZ,UInt8.toNat_ofNat'];omega
theorem b3 (n:Nat):IntKind.u8.wrap ((-(n:Int)-1)/256)=((UInt8.ofNat (255-n/256%256)).toNat:Int):=by rw[eZ,UInt8.toNat_ofNat'];omega
theorem acG (P:Program)(t:TypeId)(k' :IntKind){b:Nat}(hb:b<2){k:Nat}(h:k<32):du P .shl t (.int .i64 ((b:Nat):Int)) (.int k' (k:Nat))=some (.int .i64 ((b*2^k:Nat):Int)):=by
 rw[sM P t .i64 _ _ k' (by omega)]
 have e:min ((k:Nat):Int).toNat IntKind.i64.bits=k:=by
  have:IntKind.i64.bits=64:=rfl
  rw[this,Int.toNat_natCast];omega
 have hp:2^k<=2^32:=Nat.pow_le_pow_right (by omega) (by omega)
 have Tg:(2:Nat)^32=4294967296:=by decide
 have e2:((b:Nat):Int)*(2:Int)^k=((b*2^k:Nat):Int):=by norm_cast
 rw[e,e2]
 have hx:b=0\/b=1:=by omega
 rw[aD (by rcases hx with rfl|rfl<;>(generalize 2^k=q at hp;omega))]
end Go.Cl.Sto
