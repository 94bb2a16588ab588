import Derived.Test.YtdfjfncifneocaaGreatStoP
import Derived.Test.YtdfjfncifneocaaGreatObjB
set_option linter.unusedSimpArgs false
set_option linter.unusedVariables false
set_option maxRecDepth 100000
namespace Go.Proofs.YtdfjfncifneocaaGreat
open Go.Cl Go.Cl.Rw
theorem my (l:List UInt8)(k:Nat)(c:UInt8):(ofBytes l).set k (.int .u8 (c.toNat:Int))=ofBytes (l.set k c):=by
 simp[ofBytes,List.map_set]
abbrev KD (j:Nat)(R:List Value):Value:= .pointer (some ⟨j,0,some (R.length+3)⟩)
structure xZ (base:Nat) (s:aq) (j:Nat) (v:Value) (p:List UInt8×Nat) (R:List Value):Prop where
 iP:av s j (v:: .int .i64 p.2::R)
 own:Own s 1 v p.1.length (ofBytes p.1)
 fresh:aN base v
 ne:aJ v≠some j
 lo:base<=j
 ok:Ok p
theorem pD (i o c:Nat):az Tryz.prog 162 (.pointer (some ⟨i,o,some c⟩)) 0=some (.pointer (some ⟨i,o+0,some c⟩)):=by
 unfold az;rw[Tryz.underlying162];simp[iY]
theorem pE (i o c:Nat):az Tryz.prog 162 (.pointer (some ⟨i,o,some c⟩)) 1=some (.pointer (some ⟨i,o+1,some c⟩)):=by
 unfold az;rw[Tryz.underlying162];simp[cG]
def y7 (base:Nat)(j:Nat)(R:List Value)(v:Value)(s:aq)(p:List UInt8×Nat)(s' :aq):Prop:=∃v',xZ base s' j v' p R/\dK j v s v' s'
set_option maxRecDepth 100000 in
set_option maxHeartbeats 4000000 in
theorem KE {lib:ay}(hl:lib.at 200=none)(base:Nat)(s:aq)(j:Nat)(R:List Value)(v:Value)(p:List UInt8×Nat)(x:Int)(h:xZ base s j v p R)(hb:base<=s.next)(hp:p.2<=1073741824):
  Runs Tryz.prog lib 200 [KD j R,.int .i64 x] s fun _ s' =>y7 base j R v s (lO p x) s' :=by
 obtain⟨B,n⟩:=p
 obtain⟨ho,hB,hF,cD,hj,dE⟩:=h
 obtain⟨nG,hrb⟩:=vL dE
 have HH:=zG (x:=x) dE
 simp only at ho hB hp
 obtain⟨iW,kY⟩:=dE
 simp only at iW kY
 refine Runs.enter 48 Tryz.func200 rfl hl rfl rfl ?_
 intro f hn hf
 have h0:f.get 0=KD j R:=hf 0
 have h1:f.get 1= .int .i64 x:=hf 1
 clear hf
 have l0:=ho.load (P:=Tryz.prog) mV (off:=0) (c:=R.length+3) (by simp) (by simp)
 have l1:=ho.load (P:=Tryz.prog) cj (off:=1) (c:=R.length+3) (by simp) (by simp)
 have Wh:n%8<8:=Nat.mod_lt _ (by omega)
 by_cases hz:n%8=0
 ·have pR:((n%8:Nat):Int)=0:=by omega
  have dh:room (B,n)=B++[0]:=by unfold room;rw[if_pos hz]
  simp-implicitDefEqProofs(disch:=omega)only[ai,aj,ag,Nat.reduceLT,Nat.reduceEqDiff,↓reduceIte,hn,h0,pD,pE,l0,l1,cK,tC,eq_true pR,gN Tryz.underlying22 bh gR]
  refine a9 Tryz.underlying22 bh gh gR rfl hB (by simp only[aa,↓reduceIte]) (by decide) (by simp only[ae,hn];decide) (by simp only[ae,hn];decide) (by rfl) (by decide) rfl (by omega) (by omega) (base:=base) hF hb ?_
  intro bs B' s2 UX vE cI M4 vk
  have fK:=ho.turns M4 cD
  have vN:aJ B' ≠some j:=by
   rcases vk with e|⟨i,e,hi⟩
   ·rw[e];exact cD
   ·rw[e];intro q;injection q with q;have:=ho.lt;omega
  simp-implicitDefEqProofs(disch:=omega)only[ai,Nat.reduceLT,Nat.reduceEqDiff,↓reduceIte,hn,pD]
  refine cL iY fK (by simp) (by simp) UX.aH.aO ?_
  intro s3 mm td cf
  have e1:ofBytes B++[.int .u8 0]=ofBytes (B++[0]):=by rw[aK];rfl
  have e2:B.length+1=(B++[0]).length:=by simp
  have CP:=UX.bc td cf vN
  rw[e1,e2] at CP
  have aP:n/8<(B++[0]).length:=by rw[<-dh];exact nG
  simp-implicitDefEqProofs(disch:=omega)only[ai]
  refine cF.p9 (by kernel_rfl) ?_
  have l0:=(mm).load (P:=Tryz.prog) mV (off:=0) (c:=R.length+3) (by simp) (by simp)
  have l1:=(mm).load (P:=Tryz.prog) cj (off:=1) (c:=R.length+3) (by simp) (by simp)
  have k1:=(CP).aH.cU (P:=Tryz.prog) gZ aP
  rw[aZ aP] at k1
  simp-implicitDefEqProofs(disch:=omega)only[ai,aj,Nat.reduceLT,Nat.reduceEqDiff,↓reduceIte,hn,h0,h1,pD,pE,l0,l1,(CP).self,cK,tC,ej,HG,aD,(CP).aH.indexAddr Tryz.underlying22 bh,k1,ia,FN,bd Tryz.underlying3 Tryz.underlying5,BJ,HF,mS,UW]
  refine ei bh CP aP rfl ?_
  intro t1 jv fa
  have mO:=(mm).turns fa vN
  have P8:=mO.load (P:=Tryz.prog) cj (off:=1) (c:=R.length+3) (by simp) (by simp)
  simp-implicitDefEqProofs(disch:=omega)only[ai,aj,Nat.reduceLT,Nat.reduceEqDiff,↓reduceIte,hn,h0,pE,P8,aD]
  refine cL cG mO (by simp) (by simp) rfl ?_
  intro t2 fK nH df
  have eR:=jv.bc nH df vN
  simp-implicitDefEqProofs(disch:=omega)only[ai,ak,Tryz.results200]
  rw[my] at eR
  have hr:(lO (B,n) x).1=(B++[0]).set (n/8) (uA ((B++[0]).getD (n/8) 0) x (n%8)):=by simp only[lO,dh]
  refine⟨B',⟨fK,?_,vE,vN,hj,HH⟩,((dK.turns M4 vk).trans (dK.put td cf)).trans ((dK.turns fa (.inl rfl)).trans (dK.put nH df))⟩
  rw[hr,List.length_set];exact eR
 ·have pR:¬((n%8:Nat):Int)=0:=by omega
  have dh:room (B,n)=B:=by unfold room;rw[if_neg hz]
  have aP:n/8<B.length:=by rw[<-dh];exact nG
  simp-implicitDefEqProofs(disch:=omega)only[ai,aj,Nat.reduceLT,↓reduceIte,hn,h0,pE,l1,cK,tC,eq_false pR]
  refine cF.p9 (by kernel_rfl) ?_
  have l0:=(ho).load (P:=Tryz.prog) mV (off:=0) (c:=R.length+3) (by simp) (by simp)
  have l1:=(ho).load (P:=Tryz.prog) cj (off:=1) (c:=R.length+3) (by simp) (by simp)
  have k1:=(hB).aH.cU (P:=Tryz.prog) gZ aP
  rw[aZ aP] at k1
  simp-implicitDefEqProofs(disch:=omega)only[ai,aj,Nat.reduceLT,Nat.reduceEqDiff,↓reduceIte,hn,h0,h1,pD,pE,l0,l1,(hB).self,cK,tC,ej,HG,aD,(hB).aH.indexAddr Tryz.underlying22 bh,k1,ia,FN,bd Tryz.underlying3 Tryz.underlying5,BJ,HF,mS,UW]
  refine ei bh hB aP rfl ?_
  intro t1 jv fa
  have mO:=(ho).turns fa cD
  have P8:=mO.load (P:=Tryz.prog) cj (off:=1) (c:=R.length+3) (by simp) (by simp)
  simp-implicitDefEqProofs(disch:=omega)only[ai,aj,Nat.reduceLT,Nat.reduceEqDiff,↓reduceIte,hn,h0,pE,P8,aD]
  refine cL cG mO (by simp) (by simp) rfl ?_
  intro t2 fK nH df
  have eR:=jv.bc nH df cD
  simp-implicitDefEqProofs(disch:=omega)only[ai,ak,Tryz.results200]
  rw[my] at eR
  have hr:(lO (B,n) x).1=B.set (n/8) (uA (B.getD (n/8) 0) x (n%8)):=by simp only[lO,dh]
  refine⟨v,⟨fK,?_,hF,cD,hj,HH⟩,(dK.turns fa (.inl rfl)).trans (dK.put nH df)⟩
  rw[hr,List.length_set];exact eR
theorem y7.start {base j:Nat}{R:List Value}{v:Value}{s:aq}{p:List UInt8×Nat}(h:xZ base s j v p R):y7 base j R v s p s:=⟨v,h,dK.refl _ _ _⟩
def qq (p:List UInt8×Nat)(x w:Int):List UInt8×Nat:=if w<1\/16<w then p else ko p x w.toNat
set_option maxRecDepth 100000 in
set_option maxHeartbeats 4000000 in
theorem KF {lib:ay}(hl:lib.at 170=none)(nd:lib.at 200=none)(base:Nat)(s:aq)(j:Nat)(R:List Value)(v:Value)(p:List UInt8×Nat)(x w:Int)(h:xZ base s j v p R)(hb:base<=s.next)(hp:p.2<=1000000000):
  Runs Tryz.prog lib 170 [KD j R,.int .i64 x,.int .i64 w] s fun _ s' =>y7 base j R v s (qq p x w) s' :=by
 refine Runs.enter 27 Tryz.func170 rfl hl rfl rfl ?_
 intro f hn hf
 have h0:f.get 0=KD j R:=hf 0
 have h1:f.get 1= .int .i64 x:=hf 1
 have h2:f.get 2= .int .i64 w:=hf 2
 clear hf
 by_cases c1:w<1
 ·simp-implicitDefEqProofs(disch:=omega)only[ai,aj,al,Nat.reduceLT,Nat.reduceEqDiff,↓reduceIte,hn,h0,h2,lr Tryz.underlying206,eq_true c1,Tryz.results170]
  unfold qq;rw[if_pos (.inl c1)];exact y7.start h
 ·by_cases c2:16<w
  ·simp-implicitDefEqProofs(disch:=omega)only[ai,aj,al,Nat.reduceLT,Nat.reduceEqDiff,↓reduceIte,hn,h0,h2,lr Tryz.underlying206,eq_false c1,eq_true c2,Tryz.results170]
   unfold qq;rw[if_pos (.inr c2)];exact y7.start h
  ·obtain⟨m,rfl⟩:∃m:Nat,w=m:=⟨w.toNat,by omega⟩
   have HI:qq p x m=ko p x m:=by unfold qq;rw[if_neg (by omega),Int.toNat_natCast]
   simp-implicitDefEqProofs(disch:=omega)only[ai,aj,Nat.reduceLT,Nat.reduceEqDiff,↓reduceIte,hn,h0,h2,lr Tryz.underlying206,eq_false c1,eq_false c2]
   refine Comes.eY (fun q f s' =>∃(k:Nat),q=m-k/\k<=m/\y7 base j R v s (ko p x k) s' /\f.n=27/\f.get 0=KD j R/\f.get 1= .int .i64 x/\f.get 17= .int .i64 m/\f.get 18= .int .i64 k)
    ⟨0,rfl,by omega,y7.start h,by simp only[ae,hn],by simp only[aa,↓reduceIte,Nat.reduceEqDiff,h0],by simp only[aa,↓reduceIte,Nat.reduceEqDiff,h1],by simp only[aa,↓reduceIte,Nat.reduceEqDiff],by simp only[aa,↓reduceIte];rfl⟩ ?_
   clear hn h0 h1 h2 f
   rintro q f s1 ⟨k,rfl,hk,⟨v1,kH,qE⟩,hn,h0,h1,BK,GA⟩
   by_cases hkm:k<m
   ·have zl:(k:Int)<m:=by omega
    simp-implicitDefEqProofs(disch:=omega)only[ai,aj,ad,Nat.reduceLT,Nat.reduceEqDiff,↓reduceIte,hn,h0,h1,BK,GA,eq_true zl,xC]
    refine(KE nd base s1 j R v1 (ko p x k) (x.fdiv (2^k)) kH (Nat.le_trans hb qE.next) (by rw[ly];omega)).mono ?_
    rintro _ s2 ⟨v2,iT,xD⟩
    simp-implicitDefEqProofs(disch:=omega)only[ai,Nat.reduceLT,Nat.reduceEqDiff,↓reduceIte,hn,GA,aD]
    refine au (m-(k+1)) (by omega) ⟨k+1,rfl,by omega,⟨v2,iT,qE.trans xD⟩,by simp only[ae,hn],by simp only[aa,↓reduceIte,Nat.reduceEqDiff,h0],by simp only[aa,↓reduceIte,Nat.reduceEqDiff,h1],by simp only[aa,↓reduceIte,Nat.reduceEqDiff,BK],by simp only[aa,↓reduceIte];rfl⟩
   ·obtain rfl:k=m:=by omega
    have zl:¬(k:Int)<k:=by omega
    simp-implicitDefEqProofs(disch:=omega)only[ai,ak,Nat.reduceLT,↓reduceIte,hn,BK,GA,eq_false zl,Tryz.results170]
    rw[HI];exact⟨v1,kH,qE⟩
theorem Ge {lib:ay}(hl:lib.at 36=none)(s:aq)(x:Value)(a:List UInt8)(hx:aM s 1 x a.length (ofBytes a))(ha:a.length<=4294967296):
  Runs Tryz.prog lib 36 [x] s fun v s' =>bU s v s' a:=by
 refine Runs.enter 8 Tryz.func36 rfl hl rfl rfl ?_
 intro f hn hf
 have h0:f.get 0=x:=hf 0
 clear hf
 cases qN:Bh x with
 |true=>
  obtain⟨e1,_,e2⟩:=hx.isNil qN
  obtain rfl:a=[]:=List.eq_nil_of_length_eq_zero e1
  simp-implicitDefEqProofs(disch:=omega)only[ai,al,oneOf,Nat.reduceLT,Nat.reduceEqDiff,↓reduceIte,hn,h0,hx.p5 Tryz.underlying22,qN,Tryz.results36]
  exact⟨.nil,aN.nil _,ar.refl _ _⟩
 |false=>
  simp-implicitDefEqProofs(disch:=omega)only[ai,ag,Nat.reduceLT,Nat.reduceEqDiff,↓reduceIte,hn,h0,hx.p5 Tryz.underlying22,qN,xk Tryz.underlying22 bh gR rfl rfl]
  refine aQ (n:=0) (by rfl) ?_
  intro b s2 hb GB bD
  simp-implicitDefEqProofs(disch:=omega)only[ai,ad,Nat.reduceLT,Nat.reduceEqDiff,↓reduceIte,hn,h0]
  refine bG Tryz.underlying22 Tryz.underlying22 (.inl ⟨_,rfl⟩) bh gh gR rfl hb (hx.keeps bD).src (by rw[br,Nat.mul_one]) (by decide) (cX _) (by omega) (by omega) GB (by have:=bD.next;omega) ?_
  intro o' s3 j8 vE cI M4 vk
  simp-implicitDefEqProofs(disch:=omega)only[ai,al,oneOf,Nat.reduceLT,↓reduceIte,hn,Tryz.results36]
  rw[Nat.zero_add,List.nil_append] at j8
  exact⟨j8,vE,bD.trans cI⟩
theorem Gf {lib:ay}(hl:lib.at 138=none)(hZ:lib.at 36=none)(base:Nat)(s:aq)(j:Nat)(R:List Value)(v:Value)(p:List UInt8×Nat)(h:xZ base s j v p R)(hp:p.1.length<=1000000000):
  Runs Tryz.prog lib 138 [KD j R] s fun w s' =>bU s w s' p.1:=by
 refine Runs.enter 10 Tryz.func138 rfl hl rfl rfl ?_
 intro f hn hf
 have h0:f.get 0=KD j R:=hf 0
 clear hf
 have l0:=h.iP.load (P:=Tryz.prog) mV (off:=0) (c:=R.length+3) (by simp) (by simp)
 simp-implicitDefEqProofs(disch:=omega)only[ai,aj,ad,Nat.reduceLT,Nat.reduceEqDiff,↓reduceIte,hn,h0,lr Tryz.underlying206,pD,l0]
 refine(Ge hZ s v p.1 h.own.aH (by omega)).mono ?_
 intro w s2 hw
 simp-implicitDefEqProofs(disch:=omega)only[ai,al,oneOf,Nat.reduceLT,↓reduceIte,hn,Tryz.results138]
 exact hw
end Go.Proofs.YtdfjfncifneocaaGreat
set_option linter.unusedSimpArgs false
set_option linter.unusedVariables false
set_option maxRecDepth 100000
namespace Go.Proofs.YtdfjfncifneocaaGreat
open Go.Cl Go.Cl.Lz Go.Cl.Rw
theorem Ob {lib:ay}(hl:lib.at 152=none)(s:aq)(n:Nat):
  Runs Tryz.prog lib 152 [.int .i64 n] s fun v s' =>v= .int .i64 (width n:Nat)/\s' =s:=by
 refine Runs.enter 12 Tryz.func152 rfl hl rfl rfl ?_
 intro f hn hf
 have h0:f.get 0= .int .i64 n:=hf 0
 clear hf
 by_cases c1:n<511
 ·have qG:(n:Int)<511:=by omega
  have e:width n=9:=by unfold width;rw[if_pos c1]
  simp-implicitDefEqProofs(disch:=omega)only[ai,al,oneOf,Nat.reduceLT,Nat.reduceEqDiff,↓reduceIte,hn,h0,eq_true qG,e,Tryz.results152]
  rfl
 ·have qG:¬(n:Int)<511:=by omega
  by_cases c2:n<1023
  ·have wD:(n:Int)<1023:=by omega
   have e:width n=10:=by unfold width;rw[if_neg c1,if_pos c2]
   simp-implicitDefEqProofs(disch:=omega)only[ai,al,oneOf,Nat.reduceLT,Nat.reduceEqDiff,↓reduceIte,hn,h0,eq_false qG,eq_true wD,e,Tryz.results152]
   rfl
  ·have wD:¬(n:Int)<1023:=by omega
   by_cases c3:n<2047
   ·have Gg:(n:Int)<2047:=by omega
    have e:width n=11:=by unfold width;rw[if_neg c1,if_neg c2,if_pos c3]
    simp-implicitDefEqProofs(disch:=omega)only[ai,al,oneOf,Nat.reduceLT,Nat.reduceEqDiff,↓reduceIte,hn,h0,eq_false qG,eq_false wD,eq_true Gg,e,Tryz.results152]
    rfl
   ·have Gg:¬(n:Int)<2047:=by omega
    have e:width n=12:=by unfold width;rw[if_neg c1,if_neg c2,if_neg c3]
    simp-implicitDefEqProofs(disch:=omega)only[ai,al,oneOf,Nat.reduceLT,Nat.reduceEqDiff,↓reduceIte,hn,h0,eq_false qG,eq_false wD,eq_false Gg,e,Tryz.results152]
    rfl
theorem nw {lib:ay}(hl:lib.at 120=none)(s:aq)(n:Nat):
  Runs Tryz.prog lib 120 [.int .i64 n] s fun v s' =>v= .int .i64 (width n:Nat)/\s' =s:=by
 refine Runs.enter 12 Tryz.func120 rfl hl rfl rfl ?_
 intro f hn hf
 have h0:f.get 0= .int .i64 n:=hf 0
 clear hf
 by_cases c1:n<511
 ·have qG:(n:Int)<511:=by omega
  have e:width n=9:=by unfold width;rw[if_pos c1]
  simp-implicitDefEqProofs(disch:=omega)only[ai,al,oneOf,Nat.reduceLT,Nat.reduceEqDiff,↓reduceIte,hn,h0,eq_true qG,e,Tryz.results120]
  rfl
 ·have qG:¬(n:Int)<511:=by omega
  by_cases c2:n<1023
  ·have wD:(n:Int)<1023:=by omega
   have e:width n=10:=by unfold width;rw[if_neg c1,if_pos c2]
   simp-implicitDefEqProofs(disch:=omega)only[ai,al,oneOf,Nat.reduceLT,Nat.reduceEqDiff,↓reduceIte,hn,h0,eq_false qG,eq_true wD,e,Tryz.results120]
   rfl
  ·have wD:¬(n:Int)<1023:=by omega
   by_cases c3:n<2047
   ·have Gg:(n:Int)<2047:=by omega
    have e:width n=11:=by unfold width;rw[if_neg c1,if_neg c2,if_pos c3]
    simp-implicitDefEqProofs(disch:=omega)only[ai,al,oneOf,Nat.reduceLT,Nat.reduceEqDiff,↓reduceIte,hn,h0,eq_false qG,eq_false wD,eq_true Gg,e,Tryz.results120]
    rfl
   ·have Gg:¬(n:Int)<2047:=by omega
    have e:width n=12:=by unfold width;rw[if_neg c1,if_neg c2,if_neg c3]
    simp-implicitDefEqProofs(disch:=omega)only[ai,al,oneOf,Nat.reduceLT,Nat.reduceEqDiff,↓reduceIte,hn,h0,eq_false qG,eq_false wD,eq_false Gg,e,Tryz.results120]
    rfl
def pF (L:List Nat):List UInt8:=L.map UInt8.ofNat
theorem ED (c:Nat):∀(w k:Nat),k<w->(dD c w)[k]?=some (c/2^(w-1-k)%2)
 |0,k,h=>by omega
 |w+1,0,h=>by simp[dD]
 |w+1,k+1,h=>by
  simp only[dD,List.getElem?_cons_succ]
  rw[ED c w k (by omega),show w+1-1-(k+1)=w-1-k by omega]
theorem Cr {c w k:Nat}(h:k<w):(dD c w).take (k+1)=(dD c w).take k++[c/2^(w-1-k)%2]:=by
 rw[List.take_add_one,ED c w k h];rfl
theorem HK (c k:Nat):((c:Int)).fdiv (2^k)=((c/2^k:Nat):Int):=by
 rw[Int.fdiv_eq_ediv_of_nonneg _ (by exact Int.pow_nonneg (by omega))];norm_cast
theorem T0 (x:Nat):(((((x:Nat):Int)%2).toNat:Nat):Int)=(((UInt8.ofNat (x%2)).toNat:Nat):Int):=by rw[UInt8.toNat_ofNat'];omega
theorem Cs {x:Int}(h0:0<=x)(h:x<18446744073709551616):IntKind.u64.wrap x=x:=by
 have e1:IntKind.u64.bits=64:=rfl
 have e2:IntKind.u64.signed=false:=rfl
 simp only[IntKind.wrap,e1,e2,Bool.false_and]
 simp
 omega
set_option maxRecDepth 100000 in
theorem mH {lib:ay}(hl:lib.at 146=none)(base:Nat)(s:aq)(v:Value)(L:List Nat)(c w:Nat)(hv:Own s 1 v L.length (ofBytes (pF L)))(hF:aN base v)(hb:base<=s.next)(hw:w<=16)(hL:L.length<=110000000)(hc:c<100000000):
  Runs Tryz.prog lib 146 [v,.int .i64 c,.int .i64 w] s fun v' s' =>Own s' 1 v' (L++dD c w).length (ofBytes (pF (L++dD c w)))/\aN base v' /\ar base s s' /\Grown v s v' s' :=by
 refine Runs.enter 24 Tryz.func146 rfl hl rfl rfl ?_
 intro f hn hf
 have h0:f.get 0=v:=hf 0
 have h1:f.get 1= .int .i64 c:=hf 1
 have h2:f.get 2= .int .i64 w:=hf 2
 clear hf
 simp-implicitDefEqProofs(disch:=omega)only[ai,Nat.reduceLT,Nat.reduceEqDiff,↓reduceIte,hn,h2,aD]
 refine Comes.eY (fun q f s' =>∃(k:Nat) (v' :Value),q=w-k/\k<=w/\Own s' 1 v' (L.length+k) (ofBytes (pF (L++(dD c w).take k)))/\aN base v' /\ar base s s' /\Grown v s v' s' /\f.n=24/\f.get 0=v' /\f.get 1= .int .i64 c/\f.get 7= .int .i64 ((w:Int)-1-k))
  ⟨0,v,rfl,by omega,by simpa using hv,hF,ar.refl _ _,Grown.refl _ _,by simp only[ae,hn],by simp only[aa,↓reduceIte,Nat.reduceEqDiff,h0],by simp only[aa,↓reduceIte,Nat.reduceEqDiff,h1],by simp only[aa,↓reduceIte];simp⟩ ?_
 clear hn h0 h1 h2 f hv
 rintro q f s1 ⟨k,v1,rfl,hk,ho,VM,aA,hg,hn,h0,h1,h7⟩
 by_cases XY:k<w
 ·have c1:(0:Int)<=(w:Int)-1-k:=by omega
  obtain⟨m,hm⟩:∃m:Nat,m=w-1-k:=⟨_,rfl⟩
  have e1:(w:Int)-1-k=(m:Int):=by omega
  rw[e1] at h7 c1
  have ad8:m<64:=by omega
  simp-implicitDefEqProofs(disch:=omega)only[ai,ag,Nat.reduceLT,Nat.reduceEqDiff,↓reduceIte,hn,h0,h1,h7,eq_true c1,bd Tryz.underlying3 Tryz.underlying115,Cs,xC,HK,ia,FN,bd Tryz.underlying3 Tryz.underlying5,BJ,T0,gN Tryz.underlying22 bh gR]
  refine a9 Tryz.underlying22 bh gh gR rfl ho (by simp only[aa,↓reduceIte,Nat.reduceEqDiff]) (by decide) (by simp only[ae,hn];decide) (by simp only[ae,hn];decide) (by rfl) (by decide) rfl (by omega) (by omega) VM (Nat.le_trans hb aA.next) ?_
  intro bs o2 s2 fK hF2 bD fm Ar
  have e2:(m:Int)-1=(w:Int)-1-((k+1:Nat):Int):=by omega
  simp-implicitDefEqProofs(disch:=omega)only[ai,Nat.reduceLT,Nat.reduceEqDiff,↓reduceIte,hn,h7,aD]
  refine au (w-(k+1)) (by omega) ⟨k+1,o2,rfl,by omega,?_,hF2,aA.trans bD,hg.trans ⟨fm,Ar⟩,by simp only[ae,hn],by simp only[aa,↓reduceIte,Nat.reduceEqDiff],by simp only[aa,↓reduceIte,Nat.reduceEqDiff,h1],by simp only[aa,↓reduceIte];rw[e2]⟩
  have e3:ofBytes (pF (L++(dD c w).take k))++[.int .u8 (((UInt8.ofNat (c/2^m%2)).toNat:Nat):Int)]=ofBytes (pF (L++(dD c w).take (k+1))):=by
   rw[Cr XY,<-hm,<-List.append_assoc]
   simp only[pF,List.map_append,aK];rfl
  rw[e3,Nat.add_assoc] at fK
  exact fK
 ·obtain rfl:k=w:=by omega
  have c1:¬(0:Int)<=(k:Int)-1-k:=by omega
  simp-implicitDefEqProofs(disch:=omega)only[ai,al,oneOf,Nat.reduceLT,Nat.reduceEqDiff,↓reduceIte,hn,h0,h7,eq_false c1,Tryz.results146]
  have et:(dD c k).take k=dD c k:=List.take_of_length_le (by rw[fq];omega)
  rw[et] at ho
  refine⟨?_,VM,aA,hg⟩
  rw[List.length_append,fq];exact ho
end Go.Proofs.YtdfjfncifneocaaGreat
set_option linter.unusedSimpArgs false
set_option linter.unusedVariables false
set_option maxRecDepth 100000
namespace Go.Proofs.YtdfjfncifneocaaGreat
open Go.Cl Go.Cl.Lz Go.Cl.Rw
theorem Gh:bq Tryz.prog 162=some 2:=by kernel_rfl
theorem Ct:bq Tryz.prog 134=some 1:=by kernel_rfl
theorem Gi:cw Tryz.prog 134=some false:=by kernel_rfl
theorem KG:bq Tryz.prog 4=some 1:=by kernel_rfl
theorem Vn (i o c:Nat):az Tryz.prog 164 (.pointer (some ⟨i,o,some c⟩)) 0=some (.pointer (some ⟨i,o+0,some c⟩)):=by
 unfold az;rw[Tryz.underlying164];simp[Gh]
theorem y8 (i o c:Nat):az Tryz.prog 164 (.pointer (some ⟨i,o,some c⟩)) 1=some (.pointer (some ⟨i,o+2,some c⟩)):=by
 unfold az;rw[Tryz.underlying164];simp[Ct]
theorem Rd (i o c:Nat):az Tryz.prog 164 (.pointer (some ⟨i,o,some c⟩)) 2=some (.pointer (some ⟨i,o+3,some c⟩)):=by
 unfold az;rw[Tryz.underlying164];simp[cG]
theorem Re (i o c:Nat):az Tryz.prog 164 (.pointer (some ⟨i,o,some c⟩)) 3=some (.pointer (some ⟨i,o+4,some c⟩)):=by
 unfold az;rw[Tryz.underlying164];simp[KG]
def EE (B:List Nat):List Value:=B.map fun x=> .int .i64 (x:Nat)
theorem KH {B:List Nat}{i:Nat}(h:i<B.length):(EE B).getD i undef= .int .i64 (B.getD i 0:Nat):=by
 simp[EE,List.getD,List.getElem?_eq_getElem h]
structure KI (base:Nat) (s:aq) (j:Nat) (v bv:Value) (p:List UInt8×Nat) (B:List Nat) (next:Nat) (begun:Bool):Prop where
 row:xZ base s j v p [bv,.int .i64 next,.bool begun]
 bits:Own s 1 bv B.length (EE B)
 bf:aN base bv
 bj:aJ bv≠some j
 bx:∀k,aJ v=some k->aJ bv≠some k
abbrev nx (j:Nat):Value:= .pointer (some ⟨j,0,some 6⟩)
structure mz (j:Nat) (v bv:Value) (s:aq) (v' iB:Value) (s' :aq):Prop where
 next:s.next<=s'.next
 get:∀i,i<s.next->i≠j->aJ v≠some i->aJ bv≠some i->s'.heap.get i=s.heap.get i
 iv:aJ v' =aJ v\/∃i,aJ v' =some i/\s.next<=i
 ib:aJ iB=none\/aJ iB=aJ bv\/∃i,aJ iB=some i/\s.next<=i
theorem Oc {s s' :aq}{z j:Nat}{u v v' :Value}{n:Nat}{l:List Value}(h:Own s z u n l)(k:dK j v s v' s')(h1:aJ u≠some j)(h2:∀i,aJ v=some i->aJ u≠some i):Own s' z u n l:=by
 cases h with
 |nil=>exact .nil
 |of i n low l hi hb hl hlen=>
  refine .of i n low l (Nat.lt_of_lt_of_le hi k.next) ?_ hl hlen
  simp only[aq.bK,k.get i hi (fun e=>h1 (by rw[<-e];rfl)) (fun e=>h2 i e rfl)];exact hb
theorem mz.then {j:Nat}{v bv v' b' v2:Value}{s s' s2:aq}(h:mz j v bv s v' b' s')(k:dK j v' s' v2 s2)(hb:∀i,i<s.next->aJ v≠some i->aJ v' ≠some i):mz j v bv s v2 b' s2:=by
 refine⟨Nat.le_trans h.next k.next,fun i hi zj hv qX=>(k.get i (Nat.lt_of_lt_of_le hi h.next) zj (hb i hi hv)).trans (h.get i hi zj hv qX),?_,h.ib⟩
 rcases k.id with e|⟨q,e,hq⟩
 ·rcases h.iv with e2|⟨q,e2,hq⟩
  ·exact .inl (by rw[e,e2])
  ·exact .inr ⟨q,by rw[e,e2],hq⟩
 ·exact .inr ⟨q,e,Nat.le_trans h.next hq⟩
theorem mz.off {j:Nat}{v bv v' b' :Value}{s s' :aq}(h:mz j v bv s v' b' s'):∀i,i<s.next->aJ v≠some i->aJ v' ≠some i:=fun i hi hv=>by
 rcases h.iv with e|⟨q,e,hq⟩
 ·rw[e];exact hv
 ·rw[e];intro r;injection r with r;omega
theorem Z4 (p:List UInt8×Nat)(x:Int):qq p x 1=lO p x:=by
 unfold qq
 rw[if_neg (by omega)]
 show lO p (x.fdiv (2^0))=_
 have:x.fdiv (2^0)=x:=by
  show x.fdiv 1=x
  rw[Int.fdiv_eq_ediv_of_nonneg _ (by omega),Int.ediv_one]
 rw[this]
set_option maxRecDepth 100000 in
set_option maxHeartbeats 4000000 in
theorem Rf {lib:ay}(hl:lib.at 137=none)(kx:lib.at 170=none)(nd:lib.at 200=none)(base:Nat)(s:aq)(j:Nat)(v bv:Value)(P:List UInt8)(B:List Nat)(next:Nat)(begun:Bool)(x:Int)(h:KI base s j v bv (P,8*P.length) B next begun)(hb:base<=s.next)(hB:B.length<=7)(hB2:∀i,B.getD i 0<2)(hP:P.length<=110000000):
  Runs Tryz.prog lib 137 [nx j,.int .i64 x] s fun _ s' =>∃v' iB,KI base s' j v' iB (if B.length=7 then(P++[fF (B++[(x%2).toNat])],8*(P.length+1)) else(P,8*P.length)) (if B.length=7 then [] else B++[(x%2).toNat]) next begun/\mz j v bv s v' iB s' :=by
 refine Runs.enter 40 Tryz.func137 rfl hl rfl rfl ?_
 intro f hn hf
 have h0:f.get 0=nx j:=hf 0
 have h1:f.get 1= .int .i64 x:=hf 1
 clear hf
 have g1:=h.row.iP.load (P:=Tryz.prog) Gi (off:=2) (c:=6) rfl (by simp)
 have kC:x%2=(((x%2).toNat:Nat):Int):=by omega
 obtain⟨y,hy⟩:∃y,y=(x%2).toNat:=⟨_,rfl⟩
 rw[<-hy] at kC|-
 have pQ:y<2:=by omega
 simp-implicitDefEqProofs(disch:=omega)only[ai,aj,ag,Nat.reduceLT,Nat.reduceEqDiff,↓reduceIte,hn,h0,h1,y8,g1,ia,FN,kC,gN Tryz.underlying134 cG Wb]
 refine a9 Tryz.underlying134 cG Y2 Wb rfl h.bits (by simp only[aa,↓reduceIte,Nat.reduceEqDiff]) (by decide) (by simp only[ae,hn];decide) (by simp only[ae,hn];decide) (by rfl) (by decide) rfl (by omega) (by omega) h.bf hb ?_
 intro bs b2 s2 eR ad9 bD fm Ar
 have aea:=h.row.iP.turns fm h.bj
 have Sp:=h.row.own.turns fm h.bx
 have Z5:aJ b2≠some j:=by
  rcases Ar with e|⟨i,e,hi⟩
  ·rw[e];exact h.bj
  ·rw[e];intro q;injection q with q;have:=h.row.iP.lt;omega
 have aeb:∀k,aJ v=some k->aJ b2≠some k:=fun k hk=>by
  rcases Ar with e|⟨i,e,hi⟩
  ·rw[e];exact h.bx k hk
  ·rw[e];intro q;injection q with q;have:=h.row.own.jh k hk;omega
 have Z6:EE B++[.int .i64 ((y:Nat):Int)]=EE (B++[y]):=by simp[EE]
 have Rg:B.length+1=(B++[y]).length:=by simp
 rw[Z6,Rg] at eR
 simp-implicitDefEqProofs(disch:=omega)only[ai,Nat.reduceLT,Nat.reduceEqDiff,↓reduceIte,hn,y8]
 refine cL Ct aea rfl (by simp) eR.aH.aO ?_
 intro s3 Z7 td ij
 have Ah:=eR.bc td ij Z5
 have hv3:=Sp.bc td ij h.row.ne
 have g3:=Z7.load (P:=Tryz.prog) Gi (off:=2) (c:=6) rfl (by simp)
 have Od:KI base s3 j v b2 (P,8*P.length) (B++[y]) next begun:=⟨⟨Z7,hv3,h.row.fresh,h.row.ne,h.row.lo,h.row.ok⟩,Ah,ad9,Z5,aeb⟩
 have Dv:mz j v bv s v b2 s3:=⟨by have:=fm.next;omega,fun i hi zj _ L0=>(ij i zj).trans (fm.get i hi L0),.inl rfl,.inr Ar⟩
 by_cases c7:B.length=7
 ·have c7' :¬((B++[y]).length:Int)<8:=by rw[<-Rg];omega
  simp-implicitDefEqProofs(disch:=omega)only[ai,aj,ad,Nat.reduceLT,Nat.reduceEqDiff,↓reduceIte,hn,h0,y8,g3,Ah.aH.aV Tryz.underlying134,eq_false c7']
  obtain⟨l,hl⟩:∃l,l=B++[y]:=⟨_,rfl⟩
  rw[<-hl] at Od Ah|-
  have nA:l.length=8:=by rw[hl,List.length_append,c7];rfl
  have oP:∀i,l.getD i 0<2:=fun i=>by
   rw[hl]
   by_cases q:i<B.length
   ·rw[List.getD_eq_getElem?_getD,List.getElem?_append_left q,<-List.getD_eq_getElem?_getD];exact hB2 i
   ·rw[List.getD_eq_getElem?_getD,List.getElem?_append_right (by omega)]
    cases h:i-B.length with
    |zero=>exact pQ
    |succ n=>simp
  refine Comes.bC (fun q f s' =>∃(k:Nat) (v' :Value),q=8-k/\k<=8/\KI base s' j v' b2 (pw P l k) l next begun/\mz j v bv s v' b2 s' /\f.n=40/\f.get 0=nx j/\f.get 4= .int .i64 (7-(k:Int)))
   (fun y' f s' =>y' = .exit 0/\∃(v' :Value),KI base s' j v' b2 (pw P l 8) l next begun/\mz j v bv s v' b2 s' /\f.n=40/\f.get 0=nx j)
   ⟨0,v,rfl,by omega,Od,Dv,by simp only[ae,hn],by simp only[aa,↓reduceIte,Nat.reduceEqDiff,h0],by simp only[aa,↓reduceIte];rfl⟩ ?_ ?_
  ·clear hn h0 h1 f
   rintro Q hQ q f s4 ⟨k,v4,rfl,hk,hW,qE,hn,h0,h4⟩
   have g4:=hW.row.iP.load (P:=Tryz.prog) Gi (off:=2) (c:=6) rfl (by simp)
   by_cases hk8:k<8
   ·have c8:(0:Int)<=7-(k:Int):=by omega
    have e7:(7:Int)-(k:Int)=((7-k:Nat):Int):=by omega
    have hi7:7-k<l.length:=by omega
    have fM:=hW.bits.aH.cU (P:=Tryz.prog) cj hi7
    rw[KH hi7] at fM
    have pe:=hW.bits.aH.indexAddr (k:= .i64) (x:=((7-k:Nat):Int)) Tryz.underlying134 cG (by omega) (by omega)
    rw[Int.toNat_natCast] at pe
    rw[e7] at h4 c8
    have VT:=Nat.le_trans hb qE.next
    simp-implicitDefEqProofs(disch:=omega)only[ai,Nat.reduceLT,↓reduceIte,hn,h4,eq_true c8]
    refine cF.p9 (by kernel_rfl) ?_
    simp-implicitDefEqProofs(disch:=omega)only[ai,aj,ad,Nat.reduceLT,Nat.reduceEqDiff,↓reduceIte,hn,h0,h4,Vn,y8,g4,hW.bits.self,pe,fM]
    refine(KF kx nd base s4 j [b2,.int .i64 next,.bool begun] v4 (pw P l k) ((l.getD (7-k) 0:Nat):Int) 1 hW.row VT (by show 8*P.length+k<=_;omega)).mono ?_
    rintro _ s5 ⟨v5,U0,Cu⟩
    rw[Z4,Kl oP hk8] at U0
    have e8:((7-k:Nat):Int)-1=7-((k+1:Nat):Int):=by omega
    have hx5:∀i,aJ v5=some i->aJ b2≠some i:=fun i hi e=>by
     rcases Cu.id with q|⟨w,q,hq⟩
     ·exact hW.bx i (by rw[<-q];exact hi) e
     ·rw[q] at hi;injection hi with hi;have:=hW.bits.jh i e;omega
    simp-implicitDefEqProofs(disch:=omega)only[ai,Nat.reduceLT,Nat.reduceEqDiff,↓reduceIte,hn,h4,aD]
    refine au (8-(k+1)) (by omega) ⟨k+1,v5,rfl,by omega,⟨U0,Oc hW.bits Cu hW.bj hW.bx,hW.bf,hW.bj,hx5⟩,qE.then Cu qE.off,by simp only[ae,hn],by simp only[aa,↓reduceIte,Nat.reduceEqDiff,h0],by simp only[aa,↓reduceIte];rw[e8]⟩
   ·obtain rfl:k=8:=by omega
    have c8:¬(0:Int)<=7-((8:Nat):Int):=by omega
    simp-implicitDefEqProofs(disch:=omega)only[ai,Nat.reduceLT,↓reduceIte,hn,h4,eq_false c8]
    exact hQ _ _ _ ⟨rfl,v4,hW,qE,by simp only[ae,hn],by simp only[aa,↓reduceIte,Nat.reduceEqDiff,h0]⟩
  ·clear hn h0 h1 f
   rintro _ f s4 ⟨rfl,v4,hW,qE,hn,h0⟩
   simp-implicitDefEqProofs(disch:=omega)only[ai,Nat.reduceLT,↓reduceIte,hn,h0,y8]
   refine cL Ct hW.row.iP rfl (by simp) rfl ?_
   intro s5 sm Vl vX
   simp-implicitDefEqProofs(disch:=omega)only[ai,ak,Tryz.results137]
   rw[if_pos c7,if_pos c7]
   have e9:pw P l 8=(P++[fF l],8*(P.length+1)):=by rw[HU,List.length_append];rfl
   rw[e9] at hW sm
   refine⟨v4,.slice none 0 0,⟨⟨sm,hW.row.own.bc Vl vX hW.row.ne,hW.row.fresh,hW.row.ne,hW.row.lo,hW.row.ok⟩,.nil,aN.nil _,(fun e=>by cases e),fun _ _ e=>by cases e⟩,⟨by have:=qE.next;omega,fun i hi zj hv qX=>(vX i zj).trans (qE.get i hi zj hv qX),qE.iv,.inl rfl⟩⟩
 ·have c7' :((B++[y]).length:Int)<8:=by rw[<-Rg];omega
  simp-implicitDefEqProofs(disch:=omega)only[ai,aj,al,ad,Nat.reduceLT,Nat.reduceEqDiff,↓reduceIte,hn,h0,y8,g3,Ah.aH.aV Tryz.underlying134,eq_true c7',Tryz.results137]
  rw[if_neg c7,if_neg c7]
  exact⟨v,b2,Od,Dv⟩
end Go.Proofs.YtdfjfncifneocaaGreat
set_option linter.unusedSimpArgs false
set_option linter.unusedVariables false
set_option maxRecDepth 100000
namespace Go.Proofs.YtdfjfncifneocaaGreat
open Go.Cl Go.Cl.Lz Go.Cl.Rw
def sC (p:List UInt8×List Nat)(b:Nat):List UInt8×List Nat:=if p.2.length=7 then(p.1++[fF (p.2++[b])],[]) else(p.1,p.2++[b])
def fW (p:List UInt8×List Nat)(L:List Nat):List UInt8×List Nat:=L.foldl sC p
theorem KJ (p:List UInt8×List Nat)(L:List Nat)(b:Nat):fW p (L++[b])=sC (fW p L) b:=by simp[fW]
def Cv (p:List UInt8×List Nat):Prop:=p.2.length<=7/\∀i,p.2.getD i 0<2
theorem x7 {p:List UInt8×List Nat}(h:Cv p){b:Nat}(hb:b<2):Cv (sC p b):=by
 obtain⟨h1,h2⟩:=h
 unfold sC
 by_cases q:p.2.length=7
 ·rw[if_pos q];exact⟨by simp,fun i=>by simp⟩
 ·rw[if_neg q]
  refine⟨by simp;omega,fun i=> ?_⟩
  by_cases r:i<p.2.length
  ·rw[List.getD_eq_getElem?_getD,List.getElem?_append_left r,<-List.getD_eq_getElem?_getD];exact h2 i
  ·rw[List.getD_eq_getElem?_getD,List.getElem?_append_right (by omega)]
   cases h:i-p.2.length with
   |zero=>exact hb
   |succ n=>simp
theorem Iv (p:List UInt8×List Nat)(b:Nat):(sC p b).1.length<=p.1.length+1:=by
 unfold sC;split
 ·simp
 ·simp
theorem mz.refl (j:Nat)(v bv:Value)(s:aq):mz j v bv s v bv s:=⟨Nat.le_refl _,fun _ _ _ _ _=>rfl,.inl rfl,.inr (.inl rfl)⟩
theorem mz.trans {j:Nat}{v bv v1 b1 v2 b2:Value}{s s1 s2:aq}(h:mz j v bv s v1 b1 s1)(k:mz j v1 b1 s1 v2 b2 s2):mz j v bv s v2 b2 s2:=by
 refine⟨Nat.le_trans h.next k.next,fun i hi zj hv qX=>(k.get i (Nat.lt_of_lt_of_le hi h.next) zj (h.off i hi hv) ?_).trans (h.get i hi zj hv qX),?_,?_⟩
 ·rcases h.ib with e|e|⟨q,e,hq⟩
  ·rw[e];simp
  ·rw[e];exact qX
  ·rw[e];intro r;injection r with r;omega
 ·rcases k.iv with e|⟨q,e,hq⟩
  ·rcases h.iv with e2|⟨q,e2,hq⟩
   ·exact .inl (by rw[e,e2])
   ·exact .inr ⟨q,by rw[e,e2],hq⟩
  ·exact .inr ⟨q,e,Nat.le_trans h.next hq⟩
 ·rcases k.ib with e|e|⟨q,e,hq⟩
  ·exact .inl e
  ·rcases h.ib with e2|e2|⟨q,e2,hq⟩
   ·exact .inl (by rw[e,e2])
   ·exact .inr (.inl (by rw[e,e2]))
   ·exact .inr (.inr ⟨q,by rw[e,e2],hq⟩)
  ·exact .inr (.inr ⟨q,e,Nat.le_trans h.next hq⟩)
def Wr (base:Nat)(s:aq)(j:Nat)(v bv:Value)(q:List UInt8×List Nat)(next:Nat)(begun:Bool):Prop:=KI base s j v bv (q.1,8*q.1.length) q.2 next begun
theorem Iw {lib:ay}(hl:lib.at 137=none)(kx:lib.at 170=none)(nd:lib.at 200=none)(base:Nat)(s:aq)(j:Nat)(v bv:Value)(q:List UInt8×List Nat)(next:Nat)(begun:Bool)(x:Int)(h:Wr base s j v bv q next begun)(hb:base<=s.next)(hq:Cv q)(hP:q.1.length<=110000000):
  Runs Tryz.prog lib 137 [nx j,.int .i64 x] s fun _ s' =>∃v' iB,Wr base s' j v' iB (sC q (x%2).toNat) next begun/\mz j v bv s v' iB s' :=by
 refine(Rf hl kx nd base s j v bv q.1 q.2 next begun x h hb hq.1 hq.2 hP).mono ?_
 rintro _ s' ⟨v',iB,h1,h2⟩
 refine⟨v',iB,?_,h2⟩
 unfold Wr sC
 by_cases c:q.2.length=7
 ·rw[if_pos c,if_pos c] at h1;rw[if_pos c]
  have e:(q.1++[fF (q.2++[(x%2).toNat])]).length=q.1.length+1:=by simp
  show KI base s' j v' iB (q.1++[fF (q.2++[(x%2).toNat])],8*(q.1++[fF (q.2++[(x%2).toNat])]).length) [] next begun
  rw[e];exact h1
 ·rw[if_neg c,if_neg c] at h1;rw[if_neg c];exact h1
theorem W9:cw Tryz.prog 4=some false:=by kernel_rfl
def ny (c next:Nat)(begun:Bool):Nat:=if c=256 then 258 else if c=257 then next else if begun then min (next+1) 4096 else next
def mA (c:Nat)(begun:Bool):Bool:=if c=256 then false else if c=257 then begun else true
set_option maxRecDepth 100000 in
set_option maxHeartbeats 4000000 in
theorem tq {lib:ay}(hl:lib.at 136=none)(OW:lib.at 152=none)(Cw:lib.at 137=none)(kx:lib.at 170=none)(nd:lib.at 200=none)(base:Nat)(s:aq)(j:Nat)(v bv:Value)(q:List UInt8×List Nat)(next:Nat)(begun:Bool)(c:Nat)(h:Wr base s j v bv q next begun)(hb:base<=s.next)(hq:Cv q)(hP:q.1.length<=100000000)(hc:c<100000000)(hn:next<=4096):
  Runs Tryz.prog lib 136 [nx j,.int .i64 c] s fun _ s' =>∃v' iB,Wr base s' j v' iB (fW q (dD c (width next))) (ny c next begun) (mA c begun)/\mz j v bv s v' iB s' :=by
 refine Runs.enter 49 Tryz.func136 rfl hl rfl rfl ?_
 intro f fp hf
 have h0:f.get 0=nx j:=hf 0
 have h1:f.get 1= .int .i64 c:=hf 1
 clear hf
 have g2:=h.row.iP.load (P:=Tryz.prog) cj (off:=3) (c:=6) rfl (by simp)
 obtain⟨w,hw⟩:∃w,w=width next:=⟨_,rfl⟩
 have I9:=nm next
 rw[<-hw] at I9
 simp-implicitDefEqProofs(disch:=omega)only[ai,aj,ad,Nat.reduceLT,↓reduceIte,fp,h0,Rd,g2]
 refine(Ob OW s next).mono ?_
 rintro _ s1 ⟨rfl,I2⟩
 subst I2
 rw[<-hw]
 simp-implicitDefEqProofs(disch:=omega)only[ai,Nat.reduceLT,↓reduceIte,fp,aD]
 refine Comes.bC (fun z f s' =>∃(k:Nat) (v' iB:Value),z=w-k/\k<=w/\Wr base s' j v' iB (fW q ((dD c w).take k)) next begun/\Cv (fW q ((dD c w).take k))/\(fW q ((dD c w).take k)).1.length<=q.1.length+k/\mz j v bv s1 v' iB s' /\f.n=49/\f.get 0=nx j/\f.get 1= .int .i64 c/\f.get 4= .int .i64 ((w:Int)-1-k))
  (fun y f s' =>y= .exit 0/\∃(v' iB:Value),Wr base s' j v' iB (fW q (dD c w)) next begun/\mz j v bv s1 v' iB s' /\f.n=49/\f.get 0=nx j/\f.get 1= .int .i64 c)
  ⟨0,v,bv,rfl,by omega,by simpa [fW] using h,by simpa [fW] using hq,by simp[fW],mz.refl _ _ _ _,by simp only[ae,fp],by simp only[aa,↓reduceIte,Nat.reduceEqDiff,h0],by simp only[aa,↓reduceIte,Nat.reduceEqDiff,h1],by simp only[aa,↓reduceIte];simp⟩ ?_ ?_
 ·clear fp h0 h1 f g2
  rintro Q hQ z f s2 ⟨k,v2,b2,rfl,hk,hW,hH,hlen,qE,fp,h0,h1,h4⟩
  by_cases XY:k<w
  ·have c1:(0:Int)<=(w:Int)-1-k:=by omega
   obtain⟨m,hm⟩:∃m:Nat,m=w-1-k:=⟨_,rfl⟩
   have e1:(w:Int)-1-k=(m:Int):=by omega
   rw[e1] at h4 c1
   have ad8:m<64:=by omega
   simp-implicitDefEqProofs(disch:=omega)only[ai,aj,ad,Nat.reduceLT,Nat.reduceEqDiff,↓reduceIte,fp,h0,h1,h4,eq_true c1,xC,HK]
   refine(Iw Cw kx nd base s2 j v2 b2 _ next begun ((c/2^m:Nat):Int) hW (Nat.le_trans hb qE.next) hH (by omega)).mono ?_
   rintro _ s3 ⟨v3,b3,Od,Dv⟩
   have aed:((((c/2^m:Nat):Int))%2).toNat=c/2^m%2:=by
    generalize c/2^m=u;omega
   rw[aed] at Od
   have e2:(m:Int)-1=(w:Int)-1-((k+1:Nat):Int):=by omega
   have e3:fW q ((dD c w).take (k+1))=sC (fW q ((dD c w).take k)) (c/2^m%2):=by rw[Cr XY,<-hm,KJ]
   simp-implicitDefEqProofs(disch:=omega)only[ai,Nat.reduceLT,Nat.reduceEqDiff,↓reduceIte,fp,h4,aD]
   refine au (w-(k+1)) (by omega) ⟨k+1,v3,b3,rfl,by omega,by rw[e3];exact Od,by rw[e3];exact x7 hH (Nat.mod_lt _ (by omega)),by rw[e3];have:=Iv (fW q ((dD c w).take k)) (c/2^m%2);omega,qE.trans Dv,by simp only[ae,fp],by simp only[aa,↓reduceIte,Nat.reduceEqDiff,h0],by simp only[aa,↓reduceIte,Nat.reduceEqDiff,h1],by simp only[aa,↓reduceIte];rw[e2]⟩
  ·obtain rfl:k=w:=by omega
   have c1:¬(0:Int)<=(k:Int)-1-k:=by omega
   have et:(dD c k).take k=dD c k:=List.take_of_length_le (by rw[fq];omega)
   rw[et] at hW
   simp-implicitDefEqProofs(disch:=omega)only[ai,Nat.reduceLT,↓reduceIte,fp,h4,eq_false c1]
   exact hQ _ _ _ ⟨rfl,v2,b2,hW,qE,by simp only[ae,fp],by simp only[aa,↓reduceIte,Nat.reduceEqDiff,h0],by simp only[aa,↓reduceIte,Nat.reduceEqDiff,h1]⟩
 ·clear fp h0 h1 f g2
  rintro _ f s2 ⟨rfl,v2,b2,hW,qE,fp,h0,h1⟩
  have put:∀{s3 s4:aq} {v3 b3:Value} {q3:List UInt8×List Nat} {n3 n4:Nat} {g3 g4:Bool},Wr base s3 j v3 b3 q3 n3 g3->av s4 j (v3:: .int .i64 (8*q3.1.length:Nat)::[b3,.int .i64 n4,.bool g4])->s4.next=s3.next->(∀i,i≠j->s4.heap.get i=s3.heap.get i)->Wr base s4 j v3 b3 q3 n4 g4/\mz j v3 b3 s3 v3 b3 s4:=by
   intro s3 s4 v3 b3 q3 n3 n4 g3 g4 h ht hn hs
   exact⟨⟨⟨ht,h.row.own.bc hn hs h.row.ne,h.row.fresh,h.row.ne,h.row.lo,h.row.ok⟩,h.bits.bc hn hs h.bj,h.bf,h.bj,h.bx⟩,⟨by omega,fun i _ zj _ _=>hs i zj,.inl rfl,.inr (.inl rfl)⟩⟩
  have g2:=hW.row.iP.load (P:=Tryz.prog) cj (off:=3) (c:=6) rfl (by simp)
  have g3:=hW.row.iP.load (P:=Tryz.prog) W9 (off:=4) (c:=6) rfl (by simp)
  by_cases k1:c=256
  ·have Z8:(c:Int)=256:=by omega
   have e1:ny c next begun=258:=by unfold ny;rw[if_pos k1]
   have e2:mA c begun=false:=by unfold mA;rw[if_pos k1]
   rw[e1,e2]
   simp-implicitDefEqProofs(disch:=omega)only[ai,Nat.reduceLT,Nat.reduceEqDiff,↓reduceIte,fp,h0,h1,eq_true Z8,Rd]
   refine cL cG hW.row.iP rfl (by simp) rfl ?_
   intro s3 nB td ij
   obtain⟨Od,Dv⟩:=put (n4:=258) (g4:=begun) hW nB td ij
   simp-implicitDefEqProofs(disch:=omega)only[ai,Nat.reduceLT,Nat.reduceEqDiff,↓reduceIte,fp,Re]
   refine cL KG Od.row.iP rfl (by simp) rfl ?_
   intro s4 fU N4 FX
   obtain⟨hW4,aee⟩:=put (n4:=258) (g4:=false) Od fU N4 FX
   simp-implicitDefEqProofs(disch:=omega)only[ai,ak,Tryz.results136]
   exact⟨v2,b2,hW4,qE.trans (Dv.trans aee)⟩
  ·have Z8:¬(c:Int)=256:=by omega
   by_cases k2:c=257
   ·have XN:(c:Int)=257:=by omega
    have e1:ny c next begun=next:=by unfold ny;rw[if_neg k1,if_pos k2]
    have e2:mA c begun=begun:=by unfold mA;rw[if_neg k1,if_pos k2]
    rw[e1,e2]
    simp-implicitDefEqProofs(disch:=omega)only[ai,ak,Nat.reduceLT,Nat.reduceEqDiff,↓reduceIte,fp,h1,eq_false Z8,eq_true XN,Tryz.results136]
    exact⟨v2,b2,hW,qE⟩
   ·have XN:¬(c:Int)=257:=by omega
    have e2:mA c begun=true:=by unfold mA;rw[if_neg k1,if_neg k2]
    rw[e2]
    cases begun with
    |true=>
     have e1:ny c next true=min (next+1) 4096:=by unfold ny;rw[if_neg k1,if_neg k2];rfl
     have Fe:(if(4096:Int)<(next:Int)+1 then(4096:Int) else(next:Int)+1)=((min (next+1) 4096:Nat):Int):=by split<;>omega
     rw[e1]
     simp-implicitDefEqProofs(disch:=omega)only[ai,aj,ad,Nat.reduceLT,Nat.reduceEqDiff,↓reduceIte,fp,h0,h1,eq_false Z8,eq_false XN,Rd,Re,g2,g3,aD,Fe]
     refine cL cG hW.row.iP rfl (by simp) rfl ?_
     intro s3 nB td ij
     obtain⟨Od,Dv⟩:=put (n4:=min (next+1) 4096) (g4:=true) hW nB td ij
     simp-implicitDefEqProofs(disch:=omega)only[ai,ak,Tryz.results136]
     exact⟨v2,b2,Od,qE.trans Dv⟩
    |false=>
     have e1:ny c next false=next:=by unfold ny;rw[if_neg k1,if_neg k2];rfl
     rw[e1]
     simp-implicitDefEqProofs(disch:=omega)only[ai,aj,Nat.reduceLT,Nat.reduceEqDiff,↓reduceIte,fp,h0,h1,eq_false Z8,eq_false XN,Re,g3]
     refine cL KG hW.row.iP rfl (by simp) rfl ?_
     intro s3 nB td ij
     obtain⟨Od,Dv⟩:=put (n4:=next) (g4:=true) hW nB td ij
     simp-implicitDefEqProofs(disch:=omega)only[ai,ak,Tryz.results136]
     exact⟨v2,b2,Od,qE.trans Dv⟩
end Go.Proofs.YtdfjfncifneocaaGreat
namespace Go.Cl.Lz
def Z9 (b:List UInt8)(i:Nat):Nat:=(b.getD (i/8) 0).toNat/2^(7-i%8)%2
def rowOf (T:List (List UInt8))(last:List UInt8)(c:Nat):Option (List UInt8):=
 if c<256 then some [UInt8.ofNat c]
 else if last=[] then none
 else if c=258+T.length then some (last++last.take 1)
 else T[c-258]?
def grow (T:List (List UInt8))(last x:List UInt8):List (List UInt8):=if last≠[]/\258+T.length<4096 then T++[last++x.take 1] else T
def EF (b:List UInt8)(p:Nat)(L:List Nat):Prop:=∀i,i<L.length->p+i<8*b.length->Z9 b (p+i)=L.getD i 0
theorem uc {L M:List Nat}{i:Nat}(h:i<L.length):(L++M).getD i 0=L.getD i 0:=by
 rw[List.getD_eq_getElem?_getD,List.getD_eq_getElem?_getD,List.getElem?_append_left h]
theorem sD {L M:List Nat}(i:Nat):(L++M).getD (L.length+i) 0=M.getD i 0:=by
 rw[List.getD_eq_getElem?_getD,List.getD_eq_getElem?_getD,List.getElem?_append_right (by omega),Nat.add_sub_cancel_left]
theorem EF.left {b:List UInt8}{p:Nat}{L M:List Nat}(h:EF b p (L++M)):EF b p L:=fun i hi hb=>by
 rw[h i (by rw[List.length_append];omega) hb,uc hi]
theorem EF.right {b:List UInt8}{p:Nat}{L M:List Nat}(h:EF b p (L++M)):EF b (p+L.length) M:=fun i hi hb=>by
 rw[Nat.add_assoc] at hb|-
 rw[h (L.length+i) (by rw[List.length_append];omega) hb,sD]
theorem oi:∀(n:Nat) (L:List Nat),L.length<=n->(pack L).length=(L.length+7)/8
 |0,L,hn=>by
  have:L=[]:=List.length_eq_zero_iff.mp (by omega)
  subst this;rw[lB];rfl
 |n+1,L,hn=>by
  by_cases hL:L=[]
  ·subst hL;rw[lB];rfl
  ·have:0<L.length:=List.length_pos_iff.mpr hL
   rw[xR hL,List.length_cons,oi n (L.drop 8) (by rw[List.length_drop];omega),List.length_drop]
   omega
def Rh (T:qF):Prop:=∀i e,T[i]?=some e->e.2=((258+i:Nat):Int)
theorem Rh.nil:Rh []:=fun i e h=>by simp at h
theorem Rh.snoc {T:qF}(h:Rh T)(r:List UInt8):Rh (T++[(r,((258+T.length:Nat):Int))]):=fun i e he=>by
 by_cases hi:i<T.length
 ·rw[List.getElem?_append_left hi] at he;exact h i e he
 ·rw[List.getElem?_append_right (by omega)] at he
  cases hq:i-T.length with
  |zero=>
   rw[hq] at he
   simp at he
   rw[<-he,show i=T.length by omega]
   simp
  |succ m=>rw[hq] at he;simp at he
theorem EG {n:Nat}(h:n<4096):n<2^width n/\257<2^width n:=by
 unfold width
 repeat (first|(split;all_goals try omega)|omega)
theorem sU {l:List UInt8}{n:Nat}(h:n<l.length):l.take (n+1)=l.take n++(l.drop n).take 1:=by
 rw[List.take_add]
structure Sync (l:List UInt8) (T:qF) (rd:Nat) (fst:Bool) (D:List (List UInt8)) (last:List UInt8):Prop where
 aaa:Good T
 num:Rh T
 rd:rd=258+D.length
 few:D.length<3838
 first:fst=true->T=[]/\D=[]/\last=[]
 P1:fst=false->last≠[]/\(l≠[]->T.map Prod.fst=D++[last++l.take 1])
theorem Sync.row {l:List UInt8}{T:qF}{rd:Nat}{fst:Bool}{D:List (List UInt8)}{last:List UInt8}(h:Sync l T rd fst D last)(hl:l≠[]){p:Nat×Int}(hp:p=bZ l T (1,((l.getD 0 0).toNat:Int))):
  p.2.toNat<2^width rd/\p.2.toNat≠256/\p.2.toNat≠257/\rowOf D last p.2.toNat=some (l.take p.1)/\1<=p.1/\p.1<=l.length/\
   (grow D last (l.take p.1))=T.map Prod.fst/\fu rd fst=258+T.length:=by
 have hF:=h.aaa.found hl
 have aA:=(nk (b:=l) (A:=T) (c0:=((l.getD 0 0).toNat:Int)) T (1,((l.getD 0 0).toNat:Int)) (fun _ h=>h) h.aaa.closed.two (.inl rfl)).1
 rw[<-hp] at hF aA
 obtain⟨x,r,rfl⟩:∃x r,l=x::r:=by cases l with|nil=>exact absurd rfl hl|cons x r=>exact⟨x,r,rfl⟩
 have hw:257<2^width rd:=(EG (by rw[h.rd];have:=h.few;omega)).2
 have I9:rd<2^width rd:=(EG (by rw[h.rd];have:=h.few;omega)).1
 have nM:=hF.lo
 have Ff:(x::r).take 1=[x]:=rfl
 have fa:((x::r).take p.1).take 1=[x]:=by
  rw[List.take_take,show min 1 p.1=1 by have:=hF.one;omega];rfl
 have hg:grow D last ((x::r).take p.1)=T.map Prod.fst/\fu rd fst=258+T.length:=by
  unfold grow fu
  cases T2:fst with
  |true=>
   obtain⟨rfl,rfl,rfl⟩:=h.first T2
   have:=h.rd
   simp at this|-;exact this
  |false=>
   obtain⟨h1,h2⟩:=h.P1 T2
   have h2:=h2 hl
   have h3:=h.few
   have h4:=congrArg List.length h2
   simp only[List.length_map,List.length_append,List.length_singleton] at h4
   rw[if_pos ⟨h1,by omega⟩,fa,h2]
   refine⟨rfl,?_⟩
   have:=h.rd
   simp only[Bool.false_eq_true,if_false];omega
 rcases aA with e|⟨a1,a2,a3⟩
 ·have hx:p.2.toNat=x.toNat:=by rw[e];rfl
  have kC:=x.toNat_lt
  have nD:p.1=1:=by rw[e]
  refine⟨by omega,by omega,by omega,?_,by omega,hF.le,hg.1,hg.2⟩
  rw[hx,nD]
  unfold rowOf
  rw[if_pos (by omega),UInt8.ofNat_toNat]
  rfl
 ·obtain⟨i,hi⟩:=List.mem_iff_getElem?.mp a2
  have hc:p.2.toNat=258+i:=by have:=h.num i _ hi;simp only at this;omega
  have hiT:i<T.length:=(List.getElem?_eq_some_iff.mp hi).1
  have OO:fst=false:=by
   cases T2:fst with
   |true=>rw[(h.first T2).1] at hiT;simp at hiT
   |false=>rfl
  obtain⟨h1,h2⟩:=h.P1 OO
  have h2:=h2 hl
  have h4:=congrArg List.length h2
  simp only[List.length_map,List.length_append,List.length_singleton] at h4
  have nI:(T.map Prod.fst)[i]?=some ((x::r).take p.1):=by rw[List.getElem?_map,hi];rfl
  refine⟨by have:=h.rd;omega,by omega,by omega,?_,hF.one,hF.le,hg.1,hg.2⟩
  rw[hc]
  unfold rowOf
  rw[if_neg (by omega),if_neg h1]
  by_cases hn:258+i=258+D.length
  ·rw[if_pos hn]
   rw[h2,show i=D.length by omega,List.getElem?_append_right (by omega),Nat.sub_self] at nI
   simp only[List.getElem?_cons_zero,Option.some.injEq] at nI
   rw[<-nI]
   obtain⟨y,q,hy⟩:∃y q,last=y::q:=by cases last with|nil=>exact absurd rfl h1|cons y q=>exact⟨y,q,rfl⟩
   subst hy
   have:=congrArg (fun t=>t.take 1) nI
   simp only[fa] at this
   rw[List.cons_append,List.take_succ_cons,List.take_zero] at this
   injection this with this
   subst this
   rfl
  ·rw[if_neg hn,show 258+i-258=i by omega]
   rw[h2,List.getElem?_append_left (by omega)] at nI
   exact nI
theorem KK (b:List UInt8):(GC b).length=((tD b).length+7)/8:=oi _ _ (Nat.le_refl _)
end Go.Cl.Lz
