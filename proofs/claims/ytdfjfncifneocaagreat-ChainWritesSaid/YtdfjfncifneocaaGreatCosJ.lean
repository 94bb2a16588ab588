import Derived.Test.YtdfjfncifneocaaGreatClearW
import Derived.Test.YtdfjfncifneocaaGreatClone
set_option linter.unusedSimpArgs false
set_option linter.unusedVariables false
set_option maxRecDepth 100000
namespace Go.Cl
theorem wC {P:Program}{d:Option Tmp}{ty:TypeId}{ps:String}{af:Array Edge}{gd:Option (Nat×Bool)}{f:aR}{s:aq}(g:FuncId)(xs bs:Array Operand):cy P ⟨d,.makeFunc (.func g) xs bs,ty,ps,af,gd⟩ f s=match ad f xs.toList,ad f bs.toList with
  |some l,some m=>some (.val (.func (.func g) l.toArray m.toArray) s)
  |_,_=>none:=rfl
def TN (p:Nat->Bool)(n:Nat)(r:Int):Prop:=(r= -1/\∀i,i<n->p i=false)\/∃k,k<n/\r=(k:Nat)/\p k=true/\∀i,i<k->p i=false
end Go.Cl
namespace Go.Proofs.YtdfjfncifneocaaGreat
open Go.Cl Go.Lib
def Cf (s:aq)(a b:List UInt8)(v:Value)(s' :aq):Prop:=v= .int .i64 (compareBytes a b)/\ar s.next s s'
theorem F8 {lib:ay}(hl:lib.at 219=none)(hp:lib.at 224=some iI)(s:aq)(a b:List UInt8):
  Runs Tryz.prog lib 219 [.string ⟨a.toArray⟩,.string ⟨b.toArray⟩] s (Cf s a b):=by
 refine Runs.enter 8 Tryz.func219 rfl hl rfl rfl ?_
 intro f hn hf
 have h0:f.get 0= .string ⟨a.toArray⟩:=hf 0
 have h1:f.get 1= .string ⟨b.toArray⟩:=hf 1
 clear hf
 simp-implicitDefEqProofs(disch:=omega)only[ai,aj,ad,Nat.reduceLT,Nat.reduceEqDiff,↓reduceIte,hn,h0,h1]
 refine Runs.Tz (v:= .int .i64 (compareBytes a b)) (s' :=s) hp uE ?_ ?_
 ·show some (Value.int .i64 (Extern.BytealgCompare.cmp ⟨a.toArray⟩ ⟨b.toArray⟩),s)=_
  rw[cmp_eq]
 simp-implicitDefEqProofs(disch:=omega)only[ai,al,oneOf,Nat.reduceLT,↓reduceIte,hn,Tryz.results219]
 exact⟨rfl,ar.refl _ _⟩
theorem Ib {lib:ay}(hl:lib.at 208=none)(hZ:lib.at 219=none)(hp:lib.at 224=some iI)(s:aq)(a b:List UInt8):
  Runs Tryz.prog lib 208 [.string ⟨a.toArray⟩,.string ⟨b.toArray⟩] s (Cf s a b):=by
 refine Runs.enter 8 Tryz.func208 rfl hl rfl rfl ?_
 intro f hn hf
 have h0:f.get 0= .string ⟨a.toArray⟩:=hf 0
 have h1:f.get 1= .string ⟨b.toArray⟩:=hf 1
 clear hf
 simp-implicitDefEqProofs(disch:=omega)only[ai,aj,ad,Nat.reduceLT,Nat.reduceEqDiff,↓reduceIte,hn,h0,h1]
 refine(F8 hZ hp s a b).mono ?_
 rintro _ s3 ⟨rfl,ij⟩
 simp-implicitDefEqProofs(disch:=omega)only[ai,al,oneOf,Nat.reduceLT,↓reduceIte,hn,Tryz.results208]
 exact⟨rfl,ij⟩
theorem EB {lib:ay}(hl:lib.at 177=none)(nF:lib.at 208=none)(hZ:lib.at 219=none)(hp:lib.at 224=some iI)(s:aq)(a b:List UInt8)(r1 r2:List Value)(q1:r1.length=5)(q2:r2.length=5):
  Runs Tryz.prog lib 177 [.agg (.string ⟨a.toArray⟩::r1).toArray,.agg (.string ⟨b.toArray⟩::r2).toArray] s (Cf s a b):=by
 refine Runs.enter 10 Tryz.func177 rfl hl rfl rfl ?_
 intro f hn hf
 have h0:f.get 0= .agg (.string ⟨a.toArray⟩::r1).toArray:=hf 0
 have h1:f.get 1= .agg (.string ⟨b.toArray⟩::r2).toArray:=hf 1
 clear hf
 simp-implicitDefEqProofs(disch:=omega)only[ai,Nat.reduceLT,↓reduceIte,hn,h0]
 refine aw ?_
 intro s1 fa bB jb
 simp-implicitDefEqProofs(disch:=omega)only[ai,Nat.reduceLT,Nat.reduceEqDiff,Nat.reduceAdd,↓reduceIte,hn,h1,List.length_cons,q1]
 refine aw ?_
 intro s2 fm bD na
 have fa:=fa.keeps bD
 have df:ar s.next s s2:=bB.trans (bD.weaken (by omega))
 have l1:aG Tryz.prog s2 9 (.pointer (some ⟨s.next,0,some 7⟩))=some (.string ⟨a.toArray⟩):=fa.load np (off:=0) (c:=7) (by simp[q1]) (by simp)
 have l2:aG Tryz.prog s2 9 (.pointer (some ⟨s1.next,0,some 7⟩))=some (.string ⟨b.toArray⟩):=fm.load np (off:=0) (c:=7) (by simp[q2]) (by simp)
 simp-implicitDefEqProofs(disch:=omega)only[ai,aj,ad,Nat.reduceLT,Nat.reduceEqDiff,Nat.reduceAdd,↓reduceIte,hn,List.length_cons,q2,Ia,l1,l2]
 refine(Ib nF hZ hp s2 a b).mono ?_
 rintro _ s3 ⟨rfl,ij⟩
 simp-implicitDefEqProofs(disch:=omega)only[ai,al,oneOf,Nat.reduceLT,↓reduceIte,hn,Tryz.results177]
 exact⟨rfl,df.trans (ij.weaken df.next)⟩
theorem ZF:cw Tryz.prog 208=some false:=by kernel_rfl
def Ic (s:aq)(t:Bool)(v:Value)(s' :aq):Prop:=v= .bool t/\ar s.next s s'
theorem adu {lib:ay}(hl:lib.at 204=none)(wL:lib.at 177=none)(nF:lib.at 208=none)(hZ:lib.at 219=none)(hp:lib.at 224=some iI)(s:aq)(a b:List UInt8)(r1 r2:List Value)(q1:r1.length=5)(q2:r2.length=5)(i j:Nat)
  (hi:av s i [.func (.func 177) #[] #[]]) (hj:av s j (.string ⟨b.toArray⟩::r2)):
  Runs Tryz.prog lib 204 [.agg (.string ⟨a.toArray⟩::r1).toArray,.pointer (some ⟨i,0,some 2⟩),.pointer (some ⟨j,0,some 7⟩)] s (Ic s (decide (0<=compareBytes a b))):=by
 refine Runs.enter 10 Tryz.func204 rfl hl rfl rfl ?_
 intro f hn hf
 have h0:f.get 0= .agg (.string ⟨a.toArray⟩::r1).toArray:=hf 0
 have h1:f.get 1= .pointer (some ⟨i,0,some 2⟩):=hf 1
 have h2:f.get 2= .pointer (some ⟨j,0,some 7⟩):=hf 2
 clear hf
 simp-implicitDefEqProofs(disch:=omega)only[ai,Nat.reduceLT,↓reduceIte,hn,h0]
 refine aw ?_
 intro s1 fa bB jb
 have hi:=hi.keeps bB
 have hj:=hj.keeps bB
 have l0:aG Tryz.prog s1 208 (.pointer (some ⟨i,0,some 2⟩))=some (.func (.func 177) #[] #[]):=hi.load ZF (off:=0) (c:=2) rfl (by simp)
 have l1:aG Tryz.prog s1 63 (.pointer (some ⟨s.next,0,some 7⟩))=some (.agg (.string ⟨a.toArray⟩::r1).toArray):=av.cY I7 (by simp[q1,jx]) fa (by simp[q1])
 have l2:aG Tryz.prog s1 63 (.pointer (some ⟨j,0,some 7⟩))=some (.agg (.string ⟨b.toArray⟩::r2).toArray):=av.cY I7 (by simp[q2,jx]) hj (by simp[q2])
 simp-implicitDefEqProofs(disch:=omega)only[ai,aj,ad,Nat.reduceLT,Nat.reduceEqDiff,Nat.reduceAdd,↓reduceIte,hn,h1,h2,List.length_cons,q1,l0,l1,l2]
 refine(EB wL nF hZ hp s1 a b r1 r2 q1 q2).mono ?_
 rintro _ s3 ⟨rfl,ij⟩
 simp-implicitDefEqProofs(disch:=omega)only[ai,al,oneOf,Nat.reduceLT,↓reduceIte,hn,Tryz.results204]
 exact⟨rfl,bB.trans (ij.weaken bB.next)⟩
theorem ZG {lib:ay}(hl:lib.at 205=none)(wL:lib.at 177=none)(nF:lib.at 208=none)(hZ:lib.at 219=none)(hp:lib.at 224=some iI)(s:aq)(a b:List UInt8)(r1 r2:List Value)(q1:r1.length=5)(q2:r2.length=5)(i j:Nat)
  (hi:av s i [.func (.func 177) #[] #[]]) (hj:av s j (.string ⟨b.toArray⟩::r2)):
  Runs Tryz.prog lib 205 [.agg (.string ⟨a.toArray⟩::r1).toArray,.pointer (some ⟨i,0,some 2⟩),.pointer (some ⟨j,0,some 7⟩)] s (Ic s (decide (compareBytes a b=0))):=by
 refine Runs.enter 10 Tryz.func205 rfl hl rfl rfl ?_
 intro f hn hf
 have h0:f.get 0= .agg (.string ⟨a.toArray⟩::r1).toArray:=hf 0
 have h1:f.get 1= .pointer (some ⟨i,0,some 2⟩):=hf 1
 have h2:f.get 2= .pointer (some ⟨j,0,some 7⟩):=hf 2
 clear hf
 simp-implicitDefEqProofs(disch:=omega)only[ai,Nat.reduceLT,↓reduceIte,hn,h0]
 refine aw ?_
 intro s1 fa bB jb
 have hi:=hi.keeps bB
 have hj:=hj.keeps bB
 have l0:aG Tryz.prog s1 208 (.pointer (some ⟨i,0,some 2⟩))=some (.func (.func 177) #[] #[]):=hi.load ZF (off:=0) (c:=2) rfl (by simp)
 have l1:aG Tryz.prog s1 63 (.pointer (some ⟨s.next,0,some 7⟩))=some (.agg (.string ⟨a.toArray⟩::r1).toArray):=av.cY I7 (by simp[q1,jx]) fa (by simp[q1])
 have l2:aG Tryz.prog s1 63 (.pointer (some ⟨j,0,some 7⟩))=some (.agg (.string ⟨b.toArray⟩::r2).toArray):=av.cY I7 (by simp[q2,jx]) hj (by simp[q2])
 simp-implicitDefEqProofs(disch:=omega)only[ai,aj,ad,Nat.reduceLT,Nat.reduceEqDiff,Nat.reduceAdd,↓reduceIte,hn,h1,h2,List.length_cons,q1,l0,l1,l2]
 refine(EB wL nF hZ hp s1 a b r1 r2 q1 q2).mono ?_
 rintro _ s3 ⟨rfl,ij⟩
 simp-implicitDefEqProofs(disch:=omega)only[ai,al,oneOf,Nat.reduceLT,↓reduceIte,hn,Tryz.results205]
 exact⟨rfl,bB.trans (ij.weaken bB.next)⟩
def TO (s:aq)(p:Nat->Bool)(n:Nat)(v:Value)(s' :aq):Prop:=(∃r,v= .int .i64 r/\TN p n r)/\ar s.next s s'
set_option maxHeartbeats 4000000 in
theorem Ku {lib:ay}(hl:lib.at 203=none)(g:Nat)(bs:List Value)(s:aq)(x:Value)(n:Nat)(lx:List Value)(hx:aM s 6 x n lx)(sK:n<=140737488351232)(p:Nat->Bool)
  (h:∀i,i<n->∀s' :aq,ar s.next s s' ->Runs Tryz.prog lib g (.agg ((lx.drop (i*6)).take 6).toArray::bs) s' (Ic s' (p i))):
  Runs Tryz.prog lib 203 [x,.func (.func g) #[] bs.toArray] s (TO s p n):=by
 refine Runs.enter 19 Tryz.func203 rfl hl rfl rfl ?_
 intro f hn hf
 have h0:f.get 0=x:=hf 0
 have h1:f.get 1= .func (.func g) #[] bs.toArray:=hf 1
 clear hf
 simp-implicitDefEqProofs(disch:=omega)only[ai,ad,Nat.reduceLT,Nat.reduceEqDiff,↓reduceIte,hn,h0,hx.aV Tryz.underlying24]
 refine Comes.bC (fun z f s' =>∃i:Nat,z=n-i/\i<=n/\(∀j,j<i->p j=false)/\ar s.next s s' /\f.n=19/\f.get 0=x/\f.get 1= .func (.func g) #[] bs.toArray/\f.get 7= .int .i64 (n:Nat)/\f.get 8= .int .i64 (i:Nat))
  (fun z f s' =>(z= .ret/\ar s.next s s' /\f.n=19/\∃r:Nat,f.get 4= .int .i64 (r:Nat)/\r<n/\p r=true/\∀j,j<r->p j=false)\/(z= .exit 0/\(∀j,j<n->p j=false)/\ar s.next s s' /\f.n=19))
  ⟨0,rfl,by omega,fun j h=>by omega,ar.refl _ _,by simp only[ae,hn],by simp only[aa,↓reduceIte,Nat.reduceEqDiff,h0],by simp only[aa,↓reduceIte,Nat.reduceEqDiff,h1],by simp only[aa,↓reduceIte,Nat.reduceEqDiff],by simp only[aa,↓reduceIte];rfl⟩ ?_ ?_
 ·clear hn h0 h1 f
  rintro Q hQ z f s2 ⟨i,rfl,hi,hP,aA,hn,h0,h1,h7,h8⟩
  by_cases aP:i<n
  rotate_left
  ·obtain rfl:i=n:=by omega
   have d1:¬((i:Nat):Int)<((i:Nat):Int):=by omega
   simp-implicitDefEqProofs(disch:=omega)only[ai,Nat.reduceLT,↓reduceIte,hn,h7,h8,eq_false d1]
   exact hQ _ _ _ (.inr ⟨rfl,hP,aA,by simp only[ae,hn]⟩)
  have d1:((i:Nat):Int)<((n:Nat):Int):=by omega
  have kC:=hx.keeps aA
  have dI:=kC.indexAddr (P:=Tryz.prog) (k:= .i64) (x:=(i:Int)) Tryz.underlying24 jx (by omega) (by omega)
  rw[Int.toNat_natCast] at dI
  have fM:=kC.eF (P:=Tryz.prog) I7 jx aP
  have gD:=h i aP s2 aA
  generalize (lx.drop (i*6)).take 6=xs at fM gD
  simp-implicitDefEqProofs(disch:=omega)only[ai,aj,ad,Nat.reduceLT,Nat.reduceEqDiff,↓reduceIte,hn,h0,h1,h7,h8,eq_true d1,dI,fM]
  refine gD.mono ?_
  rintro _ s3 ⟨rfl,ij⟩
  have gF:=aA.trans (ij.weaken aA.next)
  cases hp:p i with
  |true=>
   simp-implicitDefEqProofs(disch:=omega)only[ai,Nat.reduceLT,Nat.reduceEqDiff,↓reduceIte,hn]
   exact hQ _ _ _ (.inl ⟨rfl,gF,by simp only[ae,hn],i,by simp only[aa,↓reduceIte],aP,hp,hP⟩)
  |false=>
   simp-implicitDefEqProofs(disch:=omega)only[ai,Nat.reduceLT,Nat.reduceEqDiff,↓reduceIte,hn,h8,aD]
   exact au (n-(i+1)) (by omega) ⟨i+1,rfl,by omega,tm hP hp,gF,by simp only[ae,hn],by simp only[aa,↓reduceIte,Nat.reduceEqDiff,h0],by simp only[aa,↓reduceIte,Nat.reduceEqDiff,h1],by simp only[aa,↓reduceIte,Nat.reduceEqDiff,h7],by simp only[aa,↓reduceIte];rfl⟩
 rintro z f' s6 (⟨rfl,hs,fp,r,h4,kH,iT,yh⟩|⟨rfl,hP,hs,fp⟩)
 ·simp-implicitDefEqProofs(disch:=omega)only[ai,al,oneOf,Nat.reduceLT,↓reduceIte,fp,h4,Tryz.results203]
  exact⟨⟨_,rfl,.inr ⟨r,kH,rfl,iT,yh⟩⟩,hs⟩
 simp-implicitDefEqProofs(disch:=omega)only[ai,al,oneOf,Nat.reduceLT,↓reduceIte,fp,Tryz.results203]
 exact⟨⟨_,rfl,.inl ⟨rfl,hP⟩⟩,hs⟩
end Go.Proofs.YtdfjfncifneocaaGreat
namespace Go.Cl
theorem zQ {z:Nat}(hz:0<z):∀(n:Nat) (l:List Value),l.length=n*z->(∀i,i<n->((l.drop (i*z)).take z).all aO=true)->l.all aO=true
 |0,l,h,_=>by
  have:l=[]:=List.eq_nil_of_length_eq_zero (by omega)
  rw[this];rfl
 |n+1,l,h,k=>by
  have h1:(l.take z).all aO=true:=by
   have:=k 0 (by omega)
   rwa [Nat.zero_mul,List.drop_zero] at this
  have h2:(l.drop z).all aO=true:=by
   refine zQ hz n _ (by rw[List.length_drop,h,Nat.succ_mul];omega) (fun i hi=> ?_)
   have:=k (i+1) (by omega)
   rw[List.drop_drop]
   rwa [Nat.succ_mul,Nat.add_comm] at this
  rw[<-List.take_append_drop z l,List.all_append,h1,h2];rfl
end Go.Cl
namespace Go.Proofs.YtdfjfncifneocaaGreat
open Go.Cl
def WT (s:aq)(n:Nat)(lx:List Value)(v:Value)(s' :aq):Prop:=Own s' 6 v n lx/\aN s.next v/\ar s.next s s'
theorem F9 {lib:ay}(hl:lib.at 207=none)(s:aq)(x:Value)(n:Nat)(lx:List Value)(hx:aM s 6 x n lx)(N4:n<=1000000)(dE:lx.all aO=true):
  Runs Tryz.prog lib 207 [x] s (WT s n lx):=by
 refine Runs.enter 8 Tryz.func207 rfl hl rfl rfl ?_
 intro f hn hf
 have h0:f.get 0=x:=hf 0
 clear hf
 simp-implicitDefEqProofs(disch:=omega)only[ai,Nat.reduceLT,Nat.reduceEqDiff,↓reduceIte,hn,h0,hx.p5 Tryz.underlying24]
 refine fI (fun h=> ?_) (fun h=> ?_)
 ·obtain⟨h1,h2,_⟩:=hx.isNil h
  subst h1
  have:lx=[]:=List.eq_nil_of_length_eq_zero (by have:=hx.length;omega)
  subst this
  simp-implicitDefEqProofs(disch:=omega)only[ai,al,oneOf,Nat.reduceLT,↓reduceIte,hn,Tryz.results207]
  exact⟨.nil,aN.nil _,ar.refl _ _⟩
 ·simp-implicitDefEqProofs(disch:=omega)only[ai,ag,xk Tryz.underlying24 jx zE Du rfl]
  refine aQ (by rfl) ?_
  intro b s1 hb hF aA
  simp-implicitDefEqProofs(disch:=omega)only[ai,ad,Nat.reduceLT,Nat.reduceEqDiff,↓reduceIte,hn,h0]
  refine bG Tryz.underlying24 Tryz.underlying24 (.inl ⟨_,rfl⟩) jx Va zE rfl hb (hx.keeps aA).src hx.length (by decide) dE (by omega) (by omega) hF aA.next ?_
  intro b' s2 qV vE cI _ _
  simp-implicitDefEqProofs(disch:=omega)only[ai,al,oneOf,Nat.reduceLT,↓reduceIte,hn,Tryz.results207]
  exact⟨by simpa using qV,vE,aA.trans cI⟩
end Go.Proofs.YtdfjfncifneocaaGreat
namespace Go.Cl
theorem bm.trans {v:Value}{s s' Bf:aq}(h:bm v s s')(k:bm v s' Bf):bm v s Bf:=
 ⟨Nat.le_trans h.next k.next,fun i hi cD=>(k.get i (Nat.lt_of_lt_of_le hi h.next) cD).trans (h.get i hi cD)⟩
end Go.Cl
namespace Go.Proofs.YtdfjfncifneocaaGreat
open Go.Cl
def Kept (s:aq)(x:Value)(v:Value)(s' :aq):Prop:=v=x/\ar s.next s s'
theorem QV {lib:ay}(hl:lib.at 206=none)(I4:lib.at 203=none)(g:Nat)(bs:List Value)(s:aq)(x:Value)(n:Nat)(lx:List Value)(hx:aM s 6 x n lx)(sK:n<=1000000)(p:Nat->Bool)
  (h:∀i,i<n->∀s' :aq,ar s.next s s' ->Runs Tryz.prog lib g (.agg ((lx.drop (i*6)).take 6).toArray::bs) s' (Ic s' (p i))) (hp:∀i,i<n->p i=false):
  Runs Tryz.prog lib 206 [x,.func (.func g) #[] bs.toArray] s (Kept s x):=by
 refine Runs.enter 42 Tryz.func206 rfl hl rfl rfl ?_
 intro f hn hf
 have h0:f.get 0=x:=hf 0
 have h1:f.get 1= .func (.func g) #[] bs.toArray:=hf 1
 clear hf
 simp-implicitDefEqProofs(disch:=omega)only[ai,aj,ad,Nat.reduceLT,Nat.reduceEqDiff,↓reduceIte,hn,h0,h1]
 refine(Ku I4 g bs s x n lx hx (by omega) p h).mono ?_
 rintro _ s2 ⟨⟨r,rfl,hr⟩,df⟩
 rcases hr with ⟨rfl,-⟩|⟨k,hk,-,iW,-⟩
 ·simp-implicitDefEqProofs(disch:=omega)only[ai,al,oneOf,Nat.reduceLT,Nat.reduceEqDiff,↓reduceIte,hn,h0,Tryz.results206]
  exact⟨rfl,df⟩
 ·rw[hp k hk] at iW;cases iW
def Deleted (s:aq)(x:Value)(n:Nat)(lx:List Value)(p:Nat->Bool)(v:Value)(s' :aq):Prop:=aM s' 6 v (dG p n) (iS lx 6 p n)/\bm x s s' /\(∀j,aJ v=some j->aJ x=some j)
set_option maxHeartbeats 4000000 in
theorem adv {lib:ay}(hl:lib.at 206=none)(I4:lib.at 203=none)(g:Nat)(bs:List Value)(s:aq)(x:Value)(n:Nat)(lx:List Value)(hx:Own s 6 x n lx)(sK:n<=1000000)(dE:∀i,i<n->((lx.drop (i*6)).take 6).all aO=true)(p:Nat->Bool)
  (h:∀i,i<n->∀s' :aq,bm x s s' ->Runs Tryz.prog lib g (.agg ((lx.drop (i*6)).take 6).toArray::bs) s' (Ic s' (p i))):
  Runs Tryz.prog lib 206 [x,.func (.func g) #[] bs.toArray] s (Deleted s x n lx p):=by
 have ZH:=hx.length
 refine Runs.enter 42 Tryz.func206 rfl hl rfl rfl ?_
 intro f hn hf
 have h0:f.get 0=x:=hf 0
 have h1:f.get 1= .func (.func g) #[] bs.toArray:=hf 1
 clear hf
 simp-implicitDefEqProofs(disch:=omega)only[ai,aj,ad,Nat.reduceLT,Nat.reduceEqDiff,↓reduceIte,hn,h0,h1]
 refine(Ku I4 g bs s x n lx hx.aH (by omega) p (fun i hi s' rf=>h i hi s' ⟨rf.next,fun q hq _=>rf.get q hq⟩)).mono ?_
 rintro _ s2 ⟨⟨r,rfl,hr⟩,df⟩
 have fm:bm x s s2:=⟨df.next,fun q hq _=>df.get q hq⟩
 have kC:=hx.keeps df
 rcases hr with ⟨rfl,dS⟩|⟨k,hk,rfl,iW,zA⟩
 ·simp-implicitDefEqProofs(disch:=omega)only[ai,al,oneOf,Nat.reduceLT,Nat.reduceEqDiff,↓reduceIte,hn,h0,Tryz.results206]
  obtain⟨e1,e2⟩:=B8 (l:=lx) (z:=6) n dS
  refine⟨?_,fm,fun j hj=>hj⟩
  rw[e1,e2,List.take_of_length_le (by omega)]
  exact kC.aH
 have hkm:¬((k:Nat):Int)= -1:=by omega
 simp-implicitDefEqProofs(disch:=omega)only[ai,Nat.reduceLT,Nat.reduceEqDiff,↓reduceIte,hn,eq_false hkm,aD]
 obtain⟨e1,e2⟩:=B8 (l:=lx) (z:=6) k zA
 obtain⟨k1,k2⟩:=Ey (l:=lx) (L:=lx) (z:=6) (j:=k) (by rw[e1,e2]) rfl iW
 have adw:dG p (k+1)=k:=by simp[dG,iW,e1]
 refine Comes.bC (fun z f s' =>∃(j:Nat) (L:List Value),z=n-j/\j<=n/\Own s' 6 x n L/\L.take (dG p j*6)=iS lx 6 p j/\L.drop (j*6)=lx.drop (j*6)/\bm x s s' /\f.n=42/\f.get 0=x/\f.get 1= .func (.func g) #[] bs.toArray/\f.get 5= .int .i64 (dG p j:Nat)/\f.get 6= .int .i64 (j:Nat))
  (fun z f s' =>z= .exit 0/\∃L:List Value,Own s' 6 x n L/\L.take (dG p n*6)=iS lx 6 p n/\bm x s s' /\f.n=42/\f.get 0=x/\f.get 5= .int .i64 (dG p n:Nat))
  ⟨k+1,lx,rfl,by omega,kC,k1,rfl,fm,by simp only[ae,hn],by simp only[aa,↓reduceIte,Nat.reduceEqDiff,h0],by simp only[aa,↓reduceIte,Nat.reduceEqDiff,h1],by simp only[aa,↓reduceIte,Nat.reduceEqDiff,adw],by simp only[aa,↓reduceIte];rfl⟩ ?_ ?_
 ·clear hn h0 h1 f kC fm df
  rintro Q hQ z f s3 ⟨j,L,rfl,hj,ho,ha,hb,ht,hn,h0,h1,h5,h6⟩
  have Ya:=ho.aH
  by_cases aP:j<n
  rotate_left
  ·obtain rfl:j=n:=by omega
   have d1:¬((j:Nat):Int)<((j:Nat):Int):=by omega
   simp-implicitDefEqProofs(disch:=omega)only[ai,ad,Nat.reduceLT,Nat.reduceEqDiff,↓reduceIte,hn,h0,h6,Ya.aV Tryz.underlying24,eq_false d1]
   exact hQ _ _ _ ⟨rfl,L,ho,ha,ht,by simp only[ae,hn],by simp only[aa,↓reduceIte,Nat.reduceEqDiff,h0],by simp only[aa,↓reduceIte,Nat.reduceEqDiff,h5]⟩
  have d1:((j:Nat):Int)<((n:Nat):Int):=by omega
  have dI:=Ya.indexAddr (P:=Tryz.prog) (k:= .i64) (x:=(j:Int)) Tryz.underlying24 jx (by omega) (by omega)
  rw[Int.toNat_natCast] at dI
  have fM:=Ya.eF (P:=Tryz.prog) I7 jx aP
  have nI:(L.drop (j*6)).take 6=(lx.drop (j*6)).take 6:=by rw[hb]
  rw[nI] at fM
  have nG:((lx.drop (j*6)).take 6).length=6:=by
   have:(j+1)*6<=n*6:=Nat.mul_le_mul_right 6 aP
   rw[List.length_take,List.length_drop];omega
  have WU:=dE j aP
  have gD:=h j aP
  have dF:=fun hp=>NZ (l:=lx) (L:=L) (z:=6) (n:=n) (j:=j) (p:=p) Ya.length ZH aP ha hb hp
  generalize (lx.drop (j*6)).take 6=xs at fM nG WU gD dF
  have TM:wm.length+1=7:=rfl
  simp-implicitDefEqProofs(disch:=omega)only[ai,ad,Nat.reduceLT,Nat.reduceEqDiff,↓reduceIte,hn,h0,h6,Ya.aV Tryz.underlying24,eq_true d1,dI,fM,zE,Du]
  refine aw ?_
  intro s4 fU iH lN
  simp-implicitDefEqProofs(disch:=omega)only[ai,Nat.reduceLT,Nat.reduceEqDiff,↓reduceIte,hn,TM]
  refine aE jx (by decide) fU rfl rfl nG WU ?_
  intro s5 sm Kp sn
  have sm:av s5 s3.next xs:=sm
  have Cg:ar s3.next s3 s5:=iH.trans ⟨by omega,fun q hq=>sn q (by omega)⟩
  have XL:=ho.keeps Cg
  have la:aG Tryz.prog s5 63 (.pointer (some ⟨s3.next,0,some 7⟩))=some (.agg xs.toArray):=av.cY I7 (by rw[nG];exact jx) sm (by rw[nG])
  have ZI:bm x s s5:=ht.trans ⟨Cg.next,fun q hq _=>Cg.get q hq⟩
  simp-implicitDefEqProofs(disch:=omega)only[ai,aj,ad,Nat.reduceLT,Nat.reduceEqDiff,↓reduceIte,hn,h1,la]
  refine(gD s5 ZI).mono ?_
  rintro _ s6 ⟨rfl,Ie⟩
  have ZJ:bm x s s6:=ZI.trans ⟨Ie.next,fun q hq _=>Ie.get q hq⟩
  have Md:=XL.keeps Ie
  have lb:aG Tryz.prog s6 63 (.pointer (some ⟨s3.next,0,some 7⟩))=some (.agg xs.toArray):=av.cY I7 (by rw[nG];exact jx) (sm.keeps Ie) (by rw[nG])
  cases hp:p j with
  |true=>
   obtain⟨u1,u2⟩:=Ey ha hb hp
   have rh:dG p (j+1)=dG p j:=by simp[dG,hp]
   simp-implicitDefEqProofs(disch:=omega)only[ai,Nat.reduceLT,Nat.reduceEqDiff,↓reduceIte,hn,h6,aD]
   exact au (n-(j+1)) (by omega) ⟨j+1,L,rfl,by omega,Md,u1,u2,ZJ,by simp only[ae,hn],by simp only[aa,↓reduceIte,Nat.reduceEqDiff,h0],by simp only[aa,↓reduceIte,Nat.reduceEqDiff,h1],by simp only[aa,↓reduceIte,Nat.reduceEqDiff,h5,rh],by simp only[aa,↓reduceIte];rfl⟩
  |false=>
   obtain⟨u1,u2⟩:=dF hp
   have Y4:=su p j
   have rh:dG p (j+1)=dG p j+1:=by simp[dG,hp]
   have N3:=Md.aH.indexAddr (P:=Tryz.prog) (k:= .i64) (x:=(dG p j:Int)) Tryz.underlying24 jx (by omega) (by omega)
   rw[Int.toNat_natCast] at N3
   simp-implicitDefEqProofs(disch:=omega)only[ai,Nat.reduceLT,Nat.reduceEqDiff,↓reduceIte,hn,h0,h5,lb,N3]
   refine BC jx (by decide) Md (by omega) nG WU ?_
   intro s7 lQ QG
   simp-implicitDefEqProofs(disch:=omega)only[ai,Nat.reduceLT,Nat.reduceEqDiff,↓reduceIte,hn,h5,h6,aD]
   exact au (n-(j+1)) (by omega) ⟨j+1,_,rfl,by omega,lQ,u1,u2,ZJ.trans QG,by simp only[ae,hn],by simp only[aa,↓reduceIte,Nat.reduceEqDiff,h0],by simp only[aa,↓reduceIte,Nat.reduceEqDiff,h1],by simp only[aa,↓reduceIte,Nat.reduceEqDiff,rh];rfl,by simp only[aa,↓reduceIte];rfl⟩
 rintro z f' s6 ⟨rfl,L,ho,ha,ht,fp,h0',R8⟩
 have Y4:=su p n
 have uT:=ho.aH.fz (P:=Tryz.prog) Tryz.underlying24 jx (k:= .i64) (x:=(dG p n:Int)) (by omega) (by omega)
 rw[Int.toNat_natCast] at uT
 simp-implicitDefEqProofs(disch:=omega)only[ai,ad,ah,Nat.reduceLT,Nat.reduceEqDiff,↓reduceIte,fp,h0',R8,uT]
 refine Ce (zs:=wm) Tryz.underlying24 jx zE Du rfl rfl (by decide) rfl ho Y4 ?_
 intro s7 lQ QG
 have Dp:=lQ.aH.gw (P:=Tryz.prog) Tryz.underlying24 jx (k:= .i64) (y:=(dG p n:Int)) (by omega) (by omega)
 rw[Int.toNat_natCast] at Dp
 simp-implicitDefEqProofs(disch:=omega)only[ai,al,oneOf,ah,Nat.reduceLT,Nat.reduceEqDiff,↓reduceIte,fp,h0',R8,Dp,Tryz.results206]
 have hc:=lQ.aH.cut (lo:=0) (hi:=dG p n) (by omega) Y4
 refine⟨?_,ht.trans QG,fun j hj=> ?_⟩
 ·have e:((L.take (dG p n*6)++bS wm (n-dG p n)).drop (0*6)).take ((dG p n-0)*6)=iS lx 6 p n:=by
   rw[Nat.zero_mul,List.drop_zero,Nat.sub_zero,ha]
   have:=tp p ZH n (Nat.le_refl _)
   rw[List.take_append_of_le_length (by omega),List.take_of_length_le (by omega)]
  have e' :=hc
  rw[e,Nat.sub_zero] at e'
  exact e'
 ·cases lQ with
  |nil=>exact hj
  |of=>exact hj
end Go.Proofs.YtdfjfncifneocaaGreat
set_option linter.unusedSimpArgs false
set_option linter.unusedVariables false
set_option maxRecDepth 100000
namespace Go.Cl
theorem Ci {P:Program}{lib:ay}{cA cB:Code}{f:aR}{s:aq}{Q:AX->aR->aq->Prop}{b:Bool}(J:aR->aq->Prop)(h1:∀Q' :AX->aR->aq->Prop,(∀f' s',J f' s' ->Q' .normal f' s')->S2 P lib cA cB f s Q' b)(h2:∀f' s',J f' s' ->Q .normal f' s'):S2 P lib cA cB f s Q b:=h1 Q h2
end Go.Cl
namespace Go.Proofs.YtdfjfncifneocaaGreat
open Go.Cl Go.Lib
def TP (s:aq)(F:Nat->Prop)(D:List (List UInt8×O))(e:List UInt8×O)(tx:Bool)(v:Value)(s' :aq):Prop:=∃LC,Own s' 6 v (Kr D e tx).length LC/\aN s.next v/\ar s.next s s' /\aL cu 6 (fun j=>F j/\j<s.next) s' (Kr D e tx) LC
set_option maxHeartbeats 8000000 in
theorem Kv {lib:ay}(hl:lib.at 176=none)(nF:lib.at 204=none)(oP:lib.at 205=none)(fM:lib.at 206=none)(I4:lib.at 203=none)(hZ:lib.at 207=none)
  (wL:lib.at 177=none) (I5:lib.at 208=none) (nd:lib.at 219=none) (hp:lib.at 224=some iI)
  (F:Nat->Prop) (s:aq) (x:Value) (D:List (List UInt8×O)) (lx:List Value) (hx:aM s 6 x D.length lx) (hD:aL cu 6 F s D lx) (N4:D.length<=500000) (e:List UInt8×O) (ce:List Value) (he:cu F s ce e) (tx:Bool):
  Runs Tryz.prog lib 176 [x,.agg ce.toArray,.func (.func 177) #[] #[],.bool tx] s (TP s F D e tx):=by
 obtain⟨re,rfl,Sk,Yb⟩:=he
 have qe:=Sk.len
 refine Runs.enter 39 Tryz.func176 rfl hl rfl rfl ?_
 intro f hn hf
 have h0:f.get 0=x:=hf 0
 have h1:f.get 1= .agg (.string ⟨e.1.toArray⟩::re).toArray:=hf 1
 have h2:f.get 2= .func (.func 177) #[] #[]:=hf 2
 have h3:f.get 3= .bool tx:=hf 3
 clear hf
 simp-implicitDefEqProofs(disch:=omega)only[ai,Nat.reduceLT,↓reduceIte,hn,h1]
 refine aw ?_
 intro s1 fa bB jb
 simp-implicitDefEqProofs(disch:=omega)only[ai,Nat.reduceLT,Nat.reduceEqDiff,Nat.reduceAdd,↓reduceIte,hn,h2,List.length_cons,qe]
 refine aw ?_
 intro s2 fm bD na
 have lD:=fa.keeps bD
 have df:ar s.next s s2:=bB.trans (bD.weaken (by omega))
 have kC:=hx.keeps df
 have Gy:(Value.func (Fn.func 177) #[] #[]).cells.toList.length+1=2:=rfl
 have fm:av s2 s1.next [.func (.func 177) #[] #[]]:=fm
 simp-implicitDefEqProofs(disch:=omega)only[ai,aj,ad,Nat.reduceLT,Nat.reduceEqDiff,↓reduceIte,hn,h0,Gy,wC]
 obtain⟨p1,nD⟩:∃p1,p1=Ve D (fun y=> !(gS y.1 e.1)):=⟨_,rfl⟩
 obtain⟨q1,hq1⟩:∃q1:List UInt8×O->Bool,q1=fun y=>y.1==e.1:=⟨_,rfl⟩
 refine(Ku I4 204 [.pointer (some ⟨s1.next,0,some 2⟩),.pointer (some ⟨s.next,0,some 7⟩)] s2 x D.length lx kC (by omega) p1 (fun i hi s' rf=> ?_)).mono ?_
 ·obtain⟨r,kH,iT,-⟩:=hD.row i hi
  rw[kH]
  refine(adu nF wL I5 nd hp s' D[i].1 e.1 r re iT.len qe s1.next s.next (fm.keeps rf) (lD.keeps rf)).mono ?_
  rintro _ Bf ⟨rfl,h⟩
  refine⟨?_,h⟩
  rw[nD,xV hi]
  congr 1
  cases nd:gS D[i].1 e.1 with
  |false=>exact decide_eq_true ((lR _ _).2 nd)
  |true=>exact decide_eq_false (fun h=>by rw[(lR _ _).1 h] at nd;cases nd)
 rintro _ s3 ⟨⟨r,rfl,hr⟩,ij⟩
 have WV:(r<0/\CR D e.1=D.length)\/(r=(CR D e.1:Nat)/\¬r<0):=by
  rcases hr with ⟨rfl,dS⟩|⟨k,hk,rfl,k1,k2⟩
  ·exact .inl ⟨by omega,QI (fun i hi=>by have:=dS i hi;rwa [nD] at this)⟩
  ·rw[nD] at k1
   have:=QJ hk k1 (fun i hi=>by have:=k2 i hi;rwa [nD] at this)
   exact .inr ⟨by rw[this],by omega⟩
 have hle:=QH D e.1
 have WW:=df.trans (ij.weaken df.next)
 simp-implicitDefEqProofs(disch:=omega)only[ai,Nat.reduceLT,↓reduceIte,hn]
 refine Ci (fun f' s' =>s' =s3/\f'.n=39/\f'.get 0=x/\f'.get 3= .bool tx/\f'.get 5= .pointer (some ⟨s.next,0,some 7⟩)/\f'.get 6= .pointer (some ⟨s1.next,0,some 2⟩)/\f'.get 9= .int .i64 (CR D e.1:Nat)) ?_ ?_
 ·intro Q' hQ
  rcases WV with ⟨a1,a2⟩|⟨a1,a2⟩
  ·simp-implicitDefEqProofs(disch:=omega)only[ai,ad,Nat.reduceLT,Nat.reduceEqDiff,↓reduceIte,hn,h0,eq_true a1,(kC.keeps ij).aV Tryz.underlying24]
   exact hQ _ _ ⟨rfl,by simp only[ae,hn],by simp only[aa,↓reduceIte,Nat.reduceEqDiff,h0],by simp only[aa,↓reduceIte,Nat.reduceEqDiff,h3],by simp only[aa,↓reduceIte,Nat.reduceEqDiff],by simp only[aa,↓reduceIte,Nat.reduceEqDiff],by simp only[aa,↓reduceIte,a2]⟩
  ·simp-implicitDefEqProofs(disch:=omega)only[ai,eq_false a2]
   exact hQ _ _ ⟨rfl,by simp only[ae,hn],by simp only[aa,↓reduceIte,Nat.reduceEqDiff,h0],by simp only[aa,↓reduceIte,Nat.reduceEqDiff,h3],by simp only[aa,↓reduceIte,Nat.reduceEqDiff],by simp only[aa,↓reduceIte,Nat.reduceEqDiff],by simp only[aa,↓reduceIte,Nat.reduceEqDiff,a1]⟩
 clear hn h0 h1 h2 h3 f WV hr
 rintro f s4 ⟨rfl,hn,h0,h3,h5,h6,h9⟩
 obtain⟨k,hk⟩:∃k,k=CR D e.1:=⟨_,rfl⟩
 rw[<-hk] at h9 hle
 have hx4:=hx.keeps WW
 have Dp:=hx4.gw (P:=Tryz.prog) Tryz.underlying24 jx (k:= .i64) (y:=(k:Int)) (by omega) (by omega)
 rw[Int.toNat_natCast] at Dp
 have dA:=hx4.cut (lo:=0) (hi:=k) (by omega) hle
 rw[Nat.zero_mul,List.drop_zero,Nat.sub_zero] at dA
 have Sf:=hD.take k hle
 have X9:=hD.drop k hle
 simp-implicitDefEqProofs(disch:=omega)only[ai,aj,ad,ah,Nat.reduceLT,Nat.reduceEqDiff,↓reduceIte,hn,h0,h5,h6,h9,wC,Dp]
 have ZH:=hD.len
 have YX:k*6<=D.length*6:=Nat.mul_le_mul_right 6 hle
 have zL:(D.take k).length=k:=by rw[List.length_take];omega
 have Gz:(D.drop k).length=D.length-k:=List.length_drop ..
 refine(F9 hZ s4 (ez 6 x 0 k) k (lx.take (k*6)) dA (by omega) (zQ (by decide) k _ (by rw[List.length_take];omega) (fun i hi=>QT (Sf.row i (by omega))))).mono ?_
 rintro y s5 ⟨hy,iQ,vX⟩
 have zp:=WW.trans (vX.weaken WW.next)
 have mw:ar s2.next s2 s5:=ij.trans (vX.weaken ij.next)
 simp-implicitDefEqProofs(disch:=omega)only[ai,aj,ad,Nat.reduceLT,Nat.reduceEqDiff,↓reduceIte,hn]
 refine(QV fM I4 205 [.pointer (some ⟨s1.next,0,some 2⟩),.pointer (some ⟨s.next,0,some 7⟩)] s5 y k (lx.take (k*6)) hy.aH (by omega) (fun _=>false) (fun i hi s' rf=> ?_) (fun _ _=>rfl)).mono ?_
 ·obtain⟨r,kH,iT,-⟩:=Sf.row i (by omega)
  rw[kH]
  have hg:(D.take k)[i]'(by omega)=D[i]'(by omega):=List.getElem_take ..
  have QW:=mw.trans (rf.weaken mw.next)
  refine(ZG oP wL I5 nd hp s' _ e.1 r re iT.len qe s1.next s.next (fm.keeps QW) (lD.keeps QW)).mono ?_
  rintro _ Bf ⟨rfl,h⟩
  refine⟨?_,h⟩
  congr 1
  refine decide_eq_false (fun hc=> ?_)
  have h1:=H8 (D:=D) (k:=e.1) (i:=i) (by omega) (by omega)
  have h2:=(lS _ _).1 hc
  rw[hg] at h2
  rw[h2,wA] at h1;cases h1
 rintro v s6 ⟨rfl,Ie⟩
 have TQ:=zp.trans (Ie.weaken zp.next)
 have Cj:=mw.trans (Ie.weaken mw.next)
 have hy6:=hy.keeps Ie
 have iQ:aN s2.next v:=fun j hj=>by have:=iQ j hj;have:=ij.next;omega
 have nH:=df.next
 obtain⟨FB,hFB⟩:∃FB:Nat->Prop,FB=fun j=>F j/\j<s.next:=⟨_,rfl⟩
 have hDb:aL cu 6 FB s D lx:=by rw[hFB];exact hD.below bV
 have jv:=(hDb.take k hle).keeps bV TQ
 have heb:cu FB s (.string ⟨e.1.toArray⟩::re) e:=by rw[hFB];exact bV.below ⟨re,rfl,Sk,Yb⟩
 have PN:∀w:Value,aN s.next w->∀j,FB j->aJ w≠some j:=fun w hw j hj e=>by rw[hFB] at hj;have:=hw _ e;omega
 simp-implicitDefEqProofs(disch:=omega)only[ai,Nat.reduceLT,Nat.reduceEqDiff,↓reduceIte,hn,h3]
 obtain⟨D1,Ig⟩:∃D1,D1=D.take k++(if tx then [e] else []):=⟨_,rfl⟩
 have ahH:D1.length<=D.length+1:=by
  rw[Ig,List.length_append,List.length_take]
  cases tx<;>simp<;>omega
 refine Ci (fun f' s' =>∃(y:Value) (LY:List Value),Own s' 6 y D1.length LY/\aL cu 6 FB s' D1 LY/\aN s2.next y/\ar s2.next s2 s' /\f'.n=39/\f'.get 0=x/\f'.get 9= .int .i64 (k:Nat)/\f'.get 10= .func (.func 205) #[] #[.pointer (some ⟨s1.next,0,some 2⟩),.pointer (some ⟨s.next,0,some 7⟩)]/\f'.get 11=y) ?_ ?_
 ·intro Q' hQ
  cases tx with
  |false=>
   rw[if_neg (by decide),List.append_nil] at Ig
   simp-implicitDefEqProofs(disch:=omega)only[ai]
   exact hQ _ _ ⟨v,_,by rw[Ig,zL];exact hy6,by rw[Ig];exact jv,iQ,Cj,by simp only[ae,hn],by simp only[aa,↓reduceIte,Nat.reduceEqDiff,h0],by simp only[aa,↓reduceIte,Nat.reduceEqDiff,h9],by simp only[aa,↓reduceIte,Nat.reduceEqDiff],by simp only[aa,↓reduceIte,Nat.reduceEqDiff]⟩
  |true=>
   rw[if_pos rfl] at Ig
   have lE:aG Tryz.prog s6 63 (.pointer (some ⟨s.next,0,some 7⟩))=some (.agg (.string ⟨e.1.toArray⟩::re).toArray):=av.cY I7 (by simp[qe,jx]) (lD.keeps Cj) (by simp[qe])
   obtain⟨es,mM⟩:∃es,es=Value.string ⟨e.1.toArray⟩::re:=⟨_,rfl⟩
   have lj:es.length=6:=by rw[mM];simp[qe]
   have pz:es.all aO=true:=by rw[mM,List.all_cons,Sk.ok];rfl
   rw[<-mM] at lE heb
   simp-implicitDefEqProofs(disch:=omega)only[ai,ag,Nat.reduceLT,Nat.reduceEqDiff,↓reduceIte,hn,h5,lE,dY (cs:=es.toArray) Tryz.underlying24 jx zE Du rfl lj (by decide)]
   refine aQ (by rw[lj]) ?_
   intro b s7 Ja ahI fH
   simp-implicitDefEqProofs(disch:=omega)only[ai,ad,Nat.reduceLT,Nat.reduceEqDiff,↓reduceIte,hn]
   refine bG Tryz.underlying24 Tryz.underlying24 (.inl ⟨_,rfl⟩) jx Va zE rfl (hy6.keeps fH) Ja.aH.src lj (by decide) pz (by omega) (by omega) iQ (by have:=Cj.next;have:=fH.next;omega) ?_
   intro y' s8 hy8 adz jL ahJ _
   have TR:ar s2.next s2 s8:=(Cj.trans (fH.weaken Cj.next)).trans jL
   have ZK:ar s.next s s8:=df.trans (TR.weaken df.next)
   simp-implicitDefEqProofs(disch:=omega)only[ai,Nat.reduceLT,↓reduceIte,hn]
   exact hQ _ _ ⟨y',_,by rw[Ig,List.length_append,zL];exact hy8,by rw[Ig];exact((hDb.take k hle).keeps bV ZK).snoc lj (bV.keeps heb ZK),adz,TR,by simp only[ae,hn],by simp only[aa,↓reduceIte,Nat.reduceEqDiff,h0],by simp only[aa,↓reduceIte,Nat.reduceEqDiff,h9],by simp only[aa,↓reduceIte,Nat.reduceEqDiff],by simp only[aa,↓reduceIte]⟩
 clear hn h0 h3 h5 h6 h9 f
 rintro f s7 ⟨y,LY,F5,OT,iQ,sx,hn,h0,h9,dz,gX⟩
 have WX:ar s.next s s7:=df.trans (sx.weaken df.next)
 have hx7:=hx.keeps WX
 have uT:=hx7.fz (P:=Tryz.prog) Tryz.underlying24 jx (k:= .i64) (x:=(k:Int)) (by omega) (by omega)
 rw[Int.toNat_natCast] at uT
 have nj:=hx7.cut (lo:=k) (hi:=D.length) hle (Nat.le_refl _)
 rw[List.take_of_length_le (by rw[List.length_drop,ZH,Nat.sub_mul];omega)] at nj
 simp-implicitDefEqProofs(disch:=omega)only[ai,aj,ad,ah,Nat.reduceLT,Nat.reduceEqDiff,↓reduceIte,hn,h0,h9,gX,uT]
 have ZL:(lx.drop (k*6)).length=(D.length-k)*6:=by rw[List.length_drop,ZH,Nat.sub_mul]
 have Vi:∀i,i<D.length-k->(((lx.drop (k*6)).drop (i*6)).take 6).all aO=true:=fun i hi=>QT (X9.row i (by omega))
 refine(F9 hZ s7 _ (D.length-k) _ nj (by omega) (zQ (by decide) _ _ ZL Vi)).mono ?_
 rintro w s8 ⟨hw,lF,WY⟩
 simp-implicitDefEqProofs(disch:=omega)only[ai,aj,ad,Nat.reduceLT,Nat.reduceEqDiff,↓reduceIte,hn,dz]
 have TR:ar s2.next s2 s8:=sx.trans (WY.weaken sx.next)
 have ZM:=sx.next
 have ZN:=WY.next
 refine(adv fM I4 205 [.pointer (some ⟨s1.next,0,some 2⟩),.pointer (some ⟨s.next,0,some 7⟩)] s8 w (D.length-k) _ hw (by omega) Vi (Ve (D.drop k) (fun y=>y.1==e.1)) (fun i hi s' rf=> ?_)).mono ?_
 ·obtain⟨r,kH,iT,-⟩:=X9.row i (by omega)
  rw[kH]
  have QW:=TR.trans ((rf.keeps lF ZN).weaken ZM)
  refine(ZG oP wL I5 nd hp s' _ e.1 r re iT.len qe s1.next s.next (fm.keeps QW) (lD.keeps QW)).mono ?_
  rintro _ Bf ⟨rfl,h⟩
  refine⟨?_,h⟩
  rw[xV (by omega)]
  congr 1
  rw[decide_eq_decide.2 (lS _ _)]
  by_cases q:(D.drop k)[i].1=e.1
  ·rw[decide_eq_true q];exact(beq_iff_eq.2 q).symm
  ·rw[decide_eq_false q];exact(beq_eq_false_iff_ne.2 q).symm
 rintro u s9 ⟨hu,DO,hui⟩
 have TS:ar s7.next s7 s9:=WY.trans (DO.keeps lF ZN)
 have ZO:ar s.next s s9:=WX.trans (TS.weaken WX.next)
 obtain⟨p2,Tg⟩:∃p2,p2=Ve (D.drop k) (fun y=>y.1==e.1):=⟨_,rfl⟩
 rw[<-Tg] at hu
 have hkr:=((hDb.drop k hle).keeps bV ZO).kept p2 (D.length-k) (by omega)
 have OL:=tp (l:=lx.drop (k*6)) (z:=6) p2 ZL (D.length-k) (Nat.le_refl _)
 have OQ:(yX (D.drop k) p2 (D.length-k)).length=dG p2 (D.length-k):=by have:=hkr.len;omega
 have Y4:=su p2 (D.length-k)
 have XZ:yX (D.drop k) p2 (D.length-k)=others e.1 (D.drop k):=by
  rw[wz (q:=fun y=>y.1==e.1) (D.length-k) (by omega) (fun i hi=>by rw[Tg,xV hi]),List.take_of_length_le (by omega)]
  rfl
 have adC:(iS (lx.drop (k*6)) 6 p2 (D.length-k)).all aO=true:=zQ (by decide) (dG p2 (D.length-k)) _ OL (fun i hi=>QT (hkr.row i (by omega)))
 simp-implicitDefEqProofs(disch:=omega)only[ai,ad,Nat.reduceLT,Nat.reduceEqDiff,↓reduceIte,hn]
 refine bG Tryz.underlying24 Tryz.underlying24 (.inl ⟨_,rfl⟩) jx Va zE rfl (F5.keeps TS) hu.src OL (by decide) adC (by omega) (by omega) iQ (by have:=sx.next;have:=TS.next;omega) ?_
 intro y' Vj adD ZP ZQ ZR _
 have ZS:ar s.next s Vj:=ZO.trans (ZQ.weaken df.next)
 simp-implicitDefEqProofs(disch:=omega)only[ai,al,oneOf,Nat.reduceLT,↓reduceIte,hn,Tryz.results176]
 have gr:Kr D e tx=D1++others e.1 (D.drop k):=by
  unfold Kr
  rw[<-hk,Ig]
  congr 2
  rw[hk,F7]
 have QX:=(OT.keeps bV TS).append hkr
 rw[XZ,<-gr] at QX
 refine⟨LY++iS (lx.drop (k*6)) 6 p2 (D.length-k),?_,fun j hj=>by have:=ZP j hj;omega,ZS,?_⟩
 ·rw[gr,List.length_append,<-XZ,OQ];exact adD
 ·rw[hFB] at QX
  exact QX.turns bV ZR (fun j hj e' =>by have:=iQ _ e';have:=hj.2;omega)
end Go.Proofs.YtdfjfncifneocaaGreat
set_option linter.unusedSimpArgs false
set_option linter.unusedVariables false
set_option maxRecDepth 100000
namespace Go.Proofs.YtdfjfncifneocaaGreat
open Go.Cl Go.Lib
def Has (s:aq)(o:O)(v:Value)(s' :aq):Prop:=v= .bool o.has/\ar s.next s s'
theorem Ih {lib:ay}(hl:lib.at 97=none)(F:Nat->Prop)(s:aq)(cs:List Value)(o:O)(ho:dr F s cs o):
  Runs Tryz.prog lib 97 [.agg cs.toArray] s (Has s o):=by
 cases o with
 |mk kind num b l d=>
 obtain⟨bv,lv,dv,lc,dc,rfl,-⟩:=ho.parts
 refine Runs.enter 11 Tryz.func97 rfl hl rfl rfl ?_
 intro f hn hf
 have h0:f.get 0= .agg #[.int .i64 kind,.int .i64 num,bv,lv,dv]:=hf 0
 clear hf
 simp-implicitDefEqProofs(disch:=omega)only[ai,Nat.reduceLT,↓reduceIte,hn,h0]
 refine aw ?_
 intro s1 fa bB jb
 have p0:aG Tryz.prog s1 3 (.pointer (some ⟨s.next,0,some 6⟩))=some (.int .i64 kind):=fa.load cj (off:=0) (c:=6) rfl (by simp)
 by_cases c7:kind=7
 ·simp-implicitDefEqProofs(disch:=omega)only[ai,aj,al,oneOf,Nat.reduceLT,Nat.reduceEqDiff,Nat.reduceAdd,↓reduceIte,hn,List.length_cons,List.length_nil,zn,p0,eq_true c7,Tryz.results97]
  exact⟨by simp[O.has,O.kind,c7],bB⟩
 ·simp-implicitDefEqProofs(disch:=omega)only[ai,aj,al,oneOf,Nat.reduceLT,Nat.reduceEqDiff,Nat.reduceAdd,↓reduceIte,hn,List.length_cons,List.length_nil,zn,p0,eq_false c7,Tryz.results97]
  exact⟨by simp[O.has,O.kind,c7];congr,bB⟩
def ZT (s:aq)(k:List UInt8)(o:O)(v:Value)(s' :aq):Prop:=∃cs,v= .agg (.string ⟨k.toArray⟩::cs).toArray/\dr (fun j=>s.next<=j) s' cs o/\ar s.next s s'
theorem jo {lib:ay}(hl:lib.at 88=none)(hZ:lib.at 98=none)(nF:lib.at 36=none)(F:Nat->Prop)(s:aq)(k:List UInt8)(cs:List Value)(o:O)(ho:dr F s cs o)(tz:Small o):
  Runs Tryz.prog lib 88 [.string ⟨k.toArray⟩,.agg cs.toArray] s (ZT s k o):=by
 have mP:=ho.len
 refine Runs.enter 9 Tryz.func88 rfl hl rfl rfl ?_
 intro f hn hf
 have h0:f.get 0= .string ⟨k.toArray⟩:=hf 0
 have h1:f.get 1= .agg cs.toArray:=hf 1
 clear hf
 simp-implicitDefEqProofs(disch:=omega)only[ai,Nat.reduceLT,↓reduceIte,hn,h1]
 refine aw ?_
 intro s1 fa bB jb
 simp-implicitDefEqProofs(disch:=omega)only[ai,Nat.reduceLT,Nat.reduceAdd,↓reduceIte,hn,mP,zE,Du]
 refine aw ?_
 intro s2 fm bD na
 have df:ar s.next s s2:=bB.trans (bD.weaken (by omega))
 have la:aG Tryz.prog s2 26 (.pointer (some ⟨s.next,0,some 6⟩))=some (.agg cs.toArray):=av.cY ua (by rw[mP];exact eO) (fa.keeps bD) (by rw[mP])
 have TM:wm.length+1=7:=rfl
 simp-implicitDefEqProofs(disch:=omega)only[ai,aj,ad,Nat.reduceLT,Nat.reduceEqDiff,↓reduceIte,hn,h0,la,TM]
 refine(QS hZ nF _ o (Nat.le_refl _) F s2 cs (ho.keeps df) tz).mono ?_
 intro v s3 h3
 obtain⟨jt,rfl,mm,cf⟩:=h3.is
 have sy:=mm.len
 obtain⟨es,mM⟩:∃es,es=Value.string ⟨k.toArray⟩::jt:=⟨_,rfl⟩
 have lj:es.length=6:=by rw[mM];simp[sy]
 have pz:es.all aO=true:=by rw[mM,List.all_cons,mm.ok];rfl
 have H7:=bE k sy
 rw[<-mM] at H7
 simp-implicitDefEqProofs(disch:=omega)only[ai,ag,Nat.reduceLT,Nat.reduceEqDiff,↓reduceIte,hn,H7]
 refine aE jx (by decide) (fm.keeps cf) rfl rfl lj pz ?_
 intro s4 fU lN jc
 have fU:av s4 s1.next es:=fU
 have l4:aG Tryz.prog s4 63 (.pointer (some ⟨s1.next,0,some 7⟩))=some (.agg es.toArray):=av.cY I7 (by rw[lj];exact jx) fU (by rw[lj])
 simp-implicitDefEqProofs(disch:=omega)only[ai,al,oneOf,Nat.reduceLT,Nat.reduceEqDiff,↓reduceIte,hn,l4,aW,Tryz.results88]
 have kX:=bB.next
 have nH:=bD.next
 refine⟨jt,by rw[mM],(mm.turns (u:= .pointer (some ⟨s1.next,0,none⟩)) (bm.bc lN jc) (fun j hj e=> ?_)).mono (fun j hj=>by omega),(df.trans (cf.weaken df.next)).trans ⟨by omega,fun j hj=>jc j (by omega)⟩⟩
 have e:some s1.next=some j:=e
 injection e with e;omega
set_option maxHeartbeats 8000000 in
theorem TT {lib:ay}(hl:lib.at 139=none)(kx:lib.at 88=none)(hle:lib.at 97=none)(hZ:lib.at 98=none)(Dr:lib.at 36=none)
  (nM:lib.at 176=none) (nF:lib.at 204=none) (oP:lib.at 205=none) (fM:lib.at 206=none) (I4:lib.at 203=none) (adE:lib.at 207=none)
  (wL:lib.at 177=none) (I5:lib.at 208=none) (nd:lib.at 219=none) (hp:lib.at 224=some iI)
  (F:Nat->Prop) (s:aq) (cs:List Value) (o:O) (ho:dr F s cs o) (tz:Small o) (x:Value) (L:List (List UInt8×O)) (lx:List Value) (hx:aM s 6 x L.length lx) (hL:aL cu 6 F s L lx) (Sl:L.length<=100000) (tF:∀e∈L,Small e.2):
  Runs Tryz.prog lib 139 [.agg cs.toArray,x] s (gz s (zo o L)):=by
 have mP:=ho.len
 refine Runs.enter 35 Tryz.func139 rfl hl rfl rfl ?_
 intro f hn hf
 have h0:f.get 0= .agg cs.toArray:=hf 0
 have h1:f.get 1=x:=hf 1
 clear hf
 simp-implicitDefEqProofs(disch:=omega)only[ai,Nat.reduceLT,↓reduceIte,hn,h0]
 refine aw ?_
 intro s1 fa bB jb
 simp-implicitDefEqProofs(disch:=omega)only[ai,Nat.reduceLT,Nat.reduceAdd,↓reduceIte,hn,mP,zO,oQ]
 refine aw ?_
 intro s2 fm bD na
 have df:ar s.next s s2:=bB.trans (bD.weaken (by omega))
 have lD:=fa.keeps bD
 have il:cr.length+1=6:=rfl
 have la:∀s',ar s2.next s2 s' ->aG Tryz.prog s' 26 (.pointer (some ⟨s.next,0,some 6⟩))=some (.agg cs.toArray):=fun s' h=>av.cY ua (by rw[mP];exact eO) (lD.keeps h) (by rw[mP])
 simp-implicitDefEqProofs(disch:=omega)only[ai,aj,ad,Nat.reduceLT,Nat.reduceEqDiff,↓reduceIte,hn,la s2 (ar.refl _ _),il]
 refine(QS hZ Dr _ o (Nat.le_refl _) F s2 cs (ho.keeps df) tz).mono ?_
 intro v s3 h3
 obtain⟨jt,rfl,mm,cf⟩:=h3.is
 have sy:=mm.len
 simp-implicitDefEqProofs(disch:=omega)only[ai,Nat.reduceLT,↓reduceIte,hn,zO,oQ]
 refine aw ?_
 intro s4 fU iH lN
 simp-implicitDefEqProofs(disch:=omega)only[ai,Nat.reduceLT,Nat.reduceEqDiff,↓reduceIte,hn,il]
 refine aE eO (by decide) fU rfl rfl sy mm.ok ?_
 intro s5 sm Kp sn
 have sm:av s5 s3.next jt:=sm
 have Cg:ar s3.next s3 s5:=iH.trans ⟨by omega,fun j hj=>sn j (by omega)⟩
 have mw:ar s2.next s2 s5:=cf.trans (Cg.weaken cf.next)
 have zp:ar s.next s s5:=df.trans (mw.weaken df.next)
 simp-implicitDefEqProofs(disch:=omega)only[ai,aj,ad,Nat.reduceLT,Nat.reduceEqDiff,↓reduceIte,hn,la s5 mw]
 refine(Ih hle F s5 cs o (ho.keeps zp)).mono ?_
 rintro _ s6 ⟨rfl,Ga⟩
 have Ck:ar s3.next s3 s6:=Cg.trans (Ga.weaken Cg.next)
 have Cj:ar s2.next s2 s6:=mw.trans (Ga.weaken mw.next)
 have TQ:ar s.next s s6:=zp.trans (Ga.weaken zp.next)
 have N5:=sm.keeps Ga
 have Md:=mm.keeps Ck
 have td:=cf.next
 have nH:=bD.next
 have adF:=Ck.next
 have l6:aG Tryz.prog s6 26 (.pointer (some ⟨s3.next,0,some 6⟩))=some (.agg jt.toArray):=av.cY ua (by rw[sy];exact eO) N5 (by rw[sy])
 have oN:∀(t:aq) (o' :O) (QY:List Value) (G:Nat->Prop) (Q:Value->aq->Prop),(∀j,G j->s2.next<=j)->dr G t QY o' ->ar s2.next s2 t->(∀v s',gz s o' v s' ->Q v s')->∀t',av t' s1.next QY->t'.next=t.next->(∀j,j≠s1.next->t'.heap.get j=t.heap.get j)->Q (.agg QY.toArray) t' :=by
  intro t o' QY G Q hG j8 cI hQ t' M4 adG ZU
  refine hQ _ _ ⟨QY,rfl,(j8.turns (u:= .pointer (some ⟨s1.next,0,none⟩)) (bm.bc adG ZU) (fun j hj e=> ?_)).mono (fun j hj=>by have:=hG j hj;omega),(df.trans (cI.weaken df.next)).trans ⟨by omega,fun j hj=>ZU j (by omega)⟩⟩
  have e:some s1.next=some j:=e
  injection e with e;have:=hG j hj;omega
 cases hh:o.has with
 |false=>
  simp-implicitDefEqProofs(disch:=omega)only[ai,Nat.reduceLT,Nat.reduceEqDiff,↓reduceIte,hn,l6]
  refine aE eO (by decide) (fm.keeps Cj) rfl rfl sy Md.ok ?_
  intro s7 og kA jV
  have og:av s7 s1.next jt:=og
  have l7:aG Tryz.prog s7 26 (.pointer (some ⟨s1.next,0,some 6⟩))=some (.agg jt.toArray):=av.cY ua (by rw[sy];exact eO) og (by rw[sy])
  simp-implicitDefEqProofs(disch:=omega)only[ai,al,oneOf,Nat.reduceLT,Nat.reduceEqDiff,↓reduceIte,hn,l7,aW,Tryz.results139]
  have e:zo o L=o:=by unfold zo;rw[hh];rfl
  rw[e]
  exact oN s6 o jt _ _ (fun j hj=>hj) Md Cj (fun _ _ h=>h) s7 og kA jV
 |true=>
 have hx6:=hx.keeps TQ
 simp-implicitDefEqProofs(disch:=omega)only[ai,ad,Nat.reduceLT,Nat.reduceEqDiff,↓reduceIte,hn,h1,hx6.aV Tryz.underlying24]
 clear la l6
 have WZ:=mm.NU
 cases o with
 |mk kind num b l d=>
 obtain⟨bv,lv,dv,lc,dc,rfl,Ah,N6,hd3,fb3,fl3,fd3,rl3,rd3⟩:=WZ.parts
 obtain⟨G,hG⟩:∃G:Nat->Prop,G=fun j=>s2.next<=j/\j≠s3.next:=⟨_,rfl⟩
 have QZ:∀j,s2.next<=j/\j<s3.next->G j:=fun j hj=>by rw[hG];exact⟨hj.1,by omega⟩
 have rh:zo (.mk kind num b l d) L= .mk kind num b l (b6 d L):=by unfold zo;rw[hh];rfl
 refine Comes.bC (fun z f t=>∃(i:Nat) (w:Value) (DC:List Value),z=L.length-i/\i<=L.length/\aM t 6 w (b6 d (L.take i)).length DC/\dO G w/\aL cu 6 G t (b6 d (L.take i)) DC/\av t s3.next [.int .i64 kind,.int .i64 num,bv,lv,w]/\ar s3.next s3 t/\f.n=35/\f.get 4= .pointer (some ⟨s1.next,0,some 6⟩)/\f.get 5= .pointer (some ⟨s3.next,0,some 6⟩)/\f.get 14=x/\f.get 15= .int .i64 (L.length:Nat)/\f.get 16= .int .i64 (i:Nat))
  (fun z f t=>z= .exit 0/\∃(w:Value) (DC:List Value),aM t 6 w (b6 d L).length DC/\dO G w/\aL cu 6 G t (b6 d L) DC/\av t s3.next [.int .i64 kind,.int .i64 num,bv,lv,w]/\ar s3.next s3 t/\f.n=35/\f.get 4= .pointer (some ⟨s1.next,0,some 6⟩)/\f.get 5= .pointer (some ⟨s3.next,0,some 6⟩))
  ⟨0,dv,dc,rfl,by omega,by rw[List.take_zero];exact hd3.keeps Ck,fd3.mono QZ,by rw[List.take_zero];exact(rd3.mono bV QZ).keeps bV Ck,N5,Ck,by simp only[ae,hn],by simp only[aa,↓reduceIte,Nat.reduceEqDiff],by simp only[aa,↓reduceIte,Nat.reduceEqDiff],by simp only[aa,↓reduceIte,Nat.reduceEqDiff],by simp only[aa,↓reduceIte,Nat.reduceEqDiff],by simp only[aa,↓reduceIte];rfl⟩ ?_ ?_
 ·clear hn h0 h1 f
  rintro Q hQ z f t ⟨i,w,DC,rfl,hi,hw,lF,Ii,pI,aA,hn,h4,h5,zq,lI,NI⟩
  by_cases aP:i<L.length
  rotate_left
  ·obtain rfl:i=L.length:=by omega
   rw[List.take_length] at hw Ii
   have d1:¬((L.length:Nat):Int)<((L.length:Nat):Int):=by omega
   simp-implicitDefEqProofs(disch:=omega)only[ai,Nat.reduceLT,↓reduceIte,hn,lI,NI,eq_false d1]
   exact hQ _ _ _ ⟨rfl,w,DC,hw,lF,Ii,pI,aA,by simp only[ae,hn],by simp only[aa,↓reduceIte,Nat.reduceEqDiff,h4],by simp only[aa,↓reduceIte,Nat.reduceEqDiff,h5]⟩
  have d1:(i:Int)<(L.length:Int):=by omega
  have Gb:ar s2.next s2 t:=cf.trans (aA.weaken td)
  have Cm:ar s.next s t:=df.trans (Gb.weaken df.next)
  have lH:=hx.keeps Cm
  have dI:=lH.indexAddr (P:=Tryz.prog) (k:= .i64) (x:=(i:Int)) Tryz.underlying24 jx (by omega) (by omega)
  rw[Int.toNat_natCast] at dI
  have Q0:=aA.next
  have nA:=lH.eF (P:=Tryz.prog) I7 jx aP
  obtain⟨r,kH,iT,yh⟩:=hL.row i aP
  have nG:=iT.len
  rw[kH] at nA
  obtain⟨xs,qM⟩:∃xs,xs=Value.string ⟨(L[i].1).toArray⟩::r:=⟨_,rfl⟩
  rw[<-qM] at nA
  have u7:xs.length=6:=by rw[qM];simp[nG]
  have QR:xs.all aO=true:=by rw[qM,List.all_cons,iT.ok];rfl
  simp-implicitDefEqProofs(disch:=omega)only[ai,Nat.reduceLT,Nat.reduceEqDiff,↓reduceIte,hn,zq,lI,NI,eq_true d1,dI,nA,zE,Du]
  refine aw ?_
  intro t1 adN Cn afZ
  have TM:wm.length+1=7:=rfl
  simp-implicitDefEqProofs(disch:=omega)only[ai,Nat.reduceLT,Nat.reduceEqDiff,↓reduceIte,hn,TM]
  refine aE jx (by decide) adN rfl rfl u7 QR ?_
  intro t2 TU af0 ZV
  have TU:av t2 t.next xs:=TU
  have Q1:ar t.next t t2:=Cn.trans ⟨by omega,fun j hj=>ZV j (by omega)⟩
  simp-implicitDefEqProofs(disch:=omega)only[ai]
  obtain⟨A,hA⟩:∃A:Nat->Bool,A=fun j=>decide (j<t2.next):=⟨_,rfl⟩
  have ef:∀j,A j=true->j<t2.next:=by
   intro j h
   rw[hA] at h
   exact of_decide_eq_true h
  have gW:∀j,j<t2.next->A j=true:=fun j h=>by rw[hA];exact decide_eq_true h
  refine LB.cF.dy A ef 2 0 (by kernel_rfl) (by kernel_rfl) ?_
  have db:=ar.spare t2 0
  have F1:(spare t2 0).next=t2.next+0:=bT _ _
  have Ij:ar t.next t (spare t2 0):=Q1.trans (db.weaken Q1.next)
  have Sm:=pI.keeps Ij
  have TV:=TU.keeps db
  have I9:=hw.keeps Ij
  have Q3:=Ii.keeps bV Ij
  have ahL:=Q1.next
  have ub:∀k,LA.dB A (some (.pointer (some ⟨s3.next,k,some 6⟩)))=true:=fun k=>LA.bY (A:=A) (i:=s3.next) (gW _ (by have:=pI.lt;omega))
  have Mc:∀k,LA.dB A (some (.pointer (some ⟨t.next,k,some 7⟩)))=true:=fun k=>LA.bY (A:=A) (i:=t.next) (gW _ TU.lt)
  cases hLi:L[i] with
  |mk ek ev=>
  rw[hLi] at iT yh qM
  cases ev with
  |mk OU en eb el ed=>
  obtain⟨xb,xl,xd,xlc,xdc,rfl,-⟩:=iT.parts
  have l20:aG Tryz.prog (spare t2 0) 24 (.pointer (some ⟨s3.next,4,some 6⟩))=some w:=Sm.load wx (off:=4) (c:=6) rfl (by simp)
  have l22:aG Tryz.prog (spare t2 0) 9 (.pointer (some ⟨t.next,0,some 7⟩))=some (.string ⟨ek.toArray⟩):=by
   have:=TV.load (P:=Tryz.prog) np (off:=0) (c:=7) (by rw[u7]) (by omega)
   rw[this,qM];rfl
  have l24:aG Tryz.prog (spare t2 0) 26 (.pointer (some ⟨t.next,1,some 7⟩))=some (.agg #[.int .i64 OU,.int .i64 en,xb,xl,xd]):=by
   have:=av.tn (P:=Tryz.prog) ua eO TV (off:=1) (c:=7) (by rw[u7]) (by omega)
   rw[this,qM,List.drop_succ_cons,List.drop_zero,List.take_of_length_le (by simp)]
  have oL:=iT.keeps (Cm.trans (Ij.weaken Cm.next))
  simp-implicitDefEqProofs(disch:=omega)only[ai,aj,bn,bp,Nat.add_one_sub_one,ad,Nat.reduceLT,Nat.reduceEqDiff,Nat.reduceAdd,↓reduceIte,hn,h5,zn,B6,Ia,QN,ub,Mc,l20,l22,l24,I9.self,oL.self]
  refine(jo kx hZ Dr F (spare t2 0) ek _ _ oL (by have:=tF _ (List.getElem_mem aP);rw[hLi] at this;exact this)).mono ?_
  rintro _ t3 ⟨cp,rfl,hcp,gK⟩
  have adQ:=hcp.len
  have W0:=Sm.keeps gK
  have adR:=TV.keeps gK
  have zK:=I9.keeps gK
  have adS:=Q3.keeps bV gK
  have ahR:=gK.next
  refine⟨fun _=>LA.ar.lM ef (gK.weaken (by omega)),?_⟩
  have l29:aG Tryz.prog t3 3 (.pointer (some ⟨t.next,1,some 7⟩))=some (.int .i64 OU):=by
   have:=adR.load (P:=Tryz.prog) cj (off:=1) (c:=7) (by rw[u7]) (by omega)
   rw[this,qM];rfl
  have adT:bX (.agg (.string ⟨ek.toArray⟩::cp).toArray) (.agg (.string ⟨ek.toArray⟩::cp).toArray)=true:=by
   have:=hcp.self
   match cp,adQ,this with
   |[a,b,c,d,e],_,this=>
    simp[bX,gp] at this|-
    exact⟨by simp[cW],this⟩
  simp-implicitDefEqProofs(disch:=omega)only[ai,aj,bn,bp,Nat.sub_self,ad,Nat.reduceLT,Nat.reduceEqDiff,↓reduceIte,hn,h5,B6,Mc,l29]
  have W1:∀j,t3.next<=j->G j:=fun j hj=>by rw[hG];exact⟨by omega,by have:=W0.lt;omega⟩
  have Ik:=qp d (L.take i)
  have Gz:d.length<=100000:=by cases tz;assumption
  rw[List.length_take] at Ik
  have adU:dr G t3 cp (.mk OU en eb el ed):=hcp.mono (fun j hj=>by rw[hG];exact⟨by omega,by have:=W0.lt;omega⟩)
  refine(Kv nM nF oP fM I4 adE wL I5 nd hp G t3 w _ DC zK adS (by omega) (ek,.mk OU en eb el ed) _ ⟨cp,rfl,adU,yh⟩ (decide (OU≠0))).mono ?_
  rintro w' t4 ⟨LC,xN,Q4,iA,Il⟩
  refine⟨fun _=>LA.ar.lM ef (iA.weaken (by omega)),?_⟩
  have Im:b6 d (L.take (i+1))=Kr (b6 d (L.take i)) (ek,.mk OU en eb el ed) (decide (OU≠0)):=by
   rw[sv aP,hLi,TJ];rfl
  rw[<-Im] at xN Il
  have Q5:=W0.keeps iA
  refine LB.dX wv (by decide) Q5 (off:=4) (c:=6) rfl (vs:=[w']) xN.aH.kg rfl (by simp) (by simp[xN.aH.aO]) (fun h=>absurd rfl h) ?_
  intro t5 Co yZ sA
  have Co:av t5 s3.next [.int .i64 kind,.int .i64 num,bv,lv,w']:=Co
  have cD:∀j,G j->aJ (.pointer (some ⟨s3.next,0,none⟩))≠some j:=fun j hj e=>by
   have e:some s3.next=some j:=e
   injection e with e
   rw[hG] at hj;exact hj.2 e.symm
  have Vk:∀j,aJ w' =some j->G j:=fun j hj=>W1 j (Q4 j hj)
  have Io:ar s3.next t4 t5:=⟨by omega,fun j hj=>sA j (by omega)⟩
  have ZW:Own t5 6 w' (b6 d (L.take (i+1))).length LC:=xN.bc yZ sA (fun e=>cD _ (Vk _ e) rfl)
  have Q6:=((Il.mono bV (fun j hj=>hj.1)).turns bV (bm.bc yZ sA) cD)
  simp-implicitDefEqProofs(disch:=omega)only[ai,bp,Nat.reduceSub,Nat.reduceLT,Nat.reduceEqDiff,↓reduceIte,hn,NI,aD]
  exact au (L.length-(i+1)) (by omega) ⟨i+1,w',LC,rfl,by omega,ZW.aH,dO.wk Vk,Q6,Co,(((aA.trans (Ij.weaken Q0)).trans (gK.weaken (by omega))).trans (iA.weaken (by omega))).trans Io,by simp only[ae,hn],by simp only[aa,↓reduceIte,Nat.reduceEqDiff,h4],by simp only[aa,↓reduceIte,Nat.reduceEqDiff,h5],by simp only[aa,↓reduceIte,Nat.reduceEqDiff,zq],by simp only[aa,↓reduceIte,Nat.reduceEqDiff,lI],by simp only[aa,↓reduceIte];rfl⟩
 clear hn h0 h1 f
 rintro z f t ⟨rfl,w,DC,hw,lF,Ii,pI,aA,hn,h4,h5⟩
 have Cp:dr G t [.int .i64 kind,.int .i64 num,bv,lv,w] (.mk kind num b l (b6 d L)):=dr.whole (Ah.keeps aA) (N6.keeps aA) hw (fb3.mono QZ) (fl3.mono QZ) lF ((rl3.mono bH QZ).keeps bH aA) Ii
 have l9:aG Tryz.prog t 26 (.pointer (some ⟨s3.next,0,some 6⟩))=some (.agg #[.int .i64 kind,.int .i64 num,bv,lv,w]):=av.cY ua (cs:=[.int .i64 kind,.int .i64 num,bv,lv,w]) eO pI rfl
 have Gb:ar s2.next s2 t:=cf.trans (aA.weaken td)
 simp-implicitDefEqProofs(disch:=omega)only[ai,Nat.reduceLT,Nat.reduceEqDiff,↓reduceIte,hn,h4,h5,l9]
 refine aE eO (by decide) (fm.keeps Gb) rfl rfl rfl Cp.ok ?_
 intro s7 og kA jV
 have og:av s7 s1.next [.int .i64 kind,.int .i64 num,bv,lv,w]:=og
 have l7:aG Tryz.prog s7 26 (.pointer (some ⟨s1.next,0,some 6⟩))=some (.agg #[.int .i64 kind,.int .i64 num,bv,lv,w]):=av.cY ua (cs:=[.int .i64 kind,.int .i64 num,bv,lv,w]) eO og rfl
 simp-implicitDefEqProofs(disch:=omega)only[ai,al,oneOf,Nat.reduceLT,Nat.reduceEqDiff,↓reduceIte,hn,h4,l7,aW,Tryz.results139]
 rw[rh]
 exact oN t _ _ G _ (fun j hj=>by rw[hG] at hj;exact hj.1) Cp Gb (fun _ _ h=>h) s7 og kA jV
end Go.Proofs.YtdfjfncifneocaaGreat
