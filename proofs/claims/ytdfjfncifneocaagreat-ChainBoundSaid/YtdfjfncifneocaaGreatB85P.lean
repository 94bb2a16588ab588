import Derived.Test.YtdfjfncifneocaaGreatProg
import Derived.Test.YtdfjfncifneocaaGreatPrim
import Derived.Test.YtdfjfncifneocaaGreatDraw
import Derived.KernelRfl
import Derived.Test.YtdfjfncifneocaaGreatLooseA
import Derived.Test.YtdfjfncifneocaaGreatNum
import Derived.Test.YtdfjfncifneocaaGreatFixW
import Derived.Test.YtdfjfncifneocaaGreatMcA
import Derived.Test.YtdfjfncifneocaaGreatMem
open Nat renaming reduceLT->QS,reduceEqDiff->WP
set_option linter.unusedSimpArgs false
set_option linter.unusedVariables false
set_option maxRecDepth 100000
namespace Go.Cl
open Go.RowKit Go.ChangeShapes Go.WideShapes
variable {P:Program}
theorem Runs.abz {lib:az}(hf:ly lib)(ho:pa P (fun _ _=>True) lib)(hp:A1 P lib=true){g:FuncId}(hg:lib.at g=none){args:List Value}{S:St}{W:World}(hB:mj W S)(hr:Runs P lib g args S.s fun v _=>v= .bool true){args' :Array Value}(hv:er S args args'.toList):
  Calls P g args' W fun e w' =>e= .returned (.bool true)/\Below W.heap.size W w' :=by
 obtain⟨v,s',⟨n,hn⟩,_,rfl⟩:=hr hB.sr.wf
 have hc:=HE (Pre:=fun _ _=>True) (fun _ _ _ _ h=>h) hf ho hp n (g:=g) hg W.heap.size S S.s args _ s' (gP.refl _) hB.sr trivial (hn n (Nat.le_refl _)) args' hv
 rw[hB.w] at hc
 refine Calls.mono hc ?_
 rintro e w' ⟨T,v',_,rfl,rfl,hv,hg⟩
 cases hv
 refine⟨rfl,?_⟩
 have:=hg.below
 rw[hB.w] at this
 exact this
end Go.Cl
namespace Go.Proofs.YtdfjfncifneocaaGreat
open Go.Cl
theorem ZI {g:FuncId}{fn:Func}{e:Array Value->Sem Value}(h:Tryz.prog.funcs[g]?=some fn)(h1:(fn.name== "runtime.NumGoroutine")=false:=by kernel_rfl)(h2:fn.body.isNone=true:=by kernel_rfl)(h3:Extern.findNext fn=none:=by kernel_rfl)(h4:Extern.find fn=some e:=by kernel_rfl):ZH Tryz.prog g e:=⟨fn,h,h1,h2,h3,h4⟩
noncomputable abbrev eC:az:=
 (175,nY)::
 (224,iw)::
 []
theorem ZJ:ly eC:=
 ly.cons uT<|
 ly.cons uU<|
 ly.nil
theorem afd (Pre:Nat->World->Prop):pa Tryz.prog Pre eC:=
 pa.cons (yk.ok _ (ZI Tryz.func175) (uT) (ML (ps:= #[3]) (t:=22) (e:=5) Tryz.underlying22))<|
 pa.cons (yk.ok _ (ZI Tryz.func224) (uU) (MM))<|
 pa.nil _ _
end Go.Proofs.YtdfjfncifneocaaGreat

set_option linter.unusedSimpArgs false
set_option linter.unusedVariables false
set_option maxRecDepth 100000
namespace Go.Cl
structure kj (s:aq) (vs:List Value) (L:List (List UInt8)):Prop where
 len:vs.length=L.length
 aG:∀k (h:k<L.length),aN s 1 (vs.getD k undef) (L[k]).length (ofBytes L[k])
theorem kj.nil (s:aq):kj s [] []:=⟨rfl,fun k h=>absurd h (Nat.not_lt_zero k)⟩
theorem kj.cons {s:aq}{v:Value}{a:List UInt8}{vs:List Value}{L:List (List UInt8)}(h:aN s 1 v a.length (ofBytes a))(k:kj s vs L):kj s (v::vs) (a::L):=by
 refine⟨by simp[k.len],fun j hj=> ?_⟩
 cases j with
 |zero=>exact h
 |succ j=>exact k.aG j (by simpa using hj)
theorem kj.keeps {s s' :aq}{vs:List Value}{L:List (List UInt8)}(h:kj s vs L)(k:ar s.next s s'):kj s' vs L:=⟨h.len,fun j hj=>(h.aG j hj).keeps k⟩
def Uk (s:aq)(l:List UInt8)(v:Value)(s' :aq):Prop:=aN s' 1 v l.length (ofBytes l)/\(0<l.length->Own s' 1 v l.length (ofBytes l))/\aH s.next v/\ar s.next s s'
theorem qs {L:List (List UInt8)}{i:Nat}(h:i<L.length):(L.take (i+1)).flatten=(L.take i).flatten++L[i]:=by
 rw[List.take_add_one,List.getElem?_eq_getElem h,List.flatten_append]
 simp only[Option.toList_some,List.flatten_cons,List.flatten_nil,List.append_nil]
theorem lV (L:List (List UInt8))(i:Nat):(L.take i).flatten.length<=L.flatten.length:=by
 have:L.flatten=(L.take i).flatten++(L.drop i).flatten:=by rw[<-List.flatten_append,List.take_append_drop]
 rw[this,List.length_append];omega
end Go.Cl
namespace Go.Proofs.YtdfjfncifneocaaGreat
open Go.Cl
theorem MN {lib:az}(h:lib.at 175=some nY)(s:aq)(n:Nat)(hn:n<=4294967296):
  Runs Tryz.prog lib 175 [.int .i64 (n:Nat)] s fun v s' =>Own s' 1 v n (List.replicate n (.chan none))/\aH s.next v/\ar s.next s s' :=by
 obtain⟨h1,h2⟩:=Own.new (s:=s) (cs:=List.replicate n (.chan none)) (n:=n) (z:=1) (by simp)
 refine Runs.XQ h uT (s' :=s.new (.dK ⟨List.replicate n (.chan none),1,true,1⟩)) ?_ ⟨h2,fun i hi=>by injection hi with hi;subst hi;exact Nat.le_refl _,ar.new s _⟩
 show(if Nat.ble n 4294967296 then aZ s (List.replicate n (.chan none)) n 1 else none)=_
 rw[if_pos (by rw[Nat.ble_eq];exact hn),h1]
set_option maxHeartbeats 4000000 in
theorem Ul {lib:az}(hl:lib.at 135=none)(hz:lib.at 175=some nY)(s:aq)(x:Value)(vs:List Value)(L:List (List UInt8))(hx:aN s 1 x L.length vs)(hp:kj s vs L)(I3:L.length<=4294967296)(hlen:L.flatten.length<=4294967296):
  Runs Tryz.prog lib 135 [x,.slice none 0 0] s (Uk s L.flatten):=by
 refine Runs.enter 92 Tryz.func135 rfl hl rfl rfl ?_
 intro f hn hf
 have h0:f.get 0=x:=hf 0
 have h1:f.get 1= .slice none 0 0:=hf 1
 clear hf
 by_cases c0:L.length=0
 ·obtain rfl:L=[]:=List.eq_nil_of_length_eq_zero c0
  have e:aL Tryz.prog s 22 0 []=aZ s [] 0 1:=by unfold aL;rw[Tryz.underlying22];simp only[bL,lh];rfl
  simp-implicitDefEqProofs(disch:=omega)only[aj,ad,ae,QS,WP,↓reduceIte,hn,h0,hx.bh Tryz.underlying137,List.length_nil,Int.natCast_zero,e]
  refine aQ (by rfl) ?_
  intro v s1 hv hF aD
  simp-implicitDefEqProofs(disch:=omega)only[aj,al,oneOf,QS,↓reduceIte,hn,Tryz.results135]
  exact⟨hv.aG,fun _=>hv,hF,aD⟩
 have d0:¬((L.length:Nat):Int)=0:=by omega
 have SI:=hx.indexAddr (P:=Tryz.prog) (k:= .i64) (x:=(0:Int)) Tryz.underlying137 gv (by omega) (by omega)
 have m9:=hx.dJ (P:=Tryz.prog) gw (k:=0) (by omega)
 have hp0:=hp.aG 0 (Nat.pos_of_ne_zero c0)
 rw[show(0:Int).toNat=0 from rfl] at SI
 by_cases c1:L.length=1
 ·have d1:((L.length:Nat):Int)=1:=by omega
  obtain⟨a,rfl⟩:∃a,L=[a]:=by
   match L,c1 with
   |[a],_=>exact⟨a,rfl⟩
  have hp0:aN s 1 (vs.getD 0 undef) a.length (ofBytes a):=hp0
  have ef:a.length<=4294967296:=by simpa using hlen
  simp-implicitDefEqProofs(disch:=omega)only[aj,ad,QS,WP,↓reduceIte,hn,h0,hx.bh Tryz.underlying137,eq_false d0,eq_true d1,SI,m9]
  refine bV Tryz.underlying22 Tryz.underlying22 (.inl ⟨_,rfl⟩) bL kG lh rfl (.nil) hp0.src (by simp[bF]) (by decide) (dj _) (by omega) (by omega) (base:=s.next) (aH.nil _) (Nat.le_refl _) ?_
  intro v s1 hv hF aD _ _
  simp-implicitDefEqProofs(disch:=omega)only[aj,al,oneOf,QS,↓reduceIte,hn,Tryz.results135]
  rw[Nat.zero_add] at hv
  simp only[Uk,List.flatten_cons,List.flatten_nil,List.append_nil]
  exact⟨hv.aG,fun _=>hv,hF,aD⟩
 have d1:¬((L.length:Nat):Int)=1:=by omega
 have d2:¬(0:Int)<0:=by omega
 simp-implicitDefEqProofs(disch:=omega)only[aj,ad,QS,WP,↓reduceIte,hn,h0,h1,hx.bh Tryz.underlying137,eq_false d0,eq_false d1,(aN.nil (s:=s) (z:=1)).bh Tryz.underlying22,Int.natCast_zero,eq_false d2]
 refine Comes.bK (fun z f s1=>∃i:Nat,z=L.length-i/\i<=L.length/\s1=s/\f.n=92/\f.get 0=x/\f.get 1= .slice none 0 0/\f.get 5= .int .i64 ((L.take i).flatten.length:Nat)/\f.get 42=x/\f.get 43= .int .i64 (L.length:Nat)/\f.get 44= .int .i64 (i:Nat))
  (fun z f s1=>z= .exit 0/\s1=s/\f.n=92/\f.get 0=x/\f.get 1= .slice none 0 0/\f.get 5= .int .i64 (L.flatten.length:Nat))
  ⟨0,rfl,by omega,rfl,by simp only[ag,hn],by simp only[aa,↓reduceIte,WP,h0],by simp only[aa,↓reduceIte,WP,h1],by simp only[aa,↓reduceIte,WP];rfl,by simp only[aa,↓reduceIte,WP],by simp only[aa,↓reduceIte,WP],by simp only[aa,↓reduceIte];rfl⟩ ?_ ?_
 ·clear hn h0 h1 f
  rintro Q hQ z f s1 ⟨i,rfl,hi,rfl,hn,h0,h1,h5,h42,h43,h44⟩
  by_cases bc:i<L.length
  ·have e1:(i:Int)<(L.length:Int):=by omega
   have hii:=hx.indexAddr (P:=Tryz.prog) (k:= .i64) (x:=(i:Int)) Tryz.underlying137 gv (by omega) (by omega)
   rw[Int.toNat_natCast] at hii
   have LM:=hx.dJ (P:=Tryz.prog) gw bc
   have Ow:=hp.aG i bc
   have HW:=qs bc
   have MO:=lV L (i+1)
   rw[HW,List.length_append] at MO
   have e2:¬(9223372036854775807:Int)-((L.take i).flatten.length:Int)<((L[i]).length:Int):=by omega
   simp-implicitDefEqProofs(disch:=omega)only[aj,ad,QS,WP,↓reduceIte,hn,h5,h42,h43,h44,eq_true e1,hii,LM,Ow.bh Tryz.underlying22,aB,eq_false e2]
   refine au (L.length-(i+1)) (by omega) ⟨i+1,rfl,by omega,rfl,by simp only[ag,hn],by simp only[aa,↓reduceIte,WP,h0],by simp only[aa,↓reduceIte,WP,h1],?_,by simp only[aa,↓reduceIte,WP,h42],by simp only[aa,↓reduceIte,WP,h43],by simp only[aa,↓reduceIte];rfl⟩
   simp only[aa,↓reduceIte,WP]
   rw[HW,List.length_append];rfl
  ·obtain rfl:i=L.length:=by omega
   have e1:¬((L.length:Nat):Int)<((L.length:Nat):Int):=by omega
   rw[List.take_length] at h5
   simp-implicitDefEqProofs(disch:=omega)only[aj,QS,↓reduceIte,hn,h43,h44,eq_false e1]
   refine hQ _ _ _ ⟨rfl,rfl,by simp only[ag,hn],by simp only[aa,↓reduceIte,WP,h0],by simp only[aa,↓reduceIte,WP,h1],by simp only[aa,↓reduceIte,WP,h5]⟩
 clear hn h0 h1 f
 rintro _ f s1 ⟨rfl,jZ,hn,h0,h1,h5⟩
 rw[jZ];clear jZ s1
 obtain⟨N,hN⟩:∃N,N=L.flatten.length:=⟨_,rfl⟩
 rw[<-hN] at h5 hlen
 simp-implicitDefEqProofs(disch:=omega)only[aj,ak,ad,QS,↓reduceIte,hn,h5]
 refine(MN hz s N hlen).mono ?_
 rintro b0 s1 ⟨uv,hF0,bm⟩
 obtain⟨b,gu,hb,_,LP⟩:=uv.tight (P:=Tryz.prog) (k:= .i64) (k2:= .i64) Tryz.underlying22 bL
 have MB:aH s.next b:=fun j hj=>hF0 j (LP j hj)
 have hP1:=hp.keeps bm
 have lM:=hx.keeps bm
 have kX:=lM.dJ (P:=Tryz.prog) gw (k:=0) (by omega)
 have rJ:=hP1.aG 0 (Nat.pos_of_ne_zero c0)
 simp-implicitDefEqProofs(disch:=omega)only[aj,ad,ai,QS,WP,↓reduceIte,hn,h0,h5,gu,SI,kX]
 refine Eu Tryz.underlying22 bL hb rJ (dj _) ?_
 intro s2 dB ajk oN
 have afe:(L.take 1).flatten.length<=L.flatten.length:=lV L 1
 have XR:(L.take 1).flatten=L[0]:=by
  have:=qs (L:=L) (i:=0) (Nat.pos_of_ne_zero c0)
  simpa using this
 rw[XR] at afe
 have hm:min (L[0]).length N=(L[0]).length:=by omega
 rw[hm,qh,List.take_length] at dB
 have qt:Room s2 b N (ofBytes (L.take 1).flatten++(List.replicate N (Value.chan none)).drop (L[0]).length):=by
  rw[XR]
  have:=JZ (a:=[]) (b:=ofBytes L[0]) (c:=List.replicate N (Value.chan none)) (off:=0) rfl
  rw[List.nil_append,List.nil_append,bF] at this
  rw[<-this];exact dB
 have aU:ar s.next s s2:=bm.trans (ajk.keeps MB bm.next)
 clear dB hb uv gu
 obtain⟨rest,nZ⟩:∃r,r=(List.replicate N (Value.chan none)).drop (L[0]).length:=⟨_,rfl⟩
 rw[<-nZ] at qt
 have kv:=hx.keeps aU
 have ez:=kv.cut (lo:=1) (hi:=L.length) (by omega) (Nat.le_refl _)
 rw[hm]
 simp-implicitDefEqProofs(disch:=omega)only[aj,ad,ai,QS,WP,↓reduceIte,hn,h0,kv.fp Tryz.underlying137 gv,show(1:Int).toNat=1 from rfl,ez.bh Tryz.underlying137]
 refine Comes.eU (fun z f s3=>∃(i:Nat) (rest:List Value),z=L.length-1-i/\i<=L.length-1/\Room s3 b N (ofBytes (L.take (i+1)).flatten++rest)/\ar s.next s s3/\s2.next<=s3.next/\f.n=92/\f.get 1= .slice none 0 0/\f.get 8=b/\f.get 9= .int .i64 ((L.take (i+1)).flatten.length:Nat)/\f.get 70=eB 1 x 1 L.length/\f.get 71= .int .i64 ((L.length-1:Nat):Int)/\f.get 72= .int .i64 (i:Nat))
  ⟨0,rest,rfl,by omega,qt,aU,Nat.le_refl _,by simp only[ag,hn],by simp only[aa,↓reduceIte,WP,h1],by simp only[aa,↓reduceIte,WP],by simp only[aa,↓reduceIte,WP];rw[XR],by simp only[aa,↓reduceIte,WP],by simp only[aa,↓reduceIte,WP],by simp only[aa,↓reduceIte];rfl⟩ ?_
 clear hn h0 h1 h5 qt aU nZ rest afe XR hm f
 rintro z f s3 ⟨i,rest,rfl,hi,rz,bH,mm,hn,h1,h8,h9,h70,h71,h72⟩
 have ZK:=(hx.keeps bH).cut (lo:=1) (hi:=L.length) (by omega) (Nat.le_refl _)
 by_cases bc:i<L.length-1
 ·have e1:(i:Int)<((L.length-1:Nat):Int):=by omega
  have S3:i+1<L.length:=by omega
  have hii:=ZK.indexAddr (P:=Tryz.prog) (k:= .i64) (x:=(i:Int)) Tryz.underlying137 gv (by omega) (by omega)
  rw[Int.toNat_natCast] at hii
  have LM:=ZK.dJ (P:=Tryz.prog) gw bc
  have I5:(((vs.drop (1*1)).take ((L.length-1)*1))).getD i undef=vs.getD (i+1) undef:=by
   simp only[List.getD_eq_getElem?_getD]
   rw[List.getElem?_take_of_lt (by omega),List.getElem?_drop,show 1*1+i=i+1 by omega]
  rw[I5] at LM
  have Ow:=(hp.keeps bH).aG (i+1) S3
  have HW:=qs S3
  have MO:=lV L (i+1+1)
  rw[HW,List.length_append,<-hN] at MO
  obtain⟨q,hq⟩:∃q,q=(L.take (i+1)).flatten:=⟨_,rfl⟩
  rw[<-hq] at rz h9 HW MO
  have jZ:=rz.slice (P:=Tryz.prog) (k:= .i64) (x:=((q.length:Nat):Int)) Tryz.underlying22 bL (by omega) (by omega)
  rw[Int.toNat_natCast] at jZ
  have rh:∃a n c,eB 1 b q.length N= .slice a n c:=by unfold eB;split<;>exact⟨_,_,_,rfl⟩
  obtain⟨ca,cn,cc,Af⟩:=rh
  have Um:mh Tryz.prog s3 22 (eB 1 b q.length N) (.slice none 0 0)=some (.int .i64 0,s3):=by rw[Af];exact Rk Tryz.underlying22 bL _ _ _ _
  simp-implicitDefEqProofs(disch:=omega)only[aj,ad,ai,QS,WP,↓reduceIte,hn,h1,h8,h9,h70,h71,h72,eq_true e1,hii,LM,jZ,Um,aB,Int.add_zero]
  refine CM Tryz.underlying22 bL rz (by omega) Ow (dj _) ?_
  intro s4 Qv ajm Am
  have hm:min (L[i+1]).length (N-q.length)=(L[i+1]).length:=by omega
  rw[hm,qh,List.take_length,JZ (by rw[bF]),<-bn,<-HW,bF] at Qv
  rw[hm]
  simp-implicitDefEqProofs(disch:=omega)only[aj,QS,WP,↓reduceIte,hn,h72,aB]
  refine au (L.length-1-(i+1)) (by omega) ⟨i+1,_,rfl,by omega,Qv,bH.trans (ajm.keeps MB bH.next),by omega,by simp only[ag,hn],by simp only[aa,↓reduceIte,WP,h1],by simp only[aa,↓reduceIte,WP,h8],?_,by simp only[aa,↓reduceIte,WP,h70],by simp only[aa,↓reduceIte,WP,h71],by simp only[aa,↓reduceIte];rfl⟩
  simp only[aa,↓reduceIte,WP]
  rw[HW,List.length_append];rfl
 ·obtain rfl:i=L.length-1:=by omega
  have e1:¬((L.length-1:Nat):Int)<((L.length-1:Nat):Int):=by omega
  simp-implicitDefEqProofs(disch:=omega)only[aj,QS,WP,↓reduceIte,hn,h8,h71,h72,eq_false e1]
  simp-implicitDefEqProofs(disch:=omega)only[aj,al,oneOf,QS,↓reduceIte,hn,Tryz.results135]
  have dN:L.take (L.length-1+1)=L:=by rw[List.take_of_length_le (by omega)]
  rw[dN] at rz
  have hr:=rz.aG.length
  rw[List.length_append,bF,<-hN,Nat.mul_one] at hr
  obtain rfl:rest=[]:=List.eq_nil_of_length_eq_zero (by omega)
  rw[List.append_nil,hN] at rz
  exact⟨rz.aG,fun h=>rz.own h,MB,bH⟩
end Go.Proofs.YtdfjfncifneocaaGreat
set_option linter.unusedSimpArgs false
set_option linter.unusedVariables false
set_option maxRecDepth 100000
namespace Go.Cl.Fx
open Go.Cl.Rw Go.Cl.Sto
def jd (l:List UInt8):List UInt8:=if(yf l).length<=(fixed l).length then yf l else fixed l
def xA (l:List UInt8):List UInt8:=[120,1]++(jd l++be 4 (zD l))
theorem J0 (l:List UInt8):(jd l).length<=(yf l).length:=by
 unfold jd
 split
 ·exact Nat.le_refl _
 ·omega
theorem Own.yl {s:aq}{z:Nat}{v:Value}{n:Nat}{l:List Value}(h:Own s z v n l):∃a n c,v= .slice a n c:=by cases h<;>exact⟨_,_,_,rfl⟩
theorem aN.yl {s:aq}{z:Nat}{v:Value}{n:Nat}{l:List Value}(h:aN s z v n l):∃a n c,v= .slice a n c:=by cases h<;>exact⟨_,_,_,rfl⟩
theorem ajn (P:Program)(t:TypeId)(k' :IntKind)(n:Nat){k:Nat}(h:k<32):cI P .shr t (.int .u32 (n:Int)) (.int k' (k:Nat))=some (.int .u32 ((n/2^k:Nat):Int)):=by
 rw[kZ P t .u32 _ _ k' (by omega)]
 have e:min ((k:Nat):Int).toNat IntKind.u32.bits=k:=by
  have:IntKind.u32.bits=32:=rfl
  rw[this,Int.toNat_natCast];omega
 rw[e,O6]
end Go.Cl.Fx
namespace Go.Proofs.YtdfjfncifneocaaGreat
open Go.Cl Go.Cl.Rw Go.Cl.Sto Go.Cl.Fx
theorem aff:bW Tryz.prog 22=some (.slice none 0 0):=by kernel_rfl
theorem XS (s:aq)(a b c:Option Addr)(n1 n2 n3 c1 c2 c3:Nat):aL Tryz.prog s 137 3 [(0,.slice a n1 c1),(1,.slice b n2 c2),(2,.slice c n3 c3)]=aZ s [.slice a n1 c1,.slice b n2 c2,.slice c n3 c3] 3 1:=by
 unfold aL;rw[Tryz.underlying137];simp only[gv,aff];rfl
theorem Pe (s:aq)(a:Option Addr)(n1 c1:Nat):aL Tryz.prog s 137 1 [(0,.slice a n1 c1)]=aZ s [.slice a n1 c1] 1 1:=by
 unfold aL;rw[Tryz.underlying137];simp only[gv,aff];rfl
set_option maxHeartbeats 4000000 in
theorem Un {lib:az}(hl:lib.at 83=none)(Ga:lib.at 133=none)(lP:lib.at 171=none)(hla:lib.at 173=none)(hlg:lib.at 202=none)(DR:lib.at 172=none)(js:lib.at 201=none)(jQ:lib.at 170=none)(lj:lib.at 200=none)(hly:lib.at 138=none)(Al:lib.at 36=none)
  (aD:lib.at 134=none) (IJ:lib.at 174=none) (had:lib.at 104=none) (ZL:lib.at 151=none) (hj:lib.at 135=none) (hz:lib.at 175=some nY)
  (s:aq) (x:Value) (l:List UInt8) (hx:aN s 1 x l.length (ofBytes l)) (hlen:l.length<=10000000):
  Runs Tryz.prog lib 83 [x] s fun v s' =>cC s v s' (xA l):=by
 refine Runs.enter 35 Tryz.func83 rfl hl rfl rfl ?_
 intro f hn hf
 have h0:f.get 0=x:=hf 0
 clear hf
 simp-implicitDefEqProofs(disch:=omega)only[aj,ak,ad,QS,WP,↓reduceIte,hn,h0]
 refine(Rf Ga lP hla hlg DR js jQ lj hly Al s x l hx hlen).mono ?_
 rintro a s1 ⟨hA,hAF,k1⟩
 simp-implicitDefEqProofs(disch:=omega)only[aj,ak,ad,QS,WP,↓reduceIte,hn,h0]
 refine(MK aD IJ s1 x l (hx.keeps k1) (by omega)).mono ?_
 rintro b s2 ⟨hB,hBF,k2⟩
 have n1:=k1.next
 have n2:=k2.next
 have WG:=hA.keeps k2
 have dg:ar s.next s s2:=k1.trans (k2.weaken n1)
 have HW:=wC l
 have tH:=qm _ l (Nat.le_refl _)
 have hbk:blocks l.length<=200000:=by unfold blocks;omega
 have o8:=J0 l
 simp-implicitDefEqProofs(disch:=omega)only[aj,ad,QS,WP,↓reduceIte,hn,WG.aG.bh Tryz.underlying22,hB.aG.bh Tryz.underlying22]
 refine JP (fun f' s' =>s2=s' /\∃w:Value,aN s2 1 w (jd l).length (ofBytes (jd l))/\f'.n=35/\f'.get 0=x/\f'.get 3=w) ?_ ?_
 ·intro Q' Uc
  by_cases c:(yf l).length<=(fixed l).length
  ·simp-implicitDefEqProofs(disch:=omega)only[aj,QS,WP,↓reduceIte,hn,eq_true c]
   exact Uc _ _ ⟨rfl,b,by unfold jd;rw[if_pos c];exact hB.aG,by simp only[ag,hn],by simp only[aa,↓reduceIte,WP,h0],by simp only[aa,↓reduceIte]⟩
  ·simp-implicitDefEqProofs(disch:=omega)only[aj,eq_false c]
   exact Uc _ _ ⟨rfl,a,by unfold jd;rw[if_neg c];exact WG.aG,by simp only[ag,hn],by simp only[aa,↓reduceIte,WP,h0],by simp only[aa,↓reduceIte,WP]⟩
 clear hn h0 f
 rintro f _ ⟨rfl,w,hw,hn,h0,h3⟩
 have kv:=hx.keeps dg
 obtain⟨xa,xn,xc,Wx⟩:=aN.yl kv
 simp-implicitDefEqProofs(disch:=omega)only[aj,ae,QS,↓reduceIte,hn,h0,Wx,Pe]
 refine aQ rfl ?_
 intro y s3 hy kJ k3
 have n3:=k3.next
 rw[<-Wx] at hy
 simp-implicitDefEqProofs(disch:=omega)only[aj,ak,ad,QS,↓reduceIte,hn]
 refine(Gd had ZL s3 y x l hy.aG (kv.keeps k3) (by omega)).mono ?_
 rintro _ s4 ⟨rfl,rfl⟩
 have JX:=hw.keeps k3
 obtain⟨wa,wn,wc,hwe⟩:=aN.yl JX
 have abA:∀(k:Nat),k<32->cI Tryz.prog .shr 117 (.int .u32 ((zD l:Nat):Int)) (.int .u64 (k:Nat))=some (.int .u32 ((zD l/2^k:Nat):Int)):=fun k hk=>ajn Tryz.prog 117 .u64 (zD l) hk
 have r24:=abA 24 (by omega)
 have r16:=abA 16 (by omega)
 have r8:=abA 8 (by omega)
 have r24:cI Tryz.prog .shr 117 (.int .u32 ((zD l:Nat):Int)) (.int .u64 24)=some (.int .u32 ((zD l/16777216:Nat):Int)):=r24
 have r16:cI Tryz.prog .shr 117 (.int .u32 ((zD l:Nat):Int)) (.int .u64 16)=some (.int .u32 ((zD l/65536:Nat):Int)):=r16
 have r8:cI Tryz.prog .shr 117 (.int .u32 ((zD l:Nat):Int)) (.int .u64 8)=some (.int .u32 ((zD l/256:Nat):Int)):=r8
 simp-implicitDefEqProofs(disch:=omega)only[aj,ae,QS,↓reduceIte,hn,HP Tryz.underlying22 bL lh]
 refine aQ rfl ?_
 intro p1 s5 rJ aov k5
 have n5:=k5.next
 simp-implicitDefEqProofs(disch:=omega)only[aj,ae,QS,WP,↓reduceIte,hn,h3,r24,r16,r8,bR Tryz.underlying117 Tryz.underlying5,b0,Ms Tryz.underlying22 bL lh]
 refine aQ rfl ?_
 intro p3 s6 hp3 aow k6
 have n6:=k6.next
 obtain⟨a1,b1,c1,rfl⟩:=Own.yl rJ
 obtain⟨a3,b3,c3,rfl⟩:=Own.yl hp3
 simp-implicitDefEqProofs(disch:=omega)only[aj,ae,QS,WP,↓reduceIte,hn,hwe,XS]
 refine aQ rfl ?_
 intro y2 s7 vE aox k7
 have n7:=k7.next
 rw[<-hwe] at vE
 have k47:ar s4.next s4 s7:=(k5.trans (k6.weaken n5)).trans (k7.weaken (by omega))
 simp-implicitDefEqProofs(disch:=omega)only[aj,ak,ad,QS,↓reduceIte,hn]
 have hP:kj s7 [.slice a1 b1 c1,w,.slice a3 b3 c3] [[120,1],jd l,be 4 (zD l)]:=by
  refine kj.cons ?_ (kj.cons (JX.keeps k47) (kj.cons ?_ (kj.nil _)))
  ·exact(rJ.keeps (k6.trans (k7.weaken n6))).aG
  ·rw[XO];exact(hp3.keeps k7).aG
 have MO:[[120,1],jd l,be 4 (zD l)].flatten=xA l:=by
  simp[xA]
 have hzz:(xA l).length=(jd l).length+6:=by unfold xA;simp[pD]
 refine(Ul hj hz s7 y2 [.slice a1 b1 c1,w,.slice a3 b3 c3] [[120,1],jd l,be 4 (zD l)] vE.aG hP (by show 3<=4294967296;decide) (by rw[MO,hzz];omega)).mono ?_
 rintro v s8 ⟨-,hv,IK,k8⟩
 rw[MO] at hv
 simp-implicitDefEqProofs(disch:=omega)only[aj,al,oneOf,QS,↓reduceIte,hn,Tryz.results83]
 have XT:ar s.next s s7:=(dg.trans (k3.weaken (by omega))).trans (k47.weaken (by omega))
 exact⟨hv (by omega),fun i hi=>by have:=IK i hi;have:=XT.next;omega,XT.trans (k8.weaken XT.next)⟩
end Go.Proofs.YtdfjfncifneocaaGreat
namespace Go.Cl
def wG (T:List (List UInt8×Int)):List (Value×Value):=T.map fun e=>(.string ⟨e.1.toArray⟩,.int .i64 e.2)
def kK (k:List UInt8):List (List UInt8×Int)->Option Int
 |[]=>none
 |e::T=>if k=e.1 then some e.2 else kK k T
theorem tk {k:List UInt8}:∀{T:List (List UInt8×Int)},kK k T=none↔∀e∈T,k≠e.1
 |[]=>by simp[kK]
 |e::T=>by
  simp only[kK]
  by_cases h:k=e.1
  ·rw[if_pos h];simp[h]
  ·rw[if_neg h,tk];simp[h]
structure jg (s:aq) (r:Nat) (T:List (List UInt8×Int)):Prop where
 lt:r<s.next
 map:s.dp r=some (wG T)
theorem jg.keeps {s s' :aq}{r:Nat}{T:List (List UInt8×Int)}(h:jg s r T)(k:ar s.next s s'):jg s' r T:=by
 refine⟨Nat.lt_of_lt_of_le h.lt k.next,?_⟩
 have:=h.map
 simp only[aq.dp,k.get r h.lt] at this|-
 exact this
theorem jg.turns {s s' :aq}{r:Nat}{T:List (List UInt8×Int)}{u:Value}(h:jg s r T)(k:aY u s s')(ck:aE u≠some r):jg s' r T:=by
 refine⟨Nat.lt_of_lt_of_le h.lt k.next,?_⟩
 have:=h.map
 simp only[aq.dp,k.get r h.lt ck] at this|-
 exact this
section
variable {P:Program} {t kt et:TypeId}
theorem Ge (hk:P.underlying kt=some .string)(a b:List UInt8):yP P kt (.string ⟨a.toArray⟩) (.string ⟨b.toArray⟩)=some (decide (a=b)):=by
 unfold yP;rw[hk]
 simp only
 congr 1
 by_cases h:a=b
 ·subst h;simp
 ·simp[h]
theorem Gf (hk:P.underlying kt=some .string)(k:List UInt8):∀T:List (List UInt8×Int),AV P kt (.string ⟨k.toArray⟩) (wG T)=some ((kK k T).map fun v=> .int .i64 v)
 |[]=>rfl
 |e::T=>by
  show(match yP P kt (.string ⟨k.toArray⟩) (.string ⟨e.1.toArray⟩) with
   |some true=>some (some (Value.int .i64 e.2))
   |some false=>AV P kt (.string ⟨k.toArray⟩) (wG T)
   |none=>none)=_
  rw[Ge hk]
  by_cases h:k=e.1
  ·simp[h,kK]
  ·simp only[h,decide_false,kK,if_false];exact Gf hk k T
theorem J1 (hk:P.underlying kt=some .string)(k:List UInt8)(v:Int):∀T:List (List UInt8×Int),kK k T=none->LU P kt (.string ⟨k.toArray⟩) (.int .i64 v) (wG T)=some (wG (T++[(k,v)]))
 |[],_=>rfl
 |e::T,hn=>by
  simp only[kK] at hn
  have h:¬k=e.1:=fun q=>by rw[if_pos q] at hn;cases hn
  rw[if_neg h] at hn
  show(match yP P kt (.string ⟨k.toArray⟩) (.string ⟨e.1.toArray⟩) with
   |some true=>some ((Value.string ⟨e.1.toArray⟩,Value.int .i64 v)::wG T)
   |some false=>
    match LU P kt (.string ⟨k.toArray⟩) (.int .i64 v) (wG T) with
    |some l=>some ((Value.string ⟨e.1.toArray⟩,Value.int .i64 e.2)::l)
    |none=>none
   |none=>none)=_
  rw[Ge hk]
  simp only[h,decide_false]
  rw[J1 hk k v T hn]
  rfl
theorem jg.lookup (hu:P.underlying t=some (.map kt et))(hk:P.underlying kt=some .string)(hz:bW P et=some (.int .i64 0)){s:aq}{r:Nat}{T:List (List UInt8×Int)}(h:jg s r T)(k:List UInt8):
  mo P s t (.map (some r)) (.string ⟨k.toArray⟩) true=some (.tuple #[.int .i64 ((kK k T).getD 0),.bool (kK k T).isSome]):=by
 unfold mo
 rw[hu]
 have rK:jn P kt (.string ⟨k.toArray⟩)=true:=by unfold jn;rw[hk]
 have hp:bP (.int .i64 0)=true:=rfl
 simp only[hz,rK,hp,if_true,h.map,Gf hk]
 cases kK k T<;>rfl
theorem jg.len (hu:P.underlying t=some (.map kt et)){s:aq}{r:Nat}{T:List (List UInt8×Int)}(h:jg s r T):bh P s t (.map (some r))=some (.int .i64 T.length):=by
 unfold bh
 rw[hu]
 simp only[h.map]
 simp[wG]
theorem jg.update (hu:P.underlying t=some (.map kt et))(hk:P.underlying kt=some .string){s:aq}{r:Nat}{T:List (List UInt8×Int)}(h:jg s r T)(k:List UInt8)(v:Int)(hn:kK k T=none):
  ∃s',fy P s t (.map (some r)) (.string ⟨k.toArray⟩) (.int .i64 v)=some s' /\jg s' r (T++[(k,v)])/\s'.next=s.next/\∀j,j≠r->s'.heap.get j=s.heap.get j:=by
 have rK:jn P kt (.string ⟨k.toArray⟩)=true:=by unfold jn;rw[hk]
 refine⟨s.put r (.map (wG (T++[(k,v)]))),?_,⟨by simpa [aq.put] using h.lt,?_⟩,rfl,fun j hj=>aq.bD _ _ _ _ (Ne.symm hj)⟩
 ·unfold fy
  rw[hu]
  simp only[h.map,rK,J1 hk k v T hn]
 ·simp only[aq.dp,aq.put,Tr.bp _ _ _ _ (deep (by omega))]
end
section
variable {P:Program} {lib:az} {all r:List Oper} {f:aT} {s:aq} {d:Option Tmp} {Q:aT->aq->Prop}
theorem An {t kt et:TypeId}(hu:P.underlying t=some (.map kt et))(hk:P.underlying kt=some .string){q:Nat}{T:List (List UInt8×Int)}(h:jg s q T)(k:List UInt8)(v:Int)(hn:kK k T=none)
  (K:∀s',jg s' q (T++[(k,v)])->s'.next=s.next->(∀j,j≠q->s'.heap.get j=s.heap.get j)->dI P lib all r f s d Q (some (.val undef s'))):dI P lib all r f s d Q (AY (fy P s t (.map (some q)) (.string ⟨k.toArray⟩) (.int .i64 v))):=by
 obtain⟨s',h1,h2,h3,h4⟩:=h.update hu hk k v hn
 rw[h1,g7]
 exact K s' h2 h3 h4
end
end Go.Cl
namespace Go.Cl.Lz
abbrev rp:=List (List UInt8×Int)
def ext (T:rp)(b:List UInt8):Nat->Nat->Int->Nat×Int
 |0,n,c=>(n,c)
 |k+1,n,c=>
  match kK (b.take (n+1)) T with
  |some x=>ext T b k (n+1) x
  |none=>(n,c)
def cS (b:List UInt8):rp->Nat×Int->Nat×Int
 |[],p=>p
 |e::T,p=>cS b T (if p.1<e.1.length/\b.take e.1.length=e.1 then(e.1.length,e.2) else p)
structure gh (T:rp):Prop where
 two:∀e∈T,2<=e.1.length
 pre:∀e∈T,2<e.1.length->∃x,(e.1.dropLast,x)∈T
 one:∀e∈T,∀e' ∈T,e.1=e'.1->e=e'
theorem ym {k:List UInt8}{v:Int}:∀{T:rp},kK k T=some v->(k,v)∈T
 |[],h=>by cases h
 |e::T,h=>by
  simp only[kK] at h
  by_cases q:k=e.1
  ·rw[if_pos q] at h;injection h with h;subst h;subst q;exact List.mem_cons_self ..
  ·rw[if_neg q] at h;exact List.mem_cons_of_mem _ (ym h)
theorem gh.kK {T:rp}(h:gh T){k:List UInt8}{v:Int}(hm:(k,v)∈T):Go.Cl.kK k T=some v:=by
 cases hs:Go.Cl.kK k T with
 |none=>exact absurd rfl (tk.mp hs _ hm)
 |some w=>
  have:=h.one _ (ym hs) _ hm rfl
  injection this with _ e;rw[e]
theorem gh.down {T:rp}(h:gh T){b:List UInt8}:∀(d:Nat) (e:List UInt8×Int) (m:Nat),e∈T->b.take e.1.length=e.1->2<=m->m+d=e.1.length->∃x,(b.take m,x)∈T:=by
 intro d
 induction d with
 |zero=>intro e m he hb _ hm;exact⟨e.2,by rw[show m=e.1.length by omega,hb];exact he⟩
 |succ d ih=>
  intro e m he hb h2 hm
  obtain⟨x,hx⟩:=h.pre e he (by omega)
  have hl:e.1.dropLast.length=e.1.length-1:=List.length_dropLast
  refine ih (e.1.dropLast,x) m hx ?_ h2 (by show m+d=e.1.dropLast.length;omega)
  show b.take e.1.dropLast.length=e.1.dropLast
  rw[hl,List.dropLast_eq_take]
  conv=>rhs;rw[<-hb]
  rw[List.take_take,Nat.min_eq_left (by rw[hb];omega),hb]
def wI (T:rp)(b:List UInt8)(c0:Int)(p:Nat×Int):Prop:=(p=(1,c0))\/(2<=p.1/\(b.take p.1,p.2)∈T/\p.1<=b.length)
def Rm (T:rp)(b:List UInt8)(n:Nat):Prop:=∀e∈T,b.take e.1.length=e.1->e.1.length<=n
theorem Rn {T:rp}(h:gh T){b:List UInt8}{c0:Int}{p q:Nat×Int}(hp:wI T b c0 p)(hq:wI T b c0 q)(hm:Rm T b p.1)(hn:Rm T b q.1):p=q:=by
 have aux:∀{p q:Nat×Int},wI T b c0 p->Rm T b q.1->wI T b c0 q->p.1<=q.1:=by
  intro p q hp hn hq
  rcases hp with rfl|⟨h2,o7,hl⟩
  ·rcases hq with rfl|⟨h2,_⟩
   ·exact Nat.le_refl _
   ·show 1<=q.1;omega
  ·have:=hn _ o7 (by show b.take (b.take p.1).length=b.take p.1;rw[List.length_take,Nat.min_eq_left hl])
   have e:(b.take p.1).length=p.1:=by rw[List.length_take];omega
   simp only[e] at this;exact this
 have h1:=aux hp hn hq
 have h2:=aux hq hm hp
 have e1:p.1=q.1:=by omega
 rcases hp with rfl|⟨a1,a2,a3⟩
 ·rcases hq with rfl|⟨b1,b2,b3⟩
  ·rfl
  ·simp only at e1;omega
 ·rcases hq with rfl|⟨b1,b2,b3⟩
  ·simp only at e1;omega
  ·rw[e1] at a2
   have:=h.one _ a2 _ b2 rfl
   injection this with _ e2
   exact Prod.ext e1 e2
theorem Ro {T:rp}(h:gh T){b:List UInt8}{c0:Int}:∀(k n:Nat) (c:Int),n+k=b.length->1<=n->wI T b c0 (n,c)->wI T b c0 (ext T b k n c)/\Rm T b (ext T b k n c).1:=by
 intro k
 induction k with
 |zero=>
  intro n c hk h1 hs
  refine⟨hs,fun e he hb=> ?_⟩
  show e.1.length<=n
  have:e.1.length<=b.length:=by rw[<-hb,List.length_take];omega
  omega
 |succ k ih=>
  intro n c hk h1 hs
  rw[ext]
  cases hx:Go.Cl.kK (b.take (n+1)) T with
  |some x=>exact ih (n+1) x (by omega) (by omega) (.inr ⟨by show 2<=n+1;omega,ym hx,by show n+1<=b.length;omega⟩)
  |none=>
   refine⟨hs,fun e he hb=> ?_⟩
   show e.1.length<=n
   rcases Nat.lt_or_ge n e.1.length with q|q
   ·obtain⟨x,kv⟩:=h.down (e.1.length-(n+1)) e (n+1) he hb (by omega) (by omega)
    exact absurd rfl (tk.mp hx _ kv)
   ·exact q
theorem nn {b:List UInt8}{c0:Int}{A:rp}:∀(T:rp) (p:Nat×Int),(∀e∈T,e∈A)->(∀e∈T,2<=e.1.length)->wI A b c0 p->wI A b c0 (cS b T p)/\p.1<=(cS b T p).1/\Rm T b (cS b T p).1
 |[],p,_,_,hs=>⟨hs,Nat.le_refl _,fun e he=>by cases he⟩
 |e::T,p,hA,h2,hs=>by
  have hA' :=fun x hx=>hA x (List.mem_cons_of_mem _ hx)
  have Zf:=fun x hx=>h2 x (List.mem_cons_of_mem _ hx)
  have he:=hA e (List.mem_cons_self ..)
  have yj:=h2 e (List.mem_cons_self ..)
  rw[cS]
  by_cases q:p.1<e.1.length/\b.take e.1.length=e.1
  ·rw[if_pos q]
   have lj:e.1.length<=b.length:=by
    have:=congrArg List.length q.2
    rw[List.length_take] at this;omega
   obtain⟨g1,g2,g3⟩:=nn T (e.1.length,e.2) hA' Zf (.inr ⟨yj,by show(b.take e.1.length,e.2)∈A;rw[q.2];exact he,lj⟩)
   refine⟨g1,by have:=q.1;simp only at g2;omega,fun x hx hb=> ?_⟩
   rcases List.mem_cons.mp hx with rfl|hx
   ·exact g2
   ·exact g3 x hx hb
  ·rw[if_neg q]
   obtain⟨g1,g2,g3⟩:=nn T p hA' Zf hs
   refine⟨g1,g2,fun x hx hb=> ?_⟩
   rcases List.mem_cons.mp hx with rfl|hx
   ·rcases Nat.lt_or_ge p.1 x.1.length with r|r
    ·exact absurd ⟨r,hb⟩ q
    ·omega
   ·exact g3 x hx hb
theorem Uo {T:rp}(h:gh T){b:List UInt8}(hb:b≠[])(c0:Int):ext T b (b.length-1) 1 c0=cS b T (1,c0):=by
 have hl:0<b.length:=List.length_pos_iff.mpr hb
 obtain⟨e1,e2⟩:=Ro h (b:=b) (c0:=c0) (b.length-1) 1 c0 (by omega) (Nat.le_refl _) (.inl rfl)
 obtain⟨g1,_,g3⟩:=nn (A:=T) (c0:=c0) T (1,c0) (fun _ h=>h) h.two (.inl rfl)
 exact Rn h e1 g1 e2 g3
theorem gh.more {T:rp}(h:gh T){b:List UInt8}{c0 x:Int}{p:Nat×Int}(hs:wI T b c0 p)(hm:Rm T b p.1)(hp:p.1<b.length):Go.Cl.kK (b.take (p.1+1)) T=none/\gh (T++[(b.take (p.1+1),x)]):=by
 have hlen:(b.take (p.1+1)).length=p.1+1:=by rw[List.length_take];omega
 have hn:∀e∈T,b.take (p.1+1)≠e.1:=by
  intro e he q
  have:=hm e he (by rw[<-q,hlen])
  rw[<-q,hlen] at this;omega
 have h1:1<=p.1:=by
  rcases hs with rfl|⟨a,_⟩
  ·exact Nat.le_refl _
  ·omega
 refine⟨tk.mpr hn,⟨fun e he=> ?_,fun e he hl=> ?_,fun e he e' Ad q=> ?_⟩⟩
 ·rcases List.mem_append.mp he with he|he
  ·exact h.two e he
  ·rw[List.mem_singleton] at he;subst he;show 2<=(b.take (p.1+1)).length;omega
 ·rcases List.mem_append.mp he with he|he
  ·obtain⟨y,hy⟩:=h.pre e he hl
   exact⟨y,List.mem_append_left _ hy⟩
  ·rw[List.mem_singleton] at he;subst he
   simp only[hlen] at hl
   rcases hs with rfl|⟨a1,a2,a3⟩
   ·simp only at hl;omega
   ·refine⟨p.2,List.mem_append_left _ ?_⟩
    have:(b.take (p.1+1)).dropLast=b.take p.1:=by
     rw[List.dropLast_eq_take,hlen,List.take_take];congr 1;omega
    show((b.take (p.1+1)).dropLast,p.2)∈T
    rw[this];exact a2
 ·rcases List.mem_append.mp he with he|he<;>rcases List.mem_append.mp Ad with Ad|Ad
  ·exact h.one e he e' Ad q
  ·rw[List.mem_singleton] at Ad;subst Ad;exact absurd q.symm (hn e he)
  ·rw[List.mem_singleton] at he;subst he;exact absurd q (hn e' Ad)
  ·rw[List.mem_singleton] at he Ad;subst he;subst Ad;rfl
theorem gh.nil:gh []:=⟨fun e h=>by(cases h),fun e h=>by(cases h),fun e h=>by(cases h)⟩
end Go.Cl.Lz
namespace Go.Cl.Lz
def width (next:Nat):Nat:=if next<511 then 9 else if next<1023 then 10 else if next<2047 then 11 else 12
theorem pE (n:Nat):9<=width n/\width n<=12:=by unfold width;repeat (first|(split;all_goals try omega)|omega)
def dh (c:Nat):Nat->List Nat
 |0=>[]
 |w+1=>c/2^w%2::dh c w
theorem cT (c:Nat):∀w,(dh c w).length=w
 |0=>rfl
 |w+1=>by simp[dh,cT c w]
theorem mN (c:Nat):∀w,∀x∈dh c w,x<2
 |0,x,h=>by cases h
 |w+1,x,h=>by
  rcases List.mem_cons.mp h with rfl|h
  ·exact Nat.mod_lt _ (by omega)
  ·exact mN c w x h
def fN (l:List Nat):UInt8:=UInt8.ofNat (l.getD 0 0*128+l.getD 1 0*64+l.getD 2 0*32+l.getD 3 0*16+l.getD 4 0*8+l.getD 5 0*4+l.getD 6 0*2+l.getD 7 0)
def pack (l:List Nat):List UInt8:=
 if _h:l=[] then [] else fN l::pack (l.drop 8)
termination_by l.length
decreasing_by
 have:0<l.length:=List.length_pos_iff.mpr _h
 rw[List.length_drop];omega
theorem sH:pack []=[]:=by rw[pack];simp
theorem tl {l:List Nat}(h:l≠[]):pack l=fN l::pack (l.drop 8):=by rw[pack,dif_neg h]
def enc:Nat->List UInt8->rp->Nat->Bool->List Nat
 |0,_,_,rd,_=>dh 257 (width rd)
 |k+1,b,T,rd,fst=>
  if b=[] then dh 257 (width rd)
  else
   let p:=cS b T (1,((b.getD 0 0).toNat:Int))
   let rd' :=if fst then rd else min (rd+1) 4096
   dh p.2.toNat (width rd)++
    (if p.1<b.length then
     (if 258+T.length=4095 then dh 256 (width rd')++enc k (b.drop p.1) [] 258 true
     else enc k (b.drop p.1) (T++[(b.take (p.1+1),((258+T.length:Nat):Int))]) rd' false)
    else enc k (b.drop p.1) T rd' false)
def Gg (b:List UInt8):List UInt8:=pack (dh 256 9++enc (b.length+1) b [] 258 true)
end Go.Cl.Lz
namespace Go.Cl.Lz
open Go.Cl.Rw
def CO (l:List Nat):Nat->Nat
 |0=>0
 |k+1=>CO l k+l.getD (7-k) 0*2^k
theorem Pf {l:List Nat}(h:∀i,l.getD i 0<2):∀k,CO l k<2^k
 |0=>by simp[CO]
 |k+1=>by
  have h1:=Pf h k
  have h2:=h (7-k)
  have h3:l.getD (7-k) 0=0\/l.getD (7-k) 0=1:=by omega
  simp only[CO,Nat.pow_succ]
  rcases h3 with q|q<;>rw[q]<;>omega
theorem Up (l:List Nat):UInt8.ofNat (CO l 8)=fN l:=by
 unfold fN
 congr 1
 simp only[CO,Nat.reducePow,Nat.reduceSub]
 omega
def pF (B:List UInt8)(l:List Nat)(k:Nat):List UInt8×Nat:=(if k=0 then B else B++[UInt8.ofNat (CO l k)],8*B.length+k)
theorem abB {v b k:Nat}(hv:v<2^k)(hb:b<2)(hk:k<8):(UInt8.ofNat v|||UInt8.ofNat (b*2^k))=UInt8.ofNat (v+b*2^k):=by
 apply UInt8.toNat_inj.mp
 have hp:2^k<=2^7:=Nat.pow_le_pow_right (by omega) (by omega)
 have LN:(2:Nat)^7=128:=by decide
 have hx:b=0\/b=1:=by omega
 have hbk:b*2^k<=128:=by rcases hx with rfl|rfl<;>(generalize 2^k=q at*;omega)
 rw[UInt8.toNat_or,UInt8.toNat_ofNat',UInt8.toNat_ofNat',UInt8.toNat_ofNat',Nat.mod_eq_of_lt (by omega),Nat.mod_eq_of_lt (by omega),Nat.mod_eq_of_lt (by omega)]
 have:=Nat.shiftLeft_add_eq_or_of_lt (i:=k) (b:=v) hv b
 rw[Nat.shiftLeft_eq] at this
 rw[Nat.or_comm,<-this,Nat.add_comm]
theorem MP {B:List UInt8}{l:List Nat}(h:∀i,l.getD i 0<2){k:Nat}(hk:k<8):nh (pF B l k) ((l.getD (7-k) 0:Nat):Int)=pF B l (k+1):=by
 have cY:room (pF B l k)=B++[UInt8.ofNat (CO l k)]:=by
  unfold room pF
  by_cases hz:k=0
  ·subst hz;simp[CO]
  ·have:¬(8*B.length+k)%8=0:=by omega
   simp only[if_neg this,if_neg hz]
 have hi:(pF B l k).2/8=B.length:=by show(8*B.length+k)/8=_;omega
 have hm:(pF B l k).2%8=k:=by show(8*B.length+k)%8=_;omega
 have hb:=h (7-k)
 have hv:=Pf h k
 have hx:((((l.getD (7-k) 0:Nat):Int))%2).toNat=l.getD (7-k) 0:=by omega
 unfold nh
 rw[cY,hi,hm]
 have hg:(B++[UInt8.ofNat (CO l k)]).getD B.length 0=UInt8.ofNat (CO l k):=by
  rw[List.getD_eq_getElem?_getD,List.getElem?_append_right (Nat.le_refl _),Nat.sub_self];rfl
 rw[hg]
 unfold Eo
 rw[hx,abB hv hb hk]
 unfold pF
 rw[if_neg (by omega:¬k+1=0),List.set_append_right _ _ (Nat.le_refl _),Nat.sub_self]
 rfl
theorem J2 (B:List UInt8)(l:List Nat):pF B l 8=(B++[fN l],8*(B++[fN l]).length):=by
 unfold pF
 rw[if_neg (by omega),Up,List.length_append]
 rfl
end Go.Cl.Lz
namespace Go.Cl.Lz
def Gh (p:List UInt8×List Nat)(b:Nat):List UInt8×List Nat:=if p.2.length=7 then(p.1++[fN (p.2++[b])],[]) else(p.1,p.2++[b])
theorem MQ {l:List Nat}:fN (l.take 8)=fN l:=by
 have h:∀i,i<8->(l.take 8).getD i 0=l.getD i 0:=fun i hi=>by
  rw[List.getD_eq_getElem?_getD,List.getD_eq_getElem?_getD,List.getElem?_take,if_pos hi]
 unfold fN
 rw[h 0 (by omega),h 1 (by omega),h 2 (by omega),h 3 (by omega),h 4 (by omega),h 5 (by omega),h 6 (by omega),h 7 (by omega)]
theorem Rp {l:List Nat}(h:l.length=8)(r:List Nat):pack (l++r)=fN l::pack r:=by
 have ck:l++r≠[]:=by intro e;have:=congrArg List.length e;rw[List.length_append,List.length_nil] at this;omega
 rw[tl ck]
 have e1:fN (l++r)=fN l:=by rw[<-MQ (l:=l++r),<-h,List.take_left]
 have e2:(l++r).drop 8=r:=by rw[<-h,List.drop_left]
 rw[e1,e2]
theorem uW:∀(L:List Nat) (p:List UInt8×List Nat),p.2.length<=7->(L.foldl Gh p).1++pack (L.foldl Gh p).2=p.1++pack (p.2++L)/\(L.foldl Gh p).2.length<=7
 |[],p,h=>⟨by simp,h⟩
 |b::L,p,h=>by
  rw[List.foldl_cons]
  unfold Gh
  by_cases q:p.2.length=7
  ·rw[if_pos q]
   obtain⟨g1,g2⟩:=uW L (p.1++[fN (p.2++[b])],[]) (by simp)
   refine⟨?_,g2⟩
   unfold Gh at g1
   rw[g1]
   have e:p.2++b::L=(p.2++[b])++L:=by simp
   show(p.1++[fN (p.2++[b])])++pack ([]++L)=p.1++pack (p.2++b::L)
   rw[e,Rp (l:=p.2++[b]) (by rw[List.length_append,q];rfl),List.nil_append,List.append_assoc]
   rfl
  ·rw[if_neg q]
   obtain⟨g1,g2⟩:=uW L (p.1,p.2++[b]) (by simp;omega)
   refine⟨?_,g2⟩
   unfold Gh at g1
   rw[g1]
   simp
theorem MR (B:List Nat)(k i:Nat):(B++List.replicate k 0).getD i 0=B.getD i 0:=by
 rw[List.getD_eq_getElem?_getD,List.getD_eq_getElem?_getD]
 by_cases h:i<B.length
 ·rw[List.getElem?_append_left h]
 ·rw[List.getElem?_append_right (by omega),List.getElem?_eq_none (l:=B) (by omega),List.getElem?_replicate]
  split<;>rfl
theorem J3 (B:List Nat)(k:Nat):fN (B++List.replicate k 0)=fN B:=by
 unfold fN
 simp only[MR]
theorem uX {B:List Nat}(h:B≠[])(h7:B.length<=8):pack B=[fN B]:=by
 rw[tl h,List.drop_eq_nil_of_le (by omega),sH]
end Go.Cl.Lz
namespace Go.Cl.Lz
theorem AE:∀(k:Nat) (b:List UInt8) (T:rp) (rd:Nat) (fst:Bool),∀x∈enc k b T rd fst,x<2
 |0,b,T,rd,fst=>mN _ _
 |k+1,b,T,rd,fst=>by
  intro x hx
  rw[enc] at hx
  split at hx
  ·exact mN _ _ x hx
  ·simp only at hx
   rcases List.mem_append.mp hx with hx|hx
   ·exact mN _ _ x hx
   ·split at hx
    ·split at hx
     ·rcases List.mem_append.mp hx with hx|hx
      ·exact mN _ _ x hx
      ·exact AE k _ _ _ _ x hx
     ·exact AE k _ _ _ _ x hx
    ·exact AE k _ _ _ _ x hx
theorem og (c n:Nat):(dh c (width n)).length<=12:=by rw[cT];exact(pE n).2
structure Good (T:rp):Prop where
 closed:gh T
 lo:∀e∈T,258<=e.2/\e.2<4096
 len:T.length<3838
theorem Good.nil:Good []:=⟨gh.nil,fun e h=>by(cases h),by simp⟩
structure Found (T:rp) (b:List UInt8) (p:Nat×Int):Prop where
 eq:ext T b (b.length-1) 1 ((b.getD 0 0).toNat:Int)=p
 one:1<=p.1
 le:p.1<=b.length
 lo:0<=p.2
 hi:p.2<4096
 n6:p.2≠256
 n7:p.2≠257
 kK:p.1<b.length->Go.Cl.kK (b.take (p.1+1)) T=none
 more:p.1<b.length->258+T.length≠4095->Good (T++[(b.take (p.1+1),((258+T.length:Nat):Int))])
theorem Good.found {T:rp}(h:Good T){b:List UInt8}(hb:b≠[]):Found T b (cS b T (1,((b.getD 0 0).toNat:Int))):=by
 have hl:0<b.length:=List.length_pos_iff.mpr hb
 obtain⟨g1,g2,g3⟩:=nn (A:=T) (c0:=((b.getD 0 0).toNat:Int)) T (1,((b.getD 0 0).toNat:Int)) (fun _ h=>h) h.closed.two (.inl rfl)
 obtain⟨p,hp⟩:∃p,p=cS b T (1,((b.getD 0 0).toNat:Int)):=⟨_,rfl⟩
 have he:=Uo h.closed hb ((b.getD 0 0).toNat:Int)
 rw[<-hp] at g1 g2 g3 he|-
 have J4:((b.getD 0 0).toNat:Int)<256:=by have:=(b.getD 0 0).toNat_lt;omega
 have hm:=fun q=>h.closed.more (x:=((258+T.length:Nat):Int)) g1 g3 q
 have S8:1<=p.1/\p.1<=b.length/\0<=p.2/\p.2<4096/\p.2≠256/\p.2≠257:=by
  rcases g1 with e|⟨a1,a2,a3⟩
  ·rw[e];simp only;omega
  ·have:=h.lo _ a2
   simp only at this
   omega
 refine⟨he,S8.1,S8.2.1,S8.2.2.1,S8.2.2.2.1,S8.2.2.2.2.1,S8.2.2.2.2.2,fun q=>(hm q).1,fun q r=>⟨(hm q).2,fun e hx=> ?_,?_⟩⟩
 ·rcases List.mem_append.mp hx with hx|hx
  ·exact h.lo e hx
  ·rw[List.mem_singleton] at hx;subst hx
   have:=h.len
   simp only;omega
 ·have:=h.len
  simp only[List.length_append,List.length_singleton];omega
theorem Pg (k:Nat)(T:rp)(rd:Nat)(fst:Bool):enc k [] T rd fst=dh 257 (width rd):=by
 cases k with
 |zero=>rw[enc]
 |succ k=>rw[enc,if_pos rfl]
def pG (rd:Nat)(fst:Bool):Nat:=if fst then rd else min (rd+1) 4096
theorem Ph {k:Nat}{b:List UInt8}(hb:b≠[]){T:rp}{rd:Nat}{fst:Bool}{p:Nat×Int}(hp:p=cS b T (1,((b.getD 0 0).toNat:Int)))(h:¬p.1<b.length):enc (k+1) b T rd fst=dh p.2.toNat (width rd)++enc k (b.drop p.1) T (pG rd fst) false:=by
 rw[enc,if_neg hb];simp only;rw[<-hp,if_neg h];rfl
theorem J5 {k:Nat}{b:List UInt8}(hb:b≠[]){T:rp}{rd:Nat}{fst:Bool}{p:Nat×Int}(hp:p=cS b T (1,((b.getD 0 0).toNat:Int)))(h:p.1<b.length)(hx:258+T.length≠4095):enc (k+1) b T rd fst=dh p.2.toNat (width rd)++enc k (b.drop p.1) (T++[(b.take (p.1+1),((258+T.length:Nat):Int))]) (pG rd fst) false:=by
 rw[enc,if_neg hb];simp only;rw[<-hp,if_pos h,if_neg hx];rfl
theorem Gi {k:Nat}{b:List UInt8}(hb:b≠[]){T:rp}{rd:Nat}{fst:Bool}{p:Nat×Int}(hp:p=cS b T (1,((b.getD 0 0).toNat:Int)))(h:p.1<b.length)(hx:258+T.length=4095):enc (k+1) b T rd fst=dh p.2.toNat (width rd)++(dh 256 (width (pG rd fst))++enc k (b.drop p.1) [] 258 true):=by
 rw[enc,if_neg hb];simp only;rw[<-hp,if_pos h,if_pos hx];rfl
theorem XU {rd:Nat}(h:rd<=4096)(fst:Bool):pG rd fst<=4096:=by unfold pG;split<;>omega
def np (b:List UInt8):List Nat:=dh 256 9++enc (b.length+1) b [] 258 true
theorem J6 (b:List UInt8):∀x∈np b,x<2:=fun x hx=>by
 rcases List.mem_append.mp hx with hx|hx
 ·exact mN _ _ x hx
 ·exact AE _ _ _ _ _ x hx
theorem wJ:∀(k:Nat) (b:List UInt8) (T:rp) (rd:Nat) (fst:Bool),(enc k b T rd fst).length<=13*k+T.length+12
 |0,b,T,rd,fst=>by rw[enc];have:=og 257 rd;omega
 |k+1,b,T,rd,fst=>by
  rw[enc]
  split
  ·have:=og 257 rd;omega
  ·simp only
   rw[List.length_append]
   have h1:=og (cS b T (1,((b.getD 0 0).toNat:Int))).2.toNat rd
   split
   ·split
    ·rw[List.length_append]
     have h2:=og 256 (if fst=true then rd else min (rd+1) 4096)
     have h3:=wJ k (b.drop (cS b T (1,((b.getD 0 0).toNat:Int))).1) [] 258 true
     simp only[List.length_nil] at h3
     omega
    ·have h3:=wJ k (b.drop (cS b T (1,((b.getD 0 0).toNat:Int))).1) (T++[(b.take ((cS b T (1,((b.getD 0 0).toNat:Int))).1+1),((258+T.length:Nat):Int))]) (if fst=true then rd else min (rd+1) 4096) false
     rw[List.length_append,List.length_singleton] at h3
     omega
   ·have h3:=wJ k (b.drop (cS b T (1,((b.getD 0 0).toNat:Int))).1) T (if fst=true then rd else min (rd+1) 4096) false
    omega
theorem Gj (b:List UInt8):(np b).length<=13*b.length+34:=by
 unfold np
 rw[List.length_append,cT]
 have:=wJ (b.length+1) b [] 258 true
 simp only[List.length_nil] at this
 omega
theorem J7 (b:List UInt8):(np b).length<=24*b.length+45:=by
 have:=Gj b
 omega
end Go.Cl.Lz
namespace Go.Cl.Runs
theorem pH (l:List UInt8)(i j:Nat):(l.drop i).getD j 0=l.getD (i+j) 0:=by simp[List.getD]
theorem Pj {l:List UInt8}{i:Nat}(h:i<l.length):l.getD i 0=l[i]:=by simp[List.getD,List.getElem?_eq_getElem h]
theorem drop_cons {l:List UInt8}{i:Nat}(h:i<l.length):l.drop i=l.getD i 0::l.drop (i+1):=by
 rw[Pj h];exact List.drop_eq_getElem_cons h
theorem HZ (p:UInt8->Bool):∀(m:List UInt8) (n:Nat),n<=m.length->(∀j,j<n->p (m.getD j 0)=true)->n<=(m.takeWhile p).length:=by
 intro m
 induction m with
 |nil=>intro n h _;simpa using h
 |cons c r ih=>
  intro n h hp
  cases n with
  |zero=>omega
  |succ n=>
   have h0:=hp 0 (by omega)
   have hc:p c=true:=h0
   rw[List.takeWhile_cons,if_pos hc]
   simp only[List.length_cons] at h|-
   have:=ih n (by omega) (fun j hj=>hp (j+1) (by omega))
   omega
theorem takeWhile_eq (p:UInt8->Bool):∀(m:List UInt8) (n:Nat),n<=m.length->(∀j,j<n->p (m.getD j 0)=true)->(n=m.length\/p (m.getD n 0)=false)->(m.takeWhile p).length=n:=by
 intro m
 induction m with
 |nil=>intro n h _ _;simp at h;simp[h]
 |cons c r ih=>
  intro n h hp he
  cases n with
  |zero=>
   rcases he with he|he
   ·simp at he
   ·have hc:p c=false:=he
    rw[List.takeWhile_cons,hc];simp
  |succ n=>
   have hc:p c=true:=hp 0 (by omega)
   rw[List.takeWhile_cons,if_pos hc]
   simp only[List.length_cons] at h|-
   rw[ih n (by omega) (fun j hj=>hp (j+1) (by omega)) (by
    rcases he with he|he
    ·left;simp only[List.length_cons] at he;omega
    ·right;exact he)]
theorem Ew (p:UInt8->Bool):∀(m:List UInt8) (j:Nat),j<(m.takeWhile p).length->p (m.getD j 0)=true:=by
 intro m
 induction m with
 |nil=>intro j h;simp at h
 |cons c r ih=>
  intro j h
  rw[List.takeWhile_cons] at h
  split at h
  ·rename_i hc
   cases j with
   |zero=>exact hc
   |succ j=>exact ih j (by simpa using h)
  ·simp at h
def rowOf (l:List UInt8):Nat:=min 128 (l.takeWhile (fun x=>x==l.getD 0 0)).length
theorem nq (l:List UInt8):rowOf l<=l.length:=by
 unfold rowOf
 have:(l.takeWhile (fun x=>x==l.getD 0 0)).length<=l.length:=(List.takeWhile_sublist _).length_le
 omega
theorem lA (l:List UInt8):rowOf l<=128:=by unfold rowOf;omega
theorem Rq (l:List UInt8)(j:Nat)(h:j<rowOf l):l.getD j 0=l.getD 0 0:=by
 unfold rowOf at h
 simpa using Ew (fun x=>x==l.getD 0 0) l j (by omega)
theorem Uq {l:List UInt8}{i n:Nat}(hn:n<=128)(hi:i+n<=l.length)(h:∀j,j<n->l.getD (i+j) 0=l.getD i 0)(he:n=128\/i+n=l.length\/l.getD (i+n) 0≠l.getD i 0):rowOf (l.drop i)=n:=by
 unfold rowOf
 have h0:(l.drop i).getD 0 0=l.getD i 0:=by rw[pH];rfl
 rw[h0]
 have hp:∀j,j<n->(fun x=>x==l.getD i 0) ((l.drop i).getD j 0)=true:=fun j hj=>by rw[pH];simp only[beq_iff_eq];exact h j hj
 rcases he with he|he
 ·have:=HZ (fun x=>x==l.getD i 0) (l.drop i) n (by rw[List.length_drop];omega) hp
  omega
 ·have:=takeWhile_eq (fun x=>x==l.getD i 0) (l.drop i) n (by rw[List.length_drop];omega) hp (by
   rcases he with he|he
   ·left;rw[List.length_drop];omega
   ·right;rw[pH];simpa using he)
  omega
def gk (l:List UInt8):Nat->Nat->Nat
 |0,k=>k
 |f+1,k=>if k<l.length/\rowOf (l.drop k)<3 then gk l f (k+1) else k
def cJ (l:List UInt8):Nat:=gk l 127 1
theorem CP (l:List UInt8):∀(f k:Nat),k<=gk l f k/\gk l f k<=k+f:=by
 intro f
 induction f with
 |zero=>intro k;simp[gk]
 |succ f ih=>
  intro k
  unfold gk
  split
  ·have:=ih (k+1);omega
  ·omega
theorem MS (l:List UInt8):∀(f k:Nat),k<=l.length->gk l f k<=l.length:=by
 intro f
 induction f with
 |zero=>intro k h;simpa [gk] using h
 |succ f ih=>
  intro k h
  unfold gk
  split
  ·exact ih (k+1) (by omega)
  ·exact h
theorem jC (l:List UInt8):1<=cJ l:=(CP l 127 1).1
theorem mE (l:List UInt8):cJ l<=128:=(CP l 127 1).2
theorem pI {l:List UInt8}(h:0<l.length):cJ l<=l.length:=MS l 127 1 h
theorem Ur {l:List UInt8}{k:Nat}(hk:k<128)(h1:k<l.length)(h2:rowOf (l.drop k)<3):gk l (128-k) k=gk l (128-(k+1)) (k+1):=by
 obtain⟨f,hf⟩:∃f,128-k=f+1:=⟨127-k,by omega⟩
 rw[hf,show 128-(k+1)=f by omega,gk,if_pos ⟨h1,h2⟩]
theorem Us {l:List UInt8}{k:Nat}(hk:k<=128)(h:k=128\/l.length<=k\/3<=rowOf (l.drop k)):gk l (128-k) k=k:=by
 by_cases mv:k=128
 ·subst mv;rfl
 ·obtain⟨f,hf⟩:∃f,128-k=f+1:=⟨127-k,by omega⟩
  rw[hf,gk,if_neg (by omega)]
def encode (l:List UInt8):List UInt8:=
 if _h:l=[] then [128]
 else if 3<=rowOf l then UInt8.ofNat (257-rowOf l)::l.getD 0 0::encode (l.drop (rowOf l))
 else UInt8.ofNat (cJ l-1)::(l.take (cJ l)++encode (l.drop (cJ l)))
termination_by l.length
decreasing_by
 ·have:0<l.length:=List.length_pos_iff.mpr _h
  rw[List.length_drop];omega
 ·have:0<l.length:=List.length_pos_iff.mpr _h
  have:=jC l
  rw[List.length_drop];omega
theorem kL:encode []=[128]:=by rw[encode];simp
theorem kM {l:List UInt8}(h:l≠[])(h3:3<=rowOf l):encode l=UInt8.ofNat (257-rowOf l)::l.getD 0 0::encode (l.drop (rowOf l)):=by rw[encode,dif_neg h,if_pos h3]
theorem kN {l:List UInt8}(h:l≠[])(h3:rowOf l<3):encode l=UInt8.ofNat (cJ l-1)::(l.take (cJ l)++encode (l.drop (cJ l))):=by rw[encode,dif_neg h,if_neg (by omega)]
def room (most:Int)(out:List UInt8):Nat:=(most-out.length).toNat
def dec (most:Int)(l out:List UInt8):List UInt8×Int:=
 match l with
 |[]=>([],2)
 |n::r=>
  if n.toNat=128 then(out,0)
  else if 128<n.toNat then
   match r with
   |[]=>([],2)
   |c::r' =>if 257-n.toNat<=room most out then dec most r' (out++List.replicate (257-n.toNat) c) else([],7)
  else if r.length<n.toNat+1/\r.length<=room most out then([],2)
  else if room most out<n.toNat+1 then([],7)
  else dec most (r.drop (n.toNat+1)) (out++r.take (n.toNat+1))
termination_by l.length
decreasing_by
 ·simp;omega
 ·simp;omega
theorem Pk (most:Int)(out:List UInt8):dec most [] out=([],2):=by rw[dec]
theorem wK {most:Int}{n:UInt8}{r out:List UInt8}(h:n.toNat=128):dec most (n::r) out=(out,0):=by rw[dec.eq_def];simp[h]
theorem Ex {most:Int}{n:UInt8}{out:List UInt8}(h:128<n.toNat):dec most [n] out=([],2):=by rw[dec.eq_def];simp[show¬n.toNat=128 by omega,h]
theorem qu {most:Int}{n c:UInt8}{r out:List UInt8}(h:128<n.toNat)(hr:257-n.toNat<=room most out):dec most (n::c::r) out=dec most r (out++List.replicate (257-n.toNat) c):=by
 rw[dec.eq_def];simp only[show¬n.toNat=128 by omega,h,if_true,if_false,hr]
theorem uh {most:Int}{n c:UInt8}{r out:List UInt8}(h:128<n.toNat)(hr:room most out<257-n.toNat):dec most (n::c::r) out=([],7):=by
 rw[dec.eq_def];simp only[show¬n.toNat=128 by omega,h,if_true,if_false,show¬257-n.toNat<=room most out by omega]
theorem Ey {most:Int}{n:UInt8}{r out:List UInt8}(h:n.toNat<128)(h1:r.length<n.toNat+1)(h2:r.length<=room most out):dec most (n::r) out=([],2):=by
 rw[dec.eq_def];simp only[show¬n.toNat=128 by omega,show¬128<n.toNat by omega,if_false,h1,h2,and_self,if_true]
theorem ui {most:Int}{n:UInt8}{r out:List UInt8}(h:n.toNat<128)(h1:room most out<r.length)(h2:room most out<n.toNat+1):dec most (n::r) out=([],7):=by
 rw[dec.eq_def];simp only[show¬n.toNat=128 by omega,show¬128<n.toNat by omega,if_false,show¬(r.length<n.toNat+1/\r.length<=room most out) by omega,h2,if_true]
theorem AF {most:Int}{n:UInt8}{r out:List UInt8}(h:n.toNat<128)(h1:n.toNat+1<=r.length)(h2:n.toNat+1<=room most out):dec most (n::r) out=dec most (r.drop (n.toNat+1)) (out++r.take (n.toNat+1)):=by
 rw[dec.eq_def];simp only[show¬n.toNat=128 by omega,show¬128<n.toNat by omega,if_false,show¬(r.length<n.toNat+1/\r.length<=room most out) by omega,show¬room most out<n.toNat+1 by omega]
theorem H0:∀(n:Nat) (l:List UInt8),l.length<=n->(encode l).length<=2*l.length+1:=by
 intro n
 induction n with
 |zero=>
  intro l hl
  have:l=[]:=List.eq_nil_of_length_eq_zero (by omega)
  subst this
  rw[kL];simp
 |succ n ih=>
  intro l hl
  by_cases h:l=[]
  ·subst h;rw[kL];simp
  ·have hp:0<l.length:=List.length_pos_iff.mpr h
   by_cases h3:3<=rowOf l
   ·rw[kM h h3]
    have:=ih (l.drop (rowOf l)) (by rw[List.length_drop];omega)
    have h2:=nq l
    rw[List.length_drop] at this
    simp only[List.length_cons];omega
   ·rw[kN h (by omega)]
    have h1:=jC l
    have h2:=pI hp
    have:=ih (l.drop (cJ l)) (by rw[List.length_drop];omega)
    rw[List.length_drop] at this
    simp only[List.length_cons,List.length_append,List.length_take];omega
end Go.Cl.Runs
namespace Go.Cl.Hx
def digits:List UInt8:=[48,49,50,51,52,53,54,55,56,57,97,98,99,100,101,102]
def two (c:UInt8):List UInt8:=[digits.getD (c.toNat/16) 0,digits.getD (c.toNat%16) 0]
def yn (l:List UInt8):List UInt8:=l.flatMap two
def hex (l:List UInt8):List UInt8:=yn l++[62]
theorem Rr (l:List UInt8)(c:UInt8):yn (l++[c])=yn l++two c:=by simp[yn]
theorem MT (c:UInt8):(two c).length=2:=rfl
theorem zG (l:List UInt8):(yn l).length=2*l.length:=by
 induction l with
 |nil=>rfl
 |cons c l ih=>simp only[yn,List.flatMap_cons,List.length_append,List.length_cons] at*;rw[ih,MT];omega
theorem ajr (P:Program)(t:TypeId)(k' :IntKind)(c:UInt8):cI P .shr t (.int .u8 c.toNat) (.int k' 4)=some (.int .u8 ((c.toNat/16:Nat):Int)):=by
 rw[kZ P t .u8 _ 4 k' (by decide)]
 have:((c.toNat:Int)).fdiv (2^(min (4:Int).toNat IntKind.u8.bits))=((c.toNat/16:Nat):Int):=by
  show((c.toNat:Int)).fdiv 16=_
  rw[Int.fdiv_eq_ediv_of_nonneg _ (by omega)];omega
 rw[this]
theorem Ut (c:UInt8):IntKind.u8.wrap (((BitVec.ofInt IntKind.u8.bits (c.toNat:Int)&&&BitVec.ofInt IntKind.u8.bits 15).toNat:Nat):Int)=((c.toNat%16:Nat):Int):=by
 have e1:IntKind.u8.bits=8:=rfl
 have hx:=c.toNat_lt
 rw[e1]
 have:(BitVec.ofInt 8 (c.toNat:Int)&&&BitVec.ofInt 8 15).toNat=c.toNat%16:=by
  rw[BitVec.toNat_and,BitVec.ofInt_natCast,BitVec.toNat_ofNat,Nat.mod_eq_of_lt (by omega)]
  show c.toNat&&&15=_
  exact Nat.and_two_pow_sub_one_eq_mod c.toNat 4
 rw[this,gA];omega
theorem Uu {P:Program}{t:TypeId}(hu:P.underlying t=some .string){k:IntKind}(b:ByteArray){n:Nat}(h:n<b.data.toList.length):rC P t (.string b) (.int k n)=some (.int .u8 ((b.data.toList.getD n 0).toNat:Int)):=by
 show rC P t (.string b) (.int k (Int.ofNat n))=_
 unfold rC
 rw[hu]
 simp only
 rw[List.drop_eq_getElem_cons h]
 simp[List.getD,List.getElem?_eq_getElem h]
end Go.Cl.Hx
namespace Go.Cl.B85
def val (l:List UInt8):Nat->Nat
 |0=>0
 |i+1=>val l i*256+(if i<min 4 l.length then(l.getD i 0).toNat else 0)
theorem Uv (l:List UInt8):∀i,val l i<256^i:=by
 intro i
 induction i with
 |zero=>simp[val]
 |succ i ih=>
  have hb:=(l.getD i 0).toNat_lt
  simp only[val,Nat.pow_succ]
  split<;>omega
theorem XV (l:List UInt8){i:Nat}(h:i<4):val l i<16777216:=by
 have h1:=Uv l i
 have h2:256^i<=256^3:=Nat.pow_le_pow_right (by omega) (by omega)
 have h3:(256:Nat)^3=16777216:=by decide
 omega
theorem XW (l:List UInt8):val l 4<4294967296:=by
 have:=Uv l 4
 have h3:(256:Nat)^4=4294967296:=by decide
 omega
def WH (x k:Nat):UInt8:=UInt8.ofNat (33+x/85^(4-k)%85)
def wL (x:Nat):List UInt8:=[WH x 0,WH x 1,WH x 2,WH x 3,WH x 4]
def laid (x j:Nat):List UInt8:=(List.range 5).map fun k=>if 5<=k+j then WH x k else 0
theorem Gk (x:Nat):laid x 0=[0,0,0,0,0]:=by simp[laid,List.range_succ]
theorem Gl (x:Nat):laid x 5=wL x:=by simp[laid,wL,List.range_succ]
theorem J8 (x:Nat){j:Nat}(h:j<5):(laid x j).set (4-j) (WH x (4-j))=laid x (j+1):=by
 obtain rfl|rfl|rfl|rfl|rfl:j=0\/j=1\/j=2\/j=3\/j=4:=by omega
 all_goals simp[laid,List.range_succ]
theorem pz (l:List UInt8)(k:Nat)(c:UInt8):(ofBytes l).set k (.int .u8 (c.toNat:Int))=ofBytes (l.set k c):=by
 simp[ofBytes,List.map_set]
theorem Pl (x j:Nat)(h:j<5):((33+(x/85^j%85:Nat):Int))%256=((WH x (4-j)).toNat:Int):=by
 have:4-(4-j)=j:=by omega
 simp only[WH,this,UInt8.toNat_ofNat']
 omega
def Ez (l:List UInt8):List UInt8:=
 if _h:l=[] then [126,62]
 else if min 4 l.length=4/\val l 4=0 then 122::Ez (l.drop (min 4 l.length))
 else(wL (val l 4)).take (min 4 l.length+1)++Ez (l.drop (min 4 l.length))
termination_by l.length
decreasing_by
 ·have:0<l.length:=List.length_pos_iff.mpr _h
  rw[List.length_drop];omega
 ·have:0<l.length:=List.length_pos_iff.mpr _h
  rw[List.length_drop];omega
theorem oh:Ez []=[126,62]:=by rw[Ez];simp
theorem Uw {l:List UInt8}(h:l≠[])(h2:min 4 l.length=4/\val l 4=0):Ez l=122::Ez (l.drop (min 4 l.length)):=by rw[Ez,dif_neg h,if_pos h2]
theorem nv {l:List UInt8}(h:l≠[])(h2:¬(min 4 l.length=4/\val l 4=0)):Ez l=(wL (val l 4)).take (min 4 l.length+1)++Ez (l.drop (min 4 l.length)):=by rw[Ez,dif_neg h,if_neg h2]
theorem tm {x:Int}:IntKind.u32.wrap x=x%4294967296:=by
 have e1:IntKind.u32.bits=32:=rfl
 have e2:IntKind.u32.signed=false:=rfl
 simp only[IntKind.wrap,e1,e2,Bool.false_and]
 simp
theorem ZM (P:Program)(t:TypeId)(k' :IntKind)(a:Int):cI P .shl t (.int .u32 a) (.int k' 8)=some (.int .u32 (IntKind.u32.wrap (a*256))):=by
 rw[my P t .u32 a 8 k' (by decide)];rfl
theorem abD {n:Nat}{x:UInt8}(h:n<16777216):(((BitVec.ofInt IntKind.u32.bits (((n:Int)*256))|||BitVec.ofInt IntKind.u32.bits ((x.toNat:Int))).toNat:Nat):Int)%4294967296=((n*256+x.toNat:Nat):Int):=by
 have e1:IntKind.u32.bits=32:=rfl
 have hx:=x.toNat_lt
 rw[e1]
 have e2:((n:Int)*256)=((n*256:Nat):Int):=by omega
 have:(BitVec.ofInt 32 ((n:Int)*256)|||BitVec.ofInt 32 (x.toNat:Int)).toNat=n*256+x.toNat:=by
  rw[e2,BitVec.toNat_or,BitVec.ofInt_natCast,BitVec.ofInt_natCast,BitVec.toNat_ofNat,BitVec.toNat_ofNat,Nat.mod_eq_of_lt (by omega),Nat.mod_eq_of_lt (by omega)]
  have:=Nat.shiftLeft_add_eq_or_of_lt (i:=8) (b:=x.toNat) hx n
  rw[Nat.shiftLeft_eq] at this
  exact this.symm
 rw[this];omega
theorem XX {n:Nat}(h:n<16777216):((n:Int)*256)%4294967296=(n:Int)*256:=by omega
theorem Ux (x:UInt8):((x.toNat:Int))%4294967296=(x.toNat:Int):=by have:=x.toNat_lt;omega
end Go.Cl.B85
