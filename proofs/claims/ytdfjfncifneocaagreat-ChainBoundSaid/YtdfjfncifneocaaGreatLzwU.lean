/-
 Chains: what bytes through links become, in plain words.
-/
import Derived.Test.YtdfjfncifneocaaGreatLooseA
import Derived.Test.YtdfjfncifneocaaGreatB85P
import Derived.Test.YtdfjfncifneocaaGreatCosK
import Derived.Test.YtdfjfncifneocaaGreatNum
import Derived.Test.YtdfjfncifneocaaGreatPrim
import Derived.Test.YtdfjfncifneocaaGreatFixW
open Nat renaming reduceLT->QS,reduceEqDiff->WP
namespace Go.Cl.Ch
open Go.Cl.Pr Go.Cl.Hx Go.Cl.B85
structure Lk where
 p:Int
 co:Int
 cl:Int
 name:List UInt8
 early:Int
def Lk.cells (l:Lk):List Value:=[.int .i64 l.p,.int .i64 l.co,.int .i64 l.cl,.string ⟨l.name.toArray⟩,.int .i64 l.early]
def mP (L:List Lk):List Value:=(L.map Lk.cells).flatten
theorem Na (L:List Lk):(mP L).length=L.length*5:=by
 induction L with
 |nil=>rfl
 |cons l L ih=>simp only[mP,List.map_cons,List.flatten_cons,List.length_append,List.length_cons] at ih|-;rw[ih];simp[Lk.cells];omega
theorem u7 {L:List Lk}{i:Nat}(h:i<L.length):((mP L).drop (i*5)).take 5=L[i].cells:=by
 induction L generalizing i with
 |nil=>simp at h
 |cons l L ih=>
  cases i with
  |zero=>simp[mP,Lk.cells]
  |succ i=>
   have:=ih (i:=i) (by simpa using h)
   simp only[mP,List.map_cons,List.flatten_cons,List.getElem_cons_succ] at this|-
   rw[show(i+1)*5=l.cells.length+i*5 by simp[Lk.cells];omega,<-List.drop_drop,List.drop_left]
   exact this
theorem abZ (L:List Lk):(mP L).all aJ=true:=by
 induction L with
 |nil=>rfl
 |cons l L ih=>
  rw[show mP (l::L)=l.cells++mP L from rfl,List.all_append,ih]
  rfl
theorem C2 (L M:List Lk):mP (L++M)=mP L++mP M:=by simp[mP]
def gC:List UInt8:=[70,108,97,116,101,68,101,99,111,100,101]
def yq:List UInt8:=[76,90,87,68,101,99,111,100,101]
def sM:List UInt8:=[65,83,67,73,73,72,101,120,68,101,99,111,100,101]
def Kq:List UInt8:=[65,83,67,73,73,56,53,68,101,99,111,100,101]
def yu:List UInt8:=[82,117,110,76,101,110,103,116,104,68,101,99,111,100,101]
def mG:List (List UInt8):=[gC,yq,sM,Kq,yu]
def fG (l:Lk):Lk:=if l.p=0/\l.co=0/\l.cl=0 then {l with p:=1,co:=1,cl:=1} else l
def okL (l:Lk):Prop:=l.name∈mG/\ri l.p l.co l.cl
instance (l:Lk):Decidable (okL l):=by unfold okL;infer_instance
def rA (l:Lk)(b:List UInt8):List UInt8×Int:=
 if l.name=sM then(hex b,0) else if l.name=Kq then(Ez b,0) else if l.name=yu then(Runs.encode b,0)
 else if(iU l.p l.co l.cl b).2≠0 then([],(iU l.p l.co l.cl b).2) else if l.name=gC then(Fx.xA (iU l.p l.co l.cl b).1,0) else(Lz.Gg (iU l.p l.co l.cl b).1,0)
def df:List Lk->List UInt8->List UInt8×Int
 |[],b=>(b,0)
 |l::r,b=>if(df r b).2≠0 then([],(df r b).2) else rA l (df r b).1
end Go.Cl.Ch
set_option linter.unusedSimpArgs false
set_option linter.unusedVariables false
set_option maxRecDepth 100000
namespace Go.Cl.Ch
theorem Lk.H9 (l:Lk):l.cells.length=5:=rfl
end Go.Cl.Ch
namespace Go.Proofs.YtdfjfncifneocaaGreat
open Go.Cl Go.Cl.Pr Go.Cl.Ch
abbrev fC (l:Lk):Value:= .agg l.cells.toArray
theorem cV:aW Tryz.prog 58=some 5:=by kernel_rfl
theorem lB:bY Tryz.prog 58=some true:=by kernel_rfl
theorem yv (i o c:Nat):ay Tryz.prog 58 (.pointer (some ⟨i,o,some c⟩)) 0=some (.pointer (some ⟨i,o+0,some c⟩)):=by
 unfold ay;rw[Tryz.underlying58];simp[qS]
theorem yw (i o c:Nat):ay Tryz.prog 58 (.pointer (some ⟨i,o,some c⟩)) 1=some (.pointer (some ⟨i,o+3,some c⟩)):=by
 unfold ay;rw[Tryz.underlying58];simp[CE]
theorem Va (i o c:Nat):ay Tryz.prog 58 (.pointer (some ⟨i,o,some c⟩)) 2=some (.pointer (some ⟨i,o+4,some c⟩)):=by
 unfold ay;rw[Tryz.underlying58];simp[bB]
theorem ZV:bW Tryz.prog 9=some (.string ⟨#[]⟩):=by kernel_rfl
theorem Gs (s:aq)(l:Lk):Runs Tryz.prog eC 35 [fC l] s (Mx s (l.name∈mG)):=by
 refine Runs.enter 7 Tryz.func35 rfl rfl rfl rfl ?_
 intro f hn hf
 have h0:f.get 0=fC l:=hf 0
 clear hf
 simp-implicitDefEqProofs(disch:=omega)only[aj,QS,↓reduceIte,hn,h0]
 refine ax ?_
 intro s1 ht aD DQ
 have ht:av s1 s.next l.cells:=ht
 have hd:l.cells.length+1=6:=rfl
 have Yl:aL Tryz.prog s1 27 5 [(0,.string ⟨gC.toArray⟩),(1,.string ⟨yq.toArray⟩),(2,.string ⟨sM.toArray⟩),(3,.string ⟨Kq.toArray⟩),(4,.string ⟨yu.toArray⟩)]=aZ s1 (JK mG) 5 1:=OY Tryz.underlying27 CE ZV rfl ⟨_,rfl⟩ rfl rfl rfl rfl rfl
 unfold gC yq sM Kq yu at Yl
 simp-implicitDefEqProofs(disch:=omega)only[aj,ae,QS,↓reduceIte,hn,hd,Yl]
 refine aQ (by rfl) ?_
 intro x s2 hx hF aU
 have dZ:=ht.keeps aU
 have p3:aR Tryz.prog s2 9 (.pointer (some ⟨s.next,3,some 6⟩))=some (.string ⟨l.name.toArray⟩):=dZ.load uN (off:=3) (c:=6) rfl (by simp[Lk.cells])
 simp-implicitDefEqProofs(disch:=omega)only[aj,ak,ad,QS,WP,↓reduceIte,hn,yw,p3]
 refine(En (lib:=eC) rfl rfl s2 x l.name mG hx.aG (by decide)).mono ?_
 rintro _ s3 ⟨rfl,rfl⟩
 simp-implicitDefEqProofs(disch:=omega)only[aj,al,oneOf,QS,↓reduceIte,hn,Tryz.results35]
 exact⟨rfl,aD.trans (aU.weaken aD.next)⟩
theorem RF (s:aq):Runs Tryz.prog eC 45 [] s fun v s' =>v=i3 1 1 1/\ar s.next s s' :=by
 refine Runs.enter 2 Tryz.func45 rfl rfl rfl rfl ?_
 intro f hn hf
 clear hf
 have zSh:bW Tryz.prog 56=some (i3 0 0 0):=by kernel_rfl
 have aj7:bP (i3 0 0 0)=true:=by kernel_rfl
 simp-implicitDefEqProofs(disch:=omega)only[aj,↓reduceIte,zSh,aj7]
 refine ax ?_
 intro s1 ht aD DQ
 have ht:av s1 s.next (l3 0 0 0):=ht
 have hd:[Value.int .i64 0,.int .i64 0,.int .i64 0].length+1=4:=rfl
 have hb:cE Tryz.prog 56 [(0,.int .i64 1),(1,.int .i64 1),(2,.int .i64 1)]=some (i3 1 1 1):=by kernel_rfl
 simp-implicitDefEqProofs(disch:=omega)only[aj,ae,QS,WP,↓reduceIte,hn,hd,hb]
 refine aA qS (by decide) ht rfl rfl rfl rfl ?_
 intro s2 dZ im dg
 have la:aR Tryz.prog s2 56 (.pointer (some ⟨s.next,0,some 4⟩))=some (i3 1 1 1):=av.bu (P:=Tryz.prog) (cs:=l3 1 1 1) zz qS dZ (c:=4) rfl
 simp-implicitDefEqProofs(disch:=omega)only[aj,al,oneOf,QS,WP,↓reduceIte,hn,aV,la,Tryz.results45]
 exact aD.trans (ar.aI im dg (by omega))
end Go.Proofs.YtdfjfncifneocaaGreat
namespace Go.Cl
theorem RG {P:Program}{s:aq}{t e:TypeId}{z:Nat}{zv:Value}{a b:Array Value}(hu:P.underlying t=some (.slice e))(b6:aW P e=some z)(hz:bW P e=some zv)(oY:bP zv=true)(o8:Nat.beq zv.cells.toList.length z=true)(ha:a.toList.length=z)(hb:b.toList.length=z)(hz6:z<=1000):aL P s t 2 [(0,.agg a),(1,.agg b)]=aZ s (a.toList++b.toList) 2 z:=by
 unfold aL;rw[hu]
 have abi:zv.cells.toList.length=z:=by simpa [Nat.beq_eq] using o8
 obtain⟨u,hu'⟩:∃u,u=zv.cells.toList:=⟨_,rfl⟩
 have hr:bw zv.cells.toList 2=u++u:=by rw[<-hu'];simp[bw]
 have hul:u.length=z:=by rw[hu'];exact abi
 have J4:(Nat.ble (2*z) 65536&&bP zv&&Nat.beq zv.cells.toList.length z)=true:=by rw[oY,o8];simp[Nat.ble_eq];omega
 have e1:setAt (u++u) (0*z) a.toList=some (a.toList++u):=by
  rw[j7 _ _ _ (by simp only[List.length_append];omega),Nat.zero_mul,List.take_zero,List.nil_append,Nat.zero_add,List.drop_append,List.drop_eq_nil_of_le (by omega),List.nil_append,ha,hul,Nat.sub_self,List.drop_zero]
 have e2:setAt (a.toList++u) (1*z) b.toList=some (a.toList++b.toList):=by
  rw[j7 _ _ _ (by simp only[List.length_append];omega),Nat.one_mul,List.take_append_of_le_length (by omega),List.take_of_length_le (by omega),List.drop_eq_nil_of_le (by simp only[List.length_append];omega),List.append_nil]
 have c1:(Nat.beq a.toList.length z&&Nat.ble (0*z+z) (u++u).length)=true:=by simp[Nat.ble_eq,ha,hul]
 have c2:(Nat.beq b.toList.length z&&Nat.ble (1*z+z) (a.toList++u).length)=true:=by
  rw[hb,List.length_append,ha,hul];simp[Nat.ble_eq]<;>omega
 simp only[b6,hz,J4,hr,fI,bO,e1,e2,c1,c2,if_true]
end Go.Cl
set_option linter.unusedSimpArgs false
set_option linter.unusedVariables false
set_option maxRecDepth 100000
namespace Go.Cl
theorem aS.one {F:Nat->Prop}{s:aq}{a:List UInt8×O}{ca:List Value}(la:ca.length=6)(ha:dU F s ca a):aS dU 6 F s [a] ca:=by
 have:=aS.nil.snoc la ha
 simpa using this
theorem aS.two {F:Nat->Prop}{s:aq}{a b:List UInt8×O}{ca cb:List Value}(la:ca.length=6)(ha:dU F s ca a)(lb:cb.length=6)(hb:dU F s cb b):aS dU 6 F s [a,b] (ca++cb):=by
 have:=(aS.nil.snoc la ha).snoc lb hb
 simpa using this
end Go.Cl
namespace Go.Cl.Ch
def Gt:List UInt8:=[66,105,116,115,80,101,114,67,111,109,112,111,110,101,110,116]
def tt:List UInt8:=[67,111,108,111,114,115]
def pJ:List UInt8:=[67,111,108,117,109,110,115]
def Gu:List UInt8:=[80,114,101,100,105,99,116,111,114]
def br:List UInt8:=[70,105,108,116,101,114]
def eF:List UInt8:=[68,101,99,111,100,101,80,97,114,109,115]
def Ym (n:Int):O:= .mk 2 n [] [] []
def lC (b:List UInt8):O:= .mk 5 0 b [] []
def Vb (l:Lk):List (List UInt8×O):=[(Gt,Ym 8),(tt,Ym l.co),(pJ,Ym l.cl),(Gu,Ym l.p)]
def kP (l:Lk):O:=if l.p=1 then O.none else .mk 7 0 [] [] (cX [] (Vb l))
theorem Nb (l:Lk):∀e∈Vb l,Small e.2:=by
 intro e he
 simp only[Vb,List.mem_cons,List.not_mem_nil,or_false] at he
 rcases he with rfl|rfl|rfl|rfl<;>exact Small.bare 2 _
end Go.Cl.Ch
namespace Go.Proofs.YtdfjfncifneocaaGreat
open Go.Cl Go.Cl.Pr Go.Cl.Ch
theorem afZ:Yg eC:=by constructor<;>rfl
end Go.Proofs.YtdfjfncifneocaaGreat
set_option linter.unusedSimpArgs false
set_option linter.unusedVariables false
set_option maxRecDepth 100000
namespace Go.Proofs.YtdfjfncifneocaaGreat
open Go.Cl Go.Cl.Pr Go.Cl.Ch Go.Cl.Hx Go.Cl.B85
set_option maxHeartbeats 8000000 in
theorem Kr {lib:az}(L:abj lib)(hl:lib.at 82=none)(s:aq)(p co cl:Int)(h1p:p=1)(h2p:co=1)(h3p:cl=1)(x:Value)(l:List UInt8)(hx:aN s 1 x l.length (ofBytes l))(hlen:l.length<=100000000):
  Runs Tryz.prog lib 82 [i3 p co cl,x] s (uf s (iU p co cl l)):=by
 refine Runs.enter 85 Tryz.func82 rfl hl rfl rfl ?_
 intro f hn hf
 have h0:f.get 0=i3 p co cl:=hf 0
 have h1:f.get 1=x:=hf 1
 clear hf
 have XA:[Value.int .i64 p,.int .i64 co,.int .i64 cl].length+1=4:=rfl
 simp-implicitDefEqProofs(disch:=omega)only[aj,QS,↓reduceIte,hn,h0]
 refine ax ?_
 intro s1 ht aD DQ
 have ht:av s1 s.next (l3 p co cl):=ht
 have la:aR Tryz.prog s1 56 (.pointer (some ⟨s.next,0,some 4⟩))=some (i3 p co cl):=av.bu (P:=Tryz.prog) (cs:=l3 p co cl) zz qS ht (c:=4) rfl
 simp-implicitDefEqProofs(disch:=omega)only[aj,ak,ad,QS,WP,↓reduceIte,hn,XA,la]
 refine(wv L.may s1 p co cl).mono ?_
 rintro _ s2 ⟨rfl,dg⟩
 have h02:=aD.trans (dg.weaken aD.next)
 have dZ:=ht.keeps dg
 have n1:=aD.next
 have n2:=dg.next
 have hm:ri p co cl:=by rw[h1p,h2p,h3p];exact of_decide_eq_true rfl
 rw[decide_eq_true hm]
 have q0:∀t,ar s2.next s2 t->aR Tryz.prog t 3 (.pointer (some ⟨s.next,0,some 4⟩))=some (.int .i64 p):=fun t h=>(dZ.keeps h).load bC (off:=0) (c:=4) rfl (by simp)
 have kv:=hx.keeps h02
 have k2:=ar.refl s2.next s2
 have rJ:=h1p
 have e:iU p co cl l=(l,0):=by unfold iU;rw[if_neg (fun h=>h hm),if_pos rJ]
 rw[e]
 simp-implicitDefEqProofs(disch:=omega)only[aj,ad,QS,WP,↓reduceIte,hn,h1,wu,q0 _ k2,eq_true rJ]
 refine bV Tryz.underlying22 Tryz.underlying22 (.inl ⟨_,rfl⟩) bL kG lh rfl (Own.nil:Own s2 1 (.slice none 0 0) 0 []) kv.src (by rw[bF,Nat.mul_one]) (by decide) (dj _) (by omega) (by omega) (aH.nil s2.next) (Nat.le_refl _) ?_
 intro w s3 hw hF ij _ _
 simp-implicitDefEqProofs(disch:=omega)only[aj,al,oneOf,QS,WP,↓reduceIte,hn,Tryz.results82]
 exact⟨w,rfl,⟨by rw[List.nil_append,Nat.zero_add] at hw;exact hw,fun j hj=>by have:=hF j hj;omega,h02.trans (ij.weaken (by omega))⟩⟩
set_option maxHeartbeats 8000000 in
theorem zP {lib:az}(L:abj lib)(hl:lib.at 70=none)(s:aq)(p co cl:Int)(h1p:p=1)(h2p:co=1)(h3p:cl=1)(x:Value)(l:List UInt8)(hx:aN s 1 x l.length (ofBytes l))(hlen:l.length<=100000000):
  Runs Tryz.prog lib 70 [i3 p co cl,x] s (uf s (qT p co cl l)):=by
 obtain⟨QQ,gp⟩:∃QQ:Value->aq->Prop,QQ=uf s (qT p co cl l):=⟨_,rfl⟩
 rw[<-gp]
 refine Runs.enter 90 Tryz.func70 rfl hl rfl rfl ?_
 intro f hn hf
 have h0:f.get 0=i3 p co cl:=hf 0
 have h1:f.get 1=x:=hf 1
 clear hf
 have XA:[Value.int .i64 p,.int .i64 co,.int .i64 cl].length+1=4:=rfl
 simp-implicitDefEqProofs(disch:=omega)only[aj,QS,↓reduceIte,hn,h0]
 refine ax ?_
 intro s1 ht aD DQ
 have ht:av s1 s.next (l3 p co cl):=ht
 have la:aR Tryz.prog s1 56 (.pointer (some ⟨s.next,0,some 4⟩))=some (i3 p co cl):=av.bu (P:=Tryz.prog) (cs:=l3 p co cl) zz qS ht (c:=4) rfl
 simp-implicitDefEqProofs(disch:=omega)only[aj,ak,ad,QS,WP,↓reduceIte,hn,XA,la]
 refine(wv L.may s1 p co cl).mono ?_
 rintro _ s2 ⟨rfl,dg⟩
 have h02:=aD.trans (dg.weaken aD.next)
 have dZ:=ht.keeps dg
 have n1:=aD.next
 have n2:=dg.next
 have hm:ri p co cl:=by rw[h1p,h2p,h3p];exact of_decide_eq_true rfl
 rw[decide_eq_true hm]
 have q0:∀t,ar s2.next s2 t->aR Tryz.prog t 3 (.pointer (some ⟨s.next,0,some 4⟩))=some (.int .i64 p):=fun t h=>(dZ.keeps h).load bC (off:=0) (c:=4) rfl (by simp)
 have kv:=hx.keeps h02
 have k2:=ar.refl s2.next s2
 have rJ:=h1p
 have e:qT p co cl l=(l,0):=by unfold qT;rw[if_neg (fun h=>h hm),if_pos rJ]
 simp-implicitDefEqProofs(disch:=omega)only[aj,ad,QS,WP,↓reduceIte,hn,h1,wu,q0 _ k2,eq_true rJ]
 refine bV Tryz.underlying22 Tryz.underlying22 (.inl ⟨_,rfl⟩) bL kG lh rfl (Own.nil:Own s2 1 (.slice none 0 0) 0 []) kv.src (by rw[bF,Nat.mul_one]) (by decide) (dj _) (by omega) (by omega) (aH.nil s2.next) (Nat.le_refl _) ?_
 intro w s3 hw hF ij _ _
 simp-implicitDefEqProofs(disch:=omega)only[aj,al,oneOf,QS,WP,↓reduceIte,hn,Tryz.results70]
 rw[gp,e]
 exact⟨w,rfl,⟨by rw[List.nil_append,Nat.zero_add] at hw;exact hw,fun j hj=>by have:=hF j hj;omega,h02.trans (ij.weaken (by omega))⟩⟩
set_option maxHeartbeats 4000000 in
theorem RH (s:aq)(l:Lk)(c1:l.p=1):Runs Tryz.prog eC 87 [fC l] s (lW s (kP l)):=by
 obtain⟨QQ,gp⟩:∃QQ:Value->aq->Prop,QQ=lW s (kP l):=⟨_,rfl⟩
 rw[<-gp]
 refine Runs.enter 27 Tryz.func87 rfl rfl rfl rfl ?_
 intro f hn hf
 have h0:f.get 0=fC l:=hf 0
 clear hf
 simp-implicitDefEqProofs(disch:=omega)only[aj,QS,↓reduceIte,hn,h0]
 refine ax ?_
 intro s1 ht aD DQ
 have ht:av s1 s.next l.cells:=ht
 have hd:l.cells.length+1=6:=rfl
 simp-implicitDefEqProofs(disch:=omega)only[aj,QS,↓reduceIte,hn,hd,zO,xB]
 refine ax ?_
 intro s2 dZ aU oN
 have mO:cU.length+1=6:=rfl
 have TZ:=ht.keeps aU
 have k02:ar s.next s s2:=aD.trans (aU.weaken aD.next)
 have n1:=aD.next
 have n2:=aU.next
 have p0:∀t,ar s2.next s2 t->aR Tryz.prog t 3 (.pointer (some ⟨s.next,0,some 6⟩))=some (.int .i64 l.p):=fun t h=>(TZ.keeps h).load bC (off:=0) (c:=6) rfl (by simp[Lk.cells])
 simp-implicitDefEqProofs(disch:=omega)only[aj,ak,ad,QS,WP,↓reduceIte,hn,mO,yv,wu,p0 _ (ar.refl _ _),eq_true c1]
 refine(C1 (lib:=eC) rfl s2).mono ?_
 rintro _ s3 ⟨cs,rfl,ho,bH⟩
 simp-implicitDefEqProofs(disch:=omega)only[aj,QS,WP,↓reduceIte,hn]
 refine aA iH (by decide) (dZ.keeps bH) rfl rfl (by simpa using ho.len) ho.ok ?_
 intro s4 ie Am wR
 have ie:av s4 s1.next cs:=ie
 simp-implicitDefEqProofs(disch:=omega)only[aj,al,oneOf,QS,WP,↓reduceIte,hn,av.ga ie ho.len,aV,Tryz.results87]
 rw[gp]
 unfold kP
 rw[if_pos c1]
 exact lW.put (F:=fun j=>s2.next<=j) ho (fun j hj=>⟨by omega,by omega⟩) Am wR (k02.trans (bH.weaken (by omega))) (by omega)
end Go.Proofs.YtdfjfncifneocaaGreat
set_option linter.unusedSimpArgs false
set_option linter.unusedVariables false
set_option maxRecDepth 100000
namespace Go.Proofs.YtdfjfncifneocaaGreat
open Go.Cl Go.Cl.Rw
theorem wX (l:List UInt8)(k:Nat)(c:UInt8):(ofBytes l).set k (.int .u8 (c.toNat:Int))=ofBytes (l.set k c):=by
 simp[ofBytes,List.map_set]
abbrev Nc (j:Nat)(R:List Value):Value:= .pointer (some ⟨j,0,some (R.length+3)⟩)
structure yx (base:Nat) (s:aq) (j:Nat) (v:Value) (p:List UInt8×Nat) (R:List Value):Prop where
 cu:av s j (v:: .int .i64 p.2::R)
 own:Own s 1 v p.1.length (ofBytes p.1)
 fresh:aH base v
 ne:aE v≠some j
 lo:base<=j
 ok:Ok p
theorem pK (i o c:Nat):ay Tryz.prog 162 (.pointer (some ⟨i,o,some c⟩)) 0=some (.pointer (some ⟨i,o+0,some c⟩)):=by
 unfold ay;rw[Tryz.underlying162];simp[gv]
theorem pL (i o c:Nat):ay Tryz.prog 162 (.pointer (some ⟨i,o,some c⟩)) 1=some (.pointer (some ⟨i,o+1,some c⟩)):=by
 unfold ay;rw[Tryz.underlying162];simp[bB]
def zR (base:Nat)(j:Nat)(R:List Value)(v:Value)(s:aq)(p:List UInt8×Nat)(s' :aq):Prop:=∃v',yx base s' j v' p R/\cZ j v s v' s'
set_option maxRecDepth 100000 in
set_option maxHeartbeats 4000000 in
theorem Nd {lib:az}(hl:lib.at 200=none)(base:Nat)(s:aq)(j:Nat)(R:List Value)(v:Value)(p:List UInt8×Nat)(x:Int)(h:yx base s j v p R)(hb:base<=s.next)(hp:p.2<=1073741824):
  Runs Tryz.prog lib 200 [Nc j R,.int .i64 x] s fun _ s' =>zR base j R v s (nh p x) s' :=by
 obtain⟨B,n⟩:=p
 obtain⟨ho,hB,hF,ck,hj,dF⟩:=h
 obtain⟨oC,hrb⟩:=wx dF
 have T4:=Ay (x:=x) dF
 simp only at ho hB hp
 obtain⟨kD,mv⟩:=dF
 simp only at kD mv
 refine Runs.enter 48 Tryz.func200 rfl hl rfl rfl ?_
 intro f hn hf
 have h0:f.get 0=Nc j R:=hf 0
 have h1:f.get 1= .int .i64 x:=hf 1
 clear hf
 have l0:=ho.load (P:=Tryz.prog) gw (off:=0) (c:=R.length+3) (by simp) (by simp)
 have l1:=ho.load (P:=Tryz.prog) bC (off:=1) (c:=R.length+3) (by simp) (by simp)
 have Q7:n%8<8:=Nat.mod_lt _ (by omega)
 by_cases hz:n%8=0
 ·have uy:((n%8:Nat):Int)=0:=by omega
  have cY:room (B,n)=B++[0]:=by unfold room;rw[if_pos hz]
  simp-implicitDefEqProofs(disch:=omega)only[aj,ak,ae,QS,WP,↓reduceIte,hn,h0,pK,pL,l0,l1,eK,HS,eq_true uy,g9 Tryz.underlying22 bL lh]
  refine bI Tryz.underlying22 bL kG lh rfl hB (by simp only[aa,↓reduceIte]) (by decide) (by simp only[ag,hn];decide) (by simp only[ag,hn];decide) (by rfl) (by decide) rfl (by omega) (by omega) (base:=base) hF hb ?_
  intro bs B' s2 hB' HO dC LI uA
  have fx:=ho.turns LI ck
  have Aj:aE B' ≠some j:=by
   rcases uA with e|⟨i,e,hi⟩
   ·rw[e];exact ck
   ·rw[e];intro q;injection q with q;have:=ho.lt;omega
  simp-implicitDefEqProofs(disch:=omega)only[aj,QS,WP,↓reduceIte,hn,pK]
  refine aX gv fx (by simp) (by simp) hB'.aG.aJ ?_
  intro s3 nJ mm bH
  have e1:ofBytes B++[.int .u8 0]=ofBytes (B++[0]):=by rw[bn];rfl
  have e2:B.length+1=(B++[0]).length:=by simp
  have Ep:=hB'.aI mm bH Aj
  rw[e1,e2] at Ep
  have bc:n/8<(B++[0]).length:=by rw[<-cY];exact oC
  simp-implicitDefEqProofs(disch:=omega)only[aj]
  refine da.uL (by kernel_rfl) ?_
  have l0:=(nJ).load (P:=Tryz.prog) gw (off:=0) (c:=R.length+3) (by simp) (by simp)
  have l1:=(nJ).load (P:=Tryz.prog) bC (off:=1) (c:=R.length+3) (by simp) (by simp)
  have k1:=(Ep).aG.dJ (P:=Tryz.prog) mB bc
  rw[bG bc] at k1
  simp-implicitDefEqProofs(disch:=omega)only[aj,ak,QS,WP,↓reduceIte,hn,h0,h1,pK,pL,l0,l1,(Ep).self,eK,HS,mw,Q6,aB,(Ep).aG.indexAddr Tryz.underlying22 bL,k1,eL,T3,bR Tryz.underlying3 Tryz.underlying5,OZ,XC,jB,orB]
  refine ju bL Ep bc rfl ?_
  intro t1 gu eO
  have tE:=(nJ).turns eO Aj
  have XE:=tE.load (P:=Tryz.prog) bC (off:=1) (c:=R.length+3) (by simp) (by simp)
  simp-implicitDefEqProofs(disch:=omega)only[aj,ak,QS,WP,↓reduceIte,hn,h0,pL,XE,aB]
  refine aX bB tE (by simp) (by simp) rfl ?_
  intro t2 fx im dg
  have dB:=gu.aI im dg Aj
  simp-implicitDefEqProofs(disch:=omega)only[aj,ah,Tryz.results200]
  rw[wX] at dB
  have hr:(nh (B,n) x).1=(B++[0]).set (n/8) (Eo ((B++[0]).getD (n/8) 0) x (n%8)):=by simp only[nh,cY]
  refine⟨B',⟨fx,?_,HO,Aj,hj,T4⟩,((cZ.turns LI uA).trans (cZ.put mm bH)).trans ((cZ.turns eO (.inl rfl)).trans (cZ.put im dg))⟩
  rw[hr,List.length_set];exact dB
 ·have uy:¬((n%8:Nat):Int)=0:=by omega
  have cY:room (B,n)=B:=by unfold room;rw[if_neg hz]
  have bc:n/8<B.length:=by rw[<-cY];exact oC
  simp-implicitDefEqProofs(disch:=omega)only[aj,ak,QS,↓reduceIte,hn,h0,pL,l1,eK,HS,eq_false uy]
  refine da.uL (by kernel_rfl) ?_
  have l0:=(ho).load (P:=Tryz.prog) gw (off:=0) (c:=R.length+3) (by simp) (by simp)
  have l1:=(ho).load (P:=Tryz.prog) bC (off:=1) (c:=R.length+3) (by simp) (by simp)
  have k1:=(hB).aG.dJ (P:=Tryz.prog) mB bc
  rw[bG bc] at k1
  simp-implicitDefEqProofs(disch:=omega)only[aj,ak,QS,WP,↓reduceIte,hn,h0,h1,pK,pL,l0,l1,(hB).self,eK,HS,mw,Q6,aB,(hB).aG.indexAddr Tryz.underlying22 bL,k1,eL,T3,bR Tryz.underlying3 Tryz.underlying5,OZ,XC,jB,orB]
  refine ju bL hB bc rfl ?_
  intro t1 gu eO
  have tE:=(ho).turns eO ck
  have XE:=tE.load (P:=Tryz.prog) bC (off:=1) (c:=R.length+3) (by simp) (by simp)
  simp-implicitDefEqProofs(disch:=omega)only[aj,ak,QS,WP,↓reduceIte,hn,h0,pL,XE,aB]
  refine aX bB tE (by simp) (by simp) rfl ?_
  intro t2 fx im dg
  have dB:=gu.aI im dg ck
  simp-implicitDefEqProofs(disch:=omega)only[aj,ah,Tryz.results200]
  rw[wX] at dB
  have hr:(nh (B,n) x).1=B.set (n/8) (Eo (B.getD (n/8) 0) x (n%8)):=by simp only[nh,cY]
  refine⟨v,⟨fx,?_,hF,ck,hj,T4⟩,(cZ.turns eO (.inl rfl)).trans (cZ.put im dg)⟩
  rw[hr,List.length_set];exact dB
theorem zR.start {base j:Nat}{R:List Value}{v:Value}{s:aq}{p:List UInt8×Nat}(h:yx base s j v p R):zR base j R v s p s:=⟨v,h,cZ.refl _ _ _⟩
def qy (p:List UInt8×Nat)(x w:Int):List UInt8×Nat:=if w<1\/16<w then p else lz p x w.toNat
set_option maxRecDepth 100000 in
set_option maxHeartbeats 4000000 in
theorem Ng {lib:az}(hl:lib.at 170=none)(lj:lib.at 200=none)(base:Nat)(s:aq)(j:Nat)(R:List Value)(v:Value)(p:List UInt8×Nat)(x w:Int)(h:yx base s j v p R)(hb:base<=s.next)(hp:p.2<=1000000000):
  Runs Tryz.prog lib 170 [Nc j R,.int .i64 x,.int .i64 w] s fun _ s' =>zR base j R v s (qy p x w) s' :=by
 refine Runs.enter 27 Tryz.func170 rfl hl rfl rfl ?_
 intro f hn hf
 have h0:f.get 0=Nc j R:=hf 0
 have h1:f.get 1= .int .i64 x:=hf 1
 have h2:f.get 2= .int .i64 w:=hf 2
 clear hf
 by_cases c1:w<1
 ·simp-implicitDefEqProofs(disch:=omega)only[aj,ak,al,QS,WP,↓reduceIte,hn,h0,h2,cP Tryz.underlying206,eq_true c1,Tryz.results170]
  unfold qy;rw[if_pos (.inl c1)];exact zR.start h
 ·by_cases c2:16<w
  ·simp-implicitDefEqProofs(disch:=omega)only[aj,ak,al,QS,WP,↓reduceIte,hn,h0,h2,cP Tryz.underlying206,eq_false c1,eq_true c2,Tryz.results170]
   unfold qy;rw[if_pos (.inr c2)];exact zR.start h
  ·obtain⟨m,rfl⟩:∃m:Nat,w=m:=⟨w.toNat,by omega⟩
   have T5:qy p x m=lz p x m:=by unfold qy;rw[if_neg (by omega),Int.toNat_natCast]
   simp-implicitDefEqProofs(disch:=omega)only[aj,ak,QS,WP,↓reduceIte,hn,h0,h2,cP Tryz.underlying206,eq_false c1,eq_false c2]
   refine Comes.eU (fun q f s' =>∃(k:Nat),q=m-k/\k<=m/\zR base j R v s (lz p x k) s' /\f.n=27/\f.get 0=Nc j R/\f.get 1= .int .i64 x/\f.get 17= .int .i64 m/\f.get 18= .int .i64 k)
    ⟨0,rfl,by omega,zR.start h,by simp only[ag,hn],by simp only[aa,↓reduceIte,WP,h0],by simp only[aa,↓reduceIte,WP,h1],by simp only[aa,↓reduceIte,WP],by simp only[aa,↓reduceIte];rfl⟩ ?_
   clear hn h0 h1 h2 f
   rintro q f s1 ⟨k,rfl,hk,⟨v1,ou,eX⟩,hn,h0,h1,Ak,ye⟩
   by_cases hkm:k<m
   ·have MA:(k:Int)<m:=by omega
    simp-implicitDefEqProofs(disch:=omega)only[aj,ak,ad,QS,WP,↓reduceIte,hn,h0,h1,Ak,ye,eq_true MA,HR]
    refine(Nd lj base s1 j R v1 (lz p x k) (x.fdiv (2^k)) ou (Nat.le_trans hb eX.next) (by rw[ki];omega)).mono ?_
    rintro _ s2 ⟨v2,gr,ni⟩
    simp-implicitDefEqProofs(disch:=omega)only[aj,QS,WP,↓reduceIte,hn,ye,aB]
    refine au (m-(k+1)) (by omega) ⟨k+1,rfl,by omega,⟨v2,gr,eX.trans ni⟩,by simp only[ag,hn],by simp only[aa,↓reduceIte,WP,h0],by simp only[aa,↓reduceIte,WP,h1],by simp only[aa,↓reduceIte,WP,Ak],by simp only[aa,↓reduceIte];rfl⟩
   ·obtain rfl:k=m:=by omega
    have MA:¬(k:Int)<k:=by omega
    simp-implicitDefEqProofs(disch:=omega)only[aj,ah,QS,↓reduceIte,hn,Ak,ye,eq_false MA,Tryz.results170]
    rw[T5];exact⟨v1,ou,eX⟩
theorem Ia {lib:az}(hl:lib.at 36=none)(s:aq)(x:Value)(a:List UInt8)(hx:aN s 1 x a.length (ofBytes a))(ha:a.length<=4294967296):
  Runs Tryz.prog lib 36 [x] s fun v s' =>cC s v s' a:=by
 refine Runs.enter 8 Tryz.func36 rfl hl rfl rfl ?_
 intro f hn hf
 have h0:f.get 0=x:=hf 0
 clear hf
 cases rh:Ci x with
 |true=>
  obtain⟨e1,_,e2⟩:=hx.isNil rh
  obtain rfl:a=[]:=List.eq_nil_of_length_eq_zero e1
  simp-implicitDefEqProofs(disch:=omega)only[aj,al,oneOf,QS,WP,↓reduceIte,hn,h0,hx.nV Tryz.underlying22,rh,Tryz.results36]
  exact⟨.nil,aH.nil _,ar.refl _ _⟩
 |false=>
  simp-implicitDefEqProofs(disch:=omega)only[aj,ae,QS,WP,↓reduceIte,hn,h0,hx.nV Tryz.underlying22,rh,uH Tryz.underlying22 bL lh rfl rfl]
  refine aQ (n:=0) (by rfl) ?_
  intro b s2 hb MB aU
  simp-implicitDefEqProofs(disch:=omega)only[aj,ad,QS,WP,↓reduceIte,hn,h0]
  refine bV Tryz.underlying22 Tryz.underlying22 (.inl ⟨_,rfl⟩) bL kG lh rfl hb (hx.keeps aU).src (by rw[bF,Nat.mul_one]) (by decide) (dj _) (by omega) (by omega) MB (by have:=aU.next;omega) ?_
  intro o' s3 rZ HO dC LI uA
  simp-implicitDefEqProofs(disch:=omega)only[aj,al,oneOf,QS,↓reduceIte,hn,Tryz.results36]
  rw[Nat.zero_add,List.nil_append] at rZ
  exact⟨rZ,HO,aU.trans dC⟩
theorem Ib {lib:az}(hl:lib.at 138=none)(js:lib.at 36=none)(base:Nat)(s:aq)(j:Nat)(R:List Value)(v:Value)(p:List UInt8×Nat)(h:yx base s j v p R)(hp:p.1.length<=1000000000):
  Runs Tryz.prog lib 138 [Nc j R] s fun w s' =>cC s w s' p.1:=by
 refine Runs.enter 10 Tryz.func138 rfl hl rfl rfl ?_
 intro f hn hf
 have h0:f.get 0=Nc j R:=hf 0
 clear hf
 have l0:=h.cu.load (P:=Tryz.prog) gw (off:=0) (c:=R.length+3) (by simp) (by simp)
 simp-implicitDefEqProofs(disch:=omega)only[aj,ak,ad,QS,WP,↓reduceIte,hn,h0,cP Tryz.underlying206,pK,l0]
 refine(Ia js s v p.1 h.own.aG (by omega)).mono ?_
 intro w s2 hw
 simp-implicitDefEqProofs(disch:=omega)only[aj,al,oneOf,QS,↓reduceIte,hn,Tryz.results138]
 exact hw
end Go.Proofs.YtdfjfncifneocaaGreat
set_option linter.unusedSimpArgs false
set_option linter.unusedVariables false
set_option maxRecDepth 100000
namespace Go.Proofs.YtdfjfncifneocaaGreat
open Go.Cl Go.Cl.Lz Go.Cl.Rw
theorem Gv {lib:az}(hl:lib.at 152=none)(s:aq)(n:Nat):
  Runs Tryz.prog lib 152 [.int .i64 n] s fun v s' =>v= .int .i64 (width n:Nat)/\s' =s:=by
 refine Runs.enter 12 Tryz.func152 rfl hl rfl rfl ?_
 intro f hn hf
 have h0:f.get 0= .int .i64 n:=hf 0
 clear hf
 by_cases c1:n<511
 ·have tJ:(n:Int)<511:=by omega
  have e:width n=9:=by unfold width;rw[if_pos c1]
  simp-implicitDefEqProofs(disch:=omega)only[aj,al,oneOf,QS,WP,↓reduceIte,hn,h0,eq_true tJ,e,Tryz.results152]
  rfl
 ·have tJ:¬(n:Int)<511:=by omega
  by_cases c2:n<1023
  ·have C3:(n:Int)<1023:=by omega
   have e:width n=10:=by unfold width;rw[if_neg c1,if_pos c2]
   simp-implicitDefEqProofs(disch:=omega)only[aj,al,oneOf,QS,WP,↓reduceIte,hn,h0,eq_false tJ,eq_true C3,e,Tryz.results152]
   rfl
  ·have C3:¬(n:Int)<1023:=by omega
   by_cases c3:n<2047
   ·have Ks:(n:Int)<2047:=by omega
    have e:width n=11:=by unfold width;rw[if_neg c1,if_neg c2,if_pos c3]
    simp-implicitDefEqProofs(disch:=omega)only[aj,al,oneOf,QS,WP,↓reduceIte,hn,h0,eq_false tJ,eq_false C3,eq_true Ks,e,Tryz.results152]
    rfl
   ·have Ks:¬(n:Int)<2047:=by omega
    have e:width n=12:=by unfold width;rw[if_neg c1,if_neg c2,if_neg c3]
    simp-implicitDefEqProofs(disch:=omega)only[aj,al,oneOf,QS,WP,↓reduceIte,hn,h0,eq_false tJ,eq_false C3,eq_false Ks,e,Tryz.results152]
    rfl
theorem Gw (c:Nat):∀(w k:Nat),k<w->(dh c w)[k]?=some (c/2^(w-1-k)%2)
 |0,k,h=>by omega
 |w+1,0,h=>by simp[dh]
 |w+1,k+1,h=>by
  simp only[dh,List.getElem?_cons_succ]
  rw[Gw c w k (by omega),show w+1-1-(k+1)=w-1-k by omega]
theorem Nh {c w k:Nat}(h:k<w):(dh c w).take (k+1)=(dh c w).take k++[c/2^(w-1-k)%2]:=by
 rw[List.take_add_one,Gw c w k h];rfl
theorem O6 (c k:Nat):((c:Int)).fdiv (2^k)=((c/2^k:Nat):Int):=by
 rw[Int.fdiv_eq_ediv_of_nonneg _ (by exact Int.pow_nonneg (by omega))];norm_cast
end Go.Proofs.YtdfjfncifneocaaGreat
set_option linter.unusedSimpArgs false
set_option linter.unusedVariables false
set_option maxRecDepth 100000
namespace Go.Proofs.YtdfjfncifneocaaGreat
open Go.Cl Go.Cl.Lz Go.Cl.Rw
theorem Ic:aW Tryz.prog 162=some 2:=by kernel_rfl
theorem C4:aW Tryz.prog 134=some 1:=by kernel_rfl
theorem Ie:bY Tryz.prog 134=some false:=by kernel_rfl
theorem yz:aW Tryz.prog 4=some 1:=by kernel_rfl
theorem ZW (i o c:Nat):ay Tryz.prog 164 (.pointer (some ⟨i,o,some c⟩)) 0=some (.pointer (some ⟨i,o+0,some c⟩)):=by
 unfold ay;rw[Tryz.underlying164];simp[Ic]
theorem zS (i o c:Nat):ay Tryz.prog 164 (.pointer (some ⟨i,o,some c⟩)) 1=some (.pointer (some ⟨i,o+2,some c⟩)):=by
 unfold ay;rw[Tryz.underlying164];simp[C4]
theorem Vc (i o c:Nat):ay Tryz.prog 164 (.pointer (some ⟨i,o,some c⟩)) 2=some (.pointer (some ⟨i,o+3,some c⟩)):=by
 unfold ay;rw[Tryz.underlying164];simp[bB]
theorem Vd (i o c:Nat):ay Tryz.prog 164 (.pointer (some ⟨i,o,some c⟩)) 3=some (.pointer (some ⟨i,o+4,some c⟩)):=by
 unfold ay;rw[Tryz.underlying164];simp[yz]
def Gx (B:List Nat):List Value:=B.map fun x=> .int .i64 (x:Nat)
theorem Ni {B:List Nat}{i:Nat}(h:i<B.length):(Gx B).getD i undef= .int .i64 (B.getD i 0:Nat):=by
 simp[Gx,List.getD,List.getElem?_eq_getElem h]
structure Nj (base:Nat) (s:aq) (j:Nat) (v bv:Value) (p:List UInt8×Nat) (B:List Nat) (next:Nat) (begun:Bool):Prop where
 row:yx base s j v p [bv,.int .i64 next,.bool begun]
 bits:Own s 1 bv B.length (Gx B)
 bf:aH base bv
 bj:aE bv≠some j
 bx:∀k,aE v=some k->aE bv≠some k
abbrev nA (j:Nat):Value:= .pointer (some ⟨j,0,some 6⟩)
structure mH (j:Nat) (v bv:Value) (s:aq) (v' kO:Value) (s' :aq):Prop where
 next:s.next<=s'.next
 get:∀i,i<s.next->i≠j->aE v≠some i->aE bv≠some i->s'.heap.get i=s.heap.get i
 iv:aE v' =aE v\/∃i,aE v' =some i/\s.next<=i
 ib:aE kO=none\/aE kO=aE bv\/∃i,aE kO=some i/\s.next<=i
theorem RI {s s' :aq}{z j:Nat}{u v v' :Value}{n:Nat}{l:List Value}(h:Own s z u n l)(k:cZ j v s v' s')(h1:aE u≠some j)(h2:∀i,aE v=some i->aE u≠some i):Own s' z u n l:=by
 cases h with
 |nil=>exact .nil
 |of i n low l hi hb hl hlen=>
  refine .of i n low l (Nat.lt_of_lt_of_le hi k.next) ?_ hl hlen
  simp only[aq.bA,k.get i hi (fun e=>h1 (by rw[<-e];rfl)) (fun e=>h2 i e rfl)];exact hb
theorem mH.then {j:Nat}{v bv v' b' v2:Value}{s s' s2:aq}(h:mH j v bv s v' b' s')(k:cZ j v' s' v2 s2)(hb:∀i,i<s.next->aE v≠some i->aE v' ≠some i):mH j v bv s v2 b' s2:=by
 refine⟨Nat.le_trans h.next k.next,fun i hi th hv wT=>(k.get i (Nat.lt_of_lt_of_le hi h.next) th (hb i hi hv)).trans (h.get i hi th hv wT),?_,h.ib⟩
 rcases k.id with e|⟨q,e,hq⟩
 ·rcases h.iv with e2|⟨q,e2,hq⟩
  ·exact .inl (by rw[e,e2])
  ·exact .inr ⟨q,by rw[e,e2],hq⟩
 ·exact .inr ⟨q,e,Nat.le_trans h.next hq⟩
theorem mH.off {j:Nat}{v bv v' b' :Value}{s s' :aq}(h:mH j v bv s v' b' s'):∀i,i<s.next->aE v≠some i->aE v' ≠some i:=fun i hi hv=>by
 rcases h.iv with e|⟨q,e,hq⟩
 ·rw[e];exact hv
 ·rw[e];intro r;injection r with r;omega
theorem af1 (p:List UInt8×Nat)(x:Int):qy p x 1=nh p x:=by
 unfold qy
 rw[if_neg (by omega)]
 show nh p (x.fdiv (2^0))=_
 have:x.fdiv (2^0)=x:=by
  show x.fdiv 1=x
  rw[Int.fdiv_eq_ediv_of_nonneg _ (by omega),Int.ediv_one]
 rw[this]
set_option maxRecDepth 100000 in
set_option maxHeartbeats 4000000 in
theorem Ve {lib:az}(hl:lib.at 137=none)(jQ:lib.at 170=none)(lj:lib.at 200=none)(base:Nat)(s:aq)(j:Nat)(v bv:Value)(P:List UInt8)(B:List Nat)(next:Nat)(begun:Bool)(x:Int)(h:Nj base s j v bv (P,8*P.length) B next begun)(hb:base<=s.next)(hB:B.length<=7)(WQ:∀i,B.getD i 0<2)(hP:P.length<=110000000):
  Runs Tryz.prog lib 137 [nA j,.int .i64 x] s fun _ s' =>∃v' kO,Nj base s' j v' kO (if B.length=7 then(P++[fN (B++[(x%2).toNat])],8*(P.length+1)) else(P,8*P.length)) (if B.length=7 then [] else B++[(x%2).toNat]) next begun/\mH j v bv s v' kO s' :=by
 refine Runs.enter 40 Tryz.func137 rfl hl rfl rfl ?_
 intro f hn hf
 have h0:f.get 0=nA j:=hf 0
 have h1:f.get 1= .int .i64 x:=hf 1
 clear hf
 have g1:=h.row.cu.load (P:=Tryz.prog) Ie (off:=2) (c:=6) rfl (by simp)
 have kv:x%2=(((x%2).toNat:Nat):Int):=by omega
 obtain⟨y,hy⟩:∃y,y=(x%2).toNat:=⟨_,rfl⟩
 rw[<-hy] at kv|-
 have vE:y<2:=by omega
 simp-implicitDefEqProofs(disch:=omega)only[aj,ak,ae,QS,WP,↓reduceIte,hn,h0,h1,zS,g1,eL,T3,kv,g9 Tryz.underlying134 bB TR]
 refine bI Tryz.underlying134 bB Zz TR rfl h.bits (by simp only[aa,↓reduceIte,WP]) (by decide) (by simp only[ag,hn];decide) (by simp only[ag,hn];decide) (by rfl) (by decide) rfl (by omega) (by omega) h.bf hb ?_
 intro bs b2 s2 dB aka aU dZ qb
 have ab1:=h.row.cu.turns dZ h.bj
 have RJ:=h.row.own.turns dZ h.bx
 have af2:aE b2≠some j:=by
  rcases qb with e|⟨i,e,hi⟩
  ·rw[e];exact h.bj
  ·rw[e];intro q;injection q with q;have:=h.row.cu.lt;omega
 have Yn:∀k,aE v=some k->aE b2≠some k:=fun k hk=>by
  rcases qb with e|⟨i,e,hi⟩
  ·rw[e];exact h.bx k hk
  ·rw[e];intro q;injection q with q;have:=h.row.own.g8 k hk;omega
 have Vf:Gx B++[.int .i64 ((y:Nat):Int)]=Gx (B++[y]):=by simp[Gx]
 have Vg:B.length+1=(B++[y]).length:=by simp
 rw[Vf,Vg] at dB
 simp-implicitDefEqProofs(disch:=omega)only[aj,QS,WP,↓reduceIte,hn,zS]
 refine aX C4 ab1 rfl (by simp) dB.aG.aJ ?_
 intro s3 EF mm ij
 have rz:=dB.aI mm ij af2
 have WR:=RJ.aI mm ij h.row.ne
 have g3:=EF.load (P:=Tryz.prog) Ie (off:=2) (c:=6) rfl (by simp)
 have RK:Nj base s3 j v b2 (P,8*P.length) (B++[y]) next begun:=⟨⟨EF,WR,h.row.fresh,h.row.ne,h.row.lo,h.row.ok⟩,rz,aka,af2,Yn⟩
 have wY:mH j v bv s v b2 s3:=⟨by have:=dZ.next;omega,fun i hi th _ LP=>(ij i th).trans (dZ.get i hi LP),.inl rfl,.inr qb⟩
 by_cases c7:B.length=7
 ·have c7' :¬((B++[y]).length:Int)<8:=by rw[<-Vg];omega
  simp-implicitDefEqProofs(disch:=omega)only[aj,ak,ad,QS,WP,↓reduceIte,hn,h0,zS,g3,rz.aG.bh Tryz.underlying134,eq_false c7']
  obtain⟨l,hl⟩:∃l,l=B++[y]:=⟨_,rfl⟩
  rw[<-hl] at RK rz|-
  have xH:l.length=8:=by rw[hl,List.length_append,c7];rfl
  have jS:∀i,l.getD i 0<2:=fun i=>by
   rw[hl]
   by_cases q:i<B.length
   ·rw[List.getD_eq_getElem?_getD,List.getElem?_append_left q,<-List.getD_eq_getElem?_getD];exact WQ i
   ·rw[List.getD_eq_getElem?_getD,List.getElem?_append_right (by omega)]
    cases h:i-B.length with
    |zero=>exact vE
    |succ n=>simp
  refine Comes.bK (fun q f s' =>∃(k:Nat) (v' :Value),q=8-k/\k<=8/\Nj base s' j v' b2 (pF P l k) l next begun/\mH j v bv s v' b2 s' /\f.n=40/\f.get 0=nA j/\f.get 4= .int .i64 (7-(k:Int)))
   (fun y' f s' =>y' = .exit 0/\∃(v' :Value),Nj base s' j v' b2 (pF P l 8) l next begun/\mH j v bv s v' b2 s' /\f.n=40/\f.get 0=nA j)
   ⟨0,v,rfl,by omega,RK,wY,by simp only[ag,hn],by simp only[aa,↓reduceIte,WP,h0],by simp only[aa,↓reduceIte];rfl⟩ ?_ ?_
  ·clear hn h0 h1 f
   rintro Q hQ q f s4 ⟨k,v4,rfl,hk,hW,eX,hn,h0,h4⟩
   have g4:=hW.row.cu.load (P:=Tryz.prog) Ie (off:=2) (c:=6) rfl (by simp)
   by_cases hk8:k<8
   ·have c8:(0:Int)<=7-(k:Int):=by omega
    have e7:(7:Int)-(k:Int)=((7-k:Nat):Int):=by omega
    have hi7:7-k<l.length:=by omega
    have iF:=hW.bits.aG.dJ (P:=Tryz.prog) bC hi7
    rw[Ni hi7] at iF
    have uO:=hW.bits.aG.indexAddr (k:= .i64) (x:=((7-k:Nat):Int)) Tryz.underlying134 bB (by omega) (by omega)
    rw[Int.toNat_natCast] at uO
    rw[e7] at h4 c8
    have Qv:=Nat.le_trans hb eX.next
    simp-implicitDefEqProofs(disch:=omega)only[aj,QS,↓reduceIte,hn,h4,eq_true c8]
    refine da.uL (by kernel_rfl) ?_
    simp-implicitDefEqProofs(disch:=omega)only[aj,ak,ad,QS,WP,↓reduceIte,hn,h0,h4,ZW,zS,g4,hW.bits.self,uO,iF]
    refine(Ng jQ lj base s4 j [b2,.int .i64 next,.bool begun] v4 (pF P l k) ((l.getD (7-k) 0:Nat):Int) 1 hW.row Qv (by show 8*P.length+k<=_;omega)).mono ?_
    rintro _ s5 ⟨v5,hr5,C5⟩
    rw[af1,MP jS hk8] at hr5
    have e8:((7-k:Nat):Int)-1=7-((k+1:Nat):Int):=by omega
    have hx5:∀i,aE v5=some i->aE b2≠some i:=fun i hi e=>by
     rcases C5.id with q|⟨w,q,hq⟩
     ·exact hW.bx i (by rw[<-q];exact hi) e
     ·rw[q] at hi;injection hi with hi;have:=hW.bits.g8 i e;omega
    simp-implicitDefEqProofs(disch:=omega)only[aj,QS,WP,↓reduceIte,hn,h4,aB]
    refine au (8-(k+1)) (by omega) ⟨k+1,v5,rfl,by omega,⟨hr5,RI hW.bits C5 hW.bj hW.bx,hW.bf,hW.bj,hx5⟩,eX.then C5 eX.off,by simp only[ag,hn],by simp only[aa,↓reduceIte,WP,h0],by simp only[aa,↓reduceIte];rw[e8]⟩
   ·obtain rfl:k=8:=by omega
    have c8:¬(0:Int)<=7-((8:Nat):Int):=by omega
    simp-implicitDefEqProofs(disch:=omega)only[aj,QS,↓reduceIte,hn,h4,eq_false c8]
    exact hQ _ _ _ ⟨rfl,v4,hW,eX,by simp only[ag,hn],by simp only[aa,↓reduceIte,WP,h0]⟩
  ·clear hn h0 h1 f
   rintro _ f s4 ⟨rfl,v4,hW,eX,hn,h0⟩
   simp-implicitDefEqProofs(disch:=omega)only[aj,QS,↓reduceIte,hn,h0,zS]
   refine aX C4 hW.row.cu rfl (by simp) rfl ?_
   intro s5 vv WO IM
   simp-implicitDefEqProofs(disch:=omega)only[aj,ah,Tryz.results137]
   rw[if_pos c7,if_pos c7]
   have e9:pF P l 8=(P++[fN l],8*(P.length+1)):=by rw[J2,List.length_append];rfl
   rw[e9] at hW vv
   refine⟨v4,.slice none 0 0,⟨⟨vv,hW.row.own.aI WO IM hW.row.ne,hW.row.fresh,hW.row.ne,hW.row.lo,hW.row.ok⟩,.nil,aH.nil _,(fun e=>by cases e),fun _ _ e=>by cases e⟩,⟨by have:=eX.next;omega,fun i hi th hv wT=>(IM i th).trans (eX.get i hi th hv wT),eX.iv,.inl rfl⟩⟩
 ·have c7' :((B++[y]).length:Int)<8:=by rw[<-Vg];omega
  simp-implicitDefEqProofs(disch:=omega)only[aj,ak,al,ad,QS,WP,↓reduceIte,hn,h0,zS,g3,rz.aG.bh Tryz.underlying134,eq_true c7',Tryz.results137]
  rw[if_neg c7,if_neg c7]
  exact⟨v,b2,RK,wY⟩
end Go.Proofs.YtdfjfncifneocaaGreat
set_option linter.unusedSimpArgs false
set_option linter.unusedVariables false
set_option maxRecDepth 100000
namespace Go.Proofs.YtdfjfncifneocaaGreat
open Go.Cl Go.Cl.Lz Go.Cl.Rw
def sO (p:List UInt8×List Nat)(b:Nat):List UInt8×List Nat:=if p.2.length=7 then(p.1++[fN (p.2++[b])],[]) else(p.1,p.2++[b])
def fv (p:List UInt8×List Nat)(L:List Nat):List UInt8×List Nat:=L.foldl sO p
theorem Nk (p:List UInt8×List Nat)(L:List Nat)(b:Nat):fv p (L++[b])=sO (fv p L) b:=by simp[fv]
def C6 (p:List UInt8×List Nat):Prop:=p.2.length<=7/\∀i,p.2.getD i 0<2
theorem yA {p:List UInt8×List Nat}(h:C6 p){b:Nat}(hb:b<2):C6 (sO p b):=by
 obtain⟨h1,h2⟩:=h
 unfold sO
 by_cases q:p.2.length=7
 ·rw[if_pos q];exact⟨by simp,fun i=>by simp⟩
 ·rw[if_neg q]
  refine⟨by simp;omega,fun i=> ?_⟩
  by_cases r:i<p.2.length
  ·rw[List.getD_eq_getElem?_getD,List.getElem?_append_left r,<-List.getD_eq_getElem?_getD];exact h2 i
  ·rw[List.getD_eq_getElem?_getD,List.getElem?_append_right (by omega)]
   cases h:i-p.2.length with
   |zero=>exact hb
   |succ n=>simp
theorem Kt (p:List UInt8×List Nat)(b:Nat):(sO p b).1.length<=p.1.length+1:=by
 unfold sO;split
 ·simp
 ·simp
theorem mH.refl (j:Nat)(v bv:Value)(s:aq):mH j v bv s v bv s:=⟨Nat.le_refl _,fun _ _ _ _ _=>rfl,.inl rfl,.inr (.inl rfl)⟩
theorem mH.trans {j:Nat}{v bv v1 b1 v2 b2:Value}{s s1 s2:aq}(h:mH j v bv s v1 b1 s1)(k:mH j v1 b1 s1 v2 b2 s2):mH j v bv s v2 b2 s2:=by
 refine⟨Nat.le_trans h.next k.next,fun i hi th hv wT=>(k.get i (Nat.lt_of_lt_of_le hi h.next) th (h.off i hi hv) ?_).trans (h.get i hi th hv wT),?_,?_⟩
 ·rcases h.ib with e|e|⟨q,e,hq⟩
  ·rw[e];simp
  ·rw[e];exact wT
  ·rw[e];intro r;injection r with r;omega
 ·rcases k.iv with e|⟨q,e,hq⟩
  ·rcases h.iv with e2|⟨q,e2,hq⟩
   ·exact .inl (by rw[e,e2])
   ·exact .inr ⟨q,by rw[e,e2],hq⟩
  ·exact .inr ⟨q,e,Nat.le_trans h.next hq⟩
 ·rcases k.ib with e|e|⟨q,e,hq⟩
  ·exact .inl e
  ·rcases h.ib with e2|e2|⟨q,e2,hq⟩
   ·exact .inl (by rw[e,e2])
   ·exact .inr (.inl (by rw[e,e2]))
   ·exact .inr (.inr ⟨q,by rw[e,e2],hq⟩)
  ·exact .inr (.inr ⟨q,e,Nat.le_trans h.next hq⟩)
def Wr (base:Nat)(s:aq)(j:Nat)(v bv:Value)(q:List UInt8×List Nat)(next:Nat)(begun:Bool):Prop:=Nj base s j v bv (q.1,8*q.1.length) q.2 next begun
theorem Ku {lib:az}(hl:lib.at 137=none)(jQ:lib.at 170=none)(lj:lib.at 200=none)(base:Nat)(s:aq)(j:Nat)(v bv:Value)(q:List UInt8×List Nat)(next:Nat)(begun:Bool)(x:Int)(h:Wr base s j v bv q next begun)(hb:base<=s.next)(hq:C6 q)(hP:q.1.length<=110000000):
  Runs Tryz.prog lib 137 [nA j,.int .i64 x] s fun _ s' =>∃v' kO,Wr base s' j v' kO (sO q (x%2).toNat) next begun/\mH j v bv s v' kO s' :=by
 refine(Ve hl jQ lj base s j v bv q.1 q.2 next begun x h hb hq.1 hq.2 hP).mono ?_
 rintro _ s' ⟨v',kO,h1,h2⟩
 refine⟨v',kO,?_,h2⟩
 unfold Wr sO
 by_cases c:q.2.length=7
 ·rw[if_pos c,if_pos c] at h1;rw[if_pos c]
  have e:(q.1++[fN (q.2++[(x%2).toNat])]).length=q.1.length+1:=by simp
  show Nj base s' j v' kO (q.1++[fN (q.2++[(x%2).toNat])],8*(q.1++[fN (q.2++[(x%2).toNat])]).length) [] next begun
  rw[e];exact h1
 ·rw[if_neg c,if_neg c] at h1;rw[if_neg c];exact h1
theorem Nl:bY Tryz.prog 4=some false:=by kernel_rfl
def nB (c next:Nat)(begun:Bool):Nat:=if c=256 then 258 else if c=257 then next else if begun then min (next+1) 4096 else next
def mI (c:Nat)(begun:Bool):Bool:=if c=256 then false else if c=257 then begun else true
set_option maxRecDepth 100000 in
set_option maxHeartbeats 4000000 in
theorem tu {lib:az}(hl:lib.at 136=none)(IP:lib.at 152=none)(C7:lib.at 137=none)(jQ:lib.at 170=none)(lj:lib.at 200=none)(base:Nat)(s:aq)(j:Nat)(v bv:Value)(q:List UInt8×List Nat)(next:Nat)(begun:Bool)(c:Nat)(h:Wr base s j v bv q next begun)(hb:base<=s.next)(hq:C6 q)(hP:q.1.length<=100000000)(hc:c<100000000)(hn:next<=4096):
  Runs Tryz.prog lib 136 [nA j,.int .i64 c] s fun _ s' =>∃v' kO,Wr base s' j v' kO (fv q (dh c (width next))) (nB c next begun) (mI c begun)/\mH j v bv s v' kO s' :=by
 refine Runs.enter 49 Tryz.func136 rfl hl rfl rfl ?_
 intro f iK hf
 have h0:f.get 0=nA j:=hf 0
 have h1:f.get 1= .int .i64 c:=hf 1
 clear hf
 have g2:=h.row.cu.load (P:=Tryz.prog) bC (off:=3) (c:=6) rfl (by simp)
 obtain⟨w,hw⟩:∃w,w=width next:=⟨_,rfl⟩
 have M0:=pE next
 rw[<-hw] at M0
 simp-implicitDefEqProofs(disch:=omega)only[aj,ak,ad,QS,↓reduceIte,iK,h0,Vc,g2]
 refine(Gv IP s next).mono ?_
 rintro _ s1 ⟨rfl,jZ⟩
 subst jZ
 rw[<-hw]
 simp-implicitDefEqProofs(disch:=omega)only[aj,QS,↓reduceIte,iK,aB]
 refine Comes.bK (fun z f s' =>∃(k:Nat) (v' kO:Value),z=w-k/\k<=w/\Wr base s' j v' kO (fv q ((dh c w).take k)) next begun/\C6 (fv q ((dh c w).take k))/\(fv q ((dh c w).take k)).1.length<=q.1.length+k/\mH j v bv s1 v' kO s' /\f.n=49/\f.get 0=nA j/\f.get 1= .int .i64 c/\f.get 4= .int .i64 ((w:Int)-1-k))
  (fun y f s' =>y= .exit 0/\∃(v' kO:Value),Wr base s' j v' kO (fv q (dh c w)) next begun/\mH j v bv s1 v' kO s' /\f.n=49/\f.get 0=nA j/\f.get 1= .int .i64 c)
  ⟨0,v,bv,rfl,by omega,by simpa [fv] using h,by simpa [fv] using hq,by simp[fv],mH.refl _ _ _ _,by simp only[ag,iK],by simp only[aa,↓reduceIte,WP,h0],by simp only[aa,↓reduceIte,WP,h1],by simp only[aa,↓reduceIte];simp⟩ ?_ ?_
 ·clear iK h0 h1 f g2
  rintro Q hQ z f s2 ⟨k,v2,b2,rfl,hk,hW,hH,hlen,eX,iK,h0,h1,h4⟩
  by_cases hkw:k<w
  ·have c1:(0:Int)<=(w:Int)-1-k:=by omega
   obtain⟨m,hm⟩:∃m:Nat,m=w-1-k:=⟨_,rfl⟩
   have e1:(w:Int)-1-k=(m:Int):=by omega
   rw[e1] at h4 c1
   have ape:m<64:=by omega
   simp-implicitDefEqProofs(disch:=omega)only[aj,ak,ad,QS,WP,↓reduceIte,iK,h0,h1,h4,eq_true c1,HR,O6]
   refine(Ku C7 jQ lj base s2 j v2 b2 _ next begun ((c/2^m:Nat):Int) hW (Nat.le_trans hb eX.next) hH (by omega)).mono ?_
   rintro _ s3 ⟨v3,b3,RK,wY⟩
   have ab2:((((c/2^m:Nat):Int))%2).toNat=c/2^m%2:=by
    generalize c/2^m=u;omega
   rw[ab2] at RK
   have e2:(m:Int)-1=(w:Int)-1-((k+1:Nat):Int):=by omega
   have e3:fv q ((dh c w).take (k+1))=sO (fv q ((dh c w).take k)) (c/2^m%2):=by rw[Nh hkw,<-hm,Nk]
   simp-implicitDefEqProofs(disch:=omega)only[aj,QS,WP,↓reduceIte,iK,h4,aB]
   refine au (w-(k+1)) (by omega) ⟨k+1,v3,b3,rfl,by omega,by rw[e3];exact RK,by rw[e3];exact yA hH (Nat.mod_lt _ (by omega)),by rw[e3];have:=Kt (fv q ((dh c w).take k)) (c/2^m%2);omega,eX.trans wY,by simp only[ag,iK],by simp only[aa,↓reduceIte,WP,h0],by simp only[aa,↓reduceIte,WP,h1],by simp only[aa,↓reduceIte];rw[e2]⟩
  ·obtain rfl:k=w:=by omega
   have c1:¬(0:Int)<=(k:Int)-1-k:=by omega
   have et:(dh c k).take k=dh c k:=List.take_of_length_le (by rw[cT];omega)
   rw[et] at hW
   simp-implicitDefEqProofs(disch:=omega)only[aj,QS,↓reduceIte,iK,h4,eq_false c1]
   exact hQ _ _ _ ⟨rfl,v2,b2,hW,eX,by simp only[ag,iK],by simp only[aa,↓reduceIte,WP,h0],by simp only[aa,↓reduceIte,WP,h1]⟩
 ·clear iK h0 h1 f g2
  rintro _ f s2 ⟨rfl,v2,b2,hW,eX,iK,h0,h1⟩
  have put:∀{s3 s4:aq} {v3 b3:Value} {q3:List UInt8×List Nat} {n3 n4:Nat} {g3 g4:Bool},Wr base s3 j v3 b3 q3 n3 g3->av s4 j (v3:: .int .i64 (8*q3.1.length:Nat)::[b3,.int .i64 n4,.bool g4])->s4.next=s3.next->(∀i,i≠j->s4.heap.get i=s3.heap.get i)->Wr base s4 j v3 b3 q3 n4 g4/\mH j v3 b3 s3 v3 b3 s4:=by
   intro s3 s4 v3 b3 q3 n3 n4 g3 g4 h ht hn hs
   exact⟨⟨⟨ht,h.row.own.aI hn hs h.row.ne,h.row.fresh,h.row.ne,h.row.lo,h.row.ok⟩,h.bits.aI hn hs h.bj,h.bf,h.bj,h.bx⟩,⟨by omega,fun i _ th _ _=>hs i th,.inl rfl,.inr (.inl rfl)⟩⟩
  have g2:=hW.row.cu.load (P:=Tryz.prog) bC (off:=3) (c:=6) rfl (by simp)
  have g3:=hW.row.cu.load (P:=Tryz.prog) Nl (off:=4) (c:=6) rfl (by simp)
  by_cases k1:c=256
  ·have Gy:(c:Int)=256:=by omega
   have e1:nB c next begun=258:=by unfold nB;rw[if_pos k1]
   have e2:mI c begun=false:=by unfold mI;rw[if_pos k1]
   rw[e1,e2]
   simp-implicitDefEqProofs(disch:=omega)only[aj,QS,WP,↓reduceIte,iK,h0,h1,eq_true Gy,Vc]
   refine aX bB hW.row.cu rfl (by simp) rfl ?_
   intro s3 jt mm ij
   obtain⟨RK,wY⟩:=put (n4:=258) (g4:=begun) hW jt mm ij
   simp-implicitDefEqProofs(disch:=omega)only[aj,QS,WP,↓reduceIte,iK,Vd]
   refine aX yz RK.row.cu rfl (by simp) rfl ?_
   intro s4 ie u0 ru
   obtain⟨hW4,ab3⟩:=put (n4:=258) (g4:=false) RK ie u0 ru
   simp-implicitDefEqProofs(disch:=omega)only[aj,ah,Tryz.results136]
   exact⟨v2,b2,hW4,eX.trans (wY.trans ab3)⟩
  ·have Gy:¬(c:Int)=256:=by omega
   by_cases k2:c=257
   ·have IH:(c:Int)=257:=by omega
    have e1:nB c next begun=next:=by unfold nB;rw[if_neg k1,if_pos k2]
    have e2:mI c begun=begun:=by unfold mI;rw[if_neg k1,if_pos k2]
    rw[e1,e2]
    simp-implicitDefEqProofs(disch:=omega)only[aj,ah,QS,WP,↓reduceIte,iK,h1,eq_false Gy,eq_true IH,Tryz.results136]
    exact⟨v2,b2,hW,eX⟩
   ·have IH:¬(c:Int)=257:=by omega
    have e2:mI c begun=true:=by unfold mI;rw[if_neg k1,if_neg k2]
    rw[e2]
    cases begun with
    |true=>
     have e1:nB c next true=min (next+1) 4096:=by unfold nB;rw[if_neg k1,if_neg k2];rfl
     have Br:(if(4096:Int)<(next:Int)+1 then(4096:Int) else(next:Int)+1)=((min (next+1) 4096:Nat):Int):=by split<;>omega
     rw[e1]
     simp-implicitDefEqProofs(disch:=omega)only[aj,ak,ad,QS,WP,↓reduceIte,iK,h0,h1,eq_false Gy,eq_false IH,Vc,Vd,g2,g3,aB,Br]
     refine aX bB hW.row.cu rfl (by simp) rfl ?_
     intro s3 jt mm ij
     obtain⟨RK,wY⟩:=put (n4:=min (next+1) 4096) (g4:=true) hW jt mm ij
     simp-implicitDefEqProofs(disch:=omega)only[aj,ah,Tryz.results136]
     exact⟨v2,b2,RK,eX.trans wY⟩
    |false=>
     have e1:nB c next false=next:=by unfold nB;rw[if_neg k1,if_neg k2];rfl
     rw[e1]
     simp-implicitDefEqProofs(disch:=omega)only[aj,ak,QS,WP,↓reduceIte,iK,h0,h1,eq_false Gy,eq_false IH,Vd,g3]
     refine aX yz hW.row.cu rfl (by simp) rfl ?_
     intro s3 jt mm ij
     obtain⟨RK,wY⟩:=put (n4:=next) (g4:=true) hW jt mm ij
     simp-implicitDefEqProofs(disch:=omega)only[aj,ah,Tryz.results136]
     exact⟨v2,b2,RK,eX.trans wY⟩
end Go.Proofs.YtdfjfncifneocaaGreat
