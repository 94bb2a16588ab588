import Derived.Test.YtdfjfncifneocaaGreatPrD
import Derived.Test.YtdfjfncifneocaaGreatRuns2
open Nat renaming reduceLT->QS,reduceEqDiff->Qx
set_option maxHeartbeats 8000000
set_option linter.unusedSimpArgs false
set_option linter.unusedVariables false
set_option maxRecDepth 100000
namespace Go.Proofs.YtdfjfncifneocaaGreat
open Go.Cl Go.Cl.Pr Go.Cl.Ch Go.Cl.Hx Go.Cl.B85
theorem cM.behind {s s1 s' :aq}{w:Value}{l:List UInt8}(h:cM s1 w s' l)(k:ar s.next s s1):cM s w s' l:=cM.after h k rfl
theorem aey:Dt df:=⟨rfl,rfl,rfl,rfl,rfl,rfl,rfl,rfl,rfl,rfl⟩
theorem aez (s:aq)(l:Lk)(x:Value)(b:List UInt8)(hx:aN s 1 x b.length (ofBytes b))(hb:b.length<=2000000):
  Runs Tryz.prog df 47 [fE l,x] s (vg s (pN l b)):=by
 obtain⟨QQ,fw⟩:∃QQ:Value->aq->Prop,QQ=vg s (pN l b):=⟨_,rfl⟩
 rw[<-fw]
 refine Runs.enter 40 Tryz.func47 rfl rfl rfl rfl ?_
 intro f hn hf
 have h0:f.get 0=fE l:=hf 0
 have h1:f.get 1=x:=hf 1
 clear hf
 simp only[aj,QS,↓reduceIte,hn,h0]
 refine aw ?_
 intro s1 ht aE xG
 have ht:ax s1 s.next l.cells:=ht
 have hd:l.cells.length+1=6:=rfl
 have nk:=hx.keeps aE
 have p3:aJ Tryz.prog s1 9 (.pointer (some ⟨s.next,3,some 6⟩))=some (.string ⟨l.name.toArray⟩):=ht.load tp (off:=3) (c:=6) rfl (by simp[Lk.cells])
 have e1:=kJ (P:=Tryz.prog) (t:=9) l.name ss
 have e2:=kJ (P:=Tryz.prog) (t:=9) l.name Kc
 have e3:=kJ (P:=Tryz.prog) (t:=9) l.name x5
 have e4:=kJ (P:=Tryz.prog) (t:=9) l.name iI
 rw[show ss.toArray= #[65,83,67,73,73,72,101,120,68,101,99,111,100,101] from rfl] at e1
 rw[show Kc.toArray= #[65,83,67,73,73,56,53,68,101,99,111,100,101] from rfl] at e2
 rw[show x5.toArray= #[82,117,110,76,101,110,103,116,104,68,101,99,111,100,101] from rfl] at e3
 rw[show iI.toArray= #[70,108,97,116,101,68,101,99,111,100,101] from rfl] at e4
 by_cases c1:l.name=ss
 ·rw[decide_eq_true c1] at e1
  simp only[aj,ak,aa,QS,Qx,↓reduceIte,hn,h1,hd,zu,p3,e1]
  refine(aaL (lib:=df) rfl s1 x b nk (by omega)).mono ?_
  intro w s2 hw
  simp only[aj,al,oneOf,QS,Qx,↓reduceIte,hn,Tryz.results47]
  rw[fw]
  exact⟨w,by unfold pN;rw[if_pos c1],by unfold pN;rw[if_pos c1];exact cM.behind hw aE⟩
 rw[decide_eq_false c1] at e1
 by_cases c2:l.name=Kc
 ·rw[decide_eq_true c2] at e2
  simp only[aj,ak,aa,QS,Qx,↓reduceIte,hn,h1,hd,zu,p3,e1,e2]
  refine(O9 (lib:=df) rfl s1 x b nk (by omega)).mono ?_
  intro w s2 hw
  simp only[aj,al,oneOf,QS,Qx,↓reduceIte,hn,Tryz.results47]
  rw[fw]
  exact⟨w,by unfold pN;rw[if_neg c1,if_pos c2],by unfold pN;rw[if_neg c1,if_pos c2];exact cM.behind hw aE⟩
 rw[decide_eq_false c2] at e2
 by_cases c3:l.name=x5
 ·rw[decide_eq_true c3] at e3
  simp only[aj,ak,aa,QS,Qx,↓reduceIte,hn,h1,hd,zu,p3,e1,e2,e3]
  refine(L8 (lib:=df) rfl rfl rfl s1 x b nk (by omega)).mono ?_
  intro w s2 hw
  simp only[aj,al,oneOf,QS,Qx,↓reduceIte,hn,Tryz.results47]
  rw[fw]
  exact⟨w,by unfold pN;rw[if_neg c1,if_neg c2,if_pos c3],by unfold pN;rw[if_neg c1,if_neg c2,if_pos c3];exact cM.behind hw aE⟩
 rw[decide_eq_false c3] at e3
 have la:aJ Tryz.prog s1 56 (.pointer (some ⟨s.next,0,some 6⟩))=some (i3 l.p l.co l.cl):=by
  have:=ax.uj (P:=Tryz.prog) Ay rW ht (off:=0) (c:=6) rfl (by simp[Lk.cells])
  rw[this];rfl
 simp only[aj,ak,aa,QS,Qx,↓reduceIte,hn,h1,hd,tJ,zu,p3,e1,e2,e3,la]
 refine(L0 (lib:=df) aey rfl s1 l.p l.co l.cl x b nk (by omega)).mono ?_
 rintro _ s2 ⟨w,rfl,hw⟩
 have hk:ar s.next s s2:=aE.trans (hw.stay.weaken aE.next)
 have ph:=xA l.p l.co l.cl b
 have x0:∀z,ba (.tuple #[w,z]) 0=some w:=fun _=>rfl
 have x1:∀z,ba (.tuple #[w,z]) 1=some z:=fun _=>rfl
 by_cases c4:(eJ l.p l.co l.cl b).2=0
 rotate_left
 ·have hD:pN l b=([],(eJ l.p l.co l.cl b).2):=by unfold pN;rw[if_neg c1,if_neg c2,if_neg c3,if_pos c4]
  simp only[aj,ak,al,oneOf,QS,Qx,↓reduceIte,hn,x0,x1,decide_not,decide_eq_false c4,Tryz.results47]
  rw[fw,hD]
  exact⟨_,rfl,⟨.nil,aF.nil _,hk⟩⟩
 have dD:=ht.keeps hw.stay
 have p4:aJ Tryz.prog s2 9 (.pointer (some ⟨s.next,3,some 6⟩))=some (.string ⟨l.name.toArray⟩):=dD.load tp (off:=3) (c:=6) rfl (by simp[Lk.cells])
 rw[c4]
 by_cases c5:l.name=iI
 ·rw[decide_eq_true c5] at e4
  have hD:pN l b=(Fx.DF (eJ l.p l.co l.cl b).1,0):=by unfold pN;rw[if_neg c1,if_neg c2,if_neg c3,if_neg (fun h=>h c4),if_pos c5]
  simp only[aj,ak,aa,QS,Qx,↓reduceIte,hn,x0,x1,zu,p4,e4]
  refine(Wg (lib:=df) rfl rfl rfl rfl rfl rfl rfl rfl rfl rfl rfl rfl rfl rfl rfl rfl rfl s2 w _ hw.own.aG (by omega)).mono ?_
  intro y s3 hy
  simp only[aj,al,oneOf,QS,Qx,↓reduceIte,hn,Tryz.results47]
  rw[fw,hD]
  exact⟨y,rfl,hy.behind hk⟩
 rw[decide_eq_false c5] at e4
 have hD:pN l b=(Lz.E5 (eJ l.p l.co l.cl b).1,0):=by unfold pN;rw[if_neg c1,if_neg c2,if_neg c3,if_neg (fun h=>h c4),if_neg c5]
 simp only[aj,ak,aa,QS,Qx,↓reduceIte,hn,x0,x1,zu,p4,e4]
 refine(O7 (lib:=df) rfl rfl rfl rfl rfl rfl rfl rfl s2 w _ hw.own.aG (by omega)).mono ?_
 intro y s3 hy
 simp only[aj,al,oneOf,QS,Qx,↓reduceIte,hn,Tryz.results47]
 rw[fw,hD]
 exact⟨y,rfl,hy.behind hk⟩
end Go.Proofs.YtdfjfncifneocaaGreat
namespace Go.Cl.Pr
def L9 (l:List UInt8)(h n i:Nat):UInt8:=l.getD (i/n*(h+n)+h+i%n) 0
def Q9 (l:List UInt8)(h n r:Nat):Int:=if h=1 then(((l.getD (r*(h+n)) 0).toNat:Nat):Int) else 1
def ir (l:List UInt8)(h n c:Nat):Nat->List UInt8
 |0=>[]
 |m+1=>ir l h n c m++[hJ ((((L9 l h n m).toNat:Nat):Int)+gs (Q9 l h n (m/n)) (ir l h n c m) n c m)]
theorem iJ (l:List UInt8)(h n c:Nat):∀m,(ir l h n c m).length=m
 |0=>rfl
 |m+1=>by rw[ir,List.length_append,iJ l h n c m];rfl
theorem zA (l:List UInt8)(h n c:Nat):∀m k,k<=m->(ir l h n c m).take k=ir l h n c k
 |0,k,hk=>by obtain rfl:k=0:=by omega
             rfl
 |m+1,k,hk=>by
  by_cases e:k=m+1
  ·subst e;exact List.take_of_length_le (by rw[iJ];exact Nat.le_refl _)
  ·rw[ir,List.take_append_of_le_length (by rw[iJ];omega)]
   exact zA l h n c m k (by omega)
theorem Xg (l:List UInt8)(h n c:Nat){m k j:Nat}(hk:k<=m)(hj:j<k):(ir l h n c m).getD j 0=(ir l h n c k).getD j 0:=by
 rw[<-zA l h n c m k hk,List.getD_eq_getElem?_getD,List.getD_eq_getElem?_getD,List.getElem?_take_of_lt hj]
def Jy (l:List UInt8)(h n q:Nat):Bool:=(List.range q).any fun r=>decide (4<Q9 l h n r)
def jF (p co cl:Int)(l:List UInt8):List UInt8×Int:=
 if¬oC p co cl then([],1) else if p=1 then(l,0)
 else if l.length%((if 10<=p then 1 else 0)+co.toNat*cl.toNat)≠0 then([],4)
 else if Jy l (if 10<=p then 1 else 0) (co.toNat*cl.toNat) (l.length/((if 10<=p then 1 else 0)+co.toNat*cl.toNat))=true then([],4)
 else(ir l (if 10<=p then 1 else 0) (co.toNat*cl.toNat) co.toNat (l.length/((if 10<=p then 1 else 0)+co.toNat*cl.toNat)*(co.toNat*cl.toNat)),0)
theorem Xh {l:List UInt8}{h n q r:Nat}(hr:r<q)(hc:4<Q9 l h n r):Jy l h n q=true:=by
 unfold Jy
 rw[List.any_eq_true]
 exact⟨r,List.mem_range.2 hr,decide_eq_true hc⟩
theorem aeA (l:List UInt8)(h n r:Nat):0<=Q9 l h n r/\Q9 l h n r<=255:=by
 unfold Q9;split
 ·exact u6 _
 ·omega
def mm (l:List UInt8)(h n c r k:Nat):List UInt8:=(ir l h n c (r*n+k)).drop (r*n)++List.replicate (n-k) 0
theorem Ma {l:List UInt8}{h n c r k:Nat}(hk:k<=n):(mm l h n c r k).length=n:=by
 unfold mm;rw[List.length_append,List.length_drop,iJ,List.length_replicate];omega
theorem Tz (l:List UInt8)(h n c r:Nat):mm l h n c r 0=List.replicate n 0:=by
 unfold mm
 rw[List.drop_of_length_le (by rw[iJ];omega),List.nil_append,Nat.sub_zero]
theorem Mb (l:List UInt8)(h n c r:Nat):mm l h n c r n=(ir l h n c ((r+1)*n)).drop (r*n):=by
 unfold mm
 rw[Nat.sub_self,List.replicate_zero,List.append_nil,Nat.succ_mul]
theorem TA {l:List UInt8}{h n c r k j:Nat}(hj:j<k):(mm l h n c r k).getD j 0=(ir l h n c (r*n+k)).getD (r*n+j) 0:=by
 unfold mm
 rw[List.getD_eq_getElem?_getD,List.getElem?_append_left (by rw[List.length_drop,iJ];omega),List.getElem?_drop,<-List.getD_eq_getElem?_getD]
theorem Xi {l:List UInt8}{h n c r k:Nat}(hk:k<n):(mm l h n c r k).set k (hJ ((((L9 l h n (r*n+k)).toNat:Nat):Int)+gs (Q9 l h n ((r*n+k)/n)) (ir l h n c (r*n+k)) n c (r*n+k)))=mm l h n c r (k+1):=by
 unfold mm
 have e1:((ir l h n c (r*n+k)).drop (r*n)).length=k:=by rw[List.length_drop,iJ];omega
 rw[List.set_append_right _ _ (by omega),e1,Nat.sub_self,<-Nat.add_assoc]
 have e2:n-k=(n-(k+1))+1:=by omega
 rw[e2,List.replicate_succ,List.set_cons_zero,ir,List.drop_append_of_le_length (by rw[iJ];omega),List.append_assoc]
 rfl
theorem aeB {T:Int}{l:List UInt8}{h n c r k:Nat}(hn:0<n)(hk:k<n)(W:List UInt8)(hW:W=if r=0 then [] else(ir l h n c (r*n)).drop ((r-1)*n)):pD T (if c<=k then((((mm l h n c r k).getD (k-c) 0).toNat:Nat):Int) else 0) (if 0<W.length then(((W.getD k 0).toNat:Nat):Int) else 0) (if 0<W.length/\c<=k then(((W.getD (k-c) 0).toNat:Nat):Int) else 0)=gs T (ir l h n c (r*n+k)) n c (r*n+k)\/c=0:=by
 by_cases hc:c=0
 ·exact .inr hc
 left
 have hm:(r*n+k)%n=k:=I3 hk
 have e1:(if c<=k then((((mm l h n c r k).getD (k-c) 0).toNat:Nat):Int) else 0)=At (ir l h n c (r*n+k)) n c (r*n+k):=by
  unfold At
  rw[hm]
  split
  ·rw[TA (by omega),show r*n+k-c=r*n+(k-c) by omega]
  ·rfl
 have e2:(if 0<W.length then(((W.getD k 0).toNat:Nat):Int) else 0)=tq (ir l h n c (r*n+k)) n (r*n+k)/\(if 0<W.length/\c<=k then(((W.getD (k-c) 0).toNat:Nat):Int) else 0)=oS (ir l h n c (r*n+k)) n c (r*n+k):=by
  unfold tq oS
  rw[hm]
  cases r with
  |zero=>
   rw[if_pos rfl] at hW
   subst hW
   rw[Nat.zero_mul,if_neg (by simp),if_neg (by omega),if_neg (by simp),if_neg (by omega)]
   exact⟨rfl,rfl⟩
  |succ r=>
   rw[if_neg (by omega),Nat.add_sub_cancel] at hW
   have hs:(r+1)*n=r*n+n:=Nat.succ_mul r n
   have hwl:W.length=n:=by rw[hW,List.length_drop,iJ];omega
   have hg:∀j,j<n->W.getD j 0=(ir l h n c ((r+1)*n+k)).getD (r*n+j) 0:=fun j hj=>by
    rw[hW,List.getD_eq_getElem?_getD,List.getElem?_drop,<-List.getD_eq_getElem?_getD]
    exact(Xg l h n c (k:=(r+1)*n) (by omega) (by omega)).symm
   rw[if_pos (by omega),if_pos (by omega)]
   refine⟨by rw[hg k hk,show(r+1)*n+k-n=r*n+k by omega],?_⟩
   by_cases h' :c<=k
   ·rw[if_pos ⟨by omega,h'⟩,if_pos ⟨by omega,h'⟩,hg _ (by omega),show(r+1)*n+k-n-c=r*n+(k-c) by omega]
   ·rw[if_neg (fun q=>h' q.2),if_neg (fun q=>h' q.2)]
 unfold gs
 rw[e1,e2.1,e2.2]
end Go.Cl.Pr
namespace Go.Proofs.YtdfjfncifneocaaGreat
open Go.Cl Go.Cl.Pr
theorem QT (n:Nat):List.replicate n (.int .u8 0)=ofBytes (List.replicate n 0):=by simp[ofBytes]
theorem Jz (l:List UInt8)(k:Nat)(c:UInt8):(ofBytes l).set k (.int .u8 (c.toNat:Int))=ofBytes (l.set k c):=by
 simp[ofBytes,List.map_set]
theorem aaM {s:aq}{z:Nat}{v:Value}{n:Nat}{l:List Value}(h:aN s z v n l)(hn:0<n){lo hi j:Nat}(e:aI (dJ z v lo hi)=some j):j<s.next:=by
 cases h with
 |nil=>omega
 |bare=>omega
 |of i off n c b l wB hb hz hl hc hlen fy ht=>
  have:j=i:=by
   have e:some i=some j:=e
   injection e with e;exact e.symm
  omega
theorem AP {lib:aA}(L:Dt lib)(hl:lib.at 70=none)(s:aq)(p co cl:Int)(x:Value)(l:List UInt8)(hx:aN s 1 x l.length (ofBytes l))(hlen:l.length<=100000000):
  Runs Tryz.prog lib 70 [i3 p co cl,x] s (vg s (jF p co cl l)):=by
 obtain⟨QQ,fw⟩:∃QQ:Value->aq->Prop,QQ=vg s (jF p co cl l):=⟨_,rfl⟩
 rw[<-fw]
 refine Runs.enter 90 Tryz.func70 rfl hl rfl rfl ?_
 intro f hn hf
 have h0:f.get 0=i3 p co cl:=hf 0
 have h1:f.get 1=x:=hf 1
 clear hf
 have Dr:[Value.int .i64 p,.int .i64 co,.int .i64 cl].length+1=4:=rfl
 simp(disch:=omega)only[aj,QS,↓reduceIte,hn,h0]
 refine aw ?_
 intro s1 ht aE xG
 have ht:ax s1 s.next (l3 p co cl):=ht
 have la:aJ Tryz.prog s1 56 (.pointer (some ⟨s.next,0,some 4⟩))=some (i3 p co cl):=ax.bF (P:=Tryz.prog) (cs:=l3 p co cl) Ay rW ht (c:=4) rfl
 simp(disch:=omega)only[aj,ak,aa,QS,Qx,↓reduceIte,hn,Dr,la]
 refine(xF L.may s1 p co cl).mono ?_
 rintro _ s2 ⟨rfl,cR⟩
 have Uu:=aE.trans (cR.weaken aE.next)
 have dD:=ht.keeps cR
 have n1:=aE.next
 have n2:=cR.next
 by_cases hm:oC p co cl
 rotate_left
 ·rw[decide_eq_false hm]
  simp(disch:=omega)only[aj,al,oneOf,QS,Qx,↓reduceIte,hn,Tryz.results70]
  have e:jF p co cl l=([],1):=by unfold jF;rw[if_pos hm]
  rw[fw,e]
  exact⟨_,rfl,⟨.nil,aF.nil _,Uu⟩⟩
 rw[decide_eq_true hm]
 have q0:∀t,ar s2.next s2 t->aJ Tryz.prog t 3 (.pointer (some ⟨s.next,0,some 4⟩))=some (.int .i64 p):=fun t h=>(dD.keeps h).load bu (off:=0) (c:=4) rfl (by simp)
 have q1:∀t,ar s2.next s2 t->aJ Tryz.prog t 3 (.pointer (some ⟨s.next,1,some 4⟩))=some (.int .i64 co):=fun t h=>(dD.keeps h).load bu (off:=1) (c:=4) rfl (by simp)
 have q2:∀t,ar s2.next s2 t->aJ Tryz.prog t 3 (.pointer (some ⟨s.next,2,some 4⟩))=some (.int .i64 cl):=fun t h=>(dD.keeps h).load bu (off:=2) (c:=4) rfl (by simp)
 have ko:=hx.keeps Uu
 have k2:=ar.refl s2.next s2
 by_cases qJ:p=1
 ·have e:jF p co cl l=(l,0):=by unfold jF;rw[if_neg (fun h=>h hm),if_pos qJ]
  simp(disch:=omega)only[aj,aa,QS,Qx,↓reduceIte,hn,h1,mZ,q0 _ k2,eq_true qJ]
  refine bY Tryz.underlying22 Tryz.underlying22 (.inl ⟨_,rfl⟩) bK jW ks rfl (Own.nil:Own s2 1 (.slice none 0 0) 0 []) ko.src (by rw[bM,Nat.mul_one]) (by decide) (dh _) (by omega) (by omega) (aF.nil s2.next) (Nat.le_refl _) ?_
  intro w s3 hw hF fB _ _
  simp(disch:=omega)only[aj,al,oneOf,QS,Qx,↓reduceIte,hn,Tryz.results70]
  rw[fw,e]
  exact⟨w,rfl,⟨by rw[List.nil_append,Nat.zero_add] at hw;exact hw,fun j hj=>by have:=hF j hj;omega,Uu.trans (fB.weaken (by omega))⟩⟩
 obtain⟨hpk,iK,kY,jn,g7⟩:=id hm
 obtain⟨c,rfl⟩:∃c:Nat,co=c:=⟨co.toNat,by omega⟩
 obtain⟨m,rfl⟩:∃m:Nat,cl=m:=⟨cl.toNat,by omega⟩
 obtain⟨n,uy⟩:∃n:Nat,n=c*m:=⟨_,rfl⟩
 have g8:1<=n:=by rw[uy];exact Nat.mul_le_mul (show 1<=c by omega) (show 1<=m by omega)
 have g9:n<=16384:=by rw[uy];exact Nat.mul_le_mul (show c<=4 by omega) (show m<=4096 by omega)
 have S5:c<=n:=by rw[uy];exact Nat.le_mul_of_pos_right c (by omega)
 obtain⟨h,hh⟩:∃h:Nat,h=if 10<=p then 1 else 0:=⟨_,rfl⟩
 have hh1:h<=1:=by rw[hh];split<;>omega
 have ep:jF p (c:Int) (m:Int) l=if l.length%(h+n)≠0 then([],4) else if Jy l h n (l.length/(h+n))=true then([],4) else(ir l h n c (l.length/(h+n)*n),0):=by
  unfold jF
  rw[if_neg (fun h=>h hm),if_neg qJ,Int.toNat_natCast,Int.toNat_natCast,<-uy,<-hh]
 have hmul:IntKind.i64.wrap ((c:Int)*(m:Int))=(n:Int):=by
  have e:(c:Int)*(m:Int)=(n:Int):=by rw[uy];exact(Int.natCast_mul c m).symm
  rw[e,aD (by omega)]
 simp(disch:=omega)only[aj,QS,Qx,↓reduceIte,hn,mZ,Bb,FK,q0 _ k2,q1 _ k2,q2 _ k2,eq_false qJ,hmul]
 generalize hK:rP Tryz.prog lib (Code.seq (Code.region _ _ _) (Code.seq _ _)) _=K
 have go:∀f,f.n=90->f.get 1=x->f.get 2= .pointer (some ⟨s.next,0,some 4⟩)->f.get 6= .int .i64 (n:Nat)->f.get 7= .int .i64 (h:Nat)->K .normal f s2:=by
  clear hn h0 h1 f
  subst hK
  intro f hn h1 h2 h6 h7
  simp(disch:=omega)only[aj,ak,aa,QS,Qx,↓reduceIte,hn,h1,h6,h7,aD]
  have am5:(h:Int)+(n:Int)=((h+n:Nat):Int):=by omega
  rw[am5]
  refine(D0 L s2 x l ko hlen (h+n) (by omega) (by omega)).mono ?_
  rintro _ s3 ⟨w,vs,rfl,hw,hb,fB⟩
  have x0:∀b,ba (.tuple #[w,.bool b]) 0=some w:=fun _=>rfl
  have x1:∀b,ba (.tuple #[w,.bool b]) 1=some (.bool b):=fun _=>rfl
  have W5:=Uu.trans (fB.weaken Uu.next)
  by_cases pG:l.length%(h+n)=0
  rotate_left
  ·rw[if_pos pG] at ep
   rw[decide_eq_false pG]
   simp(disch:=omega)only[aj,al,oneOf,QS,Qx,↓reduceIte,hn,x0,x1,Tryz.results70]
   rw[fw,ep]
   exact⟨_,rfl,⟨.nil,aF.nil _,W5⟩⟩
  rw[if_neg (fun h=>h pG)] at ep
  rw[decide_eq_true pG]
  obtain⟨q,hq⟩:∃q,q=l.length/(h+n):=⟨_,rfl⟩
  have hqn:q*(h+n)=l.length:=by
   have:=Nat.div_add_mod l.length (h+n)
   rw[pG,Nat.mul_comm,<-hq] at this;omega
  rw[<-hq] at hw hb ep
  have Y0:q<=l.length:=by rw[<-hqn];exact Nat.le_mul_of_pos_right q (by omega)
  have asH:q*n<=l.length:=by rw[<-hqn];exact Nat.mul_le_mul_left q (by omega)
  have n3:=fB.next
  simp(disch:=omega)only[aj,aa,QS,Qx,↓reduceIte,hn,x0,x1,hw.bm Tryz.underlying137]
  refine Comes.bQ (fun z f t=>∃(r:Nat) (o y:Value) (W:List UInt8),z=q-r/\r<=q/\(∀j,j<r->¬4<Q9 l h n j)/\Own t 1 o (r*n) (ofBytes (ir l h n c (r*n)))/\W=(if r=0 then [] else(ir l h n c (r*n)).drop ((r-1)*n))/\aN t 1 y W.length (ofBytes W)/\(∀j,aI y=some j->aI o≠some j)/\aF s3.next o/\(∀j,aI y=some j->j<t.next)/\ar s3.next s3 t/\f.n=90/\f.get 2= .pointer (some ⟨s.next,0,some 4⟩)/\f.get 6= .int .i64 (n:Nat)/\f.get 7= .int .i64 (h:Nat)/\f.get 10=o/\f.get 11=y/\f.get 44=w/\f.get 45= .int .i64 (q:Nat)/\f.get 46= .int .i64 (r:Nat))
   (fun z f t=>(z= .ret/\Jy l h n q=true/\ar s3.next s3 t/\f.n=90/\f.get 4= .slice none 0 0/\f.get 5= .int .i64 4)\/(z= .exit 0/\Jy l h n q=false/\∃o,Own t 1 o (q*n) (ofBytes (ir l h n c (q*n)))/\aF s3.next o/\ar s3.next s3 t/\f.n=90/\f.get 10=o))
   ⟨0,.slice none 0 0,.slice none 0 0,[],rfl,by omega,fun j hj=>by omega,by rw[Nat.zero_mul];exact .nil,rfl,.nil,(fun j e=>by cases e),aF.nil _,(fun j e=>by cases e),ar.refl _ _,by simp only[ag,hn],by simp only[ad,↓reduceIte,Qx,h2],by simp only[ad,↓reduceIte,Qx,h6],by simp only[ad,↓reduceIte,Qx,h7],by simp only[ad,↓reduceIte,Qx],by simp only[ad,↓reduceIte,Qx],by simp only[ad,↓reduceIte,Qx],by simp only[ad,↓reduceIte,Qx],by simp only[ad,↓reduceIte];rfl⟩ ?_ ?_
  ·clear hn h1 h2 h6 h7 f
   rintro Q hQ z f t ⟨r,o,y,W,rfl,hr,Gy,ho,hW,hy,Nw,hF,Iv,aE,hn,h2,h6,h7,eX,sq,BA,F8,rz⟩
   by_cases bd:r<q
   rotate_left
   ·obtain rfl:r=q:=by omega
    have d1:¬((r:Nat):Int)<((r:Nat):Int):=by omega
    have SX:Jy l h n r=false:=by
     unfold Jy
     rw[List.any_eq_false]
     intro j hj
     have:=Gy j (List.mem_range.1 hj)
     simpa using this
    simp(disch:=omega)only[aj,ak,QS,↓reduceIte,hn,F8,rz,eq_false d1]
    exact hQ _ _ _ (.inr ⟨rfl,SX,o,ho,hF,aE,by simp only[ag,hn],by simp only[ad,↓reduceIte,Qx,eX]⟩)
   have d1:((r:Nat):Int)<((q:Nat):Int):=by omega
   have hrn:(r+1)*(h+n)<=l.length:=by rw[<-hqn];exact Nat.mul_le_mul_right (h+n) bd
   have hrs:(r+1)*(h+n)=r*(h+n)+(h+n):=Nat.succ_mul r (h+n)
   have am6:(r+1)*n=r*n+n:=Nat.succ_mul r n
   have asI:(r+1)*n<=q*n:=Nat.mul_le_mul_right n bd
   have mO:(qf l (h+n) r).length=h+n:=oT hrn
   have hwt:=hw.keeps aE
   have gB:=hwt.indexAddr (P:=Tryz.prog) (k:= .i64) (x:=(r:Int)) Tryz.underlying137 fT (by omega) (by omega)
   rw[Int.toNat_natCast] at gB
   have fz:=hwt.di (P:=Tryz.prog) fU bd
   have kp:=hb.aG r (by rw[xB];exact bd)
   rw[G3] at kp
   obtain⟨R,hR⟩:∃R,R=vs.getD r undef:=⟨_,rfl⟩
   rw[<-hR] at fz kp
   obtain⟨T,hT⟩:∃T,T=Q9 l h n r:=⟨_,rfl⟩
   have ZI:=aeA l h n r
   rw[<-hT] at ZI
   have nt:=aE.next
   simp(disch:=omega)only[aj,ak,QS,Qx,↓reduceIte,hn,h7,BA,F8,rz,eq_true d1,gB,fz]
   generalize hK2:rP Tryz.prog lib (Code.seq (Code.seq (Code.region _ _ _) (Code.cond _ _ _)) (Code.seq _ _)) _=K2
   have go2:∀f,f.n=90->f.get 2= .pointer (some ⟨s.next,0,some 4⟩)->f.get 6= .int .i64 (n:Nat)->f.get 7= .int .i64 (h:Nat)->f.get 10=o->f.get 11=y->f.get 13=R->f.get 14= .int .i64 T->f.get 44=w->f.get 45= .int .i64 (q:Nat)->f.get 46= .int .i64 (r:Nat)->K2 .normal f t:=by
    clear hn h2 h6 h7 eX sq BA F8 rz f
    subst hK2
    intro f hn h2 h6 h7 eX sq Kg nY BA F8 rz
    by_cases c4:T>4
    ·simp(disch:=omega)only[aj,QS,↓reduceIte,hn,nY,eq_true c4]
     exact hQ _ _ _ (.inl ⟨rfl,Xh bd (by rw[<-hT];exact c4),aE,by simp only[ag,hn],by simp only[ad,↓reduceIte,Qx],by simp only[ad,↓reduceIte]⟩)
    have Ts:=kp.keeps aE
    have mk:ef Tryz.prog t 22 (.int .i64 (n:Nat)) (.int .i64 (n:Nat))=aZ t (List.replicate n (.int .u8 0)) n 1:=VJ Tryz.underlying22 bK ks jW (by omega) (by omega)
    simp(disch:=omega)only[aj,QS,Qx,↓reduceIte,hn,h6,nY,eq_false c4,mk]
    refine aQ (by rw[List.length_replicate,Nat.mul_one]) ?_
    intro v t1 hv J9 bn
    rw[QT,<-Tz l h n c r] at hv
    have nt1:=bn.next
    have Gg:=hv.iD
    have Bp:=ho.iD
    have aaN:=Ts.keeps bn
    have pE:dj Tryz.prog t1 22 R (some (.int .i64 (h:Nat))) none none=some (dJ 1 R h (h+n)):=by
     have:=aaN.ff (P:=Tryz.prog) Tryz.underlying22 bK (k:= .i64) (x:=(h:Int)) (by omega) (by omega)
     rw[Int.toNat_natCast,mO] at this;exact this
    have dx:=aaN.p9 (lo:=h) (hi:=h+n) (by omega) (by omega)
    obtain⟨Z,hZ⟩:∃Z,Z=dJ 1 R h (h+n):=⟨_,rfl⟩
    obtain⟨ZL,hZL⟩:∃ZL,ZL=((qf l (h+n) r).drop h).take (h+n-h):=⟨_,rfl⟩
    rw[<-hZ,<-hZL] at dx
    rw[<-hZ] at pE
    have hZl:ZL.length=n:=by rw[hZL,List.length_take,List.length_drop];omega
    have hZg:∀k,k<n->ZL.getD k 0=L9 l h n (r*n+k):=fun k hk=>by
     rw[hZL,List.getD_eq_getElem?_getD,List.getElem?_take_of_lt (by omega),List.getElem?_drop,<-List.getD_eq_getElem?_getD,np (by omega)]
     unfold L9
     rw[I3 hk,show(r*n+k)/n=r by rw[Nat.mul_comm,Nat.mul_add_div (by omega),Nat.div_eq_of_lt hk,Nat.add_zero],Nat.add_assoc]
    rw[hZl] at dx
    simp(disch:=omega)only[aj,aa,ai,QS,Qx,↓reduceIte,hn,h7,Kg,pE,dx.bm Tryz.underlying22]
    refine Comes.bQ (fun z f u=>∃(k:Nat),z=n-k/\k<=n/\Own u 1 v n (ofBytes (mm l h n c r k))/\Own u 1 o (r*n) (ofBytes (ir l h n c (r*n)))/\aN u 1 y W.length (ofBytes W)/\aN u 1 Z n (ofBytes ZL)/\ar t.next t u/\f.n=90/\f.get 2= .pointer (some ⟨s.next,0,some 4⟩)/\f.get 6= .int .i64 (n:Nat)/\f.get 7= .int .i64 (h:Nat)/\f.get 10=o/\f.get 11=y/\f.get 14= .int .i64 T/\f.get 15=v/\f.get 44=w/\f.get 45= .int .i64 (q:Nat)/\f.get 46= .int .i64 (r:Nat)/\f.get 62=Z/\f.get 63= .int .i64 (n:Nat)/\f.get 64= .int .i64 (k:Nat))
     (fun z f u=>z= .exit 2/\Own u 1 v n (ofBytes (mm l h n c r n))/\Own u 1 o (r*n) (ofBytes (ir l h n c (r*n)))/\ar t.next t u/\f.n=90/\f.get 2= .pointer (some ⟨s.next,0,some 4⟩)/\f.get 6= .int .i64 (n:Nat)/\f.get 7= .int .i64 (h:Nat)/\f.get 10=o/\f.get 15=v/\f.get 44=w/\f.get 45= .int .i64 (q:Nat)/\f.get 46= .int .i64 (r:Nat))
     ⟨0,rfl,by omega,hv,ho.keeps bn,hy.keeps bn,dx,bn,by simp only[ag,hn],by simp only[ad,↓reduceIte,Qx,h2],by simp only[ad,↓reduceIte,Qx,h6],by simp only[ad,↓reduceIte,Qx,h7],by simp only[ad,↓reduceIte,Qx,eX],by simp only[ad,↓reduceIte,Qx,sq],by simp only[ad,↓reduceIte,Qx,nY],by simp only[ad,↓reduceIte,Qx],by simp only[ad,↓reduceIte,Qx,BA],by simp only[ad,↓reduceIte,Qx,F8],by simp only[ad,↓reduceIte,Qx,rz],by simp only[ad,↓reduceIte,Qx],by simp only[ad,↓reduceIte,Qx],by simp only[ad,↓reduceIte];rfl⟩ ?_ ?_
    ·clear hn h2 h6 h7 eX sq Kg nY BA F8 rz hv ho hy dx pE aaN f
     rintro Q hQ z f u ⟨k,rfl,hk,hv,ho,hy,dx,hu,hn,h2,h6,h7,eX,sq,nY,my,BA,F8,rz,UG,Zm,h64⟩
     by_cases Lu:k<n
     rotate_left
     ·obtain rfl:k=n:=by omega
      have d1:¬((k:Nat):Int)<((k:Nat):Int):=by omega
      simp(disch:=omega)only[aj,QS,↓reduceIte,hn,Zm,h64,eq_false d1]
      exact hQ _ _ _ ⟨rfl,hv,ho,hu,by simp only[ag,hn],by simp only[ad,↓reduceIte,Qx,h2],by simp only[ad,↓reduceIte,Qx,h6],by simp only[ad,↓reduceIte,Qx,h7],by simp only[ad,↓reduceIte,Qx,eX],by simp only[ad,↓reduceIte,Qx,my],by simp only[ad,↓reduceIte,Qx,BA],by simp only[ad,↓reduceIte,Qx,F8],by simp only[ad,↓reduceIte,Qx,rz]⟩
     have d1:((k:Nat):Int)<((n:Nat):Int):=by omega
     have nu:=hu.next
     have gB:=dx.indexAddr (P:=Tryz.prog) (k:= .i64) (x:=(k:Int)) Tryz.underlying22 bK (by omega) (by omega)
     rw[Int.toNat_natCast] at gB
     have fz:=dx.di (P:=Tryz.prog) kI Lu
     rw[bw (by omega),hZg k Lu] at fz
     have aiA:=hv.aG.indexAddr (P:=Tryz.prog) (k:= .i64) (x:=(k:Int)) Tryz.underlying22 bK (by omega) (by omega)
     rw[Int.toNat_natCast] at aiA
     have hrU:(mm l h n c r k).length=n:=Ma (by omega)
     have k2u:ar s2.next s2 u:=(fB.trans (aE.weaken n3)).trans (hu.weaken (by omega))
     simp(disch:=omega)only[aj,ak,aa,QS,Qx,↓reduceIte,hn,h2,sq,my,UG,Zm,h64,eq_true d1,gB,fz,Bb,q1 _ k2u]
     have hWl:W.length=0\/W.length=(mm l h n c r k).length:=by
      rw[hW]
      split
      ·exact .inl rfl
      ·rename_i hr0
       refine .inr ?_
       rw[hrU,List.length_drop,iJ]
       obtain⟨r',rfl⟩:∃r',r=r' +1:=⟨r-1,by omega⟩
       rw[Nat.add_sub_cancel,Nat.succ_mul];omega
     refine(QD L u v y (mm l h n c r k) W (by rw[hrU];exact hv.aG) hy (by omega) k c (by omega) (by omega) hWl).mono ?_
     rintro _ u2 ⟨rfl,aR⟩
     have hga:=(aeB (T:=T) (l:=l) (h:=h) (c:=c) (r:=r) (by omega) Lu W hW).resolve_right (by omega)
     have a1:0<=J7 (mm l h n c r k) k c/\J7 (mm l h n c r k) k c<=255:=by
      unfold J7;split
      ·exact u6 _
      ·omega
     have a2:0<=Oj W k/\Oj W k<=255:=by
      unfold Oj;split
      ·exact u6 _
      ·omega
     have a3:0<=Ol W k c/\Ol W k c<=255:=by
      unfold Ol;split
      ·exact u6 _
      ·omega
     simp(disch:=omega)only[aj,ak,aa,QS,Qx,↓reduceIte,hn,nY]
     refine(Dv L u2 T _ _ _ (by omega) a1 a2 a3).mono ?_
     have hga:pD T (J7 (mm l h n c r k) k c) (Oj W k) (Ol W k c)=gs T (ir l h n c (r*n+k)) n c (r*n+k):=hga
     rw[hga]
     rintro _ u3 ⟨rfl,bC⟩
     have Ef:ar u.next u u3:=aR.trans (bC.weaken aR.next)
     have hdv:(r*n+k)/n=r:=by rw[Nat.mul_comm,Nat.mul_add_div (by omega),Nat.div_eq_of_lt Lu,Nat.add_zero]
     have ew:IntKind.u8.wrap ((((L9 l h n (r*n+k)).toNat:Nat):Int)+IntKind.u8.wrap (gs T (ir l h n c (r*n+k)) n c (r*n+k)))=((hJ ((((L9 l h n (r*n+k)).toNat:Nat):Int)+gs T (ir l h n c (r*n+k)) n c (r*n+k))).toNat:Int):=by
      rw[nn,fu,fu];omega
     have UH:=hv.keeps Ef
     simp(disch:=omega)only[aj,QS,Qx,↓reduceIte,hn,bL Tryz.underlying3 Tryz.underlying5,ew,aiA]
     refine mD bK UH Lu rfl ?_
     intro u4 hv4 gv
     have hv4:Own u4 1 v n (ofBytes (mm l h n c r (k+1))):=by
      rw[Jz] at hv4
      have:=Xi (l:=l) (h:=h) (c:=c) (r:=r) Lu
      rw[hdv,<-hT] at this
      rw[this] at hv4;exact hv4
     have TB:∀j,aI v=some j->t.next<=j:=J9
     have wz:=(ho.keeps Ef).turns gv (fun j e e2=>by have:=Bp j e;have:=TB j e2;omega)
     have hy4:=(hy.keeps Ef).turns gv (fun j _ e e2=>by have:=Iv j e;have:=TB j e2;omega)
     have am8:∀j,j<u3.next->aI Z=some j->aI v≠some j:=fun j _ e e2=>by
      have h1:=TB j e2
      rw[hZ] at e
      have h2:=aaM Ts (by omega) e
      omega
     have TC:=(dx.keeps Ef).turns gv am8
     have n34:=gv.next
     have hk4:ar t.next t u4:=(hu.trans (Ef.weaken nu)).trans (gv.keeps J9 (by have:=Ef.next;omega))
     simp(disch:=omega)only[aj,QS,Qx,↓reduceIte,hn,h64,aD]
     exact ay (n-(k+1)) (by omega) ⟨k+1,rfl,by omega,hv4,wz,hy4,TC,hk4,by simp only[ag,hn],by simp only[ad,↓reduceIte,Qx,h2],by simp only[ad,↓reduceIte,Qx,h6],by simp only[ad,↓reduceIte,Qx,h7],by simp only[ad,↓reduceIte,Qx,eX],by simp only[ad,↓reduceIte,Qx,sq],by simp only[ad,↓reduceIte,Qx,nY],by simp only[ad,↓reduceIte,Qx,my],by simp only[ad,↓reduceIte,Qx,BA],by simp only[ad,↓reduceIte,Qx,F8],by simp only[ad,↓reduceIte,Qx,rz],by simp only[ad,↓reduceIte,Qx,UG],by simp only[ad,↓reduceIte,Qx,Zm],by simp only[ad,↓reduceIte];rfl⟩
    clear hn h2 h6 h7 eX sq Kg nY BA F8 rz hv ho hy dx pE aaN f
    rintro z f u ⟨rfl,hv,ho,hu,hn,h2,h6,h7,eX,my,BA,F8,rz⟩
    have nu:=hu.next
    have hrU:(mm l h n c r n).length=n:=Ma (by omega)
    simp(disch:=omega)only[aj,aa,QS,Qx,↓reduceIte,hn,eX,my]
    refine bY Tryz.underlying22 Tryz.underlying22 (.inl ⟨_,rfl⟩) bK jW ks rfl ho hv.aG.src (by rw[bM,hrU,Nat.mul_one]) (by decide) (dh _) (by omega) (by omega) hF (by omega) ?_
    intro o' u2 pM ze aR fk ra
    have nu2:=aR.next
    have ev:ofBytes (ir l h n c (r*n))++ofBytes (mm l h n c r n)=ofBytes (ir l h n c ((r+1)*n)):=by
     rw[<-br,Mb,<-zA l h n c ((r+1)*n) (r*n) (by omega),List.take_append_drop]
    rw[ev,<-am6] at pM
    have TB:∀j,aI v=some j->t.next<=j:=J9
    have Ke:=hv.turns fk (fun j e e2=>by have:=Bp j e2;have:=TB j e;omega)
    have hwl:(mm l h n c r n)=(ir l h n c ((r+1)*n)).drop (r*n):=Mb l h n c r
    simp(disch:=omega)only[aj,QS,Qx,↓reduceIte,hn,my,rz,aD]
    refine ay (q-(r+1)) (by omega) ⟨r+1,o',v,mm l h n c r n,rfl,by omega,fun j hj=> ?_,pM,by rw[if_neg (by omega),Nat.add_sub_cancel];exact hwl,by rw[hrU];exact Ke.aG,fun j e e2=> ?_,ze,fun j e=>Ke.iD j e,(aE.trans (hu.weaken nt)).trans aR,by simp only[ag,hn],by simp only[ad,↓reduceIte,Qx,h2],by simp only[ad,↓reduceIte,Qx,h6],by simp only[ad,↓reduceIte,Qx,h7],by simp only[ad,↓reduceIte,Qx],by simp only[ad,↓reduceIte,Qx],by simp only[ad,↓reduceIte,Qx,BA],by simp only[ad,↓reduceIte,Qx,F8],by simp only[ad,↓reduceIte];rfl⟩
    ·by_cases e:j=r
     ·rw[e,<-hT];exact c4
     ·exact Gy j (by omega)
    ·rcases ra with e3|⟨k,e3,hk⟩
     ·rw[e3] at e2;have:=Bp j e2;have:=TB j e;omega
     ·rw[e3] at e2;injection e2 with e2
      have asQ:=hv.iD j e
      omega
   by_cases eh:h=1
   ·have d1:(h:Int)=1:=by omega
    have Ts:=kp.keeps aE
    have Qw:bT Tryz.prog 22 R (.int .i64 0)=some (bc 1 R 0):=Ts.indexAddr (P:=Tryz.prog) (k:= .i64) (x:=0) Tryz.underlying22 bK (by omega) (by omega)
    have kW:=Ts.di (P:=Tryz.prog) kI (k:=0) (by omega)
    rw[bw (by omega),np (by omega),Nat.add_zero] at kW
    have hTe:T=(((l.getD (r*(h+n)) 0).toNat:Nat):Int):=by rw[hT];unfold Q9;rw[if_pos eh]
    rw[<-hTe] at kW
    simp(disch:=omega)only[aj,QS,Qx,↓reduceIte,hn,eq_true d1,Qw,kW,bL Tryz.underlying5 Tryz.underlying3,aD]
    exact go2 _ (by simp only[ag,hn]) (by simp only[ad,↓reduceIte,Qx,h2]) (by simp only[ad,↓reduceIte,Qx,h6]) (by simp only[ad,↓reduceIte,Qx,h7]) (by simp only[ad,↓reduceIte,Qx,eX]) (by simp only[ad,↓reduceIte,Qx,sq]) (by simp only[ad,↓reduceIte,Qx]) (by simp only[ad,↓reduceIte]) (by simp only[ad,↓reduceIte,Qx,BA]) (by simp only[ad,↓reduceIte,Qx,F8]) (by simp only[ad,↓reduceIte,Qx,rz])
   ·have d1:¬(h:Int)=1:=by omega
    have hTe:T=1:=by rw[hT];unfold Q9;rw[if_neg eh]
    simp(disch:=omega)only[aj,eq_false d1]
    exact go2 _ (by simp only[ag,hn]) (by simp only[ad,↓reduceIte,Qx,h2]) (by simp only[ad,↓reduceIte,Qx,h6]) (by simp only[ad,↓reduceIte,Qx,h7]) (by simp only[ad,↓reduceIte,Qx,eX]) (by simp only[ad,↓reduceIte,Qx,sq]) (by simp only[ad,↓reduceIte,Qx]) (by simp only[ad,↓reduceIte,Qx,hTe]) (by simp only[ad,↓reduceIte,Qx,BA]) (by simp only[ad,↓reduceIte,Qx,F8]) (by simp only[ad,↓reduceIte,Qx,rz])
  clear hn h1 h2 h6 h7 f
  rintro z f t (⟨rfl,kF,aE,hn,h4,h5⟩|⟨rfl,kF,o,ho,hF,aE,hn,eX⟩)
  ·rw[if_pos kF] at ep
   simp(disch:=omega)only[aj,al,oneOf,QS,↓reduceIte,hn,h4,h5,Tryz.results70]
   rw[fw,ep]
   exact⟨_,rfl,⟨.nil,aF.nil _,W5.trans (aE.weaken W5.next)⟩⟩
  ·rw[if_neg (by rw[kF];simp)] at ep
   simp(disch:=omega)only[aj,al,oneOf,QS,Qx,↓reduceIte,hn,eX,Tryz.results70]
   rw[fw,ep]
   exact⟨o,rfl,⟨by rw[iJ];exact ho,fun j hj=>by have:=hF j hj;have:=W5.next;omega,W5.trans (aE.weaken W5.next)⟩⟩
 by_cases Q6:10<=p
 ·have eh:h=1:=by rw[hh,if_pos Q6]
  simp(disch:=omega)only[aj,QS,↓reduceIte,hn,eq_true Q6]
  exact go _ (by simp only[ag,hn]) (by simp only[ad,↓reduceIte,Qx,h1]) (by simp only[ad,↓reduceIte,Qx]) (by simp only[ad,↓reduceIte,Qx]) (by simp only[ad,↓reduceIte,eh];rfl)
 ·have eh:h=0:=by rw[hh,if_neg Q6]
  simp(disch:=omega)only[aj,eq_false Q6]
  exact go _ (by simp only[ag,hn]) (by simp only[ad,↓reduceIte,Qx,h1]) (by simp only[ad,↓reduceIte,Qx]) (by simp only[ad,↓reduceIte,Qx]) (by simp only[ad,↓reduceIte,Qx,eh];rfl)
end Go.Proofs.YtdfjfncifneocaaGreat
namespace Go.Cl
section
variable {P:Program} {lib:aA} {all r:List Oper} {f:aW} {s:aq} {d:Option Tmp} {Q:aW->aq->Prop}
end
end Go.Cl
namespace Go.Cl.Lz
theorem ZY (P:Program)(t:TypeId)(k' :IntKind)(x:Nat){k:Nat}(h:k<8):cQ P .shr t (.int .u8 (x:Nat)) (.int k' (k:Nat))=some (.int .u8 ((x/2^k:Nat):Int)):=by
 rw[lS P t .u8 _ _ k' (by omega)]
 have e:min ((k:Nat):Int).toNat IntKind.u8.bits=k:=by
  have:IntKind.u8.bits=8:=rfl
  rw[this,Int.toNat_natCast];omega
 rw[e,Int.fdiv_eq_ediv_of_nonneg _ (by exact Int.pow_nonneg (by omega))]
 norm_cast
theorem aeC (x:Nat)(h:x<256):IntKind.u8.wrap (((BitVec.ofInt IntKind.u8.bits (x:Int)&&&BitVec.ofInt IntKind.u8.bits 1).toNat:Nat):Int)=((x%2:Nat):Int):=by
 have e1:IntKind.u8.bits=8:=rfl
 rw[e1]
 have:(BitVec.ofInt 8 (x:Int)&&&BitVec.ofInt 8 1).toNat=x%2:=by
  rw[BitVec.toNat_and,BitVec.ofInt_natCast,BitVec.toNat_ofNat,Nat.mod_eq_of_lt (by omega)]
  show x&&&1=_
  exact Nat.and_one_is_mod _
 rw[this,fu]
 omega
theorem ane (P:Program)(t:TypeId)(k' :IntKind)(a:Int):cQ P .shl t (.int .i64 a) (.int k' 1)=some (.int .i64 (IntKind.i64.wrap (a*2))):=by
 rw[mW P t .i64 a 1 k' (by decide)];rfl
theorem aeD {n d:Nat}(hn:n<1099511627776)(hd:d<2):IntKind.i64.wrap (((BitVec.ofInt IntKind.i64.bits ((n:Int)*2)|||BitVec.ofInt IntKind.i64.bits (d:Int)).toNat:Nat):Int)=((n*2+d:Nat):Int):=by
 have e1:IntKind.i64.bits=64:=rfl
 rw[e1]
 have:(BitVec.ofInt 64 ((n:Int)*2)|||BitVec.ofInt 64 (d:Int)).toNat=n*2+d:=by
  have e2:((n:Int)*2)=((n*2:Nat):Int):=by omega
  rw[e2,BitVec.toNat_or,BitVec.ofInt_natCast,BitVec.ofInt_natCast,BitVec.toNat_ofNat,BitVec.toNat_ofNat,Nat.mod_eq_of_lt (by omega),Nat.mod_eq_of_lt (by omega)]
  have:=Nat.shiftLeft_add_eq_or_of_lt (i:=1) (b:=d) hd n
  rw[Nat.shiftLeft_eq] at this
  exact this.symm
 rw[this,aD (by omega)]
end Go.Cl.Lz
namespace Go.Cl
theorem Mc {v:Value}(h:aL v=true):v.cells.toList=[v]:=by cases v<;>first|rfl|cases h
theorem ax.xU {P:Program}{e:TypeId}{n:Nat}(ow:bX P e=some true)(cf:aX P e=some n){s:aq}{i:Nat}{cs:List Value}(h:ax s i cs){off c:Nat}(hc:c=cs.length+1)(ho:off+n<=cs.length):
  aJ P s e (.pointer (some ⟨i,off,some c⟩))=some (.agg ((cs.drop off).take n).toArray):=by
 obtain⟨low,z,h1,h2⟩:=h.dZ
 subst hc
 unfold aJ
 simp only[ow,cf]
 rw[gF h1 h2 (Nat.le_refl _) (by omega)]
theorem ax.TD {P:Program}{e:TypeId}{n:Nat}(cf:aX P e=some (n+1)){s:aq}{i:Nat}{cs:List Value}(h:ax s i cs){off c:Nat}(hc:c=cs.length+1){v:Value}{vs:List Value}(hv:v.cells.toList=vs)(hl:vs.length=n+1)(dH:vs.all aL=true)(ho:off+(n+1)<=cs.length):
  ∃s',dR P s e (.pointer (some ⟨i,off,some c⟩)) v=some s' /\ax s' i (cs.take off++vs++cs.drop (off+(n+1)))/\(s'.next=s.next/\∀j,j≠i->s'.heap.get j=s.heap.get j):=by
 obtain⟨low,z,h1,h2⟩:=h.dZ
 subst hc
 have hlen:(cs.take off++vs++cs.drop (off+(n+1))).length=cs.length:=by simp;omega
 refine⟨s.put i (.dZ ⟨cs.take off++vs++cs.drop (off+(n+1)),cs.length+1,true,z⟩),?_,⟨h.lt,cs.length+1,z,?_,by rw[hlen];exact Nat.le_refl _⟩,rfl,fun j hj=>aq.bP _ _ _ _ (Ne.symm hj)⟩
 ·unfold dR
  simp only[cf,hv,hl]
  unfold aq.storeAt
  have zf:setAt cs off vs=some (cs.take off++vs++cs.drop (off+(n+1))):=by
   rw[jy _ _ _ (by rw[hl];omega),hl]
  have iy:(true&&Nat.ble low (cs.length+1)&&Nat.beq (cs.length+1) (cs.length+1)&&vs.all aL)=true:=by
   simp only[Bool.true_and,Bool.and_eq_true,Nat.ble_eq];exact⟨⟨h2,Nat.beq_refl _⟩,dH⟩
  simp only[h1,iy,if_true,zf]
  cases vs with
  |nil=>simp at hl
  |cons a r=>simp
 ·rw[aq.ck _ _ _ (by omega)]
section
variable {P:Program} {lib:aA} {all r:List Oper} {f:aW} {s:aq} {d:Option Tmp} {Q:aW->aq->Prop}
theorem jO {e:TypeId}{n:Nat}(cf:aX P e=some (n+1)){i:Nat}{cs:List Value}(h:ax s i cs){off c:Nat}(hc:c=cs.length+1){v:Value}{vs:List Value}(hv:v.cells.toList=vs)(hl:vs.length=n+1)(dH:vs.all aL=true)(ho:off+(n+1)<=cs.length)
  (K:∀s',ax s' i (cs.take off++vs++cs.drop (off+(n+1)))->s'.next=s.next->(∀j,j≠i->s'.heap.get j=s.heap.get j)->dW P lib all r f s d Q (some (.val undef s'))):dW P lib all r f s d Q (BN (dR P s e (.pointer (some ⟨i,off,some c⟩)) v)):=by
 obtain⟨s',h1,h2,h3,h4⟩:=h.TD cf hc hv hl dH ho
 rw[h1,iC]
 exact K s' h2 h3 h4
theorem nh {id:Nat}{e:TypeId}(cf:aX P e=some 1){i:Nat}{cs:List Value}(h:ax s i cs){off c:Nat}(hc:c=cs.length+1)(ho:off<cs.length){v:Value}(hv:aL v=true)
  (K:∀s',ax s' i (cs.set off v)->s'.next=s.next->(∀j,j≠i->s'.heap.get j=s.heap.get j)->tm P lib all r id f d Q undef s'):qa P lib all r id f d s Q (BN (dR P s e (.pointer (some ⟨i,off,some c⟩)) v)):=by
 obtain⟨s',h1,h2,h3,h4⟩:=h.store cf hc ho hv
 rw[h1,iC]
 exact K s' h2 h3 h4
end
def Ra (p:Nat×Nat):List Value:=[.int .i64 (p.1:Nat),.int .i64 (p.2:Nat)]
def lM (l:List (Nat×Nat)):List Value:=l.flatMap Ra
theorem tL (l:List (Nat×Nat))(p:Nat×Nat):lM (l++[p])=lM l++[.int .i64 (p.1:Nat),.int .i64 (p.2:Nat)]:=by simp[lM,Ra]
theorem Md {l:List (Nat×Nat)}{i:Nat}{p:Nat×Nat}(h:l[i]?=some p):(lM l).getD (i*2+0) undef= .int .i64 (p.1:Nat):=C7 (f:=Ra) (z:=2) (fun _=>rfl) (by omega) l i p h
theorem Me {l:List (Nat×Nat)}{i:Nat}{p:Nat×Nat}(h:l[i]?=some p):(lM l).getD (i*2+1) undef= .int .i64 (p.2:Nat):=C7 (f:=Ra) (z:=2) (fun _=>rfl) (by omega) l i p h
theorem aN.Xj {P:Program}{t e:TypeId}{m z:Nat}(hu:P.underlying t=some (.array m e))(cf:aX P e=some 1){s:aq}{v:Value}{n:Nat}{l:List Value}(h:aN s z v n l){i k:Nat}(hi:i<n)(hk:k<m)(kk:IntKind):
  bT P t (bc z v i) (.int kk (k:Nat))=some (b6 (bc z v i) k):=by
 have hb:Nat.blt k m=true:=by simpa [Nat.blt_eq] using hk
 show bT P t (bc z v i) (.int kk (Int.ofNat k))=_
 cases h with
 |nil=>omega
 |bare=>omega
 |of j off n c b l hj hbk hz hl hc hlen fy ht=>
  unfold bT
  rw[hu]
  simp only[bc,cf,hb,if_true,Nat.mul_one,b6]
theorem Rb {P:Program}{t e:TypeId}{m:Nat}(hu:P.underlying t=some (.array m e))(cf:aX P e=some 1)(i o c:Nat){k:Nat}(hk:k<m)(kk:IntKind):
  bT P t (.pointer (some ⟨i,o,some c⟩)) (.int kk (k:Nat))=some (.pointer (some ⟨i,o+k,some c⟩)):=by
 have hb:Nat.blt k m=true:=by simpa [Nat.blt_eq] using hk
 show bT P t _ (.int kk (Int.ofNat k))=_
 unfold bT
 rw[hu]
 simp only[cf,hb,if_true,Nat.mul_one]
end Go.Cl
namespace Go.Proofs.YtdfjfncifneocaaGreat
open Go.Cl Go.Cl.Lz Go.Cl.Rw
theorem fF:aX Tryz.prog 122=some (1+1):=by kernel_rfl
theorem TE:bX Tryz.prog 122=some true:=by kernel_rfl
theorem zC:aX Tryz.prog 121=some 1:=by kernel_rfl
theorem zD:bX Tryz.prog 121=some false:=by kernel_rfl
theorem Xk (i o c:Nat):au Tryz.prog 124 (.pointer (some ⟨i,o,some c⟩)) 0=some (.pointer (some ⟨i,o+0,some c⟩)):=by
 unfold au;rw[Tryz.underlying124];simp[fT]
theorem Xl (i o c:Nat):au Tryz.prog 124 (.pointer (some ⟨i,o,some c⟩)) 1=some (.pointer (some ⟨i,o+1,some c⟩)):=by
 unfold au;rw[Tryz.underlying124];simp[bA]
theorem Rc (i o c:Nat):au Tryz.prog 124 (.pointer (some ⟨i,o,some c⟩)) 2=some (.pointer (some ⟨i,o+2,some c⟩)):=by
 unfold au;rw[Tryz.underlying124];simp[bA]
theorem qv (i o c:Nat):au Tryz.prog 124 (.pointer (some ⟨i,o,some c⟩)) 3=some (.pointer (some ⟨i,o+3,some c⟩)):=by
 unfold au;rw[Tryz.underlying124];simp[zC]
theorem Mf (i o c:Nat):au Tryz.prog 124 (.pointer (some ⟨i,o,some c⟩)) 4=some (.pointer (some ⟨i,o+4,some c⟩)):=by
 unfold au;rw[Tryz.underlying124];simp[fF]
theorem tM (i o c:Nat):au Tryz.prog 124 (.pointer (some ⟨i,o,some c⟩)) 5=some (.pointer (some ⟨i,o+6,some c⟩)):=by
 unfold au;rw[Tryz.underlying124];simp[fT]
structure lN (base:Nat) (s:aq) (j:Nat) (bv rv ov:Value) (b:List UInt8) (p:Nat) (most:Int) (rows:List (Nat×Nat)) (last:Nat×Nat) (out:List UInt8):Prop where
 cJ:ax s j [bv,.int .i64 p,.int .i64 most,rv,.int .i64 last.1,.int .i64 last.2,ov]
 b:Br base s 1 bv b.length (ofBytes b)
 rows:Own s 2 rv rows.length (lM rows)
 rf:aF base rv
 rj:aI rv≠some j
 out:Own s 1 ov out.length (ofBytes out)
 of:aF base ov
 oj:aI ov≠some j
 ox:∀k,aI ov=some k->aI rv≠some k
 lo:base<=j
abbrev wg (j:Nat):Value:= .pointer (some ⟨j,0,some 8⟩)
theorem lN.put {base:Nat}{s s' :aq}{j:Nat}{bv rv ov:Value}{b:List UInt8}{p p' :Nat}{most:Int}{rows:List (Nat×Nat)}{last last' :Nat×Nat}{out:List UInt8}(h:lN base s j bv rv ov b p most rows last out)
  (ht:ax s' j [bv,.int .i64 p',.int .i64 most,rv,.int .i64 last'.1,.int .i64 last'.2,ov]) (hn:s'.next=s.next) (hs:∀i,i≠j->s'.heap.get i=s.heap.get i):lN base s' j bv rv ov b p' most rows last' out:=
 ⟨ht,h.b.stay (ar.aK hn hs h.lo),h.rows.aK hn hs h.rj,h.rf,h.rj,h.out.aK hn hs h.oj,h.of,h.oj,h.ox,h.lo⟩
def aaP (base:Nat)(s:aq)(j:Nat)(bv rv ov:Value)(b:List UInt8)(p:Nat)(most:Int)(rows:List (Nat×Nat))(last:Nat×Nat)(out:List UInt8)(w:Nat)(v:Value)(s' :aq):Prop:=
 (8*b.length<p+w/\v= .tuple #[.int .i64 0,.int .i64 2]/\s' =s)\/
 (¬8*b.length<p+w/\v= .tuple #[.int .i64 (jE b p w:Nat),.int .i64 0]/\lN base s' j bv rv ov b (p+w) most rows last out/\ar base s s')
theorem Pb {lib:aA}(hl:lib.at 106=none)(Kf:lib.at 152=none)(base:Nat)(s:aq)(j:Nat)(bv rv ov:Value)(b:List UInt8)(p:Nat)(most:Int)(rows:List (Nat×Nat))(last:Nat×Nat)(out:List UInt8)
  (h:lN base s j bv rv ov b p most rows last out) (hb:b.length<=4000000) (hp:p<=8*b.length) (hr:rows.length<=1000000):
  Runs Tryz.prog lib 106 [wg j] s (aaP base s j bv rv ov b p most rows last out (width (258+rows.length))):=by
 refine Runs.enter 61 Tryz.func106 rfl hl rfl rfl ?_
 intro f hn hf
 have h0:f.get 0=wg j:=hf 0
 clear hf
 have g0:=h.cJ.load (P:=Tryz.prog) fU (off:=0) (c:=8) rfl (by simp)
 have g1:=h.cJ.load (P:=Tryz.prog) bu (off:=1) (c:=8) rfl (by simp)
 have g3:=h.cJ.load (P:=Tryz.prog) zD (off:=3) (c:=8) rfl (by simp)
 obtain⟨w,hw⟩:∃w,w=width (258+rows.length):=⟨_,rfl⟩
 have Tj:=kO (258+rows.length)
 have anf:(258:Int)+(rows.length:Int)=((258+rows.length:Nat):Int):=by omega
 rw[<-hw] at Tj|-
 have oA:=h.b.aG
 simp(disch:=omega)only[aj,ak,aa,QS,Qx,↓reduceIte,hn,h0,qv,g3,h.rows.aG.bm Tryz.underlying121,aD]
 rw[anf]
 refine(HC Kf s (258+rows.length)).mono ?_
 rintro _ s1 ⟨rfl,kC⟩
 subst kC
 rw[<-hw]
 by_cases c1:8*b.length<p+w
 ·have uE:8*(b.length:Int)-(p:Int)<(w:Int):=by omega
  simp(disch:=omega)only[aj,ak,al,oneOf,aa,QS,Qx,↓reduceIte,hn,h0,Xk,Xl,g0,g1,oA.self,oA.bm Tryz.underlying22,aD,eq_true uE,Tryz.results106]
  exact .inl ⟨c1,rfl,rfl⟩
 ·have uE:¬8*(b.length:Int)-(p:Int)<(w:Int):=by omega
  simp(disch:=omega)only[aj,ak,aa,QS,Qx,↓reduceIte,hn,h0,Xk,Xl,g0,g1,oA.self,oA.bm Tryz.underlying22,aD,eq_false uE]
  refine Comes.bQ (fun z f s' =>∃(k:Nat),z=w-k/\k<=w/\lN base s' j bv rv ov b (p+k) most rows last out/\ar base s1 s' /\f.n=61/\f.get 0=wg j/\f.get 5= .int .i64 (jE b p k:Nat)/\f.get 26= .int .i64 w/\f.get 27= .int .i64 k)
   (fun y f s' =>y= .exit 0/\lN base s' j bv rv ov b (p+w) most rows last out/\ar base s1 s' /\f.n=61/\f.get 5= .int .i64 (jE b p w:Nat))
   ⟨0,rfl,by omega,h,ar.refl _ _,by simp only[ag,hn],by simp only[ad,↓reduceIte,Qx,h0],by simp only[ad,↓reduceIte,Qx];rfl,by simp only[ad,↓reduceIte,Qx],by simp only[ad,↓reduceIte];rfl⟩ ?_ ?_
  ·clear hn h0 f g0 g1 g3 oA
   rintro Q hQ z f s2 ⟨k,rfl,hk,hR,aE,hn,h0,h5,h26,h27⟩
   have g0:=hR.cJ.load (P:=Tryz.prog) fU (off:=0) (c:=8) rfl (by simp)
   have g1:=hR.cJ.load (P:=Tryz.prog) bu (off:=1) (c:=8) rfl (by simp)
   have oA:=hR.b.aG
   by_cases hkw:k<w
   ·have c2:(k:Int)<(w:Int):=by omega
    have hi:(p+k)/8<b.length:=by omega
    have mY:=oA.indexAddr (k:= .i64) (x:=(((p+k)/8:Nat):Int)) Tryz.underlying22 bK (by omega) (by omega)
    rw[Int.toNat_natCast] at mY
    have fz:=oA.di (P:=Tryz.prog) kI hi
    rw[bw hi] at fz
    have hm:(p+k)%8<8:=Nat.mod_lt _ (by omega)
    have e7:(7:Int)-(((p+k)%8:Nat):Int)=((7-(p+k)%8:Nat):Int):=by omega
    have h7:7-(p+k)%8<8:=by omega
    obtain⟨y,hy⟩:∃y,y=(b.getD ((p+k)/8) 0).toNat:=⟨_,rfl⟩
    have wQ:y<256:=by rw[hy];exact(b.getD ((p+k)/8) 0).toNat_lt
    rw[<-hy] at fz
    have hdiv:y/2^(7-(p+k)%8)<256:=Nat.lt_of_le_of_lt (Nat.div_le_self _ _) wQ
    have aep:y/2^(7-(p+k)%8)%2=mj b (p+k):=by rw[hy];rfl
    have oH:=L4 b (p+k)
    have hhl:=D8 b p k
    have asS:2^k<=2^12:=Nat.pow_le_pow_right (by omega) (by omega)
    have ra:=aeD (n:=jE b p k) (d:=mj b (p+k)) (by omega) oH
    have hand:=aeC _ hdiv
    rw[aep] at hand
    have zS:IntKind.i64.wrap ((mj b (p+k):Nat):Int)=((mj b (p+k):Nat):Int):=aD (by omega)
    have JA:jE b p k*2+mj b (p+k)=jE b p (k+1):=rfl
    rw[JA] at ra
    simp(disch:=omega)only[aj,ak,QS,Qx,↓reduceIte,hn,h0,h5,h26,h27,eq_true c2,Xk,Xl,g0,g1,oA.self,SL,I7,iQ,fg,ane,mY,fz,e7,ZY,fh,hand,Tryz.underlying3,bL Tryz.underlying5 Tryz.underlying3,zS,jV,ra,aD]
    refine aY bA hR.cJ rfl (by simp) rfl ?_
    intro s3 jM mQ fB
    simp(disch:=omega)only[aj,QS,Qx,↓reduceIte,hn,h27,aD]
    refine ay (w-(k+1)) (by omega) ⟨k+1,rfl,by omega,?_,aE.trans (ar.aK mQ fB hR.lo),by simp only[ad,ag,↓reduceIte,Qx,hn,h0,h26,true_and];rfl⟩
    exact hR.put (p' :=p+(k+1)) (last' :=last) jM mQ fB
   ·obtain rfl:k=w:=by omega
    have c2:¬(k:Int)<(k:Int):=by omega
    simp(disch:=omega)only[aj,QS,↓reduceIte,hn,h26,h27,eq_false c2]
    exact hQ _ _ _ ⟨rfl,hR,aE,by simp only[ad,ag,↓reduceIte,Qx,hn,h5,and_self]⟩
  ·clear hn h0 f
   rintro _ f s2 ⟨rfl,hR,aE,hn,h5⟩
   simp(disch:=omega)only[aj,al,oneOf,QS,Qx,↓reduceIte,hn,h5,Tryz.results106]
   exact .inr ⟨c1,rfl,hR,aE⟩
end Go.Proofs.YtdfjfncifneocaaGreat
namespace Go.Cl.Lz
def F9 (out:List UInt8)(a:Nat):Nat->List UInt8
 |0=>out
 |n+1=>F9 out a n++[(F9 out a n).getD (a+n) 0]
theorem rC (out:List UInt8)(a:Nat):∀n,(F9 out a n).length=out.length+n
 |0=>rfl
 |n+1=>by rw[F9,List.length_append,rC out a n];rfl
end Go.Cl.Lz
namespace Go.Proofs.YtdfjfncifneocaaGreat
open Go.Cl Go.Cl.Lz Go.Cl.Rw
theorem Mg (a b:Int):cC Tryz.prog 122 [(0,.int .i64 a),(1,.int .i64 b)]=some (.agg #[.int .i64 a,.int .i64 b]):=by
 unfold cC;rw[Tryz.underlying122]
 have hz:bV Tryz.prog 122=some (.agg #[.int .i64 0,.int .i64 0]):=by kernel_rfl
 rw[hz]
 simp[bA,bN,gQ,fG,setAt,Value.cells]
theorem Pc {j:Nat}{v:Value}{s s' :aq}(h:ar s.next s s'):du j v s v s' :=⟨h.next,fun i hi _ _=>h.get i hi,.inl rfl⟩
def JB (base:Nat)(s:aq)(j:Nat)(bv rv ov:Value)(b:List UInt8)(p:Nat)(most:Int)(rows:List (Nat×Nat))(out:List UInt8)(n:Nat)(X:List UInt8)(v:Value)(s' :aq):Prop:=
 ∃(Y3:Value) (last' :Nat×Nat) (Xm:List UInt8),lN base s' j bv rv Y3 b p most rows last' Xm/\du j ov s Y3 s' /\
  ((v= .int .i64 0/\((out.length+n:Nat):Int)<=most/\last' =(out.length,n)/\Xm=X)\/(v= .int .i64 7/\most<((out.length+n:Nat):Int)))
theorem lN.grow {base:Nat}{s s1 s2 s3:aq}{j:Nat}{bv rv ov o2:Value}{b:List UInt8}{p:Nat}{most:Int}{rows:List (Nat×Nat)}{last:Nat×Nat}{out TF:List UInt8}(h:lN base s j bv rv ov b p most rows last out)(hb:base<=s.next)
  (h1:ar s.next s s1) (h2:Own s2 1 o2 TF.length (ofBytes TF)) (Ir:aF base o2) (dD:bt ov s1 s2) (gz:aI o2=aI ov\/∃i,aI o2=some i/\s1.next<=i)
  (ht:ax s3 j [bv,.int .i64 p,.int .i64 most,rv,.int .i64 last.1,.int .i64 last.2,o2]) (hn:s3.next=s2.next) (hs:∀i,i≠j->s3.heap.get i=s2.heap.get i):
  lN base s3 j bv rv o2 b p most rows last TF/\du j ov s o2 s3:=by
 have bd:=h.cJ.lt
 have hoj:aI o2≠some j:=by
  rcases gz with e|⟨i,e,hi⟩
  ·rw[e];exact h.oj
  ·rw[e];intro q;injection q with q;have:=h1.next;omega
 refine⟨⟨ht,((h.b.stay (h1.weaken hb)).stay (dD.keeps h.of (Nat.le_trans hb h1.next))).stay (ar.aK hn hs h.lo),((h.rows.keeps h1).turns dD (fun i hi e=>h.ox i e hi)).aK hn hs h.rj,h.rf,h.rj,h2.aK hn hs hoj,Ir,hoj,fun k hk=> ?_,h.lo⟩,
  ((Pc h1).trans (du.turns dD gz)).trans (du.put hn hs)⟩
 rcases gz with e|⟨i,e,hi⟩
 ·rw[e] at hk;exact h.ox k hk
 ·rw[e] at hk;injection hk with hk;subst hk
  intro q;have:=h.rows.iD _ q;have:=h1.next;omega
theorem HH {lib:aA}(hl:lib.at 154=none)(base:Nat)(s:aq)(j:Nat)(bv rv ov:Value)(b:List UInt8)(p:Nat)(most:Int)(rows:List (Nat×Nat))(last:Nat×Nat)(out:List UInt8)(a n:Nat)
  (h:lN base s j bv rv ov b p most rows last out) (hb:base<=s.next) (ha:a<out.length) (hn0:1<=n) (ho:out.length+n<=100000000):
  Runs Tryz.prog lib 154 [wg j,.int .i64 a,.int .i64 n] s (JB base s j bv rv ov b p most rows out n (F9 out a n)):=by
 refine Runs.enter 51 Tryz.func154 rfl hl rfl rfl ?_
 intro f hn hf
 have h0:f.get 0=wg j:=hf 0
 have h1:f.get 1= .int .i64 a:=hf 1
 have h2:f.get 2= .int .i64 n:=hf 2
 clear hf
 have g6:=h.cJ.load (P:=Tryz.prog) fU (off:=6) (c:=8) rfl (by simp)
 simp only[aj,ak,aa,ae,QS,Qx,↓reduceIte,hn,h0,h2,Mf,tM,g6,h.out.aG.bm Tryz.underlying22,Mg]
 refine jO fF h.cJ rfl rfl rfl rfl (by simp) ?_
 intro s1 eK g8 kC
 have pH:lN base s1 j bv rv ov b p most rows (out.length,n) out:=h.put eK g8 kC
 have Xn:du j ov s ov s1:=du.put g8 kC
 simp only[aj,QS,Qx,↓reduceIte,hn,h2]
 refine Comes.bQ (fun z f s' =>∃(k:Nat) (Y3:Value),z=n-k/\k<=n/\lN base s' j bv rv Y3 b p most rows (out.length,n) (F9 out a k)/\du j ov s Y3 s' /\(k=0\/((out.length+k:Nat):Int)<=most)/\f.n=51/\f.get 0=wg j/\f.get 1= .int .i64 a/\f.get 18= .int .i64 n/\f.get 19= .int .i64 k)
  (fun y f s' =>(y= .exit 0/\f.n=51/\JB base s j bv rv ov b p most rows out n (F9 out a n) (.int .i64 0) s')\/(y= .ret/\f.n=51/\f.get 6= .int .i64 7/\JB base s j bv rv ov b p most rows out n (F9 out a n) (.int .i64 7) s'))
  ⟨0,ov,rfl,by omega,pH,Xn,.inl rfl,by simp only[ad,ag,↓reduceIte,Qx,hn,h0,h1,true_and];rfl⟩ ?_ ?_
 ·clear hn h0 h1 h2 f g6 pH Xn eK g8 kC s1
  rintro Q hQ z f s2 ⟨k,o1,rfl,hk,hR,fk,hmk,hn,h0,h1,zh,LN⟩
  have dI:=Nat.le_trans hb fk.next
  have g6:=hR.cJ.load (P:=Tryz.prog) fU (off:=6) (c:=8) rfl (by simp)
  have g2:=hR.cJ.load (P:=Tryz.prog) bu (off:=2) (c:=8) rfl (by simp)
  have hlen:=rC out a k
  have Q4:=hR.out.aG
  by_cases Lu:k<n
  ·have c1:(k:Int)<(n:Int):=by omega
   by_cases c2:most<=((F9 out a k).length:Int)
   ·simp only[aj,ak,aa,QS,Qx,↓reduceIte,hn,h0,zh,LN,eq_true c1,Rc,tM,g2,g6,hR.out.self,Q4.bm Tryz.underlying22,eq_true c2]
    refine hQ _ _ _ (.inr ⟨rfl,by simp only[ag,hn],by simp only[ad,↓reduceIte],o1,_,_,hR,fk,.inr ⟨rfl,by omega⟩⟩)
   ·have hik:a+k<(F9 out a k).length:=by omega
    have dC:=ar.spare s2 1
    have aiD:=(hR.out.keeps dC).aG
    have g6S:=(hR.cJ.keeps dC).load (P:=Tryz.prog) fU (off:=6) (c:=8) rfl (by simp)
    have mY:=aiD.indexAddr (k:= .i64) (x:=((a:Int)+(k:Int))) Tryz.underlying22 bK (by omega) (by omega)
    rw[show((a:Int)+(k:Int)).toNat=a+k by omega] at mY
    have fz:=aiD.di (P:=Tryz.prog) kI hik
    rw[bw hik] at fz
    simp only[aj,ak,aa,QS,Qx,↓reduceIte,hn,h0,zh,LN,eq_true c1,Rc,tM,g2,g6,hR.out.self,Q4.bm Tryz.underlying22,eq_false c2]
    refine cX.zd 1 (by kernel_rfl) (by kernel_rfl) ?_
    simp(disch:=omega)only[aj,ak,ae,QS,Qx,↓reduceIte,hn,h0,h1,tM,g6S,hR.out.self,aD,mY,fz,gG Tryz.underlying22 bK ks]
    refine iE (base:=s2.next) (by rfl) (by rw[bU];omega) (Nat.le_refl _) ?_
    intro bs t2 oA qN aR m8 _
    have dE:=(ar.spare s2 1).trans aR
    have fN:=hR.out.keeps dE
    simp only[aj,aa,QS,Qx,↓reduceIte,hn]
    refine kH Tryz.underlying22 Tryz.underlying22 (.inl ⟨_,rfl⟩) bK jW ks rfl fN oA.aG.src rfl (by decide) rfl (by omega) (by omega) hR.of (by have:=dE.next;omega) ?_
    intro o3 t3 ou hF3 bC jM JC
    have F5:=(hR.cJ.keeps dE).turns jM hR.oj
    simp only[aj,QS,Qx,↓reduceIte,hn,tM]
    refine nh fT F5 rfl (by simp) ou.aG.aL ?_
    intro s4 gv vY vh
    have e1:ofBytes (F9 out a k)++[.int .u8 (((F9 out a k).getD (a+k) 0).toNat:Int)]=ofBytes (F9 out a (k+1)):=by rw[F9,br];rfl
    have e2:(F9 out a k).length+1=(F9 out a (k+1)).length:=by rw[rC,rC];omega
    rw[e1,e2] at ou
    obtain⟨yE,aeq⟩:=hR.grow dI dE ou hF3 jM JC gv vY vh
    simp(disch:=omega)only[aj,QS,Qx,↓reduceIte,hn,LN,aD]
    refine ay (n-(k+1)) (by omega) ⟨k+1,o3,rfl,by omega,yE,fk.trans aeq,.inr (by omega),by simp only[ag,hn],by simp only[ad,↓reduceIte,Qx,h0],by simp only[ad,↓reduceIte,Qx,h1],by simp only[ad,↓reduceIte,Qx,zh],by simp only[ad,↓reduceIte];rfl⟩
  ·obtain rfl:k=n:=by omega
   have c1:¬(k:Int)<(k:Int):=by omega
   simp only[aj,QS,↓reduceIte,hn,zh,LN,eq_false c1]
   exact hQ _ _ _ (.inl ⟨rfl,by simp only[ag,hn],o1,_,_,hR,fk,.inl ⟨rfl,by omega,rfl,rfl⟩⟩)
 ·clear hn h0 h1 h2 f
  rintro y f s2 (⟨rfl,hn,hP⟩|⟨rfl,hn,h6,hP⟩)
  ·simp only[aj,al,oneOf,QS,↓reduceIte,hn,Tryz.results154]
   exact hP
  ·simp only[aj,al,oneOf,QS,↓reduceIte,hn,h6,Tryz.results154]
   exact hP
theorem Pd {lib:aA}(hl:lib.at 153=none)(base:Nat)(s:aq)(j:Nat)(bv rv ov:Value)(b:List UInt8)(p:Nat)(most:Int)(rows:List (Nat×Nat))(last:Nat×Nat)(out:List UInt8)(c:Nat)
  (h:lN base s j bv rv ov b p most rows last out) (hb:base<=s.next) (hc:c<256) (ho:out.length<=100000000):
  Runs Tryz.prog lib 153 [wg j,.int .i64 c] s (JB base s j bv rv ov b p most rows out 1 (out++[UInt8.ofNat c])):=by
 refine Runs.enter 35 Tryz.func153 rfl hl rfl rfl ?_
 intro f hn hf
 have h0:f.get 0=wg j:=hf 0
 have h1:f.get 1= .int .i64 c:=hf 1
 clear hf
 have g6:=h.cJ.load (P:=Tryz.prog) fU (off:=6) (c:=8) rfl (by simp)
 have g2:=h.cJ.load (P:=Tryz.prog) bu (off:=2) (c:=8) rfl (by simp)
 by_cases c2:most<=(out.length:Int)
 ·simp only[aj,ak,al,oneOf,aa,QS,Qx,↓reduceIte,hn,h0,Rc,tM,g2,g6,h.out.self,h.out.aG.bm Tryz.underlying22,eq_true c2,Tryz.results153]
  exact⟨ov,_,_,h,du.refl _ _ _,.inr ⟨rfl,by omega⟩⟩
 ·simp only[aj,ak,aa,ae,QS,Qx,↓reduceIte,hn,h0,Rc,Mf,tM,g2,g6,h.out.self,h.out.aG.bm Tryz.underlying22,eq_false c2,Mg]
  refine jO fF h.cJ rfl rfl rfl rfl (by simp) ?_
  intro s1 eK g8 kC
  have pH:lN base s1 j bv rv ov b p most rows (out.length,1) out:=h.put eK g8 kC
  have g6:=pH.cJ.load (P:=Tryz.prog) fU (off:=6) (c:=8) rfl (by simp)
  have zS:IntKind.u8.wrap (c:Int)=(((UInt8.ofNat c).toNat:Nat):Int):=by rw[fu,UInt8.toNat_ofNat'];omega
  simp only[aj,ak,ae,QS,Qx,↓reduceIte,hn,h0,h1,tM,g6,bL Tryz.underlying3 Tryz.underlying5,zS,gG Tryz.underlying22 bK ks]
  refine bG Tryz.underlying22 bK jW ks rfl pH.out (by simp only[ad,↓reduceIte,Qx]) (by decide) (by simp only[ag,hn];decide) (by simp only[ag,hn];decide) (by rfl) (by decide) rfl (by omega) (by omega) pH.of (by omega) ?_
  intro bs o2 s2 fN Zk aR dD qN
  have aeo:=pH.cJ.turns dD pH.oj
  simp only[aj,QS,Qx,↓reduceIte,hn,tM]
  refine aY fT aeo rfl (by simp) fN.aG.aL ?_
  intro s3 jM mQ fB
  have e1:ofBytes out++[.int .u8 (((UInt8.ofNat c).toNat:Nat):Int)]=ofBytes (out++[UInt8.ofNat c]):=by rw[br];rfl
  have e2:out.length+1=(out++[UInt8.ofNat c]).length:=by simp
  rw[e1,e2] at fN
  obtain⟨AQ,x8⟩:=pH.grow (by omega) (ar.refl _ _) fN Zk dD qN jM mQ fB
  simp only[aj,al,oneOf,QS,↓reduceIte,hn,Tryz.results153]
  exact⟨o2,_,_,AQ,(du.put g8 kC).trans x8,.inl ⟨rfl,by omega,rfl,rfl⟩⟩
end Go.Proofs.YtdfjfncifneocaaGreat
