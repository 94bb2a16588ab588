import Derived.Test.YtdfjfncifneocaaGreatNfH
open Nat renaming reduceLT->QS,reduceEqDiff->WP
set_option linter.unusedSimpArgs false
set_option linter.unusedVariables false
set_option maxRecDepth 100000
namespace Go.Cl.Nf
open Go.Cl.Fx Go.Cl.Sto
theorem qE {C:List Nat}{i:Nat}(hi:i<C.length)(n:Nat):cn (C.take (i+1)) n=cn (C.take i) n+if C.getD i 0=n/\n≠0 then 1 else 0:=by
 unfold cn
 by_cases h:n=0
 ·subst h;simp
 ·rw[if_neg h,if_neg h,om hi]
  by_cases c:C.getD i 0=n
  ·rw[if_pos c,if_pos ⟨c,h⟩]
  ·rw[if_neg c,if_neg (fun q=>c q.1)]
theorem NI (C:List Nat)(i n:Nat):cn (C.take i) n<=C.length:=by
 unfold cn
 split
 ·omega
 ·exact Nat.le_trans List.count_le_length (by rw[List.length_take];omega)
theorem Sb (C:List Nat)(n:Nat):dd C n++jk C (n+1) C.length=dd C (n+1):=rfl
def iC:List (Nat×Nat)->List Nat
 |[]=>[]
 |(a,b)::r=>List.replicate a b++iC r
def K2 (L:List (Nat×Nat)):List Value:=L.flatMap fun p=>[.int .i64 (p.1:Nat),.int .i64 (p.2:Nat)]
theorem K3:∀{L:List (Nat×Nat)} {i:Nat},i<L.length->((K2 L).drop (i*2)).take 2=[.int .i64 ((L.getD i (0,0)).1:Nat),.int .i64 ((L.getD i (0,0)).2:Nat)]
 |[],i,h=>by simp at h
 |p::r,0,h=>rfl
 |p::r,i+1,h=>by
  have:=K3 (L:=r) (i:=i) (by simpa using h)
  show((List.drop ((i+1)*2) ([Value.int .i64 (p.1:Nat),Value.int .i64 (p.2:Nat)]++K2 r))).take 2=_
  rw[show(i+1)*2=2+i*2 by omega,<-List.drop_drop]
  exact this
theorem DA:∀{L:List (Nat×Nat)} {i:Nat},i<L.length->iC (L.take (i+1))=iC (L.take i)++List.replicate (L.getD i (0,0)).1 (L.getD i (0,0)).2
 |[],i,h=>by simp at h
 |(a,b)::r,0,h=>by simp[iC]
 |(a,b)::r,i+1,h=>by
  have:=DA (L:=r) (i:=i) (by simpa using h)
  simp only[List.take_succ_cons,iC]
  rw[this,List.append_assoc];rfl
end Go.Cl.Nf
namespace Go.Proofs.YtdfjfncifneocaaGreat
open Go.Cl Go.Cl.Rw Go.Cl.Sto Go.Cl.Fx Go.Cl.Nf Go.Cl.Bt
theorem zY:bW Tryz.prog 219=some (.agg (cj [] (.slice none 0 0)).toArray):=by kernel_rfl
theorem zZ:bP (.agg (cj [] (.slice none 0 0)).toArray)=true:=by kernel_rfl
theorem NJ {C:List Nat}{i:Nat}(hi:i<C.length)(h0:0<C.getD i 0)(oU:C.getD i 0<=15)(sv:Value):(cj (C.take i) sv).set (C.getD i 0) (.int .i64 ((cn (C.take i) (C.getD i 0)+1:Nat):Int))=cj (C.take (i+1)) sv:=by
 refine List.ext_getElem (by rw[List.length_set,aw,aw]) (fun j h1 h2=> ?_)
 rw[aw] at h2
 have e:∀(T:List Nat) (hj:j<(cj T sv).length),(cj T sv)[j]=(cj T sv).getD j undef:=fun T hj=>by rw[List.getD_eq_getElem?_getD,List.getElem?_eq_getElem hj];rfl
 rw[List.getElem_set]
 by_cases c:C.getD i 0=j
 ·rw[if_pos c,e,nG _ _ (by omega),qE hi,if_pos ⟨c,by omega⟩,c]
 ·rw[if_neg c,e,e]
  by_cases c16:j<16
  ·rw[nG _ _ c16,nG _ _ c16,qE hi,if_neg (fun q=>c q.1),Nat.add_zero]
  ·obtain rfl:j=16:=by omega
   rw[tc,tc]
theorem NK {C:List Nat}{i:Nat}(hi:i<C.length)(h0:¬0<C.getD i 0)(sv:Value):cj (C.take (i+1)) sv=cj (C.take i) sv:=by
 unfold cj
 congr 1
 refine List.map_congr_left (fun n _=> ?_)
 rw[qE hi,if_neg (fun q=>by omega),Nat.add_zero]
theorem NL (C:List Nat)(sv sw:Value):(cj C sv).set 16 sw=cj C sw:=by
 refine List.ext_getElem (by rw[List.length_set,aw,aw]) (fun j h1 h2=> ?_)
 rw[aw] at h2
 have e:∀(T:Value) (hj:j<(cj C T).length),(cj C T)[j]=(cj C T).getD j undef:=fun T hj=>by rw[List.getD_eq_getElem?_getD,List.getElem?_eq_getElem hj];rfl
 rw[List.getElem_set]
 by_cases c:16=j
 ·subst c;rw[if_pos rfl,e,tc]
 ·rw[if_neg c,e,e,nG _ _ (by omega),nG _ _ (by omega)]
theorem kp (C:List Nat){sv:Value}(h:aJ sv=true):(cj C sv).all aJ=true:=by
 unfold cj
 rw[List.all_append,Bool.and_eq_true]
 exact⟨by rw[List.all_map,List.all_eq_true];intro n _;rfl,by simp[h]⟩
theorem xj:∀{l:List Value},(∀v∈l,cN v v=true)->fK l l=true
 |[],_=>rfl
 |v::l,h=>by
  simp only[fK,Bool.and_eq_true]
  exact⟨h v (List.mem_cons_self ..),xj (fun w hw=>h w (List.mem_cons_of_mem _ hw))⟩
theorem vk {s:aq}{sv:Value}{n:Nat}{L:List Value}(C:List Nat)(h:aN s 1 sv n L):cf (.agg (cj C sv).toArray) (.agg (cj C sv).toArray)=true:=by
 show fK (cj C sv) (cj C sv)=true
 refine xj (fun v hv=> ?_)
 unfold cj at hv
 rcases List.mem_append.1 hv with hv|hv
 ·obtain⟨n,-,rfl⟩:=List.mem_map.1 hv
  simp[cN]
 ·rw[List.mem_singleton.1 hv]
  cases h<;>simp[cN]
def aal (s:aq)(C:List Nat)(v:Value)(s' :aq):Prop:=∃sv,v= .tuple #[.agg (cj C sv).toArray,.bool (decide (KU C))]/\Own s' 1 sv (dd C 15).length (fZ (dd C 15))/\aH s.next sv/\ar s.next s s'
set_option maxHeartbeats 8000000 in
theorem K4 {lib:az}(hL:NH lib)(s:aq)(x:Value)(C:List Nat)(hx:aN s 1 x C.length (fZ C))(hlen:C.length<=1000)(oU:acv C):
  Runs Tryz.prog lib 213 [x] s (aal s C):=by
 refine Runs.enter 67 Tryz.func213 rfl (hL _ rfl) rfl rfl ?_
 intro f hn hf
 have h0:f.get 0=x:=hf 0
 clear hf
 simp-implicitDefEqProofs(disch:=omega)only[aj,↓reduceIte,zY,zZ]
 refine ax ?_
 intro s1 ou bm iY
 obtain⟨j2,hj2⟩:∃j,j=s.next:=⟨_,rfl⟩
 rw[<-hj2] at ou
 simp-implicitDefEqProofs(disch:=omega)only[aj,QS,Nat.reduceAdd,↓reduceIte,hn,<-hj2,aw,zY,zZ]
 refine ax ?_
 intro s2 lI aU oN
 obtain⟨j4,hj4⟩:∃j,j=s1.next:=⟨_,rfl⟩
 rw[<-hj4] at lI
 have gr:=ou.keeps aU
 have DB:ar s.next s s2:=bm.trans (aU.weaken (by omega))
 have kv:=hx.keeps DB
 simp-implicitDefEqProofs(disch:=omega)only[aj,ad,QS,WP,Nat.reduceAdd,↓reduceIte,hn,h0,<-hj4,aw,kv.bh qp]
 refine Comes.bK (fun z f t=>∃i:Nat,z=C.length-i/\i<=C.length/\av t j2 (cj [] (.slice none 0 0))/\av t j4 (cj (C.take i) (.slice none 0 0))/\ar s.next s t/\t.next=s2.next/\f.n=67/\f.get 0=x/\f.get 2= .pointer (some ⟨j2,0,some 18⟩)/\f.get 4= .pointer (some ⟨j4,0,some 18⟩)/\f.get 5= .int .i64 (jD (C.take i):Nat)/\f.get 6= .int .i64 (jm (C.take i):Nat)/\f.get 12=x/\f.get 13= .int .i64 (C.length:Nat)/\f.get 14= .int .i64 (i:Nat))
  (fun z f t=>z= .exit 0/\av t j2 (cj [] (.slice none 0 0))/\av t j4 (cj C (.slice none 0 0))/\ar s.next s t/\t.next=s2.next/\f.n=67/\f.get 0=x/\f.get 2= .pointer (some ⟨j2,0,some 18⟩)/\f.get 4= .pointer (some ⟨j4,0,some 18⟩)/\f.get 5= .int .i64 (jD C:Nat)/\f.get 6= .int .i64 (jm C:Nat))
  ⟨0,rfl,by omega,gr,lI,DB,rfl,by simp only[ag,hn],by simp only[aa,↓reduceIte,WP,h0],by simp only[aa,↓reduceIte,WP],by simp only[aa,↓reduceIte,WP],by simp only[aa,↓reduceIte,WP];rfl,by simp only[aa,↓reduceIte,WP];rfl,by simp only[aa,↓reduceIte,WP],by simp only[aa,↓reduceIte,WP],by simp only[aa,↓reduceIte];rfl⟩ ?_ ?_
 ·clear hn h0 f ou gr lI bm aU DB kv
  rintro Q hQ z f t ⟨i,rfl,hi,hr,hc,aD,D4,hn,h0,h2,h4,h5,h6,AJ,Sc,tq⟩
  have xz:=hx.keeps aD
  by_cases DS:i<C.length
  rotate_left
  ·obtain rfl:i=C.length:=by omega
   have d1:¬((C.length:Nat):Int)<((C.length:Nat):Int):=by omega
   rw[List.take_length] at hc h5 h6
   simp-implicitDefEqProofs(disch:=omega)only[aj,QS,↓reduceIte,hn,Sc,tq,eq_false d1]
   exact hQ _ _ _ ⟨rfl,hr,hc,aD,D4,by simp only[ag,hn],by simp only[aa,↓reduceIte,WP,h0],by simp only[aa,↓reduceIte,WP,h2],by simp only[aa,↓reduceIte,WP,h4],by simp only[aa,↓reduceIte,WP,h5],by simp only[aa,↓reduceIte,WP,h6]⟩
  have d1:(i:Int)<((C.length:Nat):Int):=by omega
  have qo:=xz.indexAddr (P:=Tryz.prog) (k:= .i64) (x:=(i:Int)) qp bB (by omega) (by omega)
  rw[Int.toNat_natCast] at qo
  have k1:=xz.dJ (P:=Tryz.prog) bC DS
  rw[uR DS] at k1
  have hs:=R5 DS
  have hm:=NG DS
  have akR:=oU i
  have tH:=PQ (C.take i)
  have hml:=KX (C.take i)
  have JW:(C.take i).length=i:=by rw[List.length_take];omega
  by_cases e1:0<C.getD i 0
  ·have d3:((C.getD i 0:Nat):Int)>0:=by omega
   rw[if_pos e1] at hs hm
   have e2:(15:Int)-((C.getD i 0:Nat):Int)=((15-C.getD i 0:Nat):Int):=by omega
   have ug:=Q9 Tryz.prog 3 .i64 (b:=1) (by decide) (k:=15-C.getD i 0) (by omega)
   rw[Nat.one_mul] at ug
   have ug:cI Tryz.prog .shl 3 (.int .i64 1) (.int .i64 ((15-C.getD i 0:Nat):Int))=some (.int .i64 ((2^(15-C.getD i 0):Nat):Int)):=ug
   have hpw:2^(15-C.getD i 0)<=2^15:=Nat.pow_le_pow_right (by omega) (by omega)
   have LN:(2:Nat)^15=32768:=by decide
   generalize 2^(15-C.getD i 0)=W at hs ug hpw
   have e3:((jD (C.take i):Nat):Int)+((W:Nat):Int)=((jD (C.take (i+1)):Nat):Int):=by omega
   have e4:((jm (C.take i):Nat):Int)+1=((jm (C.take (i+1)):Nat):Int):=by omega
   have ik:=PT (P:=Tryz.prog) agx bB j4 0 18 (x:=((C.getD i 0:Nat):Int)) (by omega) (by omega) .i64
   rw[Int.toNat_natCast,Nat.zero_add] at ik
   have lk:=hc.load (P:=Tryz.prog) bC (off:=C.getD i 0) (c:=18) (by rw[aw]) (by rw[aw];omega)
   rw[nG _ _ (by omega)] at lk
   have jH:=NI C i (C.getD i 0)
   have e5:((cn (C.take i) (C.getD i 0):Nat):Int)+1=((cn (C.take i) (C.getD i 0)+1:Nat):Int):=by omega
   simp-implicitDefEqProofs(disch:=omega)only[aj,QS,WP,↓reduceIte,hn,h4,AJ,Sc,tq,eq_true d1,qo,k1,eq_true d3,VW,ik,lk,aB,e5]
   refine aX bB hc (by rw[aw]) (by rw[aw];omega) rfl ?_
   intro t2 lI im dg
   rw[NJ DS e1 akR] at lI
   simp-implicitDefEqProofs(disch:=omega)only[aj,QS,WP,↓reduceIte,hn,h5,h6,tq,e2,aB,ug,e3,e4]
   exact au (C.length-(i+1)) (by omega) ⟨i+1,rfl,by omega,hr.aI im dg (by omega),lI,aD.trans (ar.aI im dg (by omega)),by omega,by simp only[ag,hn],by simp only[aa,↓reduceIte,WP,h0],by simp only[aa,↓reduceIte,WP,h2],by simp only[aa,↓reduceIte,WP,h4],by simp only[aa,↓reduceIte,WP],by simp only[aa,↓reduceIte,WP],by simp only[aa,↓reduceIte,WP,AJ],by simp only[aa,↓reduceIte,WP,Sc],by simp only[aa,↓reduceIte];rfl⟩
  ·have d3:¬((C.getD i 0:Nat):Int)>0:=by omega
   rw[if_neg e1] at hs hm
   simp-implicitDefEqProofs(disch:=omega)only[aj,QS,WP,↓reduceIte,hn,AJ,Sc,tq,eq_true d1,qo,k1,eq_false d3,aB]
   exact au (C.length-(i+1)) (by omega) ⟨i+1,rfl,by omega,hr,by rw[NK DS e1];exact hc,aD,D4,by simp only[ag,hn],by simp only[aa,↓reduceIte,WP,h0],by simp only[aa,↓reduceIte,WP,h2],by simp only[aa,↓reduceIte,WP,h4],by simp only[aa,↓reduceIte,WP,h5];rw[hs,Nat.add_zero],by simp only[aa,↓reduceIte,WP,h6];rw[hm,Nat.add_zero],by simp only[aa,↓reduceIte,WP,AJ],by simp only[aa,↓reduceIte,WP,Sc],by simp only[aa,↓reduceIte];rfl⟩
 clear hn h0 f ou gr lI bm aU DB kv
 rintro z f t ⟨rfl,hr,hc,aD,D4,hn,h0,h2,h4,h5,h6⟩
 have K1:=GP C
 simp-implicitDefEqProofs(disch:=omega)only[aj,QS,↓reduceIte,hn]
 refine Comes.bK (fun z f t=>∃(k:Nat) (y:Value),z=15-k/\k<=15/\av t j2 (cj [] (.slice none 0 0))/\av t j4 (cj C y)/\Own t 1 y (dd C k).length (fZ (dd C k))/\aH s2.next y/\ar s.next s t/\s2.next<=t.next/\f.n=67/\f.get 0=x/\f.get 2= .pointer (some ⟨j2,0,some 18⟩)/\f.get 4= .pointer (some ⟨j4,0,some 18⟩)/\f.get 5= .int .i64 (jD C:Nat)/\f.get 6= .int .i64 (jm C:Nat)/\f.get 9= .int .i64 ((k:Int)+1))
  (fun z f t=>z= .exit 2/\∃y:Value,av t j2 (cj [] (.slice none 0 0))/\av t j4 (cj C y)/\Own t 1 y (dd C 15).length (fZ (dd C 15))/\aH s2.next y/\ar s.next s t/\f.n=67/\f.get 2= .pointer (some ⟨j2,0,some 18⟩)/\f.get 4= .pointer (some ⟨j4,0,some 18⟩)/\f.get 5= .int .i64 (jD C:Nat)/\f.get 6= .int .i64 (jm C:Nat))
  ⟨0,_,rfl,by omega,hr,hc,.nil,aH.nil _,aD,by omega,by simp only[ag,hn],by simp only[aa,↓reduceIte,WP,h0],by simp only[aa,↓reduceIte,WP,h2],by simp only[aa,↓reduceIte,WP,h4],by simp only[aa,↓reduceIte,WP,h5],by simp only[aa,↓reduceIte,WP,h6],by simp only[aa,↓reduceIte];rfl⟩ ?_ ?_
 ·clear hn h0 h2 h4 h5 h6 f hr hc aD D4
  rintro Q hQ z f t ⟨k,y,rfl,hk,hr,hc,hy,kJ,aD,D4,hn,h0,h2,h4,h5,h6,h9⟩
  by_cases ae3:k<15
  rotate_left
  ·obtain rfl:k=15:=by omega
   have d1:¬((15:Nat):Int)+1<=15:=by omega
   simp-implicitDefEqProofs(disch:=omega)only[aj,QS,↓reduceIte,hn,h9,eq_false d1]
   exact hQ _ _ _ ⟨rfl,y,hr,hc,hy,kJ,aD,by simp only[ag,hn],by simp only[aa,↓reduceIte,WP,h2],by simp only[aa,↓reduceIte,WP,h4],by simp only[aa,↓reduceIte,WP,h5],by simp only[aa,↓reduceIte,WP,h6]⟩
  have d1:(k:Int)+1<=15:=by omega
  have xz:=hx.keeps aD
  simp-implicitDefEqProofs(disch:=omega)only[aj,ad,QS,WP,↓reduceIte,hn,h0,h9,eq_true d1,xz.bh qp]
  refine Comes.bK (fun z f t=>∃(i:Nat) (y:Value),z=C.length-i/\i<=C.length/\av t j2 (cj [] (.slice none 0 0))/\av t j4 (cj C y)/\Own t 1 y (dd C k++jk C (k+1) i).length (fZ (dd C k++jk C (k+1) i))/\aH s2.next y/\ar s.next s t/\s2.next<=t.next/\f.n=67/\f.get 0=x/\f.get 2= .pointer (some ⟨j2,0,some 18⟩)/\f.get 4= .pointer (some ⟨j4,0,some 18⟩)/\f.get 5= .int .i64 (jD C:Nat)/\f.get 6= .int .i64 (jm C:Nat)/\f.get 9= .int .i64 ((k:Int)+1)/\f.get 39=x/\f.get 40= .int .i64 (C.length:Nat)/\f.get 41= .int .i64 (i:Nat))
   (fun z f t=>z= .exit 4/\∃y:Value,av t j2 (cj [] (.slice none 0 0))/\av t j4 (cj C y)/\Own t 1 y (dd C (k+1)).length (fZ (dd C (k+1)))/\aH s2.next y/\ar s.next s t/\s2.next<=t.next/\f.n=67/\f.get 0=x/\f.get 2= .pointer (some ⟨j2,0,some 18⟩)/\f.get 4= .pointer (some ⟨j4,0,some 18⟩)/\f.get 5= .int .i64 (jD C:Nat)/\f.get 6= .int .i64 (jm C:Nat)/\f.get 9= .int .i64 ((k:Int)+1))
   ⟨0,y,rfl,by omega,hr,hc,by simp only[jk,List.append_nil];exact hy,kJ,aD,D4,by simp only[ag,hn],by simp only[aa,↓reduceIte,WP,h0],by simp only[aa,↓reduceIte,WP,h2],by simp only[aa,↓reduceIte,WP,h4],by simp only[aa,↓reduceIte,WP,h5],by simp only[aa,↓reduceIte,WP,h6],by simp only[aa,↓reduceIte,WP,h9],by simp only[aa,↓reduceIte,WP],by simp only[aa,↓reduceIte,WP],by simp only[aa,↓reduceIte];rfl⟩ ?_ ?_
  ·clear hn h0 h2 h4 h5 h6 h9 f hr hc hy kJ aD D4 xz
   rintro Q2 ZD z f t ⟨i,y,rfl,hi,hr,hc,hy,kJ,aD,D4,hn,h0,h2,h4,h5,h6,h9,NM,PX,h41⟩
   have xz:=hx.keeps aD
   by_cases DS:i<C.length
   rotate_left
   ·obtain rfl:i=C.length:=by omega
    have d2:¬((C.length:Nat):Int)<((C.length:Nat):Int):=by omega
    rw[Sb] at hy
    simp-implicitDefEqProofs(disch:=omega)only[aj,QS,↓reduceIte,hn,PX,h41,eq_false d2]
    exact ZD _ _ _ ⟨rfl,y,hr,hc,hy,kJ,aD,D4,by simp only[ag,hn],by simp only[aa,↓reduceIte,WP,h0],by simp only[aa,↓reduceIte,WP,h2],by simp only[aa,↓reduceIte,WP,h4],by simp only[aa,↓reduceIte,WP,h5],by simp only[aa,↓reduceIte,WP,h6],by simp only[aa,↓reduceIte,WP,h9]⟩
   have d2:(i:Int)<((C.length:Nat):Int):=by omega
   have qo:=xz.indexAddr (P:=Tryz.prog) (k:= .i64) (x:=(i:Int)) qp bB (by omega) (by omega)
   rw[Int.toNat_natCast] at qo
   have k1:=xz.dJ (P:=Tryz.prog) bC DS
   rw[uR DS] at k1
   by_cases e1:C.getD i 0=k+1
   ·have d3:((C.getD i 0:Nat):Int)=(k:Int)+1:=by omega
    have lsv:=hc.load (P:=Tryz.prog) PV (off:=16) (c:=18) (by rw[aw]) (by rw[aw];omega)
    rw[tc] at lsv
    have Ck:(dd C k++jk C (k+1) i).length<=3000:=by
     have h1:=K1 k
     have h2:=oo C (k+1) i (by omega)
     have h3:(C.take i).count (k+1)<=(C.take i).length:=List.count_le_length
     rw[List.length_take] at h3
     rw[List.length_append];omega
    simp-implicitDefEqProofs(disch:=omega)only[aj,ae,QS,WP,↓reduceIte,hn,h4,h9,NM,PX,h41,eq_true d2,qo,k1,eq_true d3,PW,lsv,g9 qp bB Pc]
    refine bI qp bB Ue Pc rfl hy (by simp only[aa,↓reduceIte,WP]) (by decide) (by simp only[ag,hn];decide) (by simp only[ag,hn];decide) (by rfl) (by decide) rfl (by omega) (by omega) kJ D4 ?_
    intro bs y2 t2 vE agD aU dZ qb
    have akS:aE y≠some j2:=fun e=>by have:=kJ _ e;omega
    have akT:aE y≠some j4:=fun e=>by have:=kJ _ e;omega
    have agE:aE y2≠some j4:=fun e=>by have:=agD _ e;omega
    have gr:=hr.turns dZ akS
    have lI:=hc.turns dZ akT
    have e6:fZ (dd C k++jk C (k+1) i)++[Value.int .i64 (i:Nat)]=fZ (dd C k++jk C (k+1) (i+1)):=by
     simp only[jk]
     rw[if_pos e1,<-List.append_assoc]
     exact GN _ [i]
    have e7:(dd C k++jk C (k+1) i).length+1=(dd C k++jk C (k+1) (i+1)).length:=by
     simp only[jk]
     rw[if_pos e1,<-List.append_assoc]
     simp only[List.length_append,List.length_singleton]
    rw[e6,e7] at vE
    simp-implicitDefEqProofs(disch:=omega)only[aj,QS,WP,↓reduceIte,hn,h4,PW]
    refine aX PU lI (by rw[aw]) (by rw[aw];omega) vE.aG.aJ ?_
    intro t3 xN mm ij
    rw[NL] at xN
    simp-implicitDefEqProofs(disch:=omega)only[aj,QS,WP,↓reduceIte,hn,h41,aB]
    have apX:=dZ.next
    exact au (C.length-(i+1)) (by omega) ⟨i+1,y2,rfl,by omega,gr.aI mm ij (by omega),xN,vE.aI mm ij agE,agD,(aD.trans (aU.weaken (by omega))).trans (ar.aI mm ij (by omega)),by omega,by simp only[ag,hn],by simp only[aa,↓reduceIte,WP,h0],by simp only[aa,↓reduceIte,WP,h2],by simp only[aa,↓reduceIte,WP,h4],by simp only[aa,↓reduceIte,WP,h5],by simp only[aa,↓reduceIte,WP,h6],by simp only[aa,↓reduceIte,WP,h9],by simp only[aa,↓reduceIte,WP,NM],by simp only[aa,↓reduceIte,WP,PX],by simp only[aa,↓reduceIte];rfl⟩
   ·have d3:¬((C.getD i 0:Nat):Int)=(k:Int)+1:=by omega
    have e8:jk C (k+1) (i+1)=jk C (k+1) i:=by simp only[jk];rw[if_neg e1,List.append_nil]
    simp-implicitDefEqProofs(disch:=omega)only[aj,QS,WP,↓reduceIte,hn,h9,NM,PX,h41,eq_true d2,qo,k1,eq_false d3,aB]
    exact au (C.length-(i+1)) (by omega) ⟨i+1,y,rfl,by omega,hr,hc,by rw[e8];exact hy,kJ,aD,D4,by simp only[ag,hn],by simp only[aa,↓reduceIte,WP,h0],by simp only[aa,↓reduceIte,WP,h2],by simp only[aa,↓reduceIte,WP,h4],by simp only[aa,↓reduceIte,WP,h5],by simp only[aa,↓reduceIte,WP,h6],by simp only[aa,↓reduceIte,WP,h9],by simp only[aa,↓reduceIte,WP,NM],by simp only[aa,↓reduceIte,WP,PX],by simp only[aa,↓reduceIte];rfl⟩
  clear hn h0 h2 h4 h5 h6 h9 f hr hc hy kJ aD D4 xz
  rintro z f t ⟨rfl,y,hr,hc,hy,kJ,aD,D4,hn,h0,h2,h4,h5,h6,h9⟩
  simp-implicitDefEqProofs(disch:=omega)only[aj,QS,↓reduceIte,hn,h9,aB]
  exact au (15-(k+1)) (by omega) ⟨k+1,y,rfl,by omega,hr,hc,hy,kJ,aD,D4,by simp only[ag,hn],by simp only[aa,↓reduceIte,WP,h0],by simp only[aa,↓reduceIte,WP,h2],by simp only[aa,↓reduceIte,WP,h4],by simp only[aa,↓reduceIte,WP,h5],by simp only[aa,↓reduceIte,WP,h6],by simp only[aa,↓reduceIte];rfl⟩
 clear hn h0 h2 h4 h5 h6 f hr hc aD D4
 rintro z f t ⟨rfl,y,hr,hc,hy,kJ,aD,hn,h2,h4,h5,h6⟩
 have NN:=hc.bu (P:=Tryz.prog) iI (by rw[aw];exact dA) (c:=18) (by rw[aw])
 have hmz:(if jD C=32768 then true else if jD C<32768 then decide (((jm C:Nat):Int)<=1) else false)=decide (KU C):=by
  by_cases c1:jD C=32768
  ·rw[if_pos c1];exact(decide_eq_true (.inl c1)).symm
  ·rw[if_neg c1]
   by_cases c2:jD C<32768
   ·rw[if_pos c2]
    exact decide_eq_decide.2 ⟨fun h=> .inr ⟨c2,by omega⟩,fun h=>by rcases h with h|h<;>omega⟩
   ·rw[if_neg c2];exact(decide_eq_false (fun h=>by rcases h with h|h<;>omega)).symm
 have fin:∀(t' :aq) (b:Bool),av t' j2 (cj C y)->t'.next=t.next->(∀i,i≠j2->t'.heap.get i=t.heap.get i)->b=decide (KU C)->aal s C (.tuple #[.agg (cj C y).toArray,.bool b]) t' :=fun t' b h1 h2 h3 h4=>by
  subst h4
  exact⟨y,rfl,hy.aI h2 h3 (fun e=>by have:=kJ _ e;omega),fun i hi=>by have:=kJ i hi;omega,aD.trans (ar.aI h2 h3 (by omega))⟩
 by_cases c1:jD C=32768
 ·have d1:((jD C:Nat):Int)=32768:=by omega
  rw[if_pos c1] at hmz
  simp-implicitDefEqProofs(disch:=omega)only[aj,ak,QS,WP,↓reduceIte,undef,hn,h2,h4,h5,NN,eq_true d1]
  refine aA dA (by decide) hr (aw _ _) rfl (aw _ _) (kp C hy.aG.aJ) ?_
  intro t2 gr im dg
  have K5:=gr.bu (P:=Tryz.prog) iI (by rw[aw];exact dA) (c:=18) (by rw[aw])
  simp-implicitDefEqProofs(disch:=omega)only[aj,al,oneOf,QS,WP,↓reduceIte,undef,hn,h2,aV,K5,Tryz.results213]
  exact fin t2 true gr im dg hmz
 have d1:¬((jD C:Nat):Int)=32768:=by omega
 rw[if_neg c1] at hmz
 by_cases c2:jD C<32768
 ·have d2:((jD C:Nat):Int)<32768:=by omega
  rw[if_pos c2] at hmz
  simp-implicitDefEqProofs(disch:=omega)only[aj,ak,QS,WP,↓reduceIte,hn,h2,h4,h5,h6,NN,eq_false d1,eq_true d2]
  refine aA dA (by decide) hr (aw _ _) rfl (aw _ _) (kp C hy.aG.aJ) ?_
  intro t2 gr im dg
  have K5:=gr.bu (P:=Tryz.prog) iI (by rw[aw];exact dA) (c:=18) (by rw[aw])
  simp-implicitDefEqProofs(disch:=omega)only[aj,al,oneOf,QS,WP,↓reduceIte,undef,hn,h2,aV,K5,Tryz.results213]
  exact fin t2 _ gr im dg hmz
 ·have d2:¬((jD C:Nat):Int)<32768:=by omega
  rw[if_neg c2] at hmz
  simp-implicitDefEqProofs(disch:=omega)only[aj,ak,QS,WP,↓reduceIte,undef,hn,h2,h4,h5,NN,eq_false d1,eq_false d2]
  refine aA dA (by decide) hr (aw _ _) rfl (aw _ _) (kp C hy.aG.aJ) ?_
  intro t2 gr im dg
  have K5:=gr.bu (P:=Tryz.prog) iI (by rw[aw];exact dA) (c:=18) (by rw[aw])
  simp-implicitDefEqProofs(disch:=omega)only[aj,al,oneOf,QS,WP,↓reduceIte,undef,hn,h2,aV,K5,Tryz.results213]
  exact fin t2 false gr im dg hmz
theorem DD:aW Tryz.prog 122=some 2:=by kernel_rfl
theorem acA:bY Tryz.prog 122=some true:=by kernel_rfl
theorem PY:bW Tryz.prog 122=some (.agg #[.int .i64 0,.int .i64 0]):=by kernel_rfl
theorem agF:bP (.agg #[.int .i64 0,.int .i64 0])=true:=rfl
theorem VZ:Tryz.prog.underlying 122=some (.array 2 3):=Tryz.underlying122
theorem PZ:Tryz.prog.underlying 121=some (.slice 122):=Tryz.underlying121
theorem GQ:∀L:List (Nat×Nat),(∀x∈L,x.1<=200)->(iC L).length<=200*L.length
 |[],_=>Nat.le_refl _
 |(a,b)::r,h=>by
  have h1:=h (a,b) (by simp)
  have h2:=GQ r (fun x hx=>h x (by simp[hx]))
  simp only[iC,List.length_append,List.length_replicate,List.length_cons]
  have h1:a<=200:=h1
  omega
def aam (s:aq)(C:List Nat)(v:Value)(s' :aq):Prop:=Own s' 1 v C.length (fZ C)/\aH s.next v/\ar s.next s s'
set_option maxHeartbeats 8000000 in
theorem K6 {lib:az}(hL:NH lib)(s:aq)(x:Value)(L:List (Nat×Nat))(hx:aN s 2 x L.length (K2 L))(hlen:L.length<=10)(oU:∀x∈L,x.1<=200):
  Runs Tryz.prog lib 214 [x] s (aam s (iC L)):=by
 refine Runs.enter 24 Tryz.func214 rfl (hL _ rfl) rfl rfl ?_
 intro f hn hf
 have h0:f.get 0=x:=hf 0
 clear hf
 simp-implicitDefEqProofs(disch:=omega)only[aj,ad,QS,WP,↓reduceIte,hn,h0,hx.bh PZ]
 refine Comes.bK (fun z f t=>∃(i:Nat) (y:Value),z=L.length-i/\i<=L.length/\Own t 1 y (iC (L.take i)).length (fZ (iC (L.take i)))/\aH s.next y/\ar s.next s t/\f.n=24/\f.get 3=y/\f.get 6=x/\f.get 7= .int .i64 (L.length:Nat)/\f.get 8= .int .i64 (i:Nat))
  (fun z f t=>z= .exit 0/\f.n=24/\∃y,f.get 3=y/\aam s (iC L) y t)
  ⟨0,_,rfl,by omega,.nil,aH.nil _,ar.refl _ _,by simp only[ag,hn],by simp only[aa,↓reduceIte,WP],by simp only[aa,↓reduceIte,WP],by simp only[aa,↓reduceIte,WP],by simp only[aa,↓reduceIte];rfl⟩ ?_ ?_
 ·clear hn h0 f
  rintro Q hQ z f t ⟨i,y,rfl,hi,hy,kJ,aD,hn,h3,h6,h7,h8⟩
  have xz:=hx.keeps aD
  by_cases DS:i<L.length
  rotate_left
  ·obtain rfl:i=L.length:=by omega
   have d1:¬((L.length:Nat):Int)<((L.length:Nat):Int):=by omega
   rw[List.take_length] at hy
   simp-implicitDefEqProofs(disch:=omega)only[aj,QS,↓reduceIte,hn,h7,h8,eq_false d1]
   exact hQ _ _ _ ⟨rfl,by simp only[ag,hn],y,by simp only[aa,↓reduceIte,WP,h3],hy,kJ,aD⟩
  have d1:(i:Int)<((L.length:Nat):Int):=by omega
  have qo:=xz.indexAddr (P:=Tryz.prog) (k:= .i64) (x:=(i:Int)) PZ DD (by omega) (by omega)
  rw[Int.toNat_natCast] at qo
  have k1:=xz.fm (P:=Tryz.prog) acA DD DS
  rw[K3 DS] at k1
  have o7:L.getD i (0,0)∈L:=by rw[List.getD_eq_getElem?_getD,List.getElem?_eq_getElem DS];exact List.getElem_mem DS
  have ha:=oU _ o7
  have TZ:=DA DS
  have Jo:=GQ (L.take i) (fun x hx=>oU x (List.mem_of_mem_take hx))
  have bc:(L.take i).length=i:=by rw[List.length_take];omega
  generalize Hl:L.getD i (0,0)=ab at k1 ha TZ
  simp-implicitDefEqProofs(disch:=omega)only[aj,QS,WP,↓reduceIte,hn,h6,h7,h8,eq_true d1,qo,k1,PY,agF]
  refine ax ?_
  intro t1 he1 bm iY
  obtain⟨je,hje⟩:∃j,j=t.next:=⟨_,rfl⟩
  rw[<-hje] at he1
  have LD:=hy.keeps bm
  simp-implicitDefEqProofs(disch:=omega)only[aj,QS,WP,↓reduceIte,hn,<-hje]
  refine aA DD (by decide) he1 rfl rfl rfl rfl ?_
  intro t2 V0 im dg
  have vE:=LD.aI im dg (fun e=>by have:=hy.g8 _ e;omega)
  have V0:av t2 je [.int .i64 (ab.1:Nat),.int .i64 (ab.2:Nat)]:=V0
  have aU:ar s.next s t2:=(aD.trans (bm.weaken (by have:=aD.next;omega))).trans (ar.aI im dg (by have:=aD.next;omega))
  have w0:=V0.load (P:=Tryz.prog) bC (off:=0) (c:=3) rfl (by simp)
  have w1:=V0.load (P:=Tryz.prog) bC (off:=1) (c:=3) rfl (by simp)
  have i0:=PT (P:=Tryz.prog) VZ bB je 0 3 (x:=0) (by omega) (by omega) .i64
  have i1:=PT (P:=Tryz.prog) VZ bB je 0 3 (x:=1) (by omega) (by omega) .i64
  have i0:bQ Tryz.prog 122 (.pointer (some ⟨je,0,some 3⟩)) (.int .i64 0)=some (.pointer (some ⟨je,0,some 3⟩)):=i0
  have i1:bQ Tryz.prog 122 (.pointer (some ⟨je,0,some 3⟩)) (.int .i64 1)=some (.pointer (some ⟨je,1,some 3⟩)):=i1
  simp-implicitDefEqProofs(disch:=omega)only[aj,ak,QS,Nat.reduceAdd,↓reduceIte,hn,List.length_cons,List.length_nil,i0,w0]
  refine Comes.bK (fun z f t' =>∃(j:Nat) (y:Value),z=ab.1-j/\j<=ab.1/\Own t' 1 y (iC (L.take i)++List.replicate j ab.2).length (fZ (iC (L.take i)++List.replicate j ab.2))/\aH s.next y/\(∀q,aE y=some q->q≠je)/\av t' je [.int .i64 (ab.1:Nat),.int .i64 (ab.2:Nat)]/\ar s.next s t' /\je<t'.next/\f.n=24/\f.get 3=y/\f.get 5= .pointer (some ⟨je,0,some 3⟩)/\f.get 6=x/\f.get 7= .int .i64 (L.length:Nat)/\f.get 8= .int .i64 (i:Nat)/\f.get 13= .int .i64 (ab.1:Nat)/\f.get 14= .int .i64 (j:Nat))
   (fun z f t' =>z= .exit 2/\∃(y:Value),Own t' 1 y (iC (L.take (i+1))).length (fZ (iC (L.take (i+1))))/\aH s.next y/\ar s.next s t' /\f.n=24/\f.get 3=y/\f.get 6=x/\f.get 7= .int .i64 (L.length:Nat)/\f.get 8= .int .i64 (i:Nat))
   ⟨0,y,rfl,by omega,by simpa using vE,kJ,fun q hq=>by have:=hy.g8 q hq;omega,V0,aU,V0.lt,by simp only[ag,hn],by simp only[aa,↓reduceIte,WP,h3],by simp only[aa,↓reduceIte,WP],by simp only[aa,↓reduceIte,WP,h6],by simp only[aa,↓reduceIte,WP,h7],by simp only[aa,↓reduceIte,WP,h8],by simp only[aa,↓reduceIte,WP],by simp only[aa,↓reduceIte];rfl⟩ ?_ ?_
  ·clear hn h3 h6 h7 h8 f
   rintro Q2 ZD z f t' ⟨j,y,rfl,hj,hy,kJ,hyj,he,aD,SL,hn,h3,h5,h6,h7,h8,Sc,tq⟩
   by_cases hja:j<ab.1
   rotate_left
   ·obtain rfl:j=ab.1:=by omega
    have d2:¬((ab.1:Nat):Int)<((ab.1:Nat):Int):=by omega
    rw[<-TZ] at hy
    simp-implicitDefEqProofs(disch:=omega)only[aj,ak,QS,↓reduceIte,hn,Sc,tq,eq_false d2]
    exact ZD _ _ _ ⟨rfl,y,hy,kJ,aD,by simp only[ag,hn],by simp only[aa,↓reduceIte,WP,h3],by simp only[aa,↓reduceIte,WP,h6],by simp only[aa,↓reduceIte,WP,h7],by simp only[aa,↓reduceIte,WP,h8]⟩
   have d2:(j:Int)<((ab.1:Nat):Int):=by omega
   have w1:=he.load (P:=Tryz.prog) bC (off:=1) (c:=3) rfl (by simp)
   have UY:(iC (L.take i)++List.replicate j ab.2).length<=3000:=by rw[List.length_append,List.length_replicate];omega
   simp-implicitDefEqProofs(disch:=omega)only[aj,ak,ae,QS,WP,↓reduceIte,hn,h3,h5,Sc,tq,eq_true d2,i1,w1,g9 qp bB Pc]
   refine bI qp bB Ue Pc rfl hy (by simp only[aa,↓reduceIte,WP]) (by decide) (by simp only[ag,hn];decide) (by simp only[ag,hn];decide) (by rfl) (by decide) rfl (by omega) (by omega) kJ aD.next ?_
   intro bs y2 t6 vE Zk aU dZ qb
   have e6:fZ (iC (L.take i)++List.replicate j ab.2)++[Value.int .i64 (ab.2:Nat)]=fZ (iC (L.take i)++List.replicate (j+1) ab.2):=by
    rw[List.replicate_succ',<-List.append_assoc]
    exact GN _ [ab.2]
   have e7:(iC (L.take i)++List.replicate j ab.2).length+1=(iC (L.take i)++List.replicate (j+1) ab.2).length:=by
    simp only[List.length_append,List.length_replicate];omega
   rw[e6,e7] at vE
   simp-implicitDefEqProofs(disch:=omega)only[aj,QS,WP,↓reduceIte,hn,tq,aB]
   have X6:=dZ.next
   exact au (ab.1-(j+1)) (by omega) ⟨j+1,y2,rfl,by omega,vE,Zk,fun q hq=>by
    rcases qb with e|⟨w,e,hw⟩
    ·exact hyj q (by rw[<-e];exact hq)
    ·rw[e] at hq;injection hq with hq;omega,he.turns dZ (fun e=>hyj je e rfl),aD.trans (aU.weaken (by have:=aD.next;omega)),by omega,by simp only[ag,hn],by simp only[aa,↓reduceIte,WP],by simp only[aa,↓reduceIte,WP,h5],by simp only[aa,↓reduceIte,WP,h6],by simp only[aa,↓reduceIte,WP,h7],by simp only[aa,↓reduceIte,WP,h8],by simp only[aa,↓reduceIte,WP,Sc],by simp only[aa,↓reduceIte];rfl⟩
  clear hn h3 h6 h7 h8 f
  rintro z f t' ⟨rfl,y,hy,kJ,aD,hn,h3,h6,h7,h8⟩
  simp-implicitDefEqProofs(disch:=omega)only[aj,QS,↓reduceIte,hn,h8,aB]
  exact au (L.length-(i+1)) (by omega) ⟨i+1,y,rfl,by omega,hy,kJ,aD,by simp only[ag,hn],by simp only[aa,↓reduceIte,WP,h3],by simp only[aa,↓reduceIte,WP,h6],by simp only[aa,↓reduceIte,WP,h7],by simp only[aa,↓reduceIte];rfl⟩
 clear hn h0 f
 rintro z f t ⟨rfl,hn,y,h3,hR⟩
 simp-implicitDefEqProofs(disch:=omega)only[aj,al,oneOf,QS,↓reduceIte,hn,h3,Tryz.results214]
 exact hR
theorem NO:iC [(144,8),(112,9),(24,7),(8,8)]=dM:=by decide+kernel
theorem K7:iC [(32,5)]=fD:=by decide+kernel
theorem aan (a b:Int):cE Tryz.prog 122 [(0,.int .i64 a),(1,.int .i64 b)]=some (.agg #[.int .i64 a,.int .i64 b]):=by
 unfold cE;rw[VZ,PY]
 have c1:∀a:Int,(Value.int .i64 a).cells.toList=[.int .i64 a]:=fun _=>rfl
 simp only[fI,c1]
 simp[bB,bP,gS,bO,setAt]
theorem acB (s:aq):aL Tryz.prog s 121 4 [(0,.agg #[.int .i64 144,.int .i64 8]),(1,.agg #[.int .i64 112,.int .i64 9]),(2,.agg #[.int .i64 24,.int .i64 7]),(3,.agg #[.int .i64 8,.int .i64 8])]=aZ s (K2 [(144,8),(112,9),(24,7),(8,8)]) 4 2:=by
 unfold aL;rw[PZ];simp only[DD,PY];rfl
theorem acC (s:aq):aL Tryz.prog s 121 1 [(0,.agg #[.int .i64 32,.int .i64 5])]=aZ s (K2 [(32,5)]) 1 2:=by
 unfold aL;rw[PZ];simp only[DD,PY];rfl
def akU (s:aq)(v:Value)(s' :aq):Prop:=∃sa sb,v= .tuple #[.agg (cj dM sa).toArray,.agg (cj fD sb).toArray]/\Own s' 1 sa (dd dM 15).length (fZ (dd dM 15))/\Own s' 1 sb (dd fD 15).length (fZ (dd fD 15))/\aH s.next sa/\aH s.next sb/\ar s.next s s'
set_option maxHeartbeats 8000000 in
theorem NP {lib:az}(hL:NH lib)(s:aq):Runs Tryz.prog lib 189 [] s (akU s):=by
 refine Runs.enter 25 Tryz.func189 rfl (hL _ rfl) rfl rfl ?_
 intro f hn hf
 clear hf
 simp-implicitDefEqProofs(disch:=omega)only[aj,↓reduceIte,zY,zZ]
 refine ax ?_
 intro s1 rJ bm iY
 obtain⟨j0,hj0⟩:∃j,j=s.next:=⟨_,rfl⟩
 rw[<-hj0] at rJ
 simp-implicitDefEqProofs(disch:=omega)only[aj,QS,Nat.reduceAdd,↓reduceIte,hn,<-hj0,aw,zY,zZ]
 refine ax ?_
 intro s2 Ax aU oN
 obtain⟨j1,Vv⟩:∃j,j=s1.next:=⟨_,rfl⟩
 rw[<-Vv] at Ax
 have LN:=rJ.keeps aU
 have k2:ar s.next s s2:=bm.trans (aU.weaken (by omega))
 simp-implicitDefEqProofs(disch:=omega)only[aj,ae,QS,WP,Nat.reduceAdd,↓reduceIte,hn,<-Vv,aw,aan,acB]
 refine aQ (by rfl) ?_
 intro yr s3 hyr apY k3
 simp-implicitDefEqProofs(disch:=omega)only[aj,ak,ad,QS,↓reduceIte,hn]
 refine(K6 hL s3 yr [(144,8),(112,9),(24,7),(8,8)] hyr.aG (by decide) (by decide)).mono ?_
 rintro ya s4 ⟨hya,apZ,k4⟩
 rw[NO] at hya
 simp-implicitDefEqProofs(disch:=omega)only[aj,ak,ad,QS,↓reduceIte,hn]
 refine(K4 hL s4 ya dM hya.aG (by rw[show dM.length=288 from zC];decide) R6).mono ?_
 rintro _ s5 ⟨sa,rfl,hsa,YO,k5⟩
 have n3:=k3.next
 have n4:=k4.next
 have n5:=k5.next
 have k35:ar s2.next s2 s5:=(k3.trans (k4.weaken n3)).trans (k5.weaken (by omega))
 simp-implicitDefEqProofs(disch:=omega)only[aj,QS,WP,↓reduceIte,hn,dy,dz,zY,zZ]
 refine ax ?_
 intro s6 Z1 eD abX
 obtain⟨j2,hj2⟩:∃j,j=s5.next:=⟨_,rfl⟩
 rw[<-hj2] at Z1
 have akV:=hsa.keeps eD
 simp-implicitDefEqProofs(disch:=omega)only[aj,QS,WP,Nat.reduceAdd,↓reduceIte,hn,<-hj2,aw]
 refine aA dA (by decide) Z1 (aw _ _) rfl (aw _ _) (kp _ hsa.aG.aJ) ?_
 intro s7 hc7 hn7 XT
 have akW:=akV.aI hn7 XT (fun e=>by have:=hsa.g8 _ e;omega)
 have k7:ar s2.next s2 s7:=(k35.trans (eD.weaken (by omega))).trans (ar.aI hn7 XT (by omega))
 simp-implicitDefEqProofs(disch:=omega)only[aj,ae,QS,WP,↓reduceIte,hn,aan,acC]
 refine aQ (by rfl) ?_
 intro yr2 s8 akX ana k8
 simp-implicitDefEqProofs(disch:=omega)only[aj,ak,ad,QS,↓reduceIte,hn]
 refine(K6 hL s8 yr2 [(32,5)] akX.aG (by decide) (by decide)).mono ?_
 rintro yb s9 ⟨WJ,ap2,k9⟩
 rw[K7] at WJ
 simp-implicitDefEqProofs(disch:=omega)only[aj,ak,ad,QS,↓reduceIte,hn]
 refine(K4 hL s9 yb fD WJ.aG (by decide) R7).mono ?_
 rintro _ WN ⟨sb,rfl,WC,YP,k10⟩
 have n8:=k8.next
 have n9:=k9.next
 have n10:=k10.next
 have acE:ar s7.next s7 WN:=(k8.trans (k9.weaken n8)).trans (k10.weaken (by omega))
 have agH:=hc7.keeps acE
 have aao:=akW.keeps acE
 simp-implicitDefEqProofs(disch:=omega)only[aj,QS,WP,↓reduceIte,hn,dy,dz,zY,zZ]
 refine ax ?_
 intro s11 agI P4 hnx11
 obtain⟨j4,hj4⟩:∃j,j=WN.next:=⟨_,rfl⟩
 rw[<-hj4] at agI
 have agJ:=WC.keeps P4
 have agK:=aao.keeps P4
 have akY:=agH.keeps P4
 simp-implicitDefEqProofs(disch:=omega)only[aj,QS,WP,Nat.reduceAdd,↓reduceIte,hn,<-hj4,aw]
 refine aA dA (by decide) agI (aw _ _) rfl (aw _ _) (kp _ WC.aG.aJ) ?_
 intro AN YQ YR YS
 have V1:=agJ.aI YR YS (fun e=>by have:=WC.g8 _ e;omega)
 have V2:=agK.aI YR YS (fun e=>by have:=aao.g8 _ e;omega)
 have acF:=akY.aI YR YS (by have:=agH.lt;omega)
 have kk:ar s2.next s2 AN:=((k7.trans (acE.weaken (by have:=k7.next;omega))).trans (P4.weaken (by have:=k7.next;omega))).trans (ar.aI YR YS (by have:=k7.next;omega))
 have akZ:=LN.keeps kk
 have acG:=Ax.keeps kk
 have lc:=acF.bu (P:=Tryz.prog) iI (by rw[aw];exact dA) (c:=18) (by rw[aw])
 have ld:=YQ.bu (P:=Tryz.prog) iI (by rw[aw];exact dA) (c:=18) (by rw[aw])
 simp-implicitDefEqProofs(disch:=omega)only[aj,QS,WP,↓reduceIte,hn]
 obtain⟨A,hA⟩:∃A:Nat->Bool,A=fun j=>decide (j<AN.next/\j≠j0/\j≠j1):=⟨_,rfl⟩
 have nH:∀j,A j=true->j<AN.next:=by
  intro j h
  rw[hA] at h
  exact(of_decide_eq_true h).1
 have hA0:A j0=false:=by rw[hA];exact decide_eq_false (fun h=>h.2.1 rfl)
 have hA1:A j1=false:=by rw[hA];exact decide_eq_false (fun h=>h.2.2 rfl)
 have oB:=ar.spare AN 0
 have SF:(spare AN 0).next=AN.next+0:=bU _ _
 have ak0:=acF.lt
 have ak1:=YQ.lt
 have l2:∀k,LA.fg A (some (.pointer (some ⟨j2,k,some 18⟩)))=true:=fun k=>LA.cD (A:=A) (i:=j2) (by rw[hA];exact decide_eq_true ⟨ak0,by omega,by omega⟩)
 have l4:∀k,LA.fg A (some (.pointer (some ⟨j4,k,some 18⟩)))=true:=fun k=>LA.cD (A:=A) (i:=j4) (by rw[hA];exact decide_eq_true ⟨ak1,by omega,by omega⟩)
 have ve:∀(C:List Nat) (v:Value) (n:Nat) (L:List Value),Own AN 1 v n L->cf (.agg (cj C v).toArray) (.agg (cj C v).toArray)=true:=fun C v n L h=>vk C h.aG
 have hcq:=(acF.keeps oB).bu (P:=Tryz.prog) iI (by rw[aw];exact dA) (c:=18) (by rw[aw])
 have S6:=(YQ.keeps oB).bu (P:=Tryz.prog) iI (by rw[aw];exact dA) (c:=18) (by rw[aw])
 refine LB.da.fL A nH 2 0 (by kernel_rfl) (by kernel_rfl) ?_
 simp-implicitDefEqProofs(disch:=omega)only[aj,bS,bT,QS,WP,↓reduceIte,hn,hcq,S6,l2,l4,ve _ _ _ _ V2,ve _ _ _ _ V1]
 refine LB.cF dA (by decide) (akZ.keeps oB) (aw _ _) rfl (aw _ _) (kp _ hsa.aG.aJ) (fun _=>hA0) ?_
 intro t1 eO nt1 et1
 have ak3:=((YQ.keeps oB).aI nt1 et1 (by omega)).bu (P:=Tryz.prog) iI (by rw[aw];exact dA) (c:=18) (by rw[aw])
 try simp-implicitDefEqProofs(disch:=omega)only[aj,bT,Nat.add_one_sub_one,QS,WP,↓reduceIte,hn]
 refine LB.cF dA (by decide) ((acG.keeps oB).aI nt1 et1 (by omega)) (aw _ _) rfl (aw _ _) (kp _ WC.aG.aJ) (fun _=>hA1) ?_
 intro t2 dZ nt2 et2
 have uY:av t2 j0 _:=eO.aI nt2 et2 (by omega)
 have la:=uY.bu (P:=Tryz.prog) iI (by rw[List.toList_toArray,aw];exact dA) (c:=18) (by rw[List.toList_toArray,aw])
 have lb:=dZ.bu (P:=Tryz.prog) iI (by rw[List.toList_toArray,aw];exact dA) (c:=18) (by rw[List.toList_toArray,aw])
 simp-implicitDefEqProofs(disch:=omega)only[aj,bT,Nat.sub_self,oneOf,QS,WP,↓reduceIte,aj,al,oneOf,QS,WP,↓reduceIte,hn,aV,la,lb,Tryz.results189]
 have fin:∀y (n:Nat) (L:List Value),Own AN 1 y n L->(∀i,aE y=some i->j1<i)->Own t2 1 y n L:=fun y n L h1 h2=>((h1.keeps oB).aI nt1 et1 (fun e=>by have:=h2 _ e;omega)).aI nt2 et2 (fun e=>by have:=h2 _ e;omega)
 have k7n:=k7.next
 exact⟨sa,sb,rfl,fin _ _ _ V2 (fun i hi=>by have:=YO i hi;omega),fin _ _ _ V1 (fun i hi=>by have:=YP i hi;omega),fun i hi=>by have:=YO i hi;omega,fun i hi=>by have:=YP i hi;omega,(((k2.trans (kk.weaken (by omega))).trans (oB.weaken (by have:=kk.next;omega))).trans (ar.aI nt1 et1 (by omega))).trans (ar.aI nt2 et2 (by omega))⟩
end Go.Proofs.YtdfjfncifneocaaGreat
set_option linter.unusedSimpArgs false
set_option linter.unusedVariables false
set_option maxRecDepth 100000
namespace Go.Cl.Nf
open Go.Cl.Fx Go.Cl.Sto
def vl (D:List UInt8)(s g from_ p:Nat):Except Nat (Nat×Nat):=
 if s<2*g then .ok (from_+s,p) else match di D p (s/g-1) with
  | .error e=> .error e
  | .ok x=> .ok (from_+(g+s%g)*2^(s/g-1)+x,p+(s/g-1))
def xk (D:List UInt8)(s p:Nat):Except Nat (Nat×Nat):=match di D p (nC s) with| .error e=> .error e| .ok x=> .ok (lenOf s x,p+nC s)
def GR (D:List UInt8)(s p:Nat):Except Nat (Nat×Nat):=match di D p (vi s) with| .error e=> .error e| .ok x=> .ok (nD s x,p+vi s)
theorem NQ (D:List UInt8){s p:Nat}(h1:257<=s)(h2:s<285)(hp:p<=8*D.length):vl D (s-257) 4 3 p=xk D s p:=by
 unfold vl xk
 by_cases c:s<=264
 ·have ew:nC s=0:=by unfold nC;rw[if_pos (.inl c)]
  rw[if_pos (by omega),ew,dW (by omega)]
  dsimp only
  have eo:lenOf s (bM D p 0)=s-254:=by unfold lenOf;rw[if_pos c]
  rw[eo,show 3+(s-257)=s-254 by omega,Nat.add_zero]
 ·have ew:nC s=(s-261)/4:=by unfold nC;rw[if_neg (by omega)]
  have e1:(s-257)/4-1=(s-261)/4:=by omega
  have e2:(s-257)%4=(s-265)%4:=by omega
  rw[if_neg (by omega),ew,e1,e2]
  cases di D p ((s-261)/4) with
  |error e=>rfl
  |ok x=>
   dsimp only
   have eo:lenOf s x=(4+(s-265)%4)*2^((s-261)/4)+3+x:=by unfold lenOf;rw[if_neg c,if_neg (by omega)]
   rw[eo]
   generalize (4+(s-265)%4)*2^((s-261)/4)=X
   rw[show 3+X+x=X+3+x by omega]
theorem NR (D:List UInt8){s p:Nat}(hp:p<=8*D.length):vl D s 2 1 p=GR D s p:=by
 unfold vl GR
 by_cases c:s<=3
 ·have ew:vi s=0:=by unfold vi;rw[if_pos c]
  rw[if_pos (by omega),ew,dW (by omega)]
  dsimp only
  have eo:nD s (bM D p 0)=s+1:=by unfold nD;rw[if_pos c]
  rw[eo,Nat.add_comm 1 s];rfl
 ·have ew:vi s=s/2-1:=by unfold vi;rw[if_neg c]
  rw[if_neg (by omega),ew]
  cases di D p (s/2-1) with
  |error e=>rfl
  |ok x=>
   dsimp only
   have eo:nD s x=(2+s%2)*2^(s/2-1)+1+x:=by unfold nD;rw[if_neg c]
   rw[eo]
   generalize (2+s%2)*2^(s/2-1)=X
   rw[show 1+X+x=X+1+x by omega]
theorem V3 (D:List UInt8)(M:Nat)(B:List Nat)(s p:Nat)(P:List UInt8):kn D M B s p P=if 285<s then .error 4 else zW (xk D s p) fun a=>zW (sym D B a.2) fun c=>if 30<=c.1 then .error 4 else zW (GR D c.1 c.2) fun b=>if P.length<b.1 then .error 4 else zW (rep M b.1 a.1 P) fun P' => .ok (b.2,P'):=by
 unfold kn xk
 split
 ·rfl
 cases di D p (nC s) with
 |error e=>rfl
 |ok x=>
  dsimp only
  rw[ko]
  dsimp only
  cases sym D B (p+nC s) with
  |error e=>rfl
  |ok c=>
   rw[ko]
   dsimp only
   split
   ·rfl
   unfold GR
   cases di D c.2 (vi c.1) with
   |error e=>rfl
   |ok y=>
    dsimp only
    rw[ko]
    dsimp only
    split
    ·rfl
    cases rep M (nD c.1 y) (lenOf s x) P with
    |error e=>rfl
    |ok P' =>rfl
end Go.Cl.Nf
namespace Go.Proofs.YtdfjfncifneocaaGreat
open Go.Cl Go.Cl.Rw Go.Cl.Sto Go.Cl.Fx Go.Cl.Nf Go.Cl.Bt
def agL (base jr jx ic:Nat)(D P:List UInt8)(M:Int)(o:Value)(s:aq)(v:Value)(s' :aq):Except Nat (Nat×Nat)->Prop
 | .ok (x,q)=>v= .tuple #[.int .i64 (x:Nat),.int .i64 0]/\Rs base s' jr jx ic D q P M o/\kl jx ic s s'
 | .error e=>0<e/\(∃n:Int,v= .tuple #[.int .i64 n,.int .i64 (e:Nat)])/\kl jx ic s s'
set_option maxHeartbeats 8000000 in
theorem z3 {lib:az}(hL:NH lib)(base:Nat)(s:aq)(jr jx ic:Nat)(D P:List UInt8)(p:Nat)(M:Int)(o:Value)(h:Rs base s jr jx ic D p P M o)(hb:base<=s.next)(hlen:D.length<=1000000)(q g fr:Nat)(hg:(g=4/\q<=27)\/(g=2/\q<=29))(oz:fr<=10):
  Runs Tryz.prog lib 222 [ry jr,.int .i64 (q:Nat),.int .i64 (g:Nat),.int .i64 (fr:Nat)] s fun v s' =>agL base jr jx ic D P M o s v s' (vl D q g fr p):=by
 refine Runs.enter 45 Tryz.func222 rfl (hL _ rfl) rfl rfl ?_
 intro f hn hf
 have h0:f.get 0=ry jr:=hf 0
 have h1:f.get 1= .int .i64 (q:Nat):=hf 1
 have h2:f.get 2= .int .i64 (g:Nat):=hf 2
 have h3:f.get 3= .int .i64 (fr:Nat):=hf 3
 clear hf
 have r0:=h.t.load (P:=Tryz.prog) jw (off:=0) (c:=4) rfl (by simp)
 unfold vl
 by_cases c1:q<2*g
 ·have d1:(q:Int)<2*(g:Int):=by omega
  have e1:(fr:Int)+(q:Int)=((fr+q:Nat):Int):=by omega
  rw[if_pos c1]
  simp-implicitDefEqProofs(disch:=omega)only[aj,al,oneOf,QS,WP,↓reduceIte,hn,h1,h2,h3,aB,eq_true d1,e1,Tryz.results222]
  exact⟨rfl,h,kl.refl _ _ _⟩
 have d1:¬(q:Int)<2*(g:Int):=by omega
 rw[if_neg c1]
 have hgz:¬(g:Int)=0:=by omega
 have q4:(q:Int).tdiv (g:Int)=((q/g:Nat):Int):=by rw[Int.tdiv_eq_ediv_of_nonneg (by omega)];rfl
 have r4:(q:Int).tmod (g:Int)=((q%g:Nat):Int):=by rw[Int.tmod_eq_emod_of_nonneg (by omega)];rfl
 have hqg:2<=q/g/\q/g<=14/\q%g<=3/\(g=4->q/g<=6):=by rcases hg with ⟨rfl,h⟩|⟨rfl,h⟩<;>omega
 have e2:((q/g:Nat):Int)-1=((q/g-1:Nat):Int):=by omega
 have e3:(g:Int)+((q%g:Nat):Int)=((g+q%g:Nat):Int):=by omega
 have ak7:(g+q%g)*2^(q/g-1)<=100000:=by
  rcases hg with ⟨rfl,h⟩|⟨rfl,h⟩
  ·have h1:2^(q/4-1)<=2^5:=Nat.pow_le_pow_right (by omega) (by omega)
   have h2:(4+q%4)*2^(q/4-1)<=7*2^5:=Nat.mul_le_mul (by omega) h1
   have h3:(2:Nat)^5=32:=by decide
   omega
  ·have h1:2^(q/2-1)<=2^13:=Nat.pow_le_pow_right (by omega) (by omega)
   have h2:(2+q%2)*2^(q/2-1)<=3*2^13:=Nat.mul_le_mul (by omega) h1
   have h3:(2:Nat)^13=8192:=by decide
   omega
 have ug:=ajd Tryz.prog 3 .i64 (x:=g+q%g) (k:=q/g-1) (by omega) (by omega)
 have nP:=iV D p (q/g-1)
 have hpw:2^(q/g-1)<=2^13:=Nat.pow_le_pow_right (by omega) (by omega)
 have ap4:(2:Nat)^13=8192:=by decide
 generalize hX:(g+q%g)*2^(q/g-1)=X at ak7 ug
 simp-implicitDefEqProofs(disch:=omega)only[aj,ak,ad,QS,WP,↓reduceIte,hn,h0,h1,h2,aB,eq_false d1,mw,q4,e2,pS,r0]
 refine(nF hL base s jx ic D p (q/g-1) h.bit hb (by omega) hlen).mono ?_
 intro v s1 hN
 cases hx:di D p (q/g-1) with
 |error e=>
  rw[hx] at hN
  obtain⟨rfl,rfl,eX⟩:=hN
  have e4:(fr:Int)+((X:Nat):Int)+0=((fr+X:Nat):Int):=by omega
  simp-implicitDefEqProofs(disch:=omega)only[aj,al,oneOf,QS,WP,↓reduceIte,hn,h1,h2,h3,dy,dz,eK,r4,e3,aB,ug,e4,Tryz.results222]
  exact⟨by decide,⟨_,rfl⟩,eX⟩
 |ok y=>
  rw[hx] at hN
  obtain⟨rfl,hB,eX⟩:=hN
  have hy:=(xf hx).2
  have e4:(fr:Int)+((X:Nat):Int)+((y:Nat):Int)=((fr+X+y:Nat):Int):=by omega
  simp-implicitDefEqProofs(disch:=omega)only[aj,al,oneOf,QS,WP,↓reduceIte,hn,h1,h2,h3,dy,dz,eK,r4,e3,aB,ug,e4,Tryz.results222]
  exact⟨rfl,h.bits hB eX,eX⟩
set_option maxHeartbeats 8000000 in
theorem K8 {lib:az}(hL:NH lib)(base:Nat)(s:aq)(jr jx ic:Nat)(D P:List UInt8)(p:Nat)(M:Int)(o:Value)(h:Rs base s jr jx ic D p P M o)(hb:base<=s.next)(hlen:D.length<=1000000)(q:Nat)(hq:257<=q)(Ax:q<=400):
  Runs Tryz.prog lib 221 [ry jr,.int .i64 (q:Nat)] s fun v s' =>agL base jr jx ic D P M o s v s' (if 285<q then .error 4 else xk D q p):=by
 refine Runs.enter 16 Tryz.func221 rfl (hL _ rfl) rfl rfl ?_
 intro f hn hf
 have h0:f.get 0=ry jr:=hf 0
 have h1:f.get 1= .int .i64 (q:Nat):=hf 1
 clear hf
 have hpD:=h.bit.le
 by_cases c1:q=285
 ·have d1:(q:Int)=285:=by omega
  rw[if_neg (by omega)]
  have e:xk D q p= .ok (258,p):=by
   subst c1
   unfold xk
   have ew:nC 285=0:=rfl
   rw[ew,dW (by omega)];rfl
  rw[e]
  simp-implicitDefEqProofs(disch:=omega)only[aj,al,oneOf,QS,WP,↓reduceIte,hn,h1,eq_true d1,Tryz.results221]
  exact⟨rfl,h,kl.refl _ _ _⟩
 have d1:¬(q:Int)=285:=by omega
 by_cases c2:285<q
 ·have d2:(q:Int)>285:=by omega
  rw[if_pos c2]
  simp-implicitDefEqProofs(disch:=omega)only[aj,al,oneOf,QS,WP,↓reduceIte,hn,h1,eq_false d1,eq_true d2,Tryz.results221]
  exact⟨by decide,⟨_,rfl⟩,kl.refl _ _ _⟩
 have d2:¬(q:Int)>285:=by omega
 rw[if_neg c2,<-NQ D hq (by omega) hpD]
 have e1:(q:Int)-257=((q-257:Nat):Int):=by omega
 simp-implicitDefEqProofs(disch:=omega)only[aj,ak,ad,QS,WP,↓reduceIte,hn,h0,h1,eq_false d1,eq_false d2,aB,e1]
 refine(z3 hL base s jr jx ic D P p M o h hb hlen (q-257) 4 3 (.inl ⟨rfl,by omega⟩) (by omega)).mono ?_
 intro v s1 hG
 cases hx:vl D (q-257) 4 3 p with
 |error e=>
  rw[hx] at hG
  obtain⟨he,⟨n,rfl⟩,eX⟩:=hG
  simp-implicitDefEqProofs(disch:=omega)only[aj,al,oneOf,QS,WP,↓reduceIte,hn,dy,dz,Tryz.results221]
  exact⟨he,⟨n,rfl⟩,eX⟩
 |ok y=>
  obtain⟨y,r⟩:=y
  rw[hx] at hG
  obtain⟨rfl,hR,eX⟩:=hG
  simp-implicitDefEqProofs(disch:=omega)only[aj,al,oneOf,QS,WP,↓reduceIte,hn,dy,dz,Tryz.results221]
  exact⟨rfl,hR,eX⟩
def NS (jr jx ic:Nat)(o:Value)(s:aq)(v:Value)(C:List Nat):Prop:=∃sv,v= .agg (cj C sv).toArray/\EL jx ic s sv C/\(∀i,aE sv=some i->i≠jr/\aE o≠some i)
theorem NS.to {jr jx ic:Nat}{o o' v:Value}{s s' :aq}{C:List Nat}(h:NS jr jx ic o s v C)(k:tB jr jx ic o s o' s'):NS jr jx ic o' s' v C:=by
 obtain⟨sv,h1,h2,h3⟩:=h
 refine⟨sv,h1,h2.rto h3 k,fun i hi=>⟨(h3 i hi).1,?_⟩⟩
 rcases k.id with e|⟨q,e,hq⟩
 ·rw[e];exact(h3 i hi).2
 ·rw[e];intro e2;injection e2 with e2;have:=(h2.2 i hi).1;omega
theorem lG (k:IntKind)(a b:Int):cf (.tuple #[.int k a,.int k b]) (.tuple #[.int k a,.int k b])=true:=by simp[cf,rE,AZ,cN]
set_option maxHeartbeats 8000000 in
theorem Sd {lib:az}(hL:NH lib)(base:Nat)(s:aq)(jr jx ic:Nat)(D P:List UInt8)(p m:Nat)(M:Int)(hM:m=M.toNat)(o:Value)(h:Rs base s jr jx ic D p P M o)(hb:base<=s.next)(hlen:D.length<=1000000)(NT:P.length<=m)(hm:m<=100000000)(q:Nat)(hq:257<=q)(Ax:q<=400)(v:Value)(B:List Nat)(hB:NS jr jx ic o s v B)(LO:B.length<=1000):
  Runs Tryz.prog lib 216 [ry jr,.int .i64 (q:Nat),v] s fun v s' =>Iv base jr jx ic D M o s v s' (kn D m B q p P):=by
 obtain⟨sv,rfl,hS,hSo⟩:=hB
 rw[V3]
 have bc:=h.bit.lt
 refine Runs.enter 72 Tryz.func216 rfl (hL _ rfl) rfl rfl ?_
 intro f hn hf
 have h0:f.get 0=ry jr:=hf 0
 have h1:f.get 1= .int .i64 (q:Nat):=hf 1
 have h2:f.get 2= .agg (cj B sv).toArray:=hf 2
 clear hf
 simp-implicitDefEqProofs(disch:=omega)only[aj,QS,↓reduceIte,hn,h2]
 refine ax ?_
 intro s1 YT bm iY
 obtain⟨jb,PE⟩:∃j,j=s.next:=⟨_,rfl⟩
 rw[<-PE] at YT
 have oV:=h.keeps hb bm
 have gu:base<=s1.next:=by omega
 have k1:tB jr jx ic o s o s1:=(tB.refl jr jx ic o s).kept bm
 have EW:∀i,aE o=some i->i<s.next:=fun i hi=>h.own.g8 i hi
 have dG:∀o' t,tB jr jx ic o s o' t->ar base s t:=fun o' t k=>k.stay h.lr bc.2.2.1 bc.2.2.2.1 h.fresh hb
 simp-implicitDefEqProofs(disch:=omega)only[aj,ak,ad,QS,WP,Nat.reduceAdd,↓reduceIte,hn,h0,h1,<-PE,aw]
 refine(K8 hL base s1 jr jx ic D P p M o oV gu hlen q hq Ax).mono ?_
 intro v s2 hG
 by_cases cg:285<q
 ·rw[if_pos cg] at hG|-
  obtain⟨-,⟨n,rfl⟩,eX⟩:=hG
  simp-implicitDefEqProofs(disch:=omega)only[aj,ak,al,oneOf,QS,WP,↓reduceIte,hn,dy,dz,eq_false (show¬((4:Nat):Int)=0 by decide),Tryz.results216]
  exact⟨by decide,rfl,dG _ _ (k1.trans (qD eX))⟩
 rw[if_neg cg] at hG|-
 cases hx:xk D q p with
 |error e=>
  rw[hx] at hG
  obtain⟨he,⟨n,rfl⟩,eX⟩:=hG
  have c0:¬(e:Int)=0:=by omega
  simp-implicitDefEqProofs(disch:=omega)only[aj,ak,al,oneOf,QS,WP,↓reduceIte,hn,dy,dz,eq_false c0,Tryz.results216]
  rw[mT]
  exact⟨he,rfl,dG _ _ (k1.trans (qD eX))⟩
 |ok a=>
 obtain⟨n,q2⟩:=a
 rw[hx] at hG
 obtain⟨rfl,gR,AD⟩:=hG
 rw[ko]
 dsimp only
 have ak8:n<=1000:=by
  unfold xk at hx
  cases hy:di D p (nC q) with
  |error e=>rw[hy] at hx;cases hx
  |ok y=>
   rw[hy] at hx
   injection hx with hx
   injection hx with hx _
   have:=(xf hy).2
   have nP:=iV D p (nC q)
   rw[<-hx]
   exact VS (by omega) (by omega)
 have k2:=k1.trans (qD AD)
 have dB:base<=s2.next:=by have:=AD.next;omega
 have Yn:=tC YT AD.next (AD.get jb YT.lt (by omega) (by omega))
 have hS2:=(hS.rto hSo k1).to AD
 have r0:=gR.t.load (P:=Tryz.prog) jw (off:=0) (c:=4) rfl (by simp)
 simp-implicitDefEqProofs(disch:=omega)only[aj,ak,QS,WP,↓reduceIte,hn,dy,dz]
 obtain⟨A,hA⟩:∃A:Nat->Bool,A=fun j=>decide (j<s2.next):=⟨_,rfl⟩
 have nH:∀j,A j=true->j<s2.next:=by
  intro j h
  rw[hA] at h
  exact of_decide_eq_true h
 have Ao:∀j,j<s2.next->A j=true:=fun j h=>by rw[hA];exact decide_eq_true h
 have oB:=ar.spare s2 0
 have SF:(spare s2 0).next=s2.next+0:=bU _ _
 have Iw:=gR.keeps dB oB
 have hbq:=Yn.keeps oB
 have lr:∀k,LA.fg A (some (.pointer (some ⟨jr,k,some 4⟩)))=true:=fun k=>LA.cD (A:=A) (i:=jr) (Ao _ gR.t.lt)
 have lb:∀k,LA.fg A (some (.pointer (some ⟨jb,k,some 18⟩)))=true:=fun k=>LA.cD (A:=A) (i:=jb) (Ao _ Yn.lt)
 have r0q:=Iw.t.load (P:=Tryz.prog) jw (off:=0) (c:=4) rfl (by simp)
 have NN:=hbq.bu (P:=Tryz.prog) iI (by rw[aw];exact dA) (c:=18) (by rw[aw])
 have kq:kl jx ic s2 (spare s2 0):=⟨by omega,fun i hi _ _=>oB.get i hi⟩
 refine LB.da.fL A nH 0 0 (by kernel_rfl) (by kernel_rfl) ?_
 simp-implicitDefEqProofs(disch:=omega)only[aj,ak,bS,bT,Nat.reduceSub,ad,QS,WP,↓reduceIte,hn,h0,pS,r0q,NN,lr,lb,vk B hS2.1]
 refine(KZ hL base (spare s2 0) jx ic D q2 Iw.bit (by omega) hlen B sv (hS2.to kq) LO).mono ?_
 intro v s3 hY
 refine⟨fun h=>h.elim,?_⟩
 cases hy:sym D B q2 with
 |error e=>
  rw[hy] at hY
  obtain⟨he,rfl,eX⟩:=hY
  have c0:¬(e:Int)=0:=by omega
  simp-implicitDefEqProofs(disch:=omega)only[aj,ak,bS,bT,oneOf,QS,WP,↓reduceIte,aj,ak,al,oneOf,QS,WP,↓reduceIte,hn,dy,dz,lG,eq_false c0,Tryz.results216]
  rw[mT]
  exact⟨he,rfl,dG _ _ (k2.trans (qD (kq.trans eX)))⟩
 |ok c=>
 obtain⟨c,q3⟩:=c
 rw[hy] at hY
 obtain⟨rfl,Ep,Es⟩:=hY
 rw[ko]
 dsimp only
 have zT:=Iw.bits Ep Es
 have k3:=k2.trans (qD (kq.trans Es))
 have rz:base<=s3.next:=by have:=Es.next;omega
 by_cases cc:30<=c
 ·have d1:((c:Nat):Int)>=30:=by omega
  rw[if_pos cc]
  simp-implicitDefEqProofs(disch:=omega)only[aj,ak,bS,bT,oneOf,QS,WP,↓reduceIte,aj,ak,al,oneOf,QS,WP,↓reduceIte,hn,dy,dz,lG,eq_true d1,Tryz.results216]
  exact⟨by decide,rfl,dG _ _ k3⟩
 have d1:¬((c:Nat):Int)>=30:=by omega
 rw[if_neg cc]
 simp-implicitDefEqProofs(disch:=omega)only[aj,ak,bS,bT,ad,QS,WP,↓reduceIte,aj,ak,ad,QS,WP,↓reduceIte,hn,h0,dy,dz,lG,eq_false d1]
 refine(z3 hL base s3 jr jx ic D P q3 M o zT rz hlen c 2 1 (.inr ⟨rfl,by omega⟩) (by omega)).mono ?_
 rw[NR D Ep.le]
 intro v s4 hG4
 cases hz:GR D c q3 with
 |error e=>
  rw[hz] at hG4
  obtain⟨he,⟨n',rfl⟩,eX⟩:=hG4
  have c0:¬(e:Int)=0:=by omega
  simp-implicitDefEqProofs(disch:=omega)only[aj,ak,al,oneOf,QS,WP,↓reduceIte,hn,dy,dz,eq_false c0,Tryz.results216]
  rw[mT]
  exact⟨he,rfl,dG _ _ (k3.trans (qD eX))⟩
 |ok b=>
 obtain⟨d,q4⟩:=b
 rw[hz] at hG4
 obtain⟨rfl,xD,to4⟩:=hG4
 rw[ko]
 dsimp only
 have k4:=k3.trans (qD to4)
 have Qv:base<=s4.next:=by have:=to4.next;omega
 have tT:1<=d:=by
  unfold GR at hz
  cases hy:di D q3 (vi c) with
  |error e=>rw[hy] at hz;cases hz
  |ok y=>
   rw[hy] at hz
   injection hz with hz
   injection hz with hz _
   rw[<-hz]
   unfold nD
   split<;>omega
 have r2:=xD.t.load (P:=Tryz.prog) gw (off:=2) (c:=4) rfl (by simp)
 have V4:=xD.own.aG.bh (P:=Tryz.prog) Tryz.underlying22 (s2:=s4)
 by_cases cd:P.length<d
 ·have d2:((d:Nat):Int)>((P.length:Nat):Int):=by omega
  rw[if_pos cd]
  simp-implicitDefEqProofs(disch:=omega)only[aj,ak,al,oneOf,ad,QS,WP,↓reduceIte,hn,h0,dy,dz,zX,r2,V4,eq_true d2,Tryz.results216]
  exact⟨by decide,rfl,dG _ _ k4⟩
 have d2:¬((d:Nat):Int)>((P.length:Nat):Int):=by omega
 rw[if_neg cd]
 simp-implicitDefEqProofs(disch:=omega)only[aj,ak,ad,QS,WP,↓reduceIte,hn,h0,dy,dz,zX,r2,V4,eq_false d2]
 refine Comes.bK (fun z f t=>∃(i:Nat) (P1:List UInt8) (o1:Value),z=n-i/\i<=n/\rep m d (n-i) P1=rep m d n P/\d<=P1.length/\P1.length<=m/\Rs base t jr jx ic D q4 P1 M o1/\tB jr jx ic o s o1 t/\base<=t.next/\f.n=72/\f.get 0=ry jr/\f.get 9= .int .i64 (d:Nat)/\f.get 50= .int .i64 (n:Nat)/\f.get 51= .int .i64 (i:Nat))
  (fun z f t=>f.n=72/\((z= .exit 0/\∃(P1:List UInt8) (o1:Value),rep m d n P= .ok P1/\Rs base t jr jx ic D q4 P1 M o1/\tB jr jx ic o s o1 t)\/(z= .ret/\∃e:Nat,rep m d n P= .error e/\0<e/\f.get 6= .int .i64 (e:Nat)/\ar base s t)))
  ⟨0,P,o,rfl,by omega,rfl,by omega,NT,xD,k4,Qv,by simp only[ag,hn],by simp only[aa,↓reduceIte,WP,h0],by simp only[aa,↓reduceIte,WP],by simp only[aa,↓reduceIte,WP],by simp only[aa,↓reduceIte];rfl⟩ ?_ ?_
 rotate_left
 ·clear hn h0 h1 h2 f
  rintro z f t ⟨hn,(⟨rfl,P1,o1,NU,hR,eX⟩|⟨rfl,e,NU,he,h6,aD⟩)⟩
  ·simp-implicitDefEqProofs(disch:=omega)only[aj,al,oneOf,QS,↓reduceIte,hn,Tryz.results216]
   rw[NU]
   exact⟨rfl,o1,hR,eX⟩
  ·simp-implicitDefEqProofs(disch:=omega)only[aj,al,oneOf,QS,↓reduceIte,hn,h6,Tryz.results216]
   rw[NU]
   exact⟨he,rfl,aD⟩
 clear hn h0 h1 h2 f r2 V4
 rintro Q hQ z f t ⟨i,P1,o1,rfl,hi,NU,hdP,hP1,hR,eX,Iq,hn,h0,h9,h50,h51⟩
 by_cases L1:i<n
 rotate_left
 ·obtain rfl:i=n:=by omega
  have e1:¬((i:Nat):Int)<((i:Nat):Int):=by omega
  rw[Nat.sub_self,rep] at NU
  simp-implicitDefEqProofs(disch:=omega)only[aj,QS,↓reduceIte,hn,h50,h51,eq_false e1]
  exact hQ _ _ _ ⟨by simp only[ag,hn],.inl ⟨rfl,P1,o1,NU.symm,hR,eX⟩⟩
 have e1:((i:Nat):Int)<((n:Nat):Int):=by omega
 rw[show n-i=(n-(i+1))+1 by omega,rep] at NU
 simp-implicitDefEqProofs(disch:=omega)only[aj,QS,↓reduceIte,hn,h50,h51,eq_true e1]
 obtain⟨A2,WG⟩:∃A:Nat->Bool,A=fun j=>decide (j<t.next):=⟨_,rfl⟩
 have acH:∀j,A2 j=true->j<t.next:=by
  intro j h
  rw[WG] at h
  exact of_decide_eq_true h
 have V5:∀j,j<t.next->A2 j=true:=fun j h=>by rw[WG];exact decide_eq_true h
 refine LB.da.fL A2 acH 0 0 (by kernel_rfl) (by kernel_rfl) ?_
 have oB:=ar.spare t 0
 have SF:(spare t 0).next=t.next+0:=bU _ _
 have kq:tB jr jx ic o1 t o1 (spare t 0):=⟨by omega,fun i hi _ _ _ _=>oB.get i hi,.inl rfl⟩
 have lr:∀k,LA.fg A2 (some (.pointer (some ⟨jr,k,some 4⟩)))=true:=fun k=>LA.cD (A:=A2) (i:=jr) (V5 _ hR.t.lt)
 have lE:=fun k=>LA.mD hR.own.aG V5 (k:=k)
 have lL:=LA.FW hR.own.aG
 have Iw:=hR.keeps Iq oB
 have r2:=Iw.t.load (P:=Tryz.prog) gw (off:=2) (c:=4) rfl (by simp)
 have U3:=Iw.own.aG.bh (P:=Tryz.prog) Tryz.underlying22 (s2:=spare t 0)
 have ln:P1.length-d<P1.length:=by omega
 have qo:=Iw.own.aG.indexAddr (P:=Tryz.prog) (k:= .i64) (x:=((P1.length-d:Nat):Int)) Tryz.underlying22 bL (by omega) (by omega)
 rw[Int.toNat_natCast] at qo
 have k1:=Iw.own.aG.dJ (P:=Tryz.prog) mB ln
 rw[bG ln] at k1
 have e2:((P1.length:Nat):Int)-(d:Int)=((P1.length-d:Nat):Int):=by omega
 simp-implicitDefEqProofs(disch:=omega)only[aj,ak,bS,bT,Nat.reduceSub,ad,QS,WP,↓reduceIte,hn,h0,h9,zX,r2,lr,lE,lL,U3,hR.own.self,aB,e2,qo,k1]
 refine(Dz hL base (spare t 0) jr jx ic D P1 q4 m M hM (P1.getD (P1.length-d) 0) o1 Iw (by omega) (by omega)).mono ?_
 intro v t6 hO
 refine⟨fun h=>h.elim,?_⟩
 by_cases cm:m<=P1.length
 ·rw[if_pos cm] at hO NU
  obtain⟨-,rfl,eD⟩:=hO
  simp-implicitDefEqProofs(disch:=omega)only[aj,ak,QS,WP,↓reduceIte,aj,ak,QS,WP,↓reduceIte,hn,eq_false (show¬((7:Nat):Int)=0 by decide)]
  exact hQ _ _ _ ⟨by simp only[ag,hn],.inr ⟨rfl,7,NU.symm,by decide,by simp only[aa,↓reduceIte],(dG _ _ (eX.trans kq)).trans eD⟩⟩
 rw[if_neg cm] at hO NU
 obtain⟨rfl,o6,hR6,P5⟩:=hO
 simp-implicitDefEqProofs(disch:=omega)only[aj,ak,QS,WP,↓reduceIte,aj,ak,QS,WP,↓reduceIte,hn,h51,aB]
 have n6:=P5.next
 exact au (n-(i+1)) (by omega) ⟨i+1,_,o6,rfl,by omega,NU,by rw[List.length_append];omega,by rw[List.length_append,List.length_singleton];omega,hR6,eX.trans (kq.trans P5),by omega,by simp only[ag,hn],by simp only[aa,↓reduceIte,WP,h0],by simp only[aa,↓reduceIte,WP,h9],by simp only[aa,↓reduceIte,WP,h50],by simp only[aa,↓reduceIte];rfl⟩
end Go.Proofs.YtdfjfncifneocaaGreat
