/-
  Chains: the program's Has: is one of these among a stream's filters?
-/
import Derived.Test.YtdfjfncifneocaaGreatBkM
open Nat renaming reduceEqDiff->ab,reduceLT->af
open _root_ renaming reduceIte->ao,List->aR,decide_eq_false->a0,decide_eq_true->a1
open Go.Proofs.Tryz renaming prog->av,results77->a2,results41->a3
set_option linter.unusedSimpArgs false
set_option linter.unusedVariables false
set_option maxRecDepth 100000
namespace Go.Proofs.YtdfjfncifneocaaGreat
open Go.Cl Go.Cl.Pr Go.Cl.Ch
theorem ue:∀(L:aR Lk) (i:Nat) (h:i<L.length),((ki L).drop (i*5)).take 5=L[i].cells
  |[],i,h=>by simp at h
  |t::r,0,h=>by simp[ki,Lk.cells]
  |t::r,i+1,h=>by
   have e:(ki (t::r)).drop ((i+1)*5)=(ki r).drop (i*5):=by
     rw[show(i+1)*5=i*5+5 by omega]
     simp[ki,Lk.cells]
   rw[e,ue r i (by simpa using h)]
   rfl
theorem aao {s:aq}{z n:Nat}{v:Value}{l:aR Value}(h:aN s z v n l):v.cells.toList=[v]:=by cases h<;>rfl
theorem Cg (s:aq)(l:Lk)(j:Nat)(y:Value)(T:aR (aR UInt8))(hj:ax s j [y])(hy:aN s 1 y T.length (VM T))(hT:T.length<=1000):
    Runs av df 42 [fE l,.pointer (some ⟨j,0,some 2⟩)] s fun v s' =>v= .bool (decide (l.name∈T))/\ar s.next s s' :=by
  refine Runs.enter 8 Tryz.func42 rfl rfl rfl rfl ?_
  intro f hn hf
  have h0:f.get 0=fE l:=hf 0
  have h1:f.get 1= .pointer (some ⟨j,0,some 2⟩):=hf 1
  clear hf
  simp only[aj,af,↓ao,hn,h0]
  refine aw ?_
  intro s1 ht aE hnx
  have ht:ax s1 s.next l.cells:=ht
  have hd:l.cells.length+1=6:=rfl
  have Qa:=hy.keeps aE
  have l0:=(hj.keeps aE).load (P:=av) (e:=27) (by kernel_rfl) (off:=0) (c:=2) rfl (by simp)
  have p3:aJ av s1 9 (.pointer (some ⟨s.next,3,some 6⟩))=some (.string ⟨l.name.toArray⟩):=ht.load tp (off:=3) (c:=6) rfl (by simp[Lk.cells])
  simp only[aj,ak,aa,af,ab,↓ao,hn,h1,hd,l0,zu,p3]
  refine(FG (lib:=df) rfl rfl s1 y l.name T Qa (by omega)).mono ?_
  rintro _ s3 ⟨rfl,rfl⟩
  simp only[aj,al,oneOf,af,↓ao,hn,Tryz.results42]
  exact aE
set_option maxHeartbeats 4000000 in
theorem pP (s:aq)(x:Value)(L:aR Lk)(j:Nat)(y:Value)(T:aR (aR UInt8))(hx:aN s 5 x L.length (ki L))(hL:L.length<=1000)(hj:ax s j [y])(hy:aN s 1 y T.length (VM T))(hT:T.length<=1000):
    Runs av df 77 [x,.func (.func 42) #[] #[.pointer (some ⟨j,0,some 2⟩)]] s fun v s' =>(∃r:Int,v= .int .i64 r/\(0<=r↔∃l∈L,l.name∈T))/\ar s.next s s' :=by
  refine Runs.enter 19 Tryz.func77 rfl rfl rfl rfl ?_
  intro f hn hf
  have h0:f.get 0=x:=hf 0
  have h1:f.get 1= .func (.func 42) #[] #[.pointer (some ⟨j,0,some 2⟩)]:=hf 1
  clear hf
  have UK:=Tryz.underlying31
  simp only[aj,aa,af,ab,↓ao,hn,h0,hx.bm UK]
  refine Comes.eZ (fun z f s' =>∃(i:Nat),z=L.length-i/\i<=L.length/\(∀l∈L.take i,l.name∉T)/\ar s.next s s' /\f.n=19/\f.get 0=x/\f.get 1= .func (.func 42) #[] #[.pointer (some ⟨j,0,some 2⟩)]/\f.get 7= .int .i64 L.length/\f.get 8= .int .i64 i)
    ⟨0,rfl,by omega,by simp,ar.refl _ _,by simp only[ad,ag,↓ao,ab,hn,h0,h1,true_and];rfl⟩ ?_
  clear hn h0 h1 f
  rintro z f s2 ⟨i,rfl,hi,Ux,aE,hn,h0,h1,h7,h8⟩
  by_cases bd:i<L.length
  ·have c1:(i:Int)<(L.length:Int):=by omega
   have ko:=hx.keeps aE
   have abJ:=ko.indexAddr (k:= .i64) (x:=(i:Int)) UK dp (by omega) (by omega)
   rw[Int.toNat_natCast] at abJ
   have fz:=ko.fJ (P:=av) mi dp bd
   rw[ue L i bd] at fz
   simp only[aj,ak,aa,af,ab,↓ao,hn,h0,h1,h7,h8,eq_true c1,abJ,fz]
   have htk:L.take (i+1)=L.take i++[L[i]]:=by rw[List.take_succ_eq_append_getElem bd]
   refine(Cg s2 L[i] j y T (hj.keeps aE) (hy.keeps aE) hT).mono ?_
   rintro _ s3 ⟨rfl,iO⟩
   have dO:=aE.trans (iO.weaken aE.next)
   by_cases c2:L[i].name∈T
   ·rw[a1 c2]
    simp only[aj,af,ab,↓ao,hn]
    simp only[aj,al,oneOf,af,↓ao,hn,a2]
    exact⟨⟨(i:Int),rfl,fun _=>⟨L[i],List.getElem_mem _,c2⟩,fun _=>by omega⟩,dO⟩
   ·rw[a0 c2]
    simp (disch:=omega) only[aj,af,ab,↓ao,hn,h8,aD]
    refine ay (L.length-(i+1)) (by omega) ⟨i+1,rfl,by omega,by rw[htk];intro t h;rcases List.mem_append.mp h with h|h;exact Ux t h;rw[List.mem_singleton.mp h];exact c2,dO,by simp only[ag,hn],by simp only[ad,↓ao,ab,h0],by simp only[ad,↓ao,ab,h1],by simp only[ad,↓ao,ab,h7],by simp only[ad,↓ao];rfl⟩
  ·obtain rfl:i=L.length:=by omega
   have c1:¬(L.length:Int)<(L.length:Int):=by omega
   rw[List.take_of_length_le (Nat.le_refl _)] at Ux
   simp only[aj,al,oneOf,af,↓ao,hn,h7,h8,eq_false c1,a2]
   exact⟨⟨-1,rfl,fun h=>by omega,fun⟨l,h1,h2⟩=>absurd h2 (Ux l h1)⟩,aE⟩
theorem wF (s:aq)(x:Value)(L:aR Lk)(j:Nat)(y:Value)(T:aR (aR UInt8))(hx:aN s 5 x L.length (ki L))(hL:L.length<=1000)(hj:ax s j [y])(hy:aN s 1 y T.length (VM T))(hT:T.length<=1000):
    Runs av df 41 [x,.func (.func 42) #[] #[.pointer (some ⟨j,0,some 2⟩)]] s fun v s' =>v= .bool (decide (∃l∈L,l.name∈T))/\ar s.next s s' :=by
  refine Runs.enter 9 Tryz.func41 rfl rfl rfl rfl ?_
  intro f hn hf
  have h0:f.get 0=x:=hf 0
  have h1:f.get 1= .func (.func 42) #[] #[.pointer (some ⟨j,0,some 2⟩)]:=hf 1
  clear hf
  simp only[aj,ak,aa,af,ab,↓ao,hn,h0,h1]
  refine(pP s x L j y T hx hL hj hy hT).mono ?_
  rintro _ s2 ⟨⟨r,rfl,hr⟩,aE⟩
  by_cases c1:0<=r
  ·rw[a1 (hr.1 c1)]
   simp only[aj,al,oneOf,af,↓ao,hn,eq_true c1,a3]
   exact aE
  ·rw[a0 (fun h=>c1 (hr.2 h))]
   simp only[aj,al,oneOf,af,↓ao,hn,eq_false c1,a3]
   exact aE
set_option maxHeartbeats 4000000 in
theorem iR (F:Nat->Prop)(s:aq)(cs:aR Value)(o:O)(ho:dy F s cs o)(nM:Small o)(y:Value)(T:aR (aR UInt8))(hy:aN s 1 y T.length (VM T))(hT:T.length<=1000)(hl:(gU o).1.length<=1000):
    Runs av df 19 [.agg cs.toArray,y] s fun v s' =>v= .bool (decide (∃l∈(gU o).1,l.name∈T))/\ar s.next s s' :=by
  have jS:=ho.len
  refine Runs.enter 15 Tryz.func19 rfl rfl rfl rfl ?_
  intro f hn hf
  have h0:f.get 0= .agg cs.toArray:=hf 0
  have h1:f.get 1=y:=hf 1
  clear hf
  simp only[aj,af,↓ao,hn,h0]
  refine aw ?_
  intro s1 eK an Li
  have hyc:y.cells.toList=[y]:=aao hy
  simp only[aj,af,ab,↓ao,hn,h1]
  refine aw ?_
  intro s2 dD abN ad5
  rw[hyc] at dD
  have n1:=an.next
  have cR:ar s.next s s2:=an.trans (abN.weaken n1)
  have la:aJ av s2 26 (.pointer (some ⟨s.next,0,some (cs.length+1)⟩))=some (.agg cs.toArray):=ax.bF (P:=av) Hv (by rw[jS];exact iL) (eK.keeps abN) rfl
  simp only[aj,ak,aa,af,ab,Nat.reduceAdd,↓ao,hn,la,hyc,List.length_cons,List.length_nil]
  refine(MZ F s2 cs o (ho.keeps cR) nM).mono ?_
  rintro _ s3 ⟨x,rfl,hx,hxF,iO⟩
  have x0:∀a b,ba (.tuple #[a,b]) 0=some a:=fun _ _=>rfl
  have x1:∀a b,ba (.tuple #[a,b]) 1=some b:=fun _ _=>rfl
  simp only[aj,ak,aa,af,ab,↓ao,hn,x0,x1,FM]
  refine(wF s3 x _ s1.next y T hx.aG hl ((dD.keeps iO)) (hy.keeps (cR.trans (iO.weaken cR.next))) hT).mono ?_
  rintro _ s4 ⟨rfl,N3⟩
  simp only[aj,al,oneOf,af,↓ao,hn,Tryz.results19]
  exact(cR.trans (iO.weaken cR.next)).trans (N3.weaken (by have:=cR.next;have:=iO.next;omega))
end Go.Proofs.YtdfjfncifneocaaGreat
