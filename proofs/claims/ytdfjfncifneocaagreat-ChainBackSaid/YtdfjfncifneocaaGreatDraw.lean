/-
 The clean machine, part 23: more fuel turns no answer; a closed call, evaluated once, answers alike beside whatever lies there.
-/
import Derived.Test.YtdfjfncifneocaaGreatMem
import Derived.ProofKit
import Derived.OpenShut
import Derived.Carry
import Derived.ChangeSlices
import Derived.WideShapes
open List renaming getElem?_eq_getElem->an,getD_eq_getElem?_getD->a2,mem_cons_self->a3,length_nil->a5,getLastD_cons->a9,mem_cons_of_mem->bn,append_assoc->bz,getElem?_append_right->b7,length_append->b8,mem_singleton->ca,getElem?_append_left->cb,length_cons->cg,cons_append->cp,take_of_length_le->cx,mem_append->cB,mem_append_right->cR,getElem?_eq_none->c0,mem_of_mem_take->c4,mem_append_left->c5,flatMap_cons->dc,length_take->dt,append_nil->dx,drop_zero->dE,drop_drop->dH,drop_take->dI,getD->ek
open Go renaming Program->av,Value->a1,Oper->a4,TypeId->c3,World->c6,FuncId->c7
open _root_ renaming List->aR,Nat->bb,Option->bg,if_neg->b5,if_true->cv,if_false->dD,if_pos->dX,Bool->ec,absurd->ed
open Nat renaming le_refl->a6,testBit->a7,lt_or_ge->bq,succ_mul->bC,blt->b4,blt_eq->cz,ne_of_lt->c8,zero_mul->dY,zero_add->ea,mul_comm->eb,beq_eq->ee,beq->eg
open Array renaming getElem?_eq_none->a8
open Go.Value renaming slice->bl,okWide->c9,int->eh
open Bool renaming false_eq_true->bo,true_and->cd,not_eq_true->cm,and_eq_true->dv,and_false->dT,and_true->dU
open Go.World renaming cell?->cc,cells?_some->dd
open Option.some renaming inj->cA
namespace Go.Cl
abbrev C5 (c1 c2:c7->aR a1->aq->bg (a1×aq)):Prop:=∀g a s r,c1 g a s=some r->c2 g a s=some r
theorem KR {P:av}{c1 c2:c7->aR a1->aq->bg (a1×aq)}(h:C5 c1 c2)(all:aR a4):∀(l:aR a4) (f:aW) (s:aq) (r:aW×aq),gh P c1 all l f s=some r->gh P c2 all l f s=some r:=by
 intro l
 induction l with
 |nil=>intro f s r hr;exact hr
 |cons o l ih=>
  intro f s r hr
  simp only[gh] at hr|-
  split at hr
  ·rename_i hw
   rw[dX hw]
   split at hr
   ·rename_i v s1 fY
    split at hr
    ·rename_i f1 hp;exact ih _ _ _ hr
    ·cases hr
   ·rename_i g args fY
    split at hr
    ·rename_i v s1 hc
     split at hr
     ·rename_i f1 hp;simp only[h _ _ _ _ hc,hp];exact ih _ _ _ hr
     ·cases hr
    ·cases hr
   ·cases hr
  ·rename_i hw
   rw[b5 hw]
   split at hr
   ·rename_i f1 hp;exact ih _ _ _ hr
   ·cases hr
theorem KS {P:av}{c1 c2:c7->aR a1->aq->bg (a1×aq)}(h:C5 c1 c2){all:aR a4}{m id:bb}{ava:aR (bb×bb×jZ)}{o:a4}{f:aW}{T:aq}{e:Ev}(hd:ei P c1 all m id ava o f T=some e):ei P c2 all m id ava o f T=some e:=by
 unfold ei at*
 split at hd
 ·exact hd
 ·split at hd
  ·exact hd
  ·exact hd
  ·split at hd
   ·exact hd
   ·rename_i g args h1
    split at hd
    ·rename_i v s1 hc;simp only[h _ _ _ _ hc];exact hd
    ·cases hd
   ·cases hd
theorem IU {P:av}{c1 c2:c7->aR a1->aq->bg (a1×aq)}(h:C5 c1 c2)(all:aR a4):∀(l:aR a4) (ms:aR bb) (i id:bb) (f:aW) (T:aq) (ava:aR (bb×bb×jZ)) (es:aR Ev),cO P c1 all ms l i id f T ava=some es->cO P c2 all ms l i id f T ava=some es:=by
 intro l
 induction l with
 |nil=>intro ms i id f T ava es hd;cases ms<;>exact hd
 |cons o l ih=>
  intro ms i id f T ava es hd
  cases ms with
  |nil=>exact hd
  |cons m ms=>
   simp only[cO] at hd|-
   split at hd
   ·rename_i e he
    split at hd
    ·rename_i f1 hp
     split at hd
     ·rename_i JZ h1;simp only[KS h he,hp,ih _ _ _ _ _ _ _ h1];exact hd
     ·cases hd
    ·cases hd
   ·cases hd
theorem IV {P:av}{c1 c2:c7->aR a1->aq->bg (a1×aq)}(h:C5 c1 c2){ops:aR a4}{f:aW}{s:aq}{r:aW×aq}(hd:fH P c1 ops f s=some r):fH P c2 ops f s=some r:=by
 unfold fH at*
 split at hd
 ·cases hd
 ·split at hd
  ·rename_i es he;simp only[IU h _ _ _ _ _ _ _ _ _ he];exact hd
  ·cases hd
abbrev VD (e1 e2:Code->aW->aq->Out):Prop:=∀c f s r,e1 c f s=some r->e2 c f s=some r
theorem pA {P:av}{lib:aA}{e1 e2:Code->aW->aq->Out}(h:VD e1 e2):C5 (eF P lib e1) (eF P lib e2):=by
 intro g a s r hc
 unfold eF at*
 split at hc
 ·exact hc
 ·split at hc
  ·rename_i fn hf
   split at hc
   ·rename_i c hb hn
    split at hc
    ·rename_i f1 s1 he;simp only[h _ _ _ _ he];exact hc
    ·rename_i f1 s1 he;simp only[h _ _ _ _ he];exact hc
    ·cases hc
   ·cases hc
  ·cases hc
theorem Sr {P:av}{lib:aA}{e1 e2:Code->aW->aq->Out}(h:VD e1 e2):VD (step P lib e1) (step P lib e2):=by
 intro c f s r hr
 cases c with
 |region id ops d=>
  simp only[step] at hr|-
  cases d with
  |false=>
   simp only at hr|-
   split at hr
   ·rename_i h1;simp only[KR (pA h) _ _ _ _ _ h1];exact hr
   ·cases hr
  |true=>
   simp only at hr|-
   split at hr
   ·rename_i h1;simp only[IV (pA h) h1];exact hr
   ·cases hr
 |seq a b=>
  simp only[step] at hr|-
  split at hr
  ·rename_i f1 s1 h1;simp only[h _ _ _ _ h1];exact h _ _ _ _ hr
  ·rename_i h1
   have:=h _ _ _ _ hr
   rw[this]
   cases r with
   |mk x r=>
    cases x with
    |normal=>exact ed hr (h1 _ _)
    |exit=>rfl
    |ret=>rfl
 |cond x a b=>
  simp only[step] at hr|-
  split at hr
  ·rename_i t ht
   split at hr
   ·exact h _ _ _ _ hr
   ·exact h _ _ _ _ hr
  ·cases hr
 |block id a=>
  simp only[step] at hr|-
  split at hr
  ·rename_i j f1 s1 h1;simp only[h _ _ _ _ h1];exact hr
  ·rename_i h1
   have:=h _ _ _ _ hr
   rw[this]
   cases r with
   |mk x r=>
    cases x with
    |normal=>rfl
    |exit=>exact ed hr (h1 _ _ _)
    |ret=>rfl
 |loop a=>
  simp only[step] at hr|-
  split at hr
  ·rename_i f1 s1 h1;simp only[h _ _ _ _ h1];exact h _ _ _ _ hr
  ·rename_i h1
   have:=h _ _ _ _ hr
   rw[this]
   cases r with
   |mk x r=>
    cases x with
    |normal=>exact ed hr (h1 _ _)
    |exit=>rfl
    |ret=>rfl
 |scope a=>simp only[step] at hr|-;exact h _ _ _ _ hr
 |skip=>exact hr
 |label l=>exact hr
 |exit id=>exact hr
 |ret=>exact hr
 |rangeFunc=>simp[step] at hr
 |goto=>simp[step] at hr
 |refuse=>simp[step] at hr
theorem Ss {P:av}{lib:aA}:∀n,VD (exec P lib n) (exec P lib (n+1)):=by
 intro n
 induction n with
 |zero=>intro c f s r h;simp[exec] at h
 |succ n ih=>exact Sr ih
theorem IW {P:av}{lib:aA}{n m:bb}(h:n<=m):VD (exec P lib n) (exec P lib m):=by
 induction m with
 |zero=>obtain rfl:n=0:=by omega
        exact fun _ _ _ _ h=>h
 |succ m ih=>
  by_cases hn:n=m+1
  ·subst hn;exact fun _ _ _ _ h=>h
  ·exact fun c f s r hr=>Ss m c f s r (ih (by omega) c f s r hr)
theorem Runs.ZG {P:av}{lib:aA}(hl:lZ lib){n:bb}{g:c7}{args:aR a1}{s:aq}{v:a1}{s' :aq}{Q:a1->aq->Prop}(h:gX P lib n g args s=some (v,s'))(hq:Q v s'):Runs P lib g args s Q:=
 fun qC=>⟨v,s',⟨n,fun _ hm=>pA (IW hm) _ _ _ _ h⟩,by obtain⟨_,_,_,k⟩:=KC hl n _ _ _ _ _ _ _ (cI.refl s) qC h;exact k,hq⟩
theorem Runs.closed {P:av}{lib:aA}(hl:lZ lib){n k:bb}{g:c7}(h:oG (gX P lib n g [] ⟨.nil,k⟩)=true){s:aq}(hk:s.next=k)(hw:WF s):Runs P lib g [] s fun v s' =>v= .bool true/\ar s.next s s' /\WF s' :=by
 unfold oG at h
 split at h
 case h_2=>cases h
 rename_i b t hc
 subst h
 have hw0:WF ⟨.nil,k⟩:=⟨by omega,fun j o hj=>by simp[Tr.get] at hj⟩
 have ha:cI ⟨.nil,k⟩ s (fun j=>s.heap.get j):=⟨hk,fun j o hj=>⟨rfl,by show j<k;rw[<-hk];exact hw.bound j o hj⟩,fun j=>by simp only[Tr.get];cases s.heap.get j<;>rfl⟩
 obtain⟨t',h1,h2,h3⟩:=KC hl n _ _ _ _ _ _ _ ha hw0 hc
 refine Runs.ZG hl h1 ⟨rfl,⟨by rw[h2.next,hk];exact h3.next,fun i hi=> ?_⟩,⟨by omega,fun j o hj=> ?_⟩⟩
 ·rw[h2.get i]
  cases hx:s.heap.get i with
  |some o=>rfl
  |none=>exact h3.gone i (by show i<k;omega) rfl
 ·rw[h2.get j] at hj
  rw[h2.next]
  cases hx:s.heap.get j with
  |some o=>have:=hw.bound j o hx;have:=h3.next;show j<t.next;have e:(⟨Tr.nil,k⟩:aq).next=k:=rfl;omega
  |none=>rw[hx] at hj;exact h3.wf.bound j o hj
end Go.Cl
namespace Go.Cl
open Go.RowKit Go.ChangeShapes Go.WideShapes
structure nN (W:c6) (S:St):Prop where
 sr:SR W.heap.size S
 w:S.w=W
 own:∀i b,S.s.bR i=some b->b.own=false
 map:∀i,S.s.dN i=none
theorem nN.start (W:c6):nN W (St.start W):=
 ⟨SR.start W,rfl,fun i b h=>by simp[St.start,aq.empty,aq.bR,Tr.get] at h,fun i=>by simp[St.start,aq.empty,aq.dN,Tr.get]⟩
def St.cP (S:St)(b:jZ)(a:bb×bb):St:=⟨S.s.new (.dZ b),⟨fun j c=>if j=S.s.next then a else S.e.loc j c,S.e.mp⟩,S.w⟩
theorem nN.push {W:c6}{S:St}(h:nN W S)(b:jZ)(a:bb×bb)(lh:b.own=false)(jw:1<=b.low)(fq:∀c,Live b c->c=b.cells.length+1)
  (ot:∀c,Live b c->a.1<W.heap.size) (iZ:∀c,Live b c->∀p,p<b.cells.length->∃v,W.cell? ⟨a.1,a.2+p,none⟩=some v/\VR S (b.cells.getD p undef) v):
  nN W (S.cP b a)/\Ext S (S.cP b a)/\ar S.s.next S.s (S.cP b a).s/\(S.cP b a).s.next=S.s.next+1:=by
 have hw:=h.w
 have mA:(S.cP b a).s.bR S.s.next=some b:=oO S.s b
 have aE:ar S.s.next S.s (S.cP b a).s:=ar.new S.s _
 have hold:∀j b',(S.cP b a).s.bR j=some b' ->(j=S.s.next/\b' =b)\/(j<S.s.next/\S.s.bR j=some b'):=by
  intro j b' hj
  by_cases hjn:j=S.s.next
  ·subst hjn;rw[mA] at hj;exact .inl ⟨rfl,(cA hj).symm⟩
  ·have e:(S.cP b a).s.bR j=S.s.bR j:=by
    simp only[St.cP,aq.new,aq.bR,Tr.ch _ _ _ _ _ (Ne.symm hjn)]
   rw[e] at hj
   exact .inr ⟨h.sr.lt hj,hj⟩
 have mz:Ext S (S.cP b a):=by
  refine⟨fun i b' hb=> ?_,fun r es he=>(by rw[h.map r] at he;cases he),fun k arr E fr hk=>⟨arr,fr,hk,rfl⟩⟩
  have bd:=h.sr.lt hb
  refine⟨b',(aE.dZ bd).trans hb,a6 _,a6 _,rfl,fun c _ _=> ?_⟩
  simp only[St.cP,b5 (c8 bd)]
 refine⟨⟨⟨by omega,?_,?_,?_,?_,?_,?_,?_,?_⟩,hw,?_,?_⟩,mz,aE,rfl⟩
 ·intro i o hi
  show i<S.s.next+1
  by_cases Kl:i=S.s.next
  ·omega
  ·have e:(S.cP b a).s.heap.get i=S.s.heap.get i:=by simp only[St.cP,aq.new,Tr.ch _ _ _ _ _ (Ne.symm Kl)]
   rw[e] at hi
   have:=h.sr.bound i o hi;omega
 ·intro i b' hi
  rcases hold i b' hi with ⟨_,rfl⟩|⟨_,hi⟩
  ·exact jw
  ·exact h.sr.low i b' hi
 ·intro i b' hi c hc p hp
  rcases hold i b' hi with ⟨rfl,rfl⟩|⟨bd,hi⟩
  ·have:=fq c hc
   obtain⟨v,h1,h2⟩:=iZ c hc p (by omega)
   refine⟨v,?_,h2.mono mz⟩
   simp only[St.cP,cv,hw];exact h1
  ·obtain⟨v,h1,h2⟩:=h.sr.cell i b' hi c hc p hp
   refine⟨v,?_,h2.mono mz⟩
   simp only[St.cP,b5 (c8 bd)];exact h1
 ·intro i b' hi ho
  rcases hold i b' hi with ⟨_,rfl⟩|⟨_,hi⟩
  ·rw[lh] at ho;cases ho
  ·rw[h.own i b' hi] at ho;cases ho
 ·intro r es he
  have:(S.cP b a).s.dN r=none:=by
   by_cases hr:r=S.s.next
   ·subst hr;simp only[St.cP,aq.new,aq.dN,Tr.bD _ _ _ _ (deep (by omega))]
   ·have:=h.map r
    simp only[aq.dN] at this
    simp only[St.cP,aq.new,aq.dN,Tr.ch _ _ _ _ _ (Ne.symm hr),this]
  rw[this] at he;cases he
 ·intro r r' es fP he
  have:(S.cP b a).s.dN r=none:=by
   by_cases hr:r=S.s.next
   ·subst hr;simp only[St.cP,aq.new,aq.dN,Tr.bD _ _ _ _ (deep (by omega))]
   ·have:=h.map r
    simp only[aq.dN] at this
    simp only[St.cP,aq.new,aq.dN,Tr.ch _ _ _ _ _ (Ne.symm hr),this]
  rw[this] at he;cases he
 ·show W.heap.size<=S.w.heap.size
  rw[hw];exact a6 _
 ·intro i b' hi c hc
  show((S.cP b a).e.loc i c).1<S.w.heap.size
  rw[hw]
  rcases hold i b' hi with ⟨rfl,rfl⟩|⟨bd,hi⟩
  ·simp only[St.cP,cv];exact ot c hc
  ·simp only[St.cP,b5 (c8 bd)]
   have:=h.sr.Ip i b' hi c hc
   rw[hw] at this;exact this
 ·intro i b' hi
  rcases hold i b' hi with ⟨_,rfl⟩|⟨_,hi⟩
  ·exact lh
  ·exact h.own i b' hi
 ·intro r
  by_cases hr:r=S.s.next
  ·subst hr;simp only[St.cP,aq.new,aq.dN,Tr.bD _ _ _ _ (deep (by omega))]
  ·have:=h.map r
   simp only[aq.dN] at this
   simp only[St.cP,aq.new,aq.dN,Tr.ch _ _ _ _ _ (Ne.symm hr),this]
structure KT (W:c6) (S S' :St) (v' v:a1):Prop where
 begun:nN W S'
 ext:Ext S S'
 stay:ar S.s.next S.s S'.s
 next:S'.s.next=S.s.next+1
 vr:VR S' v' v
variable {H:Type} {enc:c3×a1->H} {P:av}
theorem nN.ints {W:c6}{S:St}(h:nN W S){t e:c3}{k:IntKind}{r:Reach}{b0:bb}{v:a1}{d:DataW H}{ps:aR MemPlace}(ht:P.underlying t=some (.slice e))(he:P.underlying e=some (.int k))(hc:P.cellsOf e=1)
  (IX:c9 P W r b0 t v) (hd:DataW.Trod enc P W 0 (fun _=>true) true t v d ps):
  ∃(S' :St) (v' :a1) (zs:aR Int),KT W S S' v' v/\aN S'.s 1 v' zs.length (zs.map (.int k))/\(∀n∈zs,(Lit.int k n).wf=true):=by
 obtain⟨a,len,cap,rfl⟩:=okWide_slice ht IX
 obtain⟨fuel,hf⟩:=hd
 have dead:∀v',VR S v' (.slice a len cap)->∃S',KT W S S' v' (.slice a len cap):=fun v' hv=>by
  obtain⟨h1,h2,h3,h4⟩:=h.push ⟨[],2,false,1⟩ (0,0) rfl (by simp) (fun c hc=>by simp only[Live,a5] at hc;omega) (fun c hc=>by simp only[Live,a5] at hc;omega) (fun c hc=>by simp only[Live,a5] at hc;omega)
  exact⟨_,h1,h2,h3,h4,hv.mono h2⟩
 rcases open_ints ht he hc hf with ⟨wR,_⟩|⟨a,adu,adv,zs,wR,hb,jL,hcm,oK,hx,iZ,qC⟩
 ·have vG:[bl a len cap]=[bl none 0 0]:=wR
  injection vG with vG _
  injection vG with e1 e2 e3;subst e1;subst e2;subst e3
  obtain⟨S',hj⟩:=dead (.slice none 0 0) .gK
  exact⟨S',_,[],hj,.nil,fun n hn=>by cases hn⟩
 ·rename_i a0
  have vG:[bl a0 len cap]=[bl (some a) adu adv]:=wR
  injection vG with vG _
  injection vG with e1 e2 e3;subst e1;subst e2;subst e3
  simp only[cv] at oK
  by_cases pR:cap=0
  ·subst pR
   obtain rfl:len=0:=by omega
   obtain⟨S',hj⟩:=dead (.slice (some ⟨0,0,none⟩) 0 0) (.slice 0 0 0 0 a 0 (a6 _) (fun _=>rfl) (fun hx=>by omega))
   exact⟨S',_,[],hj,.bare _ _,fun n hn=>by cases hn⟩
  ·have mB:∀i,i<cap->W.cell? ⟨a.block,a.off+i,none⟩=some (.int k (zs.getD i 0)):=by
    intro i hi
    have Qw:=iZ i (by omega)
    by_cases h0:i=0
    ·subst h0
     simp only[Addr.add,cv] at Qw
     unfold cc at Qw|-
     split at Qw
     ·rename_i c _ _ hh
      simp only[hh]
      split at Qw
      ·cases Qw
      ·simpa using Qw
     ·cases Qw
    ·simpa only[Addr.add,b5 h0] using Qw
   have ot:∃arr E fr,W.heap[a.block]?=some (.cells arr E fr)/\a.off+cap<=arr.size:=by
    have hl:=mB (cap-1) (by omega)
    unfold cc at hl
    split at hl
    ·rename_i c E fr hh
     refine⟨c,E,fr,hh,?_⟩
     simp only[Option.isSome_none,bo,dD] at hl
     have Zd:a.off+(cap-1)<c.size:=by
      rcases bq (a.off+(cap-1)) c.size with q|q
      ·exact q
      ·rw[a8 q] at hl;cases hl
     omega
    ·cases hl
   obtain⟨arr,E,fr,hh,cf⟩:=ot
   have bd:a.block<W.heap.size:=by
    rcases bq a.block W.heap.size with q|q
    ·exact q
    ·rw[a8 q] at hh;cases hh
   have hlen:(zs.take len).length=len:=by rw[dt];omega
   have C6:((zs.take len).map (eh k)).length=len:=by rw[List.length_map,hlen]
   obtain⟨h1,h2,h3,h4⟩:=h.push ⟨(zs.take len).map (.int k),len+1,false,1⟩ (a.block,a.off) rfl (by simp) (fun c hc=>by simp only[Live,C6] at hc|-;omega) (fun c _=>bd) (fun c _ p hp=>by
    simp only[C6] at hp
    refine⟨_,mB p (by omega),?_⟩
    have:((zs.take len).map (eh k)).getD p undef= .int k (zs.getD p 0):=by
     simp[ek,List.getElem?_map,hp,an (show p<zs.length by omega)]
    rw[this];exact .int _ _)
   have Fz:(S.cP ⟨(zs.take len).map (.int k),len+1,false,1⟩ (a.block,a.off)).s.bR S.s.next=some ⟨(zs.take len).map (.int k),len+1,false,1⟩:=oO _ _
   refine⟨_,.slice (some ⟨S.s.next,0,none⟩) len (len+1),zs.take len,⟨h1,h2,h3,h4,?_⟩,?_,fun n hn=>qC n (c4 hn)⟩
   ·refine .slice _ _ _ _ a cap jL (fun q=>by omega) (fun _=>⟨⟨_,Fz,by simp only[C6];omega,fun _=> ?_⟩,fun b hb hl=> ?_⟩)
    ·have dC:a.spot=none:=by
      have:=iZ 0 (by omega)
      simp only[Addr.add,cv] at this
      unfold cc at this
      rw[hh] at this
      simp only at this
      split at this
      ·cases this
      ·rename_i q;simpa using q
     cases a;simp only[St.cP,cv] at*;simp[dC]
    ·rw[Fz] at hb;obtain rfl:=cA hb
     exact⟨arr,E,fr,by show S.w.heap[a.block]?=_;rw[h.w];exact hh,by simpa using cf⟩
   ·rw[hlen]
    refine .of S.s.next 0 len _ _ _ (by rw[h4];omega) Fz rfl (by simp) (by simp only[C6];omega) (by simp only[C6];omega) (by omega) ?_
    rw[dE,Nat.mul_one];exact cx (by rw[C6];exact a6 _)
theorem KU {zs:aR Int}(h:∀n∈zs,(Lit.int .u8 n).wf=true):∃bs:aR UInt8,bs.length=zs.length/\zs.map (.int .u8)=ofBytes bs:=by
 refine⟨zs.map fun n=>UInt8.ofNat n.toNat,by simp,?_⟩
 simp only[ofBytes,List.map_map]
 refine List.map_congr_left fun n hn=> ?_
 have hw:=h n hn
 simp only[Function.comp,Value.int.injEq,true_and]
 have:0<=n/\n<256:=by
  simp[Lit.wf,IntKind.min,IntKind.max,IntKind.bits,IntKind.signed] at hw
  omega
 rw[UInt8.toNat_ofNat']
 omega
theorem nN.bytes {W:c6}{S:St}(h:nN W S){t e:c3}{r:Reach}{b0:bb}{v:a1}{d:DataW H}{ps:aR MemPlace}(ht:P.underlying t=some (.slice e))(he:P.underlying e=some (.int .u8))(hc:P.cellsOf e=1)
  (IX:c9 P W r b0 t v) (hd:DataW.Trod enc P W 0 (fun _=>true) true t v d ps):
  ∃(S' :St) (v' :a1) (bs:aR UInt8),KT W S S' v' v/\aN S'.s 1 v' bs.length (ofBytes bs):=by
 obtain⟨S',v',zs,hj,hs,hw⟩:=h.ints ht he hc IX hd
 obtain⟨bs,h1,h2⟩:=KU hw
 exact⟨S',v',bs,hj,by rw[h1,<-h2];exact hs⟩
theorem FA (hl:laidOutB P=true){W W' :c6}(hb:Below W.heap.size W W'):∀{ts:aR c3} {vs:aR a1} {ds:aR (DataW H)} {ps:aR MemPlace},(∀t∈ts,P.readableRec t=true/\t<P.types.size)->
  DataW.TrodAll enc P W 0 (fun _=>true) true ts vs ds ps->(∀x∈ps,x.block<W.heap.size)->DataW.TrodAll enc P W' 0 (fun b=>decide (b<W.heap.size)) true ts vs ds ps:=by
 intro ts
 induction ts with
 |nil=>
  intro vs ds ps _ h _
  cases vs<;>cases ds<;>simp only[DataW.TrodAll] at h|-
  exact h
 |cons t ts ih=>
  intro vs ds ps hr h bd
  obtain⟨v,P7,d,ds',p,q,rfl,rfl,rfl,h1,h2⟩:=trodAll_cons h
  exact⟨p,q,Below.trod hl (hr t (a3 ..)).1 (hr t (a3 ..)).2 h1 hb (fun x hx=>bd x (c5 _ hx)),ih (fun t ht=>hr t (bn _ ht)) h2 (fun x hx=>bd x (cR _ hx)),rfl⟩
theorem VF {fn:Func}{s:ChangeSpec}{W W' :c6}{args:Array a1}{ds gs:aR (DataW H)}{before:aR MemPlace}{tb:c3}(hl:laidOutB P=true)(ag5:∀t∈fn.params.toList,P.readableRec t=true/\t<P.types.size)
  (adr:fn.resultTypes= #[tb]) (hb:P.underlying tb=some .bool) (abU:s.vars=[]) (Vv:∀l:aR (DataW H),l.length=ds.length->s.fn H l={results:=[.lit (.bool true)],args:=l}) (hW:DataW.Whole enc P fn.params.toList s.vars false W args.toList ds gs before) (nJ:Below W.heap.size W W'):
  ∃v,Ending.returned (.bool true)= .returned v/\s.post enc P fn false true false false W args v W' :=by
 have hW' :=hW
 obtain⟨p,q,hA,hV,rfl,hfz,hnd⟩:=hW
 rw[abU] at hV
 obtain⟨rfl,rfl⟩:=trodVars_none hV
 have VG:s.fn H (ds++[])={results:=[.lit (.bool true)],args:=ds}:=by rw[dx];exact Vv ds rfl
 refine⟨_,rfl,ds,[],p++[],[],p,[],hW',?_,?_,?_,nJ.frame _,fun h=>by cases h⟩
 ·rw[VG,adr]
  exact trodAll_cons_mk (shut_bool hb _) trodAll_mk0
 ·rw[VG]
  exact FA hl nJ ag5 hA hA.lt
 ·rw[VG,abU];rfl
theorem ZH {α:Type}{q:bb->α->Prop}:∀n:bb,(∀i,i<n->∃d,q i d)->∃D:aR α,D.length=n/\∀i,i<n->∃d,D[i]?=some d/\q i d:=by
 intro n
 induction n with
 |zero=>intro _;exact⟨[],rfl,fun i h=>by omega⟩
 |succ n ih=>
  intro h
  obtain⟨D,h1,h2⟩:=ih (fun i hi=>h i (by omega))
  obtain⟨d,hd⟩:=h n (by omega)
  refine⟨D++[d],by simp[h1],fun i hi=> ?_⟩
  by_cases Kl:i<n
  ·obtain⟨e,e1,e2⟩:=h2 i Kl
   exact⟨e,by rw[cb (by omega)];exact e1,e2⟩
  ·obtain rfl:i=n:=by omega
   exact⟨d,by rw[b7 (by omega),h1,Nat.sub_self];rfl,hd⟩
theorem KV {α:Type}{f:α->aR a1}{z:bb}(hl:∀d,(f d).length=z):∀D:aR α,(D.flatMap f).length=D.length*z:=by
 intro D
 induction D with
 |nil=>simp
 |cons d D ih=>rw[dc,b8,hl,ih,cg,bC,Nat.add_comm]
theorem C7 {α:Type}{f:α->aR a1}{z:bb}(hl:∀d,(f d).length=z){j:bb}(hj:j<z):∀(D:aR α) (i:bb) (d:α),D[i]?=some d->(D.flatMap f).getD (i*z+j) undef=(f d).getD j undef:=by
 intro D
 induction D with
 |nil=>intro i d h;simp at h
 |cons e D ih=>
  intro i d h
  rw[dc,a2]
  cases i with
  |zero=>
   simp at h;subst h
   rw[dY,ea,cb (by rw[hl];exact hj),a2]
  |succ i=>
   have h' :D[i]?=some d:=by simpa using h
   rw[b7 (by rw[hl,bC];omega),hl]
   have e2:(i+1)*z+j-z=i*z+j:=by rw[bC];omega
   rw[e2,<-a2]
   exact ih i d h'
theorem KW (b o n:bb):(⟨b,o,none⟩:Addr).add n=⟨b,o+n,none⟩:=by
 unfold Addr.add;split
 ·rename_i h;subst h;rfl
 ·rfl
theorem Su {W:c6}{a:Addr}{v:a1}(h:W.cell? a=some v):a.spot=none:=by
 unfold cc at h
 split at h
 ·split at h
  ·cases h
  ·rename_i q;simpa using q
 ·cases h
theorem Sv {W:c6}{b o:bb}{v:a1}(h:W.cell? ⟨b,o,none⟩=some v):∃arr E fr,W.heap[b]?=some (.cells arr E fr)/\o<arr.size:=by
 unfold cc at h
 split at h
 ·rename_i c E fr hh
  refine⟨c,E,fr,hh,?_⟩
  simp only[Option.isSome_none,bo,dD] at h
  rcases bq o c.size with q|q
  ·exact q
  ·rw[a8 q] at h;cases h
 ·cases h
variable {H:Type} {enc:c3×a1->H} {P:av}
theorem nN.rows {W:c6}{S:St}(h:nN W S){α:Type}(f:α->aR a1)(p:α->Prop){t e:c3}{z:bb}{r:Reach}{b0:bb}{v:a1}{d:DataW H}{ps:aR MemPlace}(ht:P.underlying t=some (.slice e))(hc:P.cellsOf e=z)(hz:0<z)
  (kp:∀fuel cs x,DataW.trod enc P W 0 (fun _=>true) true fuel e cs=some x->∃d,p d/\cs=f d) (hl:∀d,(f d).length=z) (hvr:∀(S:St) d v,v∈f d->VR S v v)
  (IX:c9 P W r b0 t v) (hd:DataW.Trod enc P W 0 (fun _=>true) true t v d ps):
  ∃(S' :St) (v' :a1) (D:aR α),KT W S S' v' v/\aN S'.s z v' D.length (D.flatMap f)/\(∀d∈D,p d):=by
 obtain⟨a,len,cap,rfl⟩:=okWide_slice ht IX
 obtain⟨fuel,hf⟩:=hd
 have dead:∀v',VR S v' (.slice a len cap)->∃S',KT W S S' v' (.slice a len cap):=fun v' hv=>by
  obtain⟨h1,h2,h3,h4⟩:=h.push ⟨[],2,false,1⟩ (0,0) rfl (by simp) (fun c hc=>by simp only[Live,a5] at hc;omega) (fun c hc=>by simp only[Live,a5] at hc;omega) (fun c hc=>by simp only[Live,a5] at hc;omega)
  exact⟨_,h1,h2,h3,h4,hv.mono h2⟩
 rcases DataW.trod_slice ht hf with ⟨wR,_⟩|⟨a',adu,adv,elems,rest,n,_,wR,_,hb,jL,hm,eU,za,dC,_⟩
 ·have vG:[bl a len cap]=[bl none 0 0]:=wR
  injection vG with vG _
  injection vG with e1 e2 e3;subst e1;subst e2;subst e3
  obtain⟨S',hj⟩:=dead (.slice none 0 0) .gK
  exact⟨S',_,[],hj,.nil,fun d hd=>by cases hd⟩
 ·have vG:[bl a len cap]=[bl (some a') adu adv]:=wR
  injection vG with vG _
  injection vG with e1 e2 e3;subst e1;subst e2;subst e3
  by_cases pR:cap=0
  ·subst pR
   obtain rfl:len=0:=by omega
   obtain⟨S',hj⟩:=dead (.slice (some ⟨0,0,none⟩) 0 0) (.slice 0 0 0 0 a' 0 (a6 _) (fun _=>rfl) (fun hx=>by omega))
   exact⟨S',_,[],hj,.bare _ _,fun d hd=>by cases hd⟩
  ·rw[hc] at za dC
   have each:∀i,i<cap->∃d,p d/\W.cells? 0 (a'.add (i*z)) z=some (f d):=by
    intro i hi
    have:∃y,(W.cells? 0 (a'.add (i*z)) z).bind (DataW.trod enc P W 0 (fun _=>true) true n e)=some y:=by
     by_cases Zx:i<len
     ·have:=za i Zx
      rw[an (by omega)] at this
      exact⟨_,this⟩
     ·obtain⟨pd,gx⟩:=dC rfl
      have:=gx (i-len) (by omega)
      rw[show len+(i-len)=i by omega,an (by omega)] at this
      exact⟨_,this⟩
    obtain⟨y,hy⟩:=this
    rw[Option.bind_eq_some_iff] at hy
    obtain⟨cs,wR,hy⟩:=hy
    obtain⟨d,hd,rfl⟩:=kp _ _ _ hy
    exact⟨d,hd,wR⟩
   obtain⟨D,hDl,hD⟩:=ZH cap each
   have abV:a'.spot=none:=by
    obtain⟨d,_,_,hd⟩:=hD 0 (by omega)
    obtain⟨_,_,hg⟩:=dd hd
    have h0:=hg 0 hz
    rw[an (by rw[hl];exact hz)] at h0
    have:=Su h0
    rw[dY] at this
    simpa [Addr.add] using this
   obtain⟨ab,ao,asp⟩:=a'
   simp only at abV;subst abV
   have iZ:∀i d j,D[i]?=some d->j<z->W.cell? ⟨ab,ao+(i*z+j),none⟩=some ((f d).getD j undef):=by
    intro i d j hi hj
    have E3:i<cap:=by
     rcases bq i D.length with q|q
     ·omega
     ·rw[c0 q] at hi;cases hi
    obtain⟨d',e1,_,hd⟩:=hD i E3
    rw[hi] at e1;injection e1 with e1;subst e1
    obtain⟨_,_,hg⟩:=dd hd
    have:=hg j hj
    rw[KW,KW,an (by rw[hl];exact hj)] at this
    rw[<-Nat.add_assoc,this]
    simp[ek,an (show j<(f d).length by rw[hl];exact hj)]
   have ot:∃arr E fr,W.heap[ab]?=some (.cells arr E fr)/\ao+cap*z<=arr.size:=by
    obtain⟨d,hd,_⟩:=hD (cap-1) (by omega)
    obtain⟨arr,E,fr,h1,h2⟩:=Sv (iZ (cap-1) d (z-1) hd (by omega))
    refine⟨arr,E,fr,h1,?_⟩
    have:cap*z=(cap-1)*z+z:=by
     conv=>lhs;rw[show cap=(cap-1)+1 by omega,bC]
    omega
   obtain⟨arr,E,fr,hh,cf⟩:=ot
   have bd:ab<W.heap.size:=by
    rcases bq ab W.heap.size with q|q
    ·exact q
    ·rw[a8 q] at hh;cases hh
   have ZI:(D.take len).length=len:=by rw[dt];omega
   have hFl:((D.take len).flatMap f).length=len*z:=by rw[KV hl,ZI]
   have hFg:∀q,q<len*z->∃i d j,D[i]?=some d/\j<z/\q=i*z+j/\((D.take len).flatMap f).getD q undef=(f d).getD j undef:=by
    intro q hq
    have hqz:q/z<len:=Nat.div_lt_of_lt_mul (by rw[eb];exact hq)
    have Bq:q=q/z*z+q%z:=by rw[eb];exact(Nat.div_add_mod q z).symm
    have hm2:q%z<z:=Nat.mod_lt _ hz
    obtain⟨d,hd,_⟩:=hD (q/z) (by omega)
    have hdt:(D.take len)[q/z]?=some d:=by rw[List.getElem?_take,dX hqz];exact hd
    refine⟨q/z,d,q%z,hd,hm2,Bq,?_⟩
    conv=>lhs;rw[Bq]
    exact C7 hl hm2 _ _ _ hdt
   obtain⟨h1,h2,h3,h4⟩:=h.push ⟨(D.take len).flatMap f,len*z+1,false,z⟩ (ab,ao) rfl (by simp) (fun c hc=>by simp only[Live,hFl] at hc|-;omega) (fun c _=>bd) (fun c _ q hq=>by
    simp only[hFl] at hq
    obtain⟨i,d,j,hd,hj,e1,e2⟩:=hFg q hq
    refine⟨(f d).getD j undef,by rw[e1];exact iZ i d j hd hj,?_⟩
    rw[e2]
    have N4:j<(f d).length:=by rw[hl];exact hj
    refine hvr _ d _ ?_
    rw[a2,an N4]
    exact List.getElem_mem N4)
   have Fz:(S.cP ⟨(D.take len).flatMap f,len*z+1,false,z⟩ (ab,ao)).s.bR S.s.next=some ⟨(D.take len).flatMap f,len*z+1,false,z⟩:=oO _ _
   refine⟨_,.slice (some ⟨S.s.next,0,none⟩) len (len*z+1),D.take len,⟨h1,h2,h3,h4,?_⟩,?_,fun d hd=> ?_⟩
   ·refine .slice _ _ _ _ _ cap jL (fun q=>by omega) (fun _=>⟨⟨_,Fz,by simp only[hFl];omega,fun _=> ?_⟩,fun b hb hl=> ?_⟩)
    ·simp only[St.cP,cv];simp
    ·rw[Fz] at hb;obtain rfl:=cA hb
     exact⟨arr,E,fr,by show S.w.heap[ab]?=_;rw[h.w];exact hh,cf⟩
   ·rw[ZI]
    refine .of S.s.next 0 len _ _ _ (by rw[h4];omega) Fz rfl (by simp) (by simp only[hFl];omega) hFl (by omega) ?_
    rw[dE];exact cx (by rw[hFl];exact a6 _)
   ·obtain⟨i,hi⟩:=List.getElem?_of_mem (c4 hd)
    have E3:i<cap:=by
     rcases bq i D.length with q|q
     ·omega
     ·rw[c0 q] at hi;cases hi
    obtain⟨d',e1,hp,_⟩:=hD i E3
    rw[hi] at e1;injection e1 with e1;subst e1;exact hp
def b6:a1->bb->a1
 | .pointer (some ⟨i,o,some c⟩),j=> .pointer (some ⟨i,o+j,some c⟩)
 |v,_=>v
theorem vH (z:bb)(v:a1)(k j:bb):bZ (b6 (bc z v k) j) (b6 (bc z v k) j)=true:=by
 unfold bc
 split<;>exact lU _
theorem aN.lB {e:c3}(ow:bX P e=some false){s:aq}{z:bb}{v:a1}{n:bb}{l:aR a1}(h:aN s z v n l){k j:bb}(hk:k<n)(hj:j<z):aJ P s e (b6 (bc z v k) j)=some (l.getD (k*z+j) undef):=by
 have hlen:=h.length
 cases h with
 |nil=>omega
 |bare=>omega
 |of i off n c b l hi hb hz hl hc hlen fy ht=>
  have hkz:k*z+z<=n*z:=by
   have:(k+1)*z<=n*z:=Nat.mul_le_mul_right z hk
   rwa [bC] at this
  show aJ P s e (.pointer (some ⟨i,off+k*z+j,some c⟩))=_
  unfold aJ
  simp only[ow]
  rw[gF hb hl hc (by omega)]
  have e2:b.cells.drop (off+k*z+j)=(b.cells.drop off).drop (k*z+j):=by rw[dH];congr 1;omega
  have wJ:k*z+j<l.length:=by omega
  have e3:((b.cells.drop off).drop (k*z+j)).take 1=[l.getD (k*z+j) undef]:=by
   have:((b.cells.drop off).drop (k*z+j)).take 1=(((b.cells.drop off).take (n*z)).drop (k*z+j)).take 1:=by
    rw[dI,List.take_take];congr 1;omega
   rw[this,ht,List.drop_eq_getElem_cons wJ,List.take_succ_cons,List.take_zero,a2,an wJ]
   rfl
  rw[e2,e3]
end Go.Cl
namespace Go.Cl
def fv (o:a4):ec:=
 match o.op with
 | .move _| .assign _| .pick _ _ _| .build _ _| .nilCheck _| .binOp _ _ _ _ _| .unOp _ _ _| .fieldAddr _ _ _| .field _ _ _| .indexAddr _ _ _| .index _ _ _| .extract _ _=>true
 |_=>false
theorem C8 {P:av}{o:a4}(h:fv o=true):aP P o=true:=by
 obtain⟨dst,op,type,pos,after,guard⟩:=o
 cases op<;>simp_all[fv,aP]
theorem Sw {P:av}{o:a4}(h:fv o=true)(f:aW):∃r:bg a1,∀s,cS P o f s=pO s r:=by
 obtain⟨dst,op,type,pos,after,guard⟩:=o
 cases op<;>simp only[fv] at h<;>try (cases h;done)
 case move x=>exact⟨aS f x,fun _=>rfl⟩
 case assign x=>exact⟨aS f x,fun _=>rfl⟩
 case pick c a b=>
  refine⟨match aS f c,aS f a,aS f b with
   |some (.bool t),some u,some v=>some (if t then u else v)
   |_,_,_=>none,fun s=> ?_⟩
  rw[CN]
  generalize aS f c=X
  generalize aS f a=Y
  generalize aS f b=Z
  split<;>first|rfl|(split<;>first|rfl|(exfalso;simp_all))
 case build t ps=>
  refine⟨match ae f ps.toList with
   |some l=>cC P t l
   |none=>none,fun s=> ?_⟩
  rw[yZ]
  generalize ae f ps.toList=X
  cases X<;>rfl
 case nilCheck x=>
  refine⟨match aS f x with
   |some (.pointer (some a))=>some (.pointer (some a))
   |some (.func (.func g) ava bs)=>some (.func (.func g) ava bs)
   |_=>none,fun s=> ?_⟩
  rw[qR]
  generalize aS f x=X
  split<;>first|rfl|(split<;>first|rfl|(exfalso;simp_all))
 case binOp op t x y t2=>
  refine⟨match aS f x,aS f y with
   |some u,some v=>cQ P op t u v
   |_,_=>none,fun s=> ?_⟩
  rw[y5]
  generalize aS f x=X
  generalize aS f y=Y
  cases X<;>cases Y<;>rfl
 case unOp op t x=>
  refine⟨match aS f x with
   |some u=>unA op u
   |none=>none,fun s=> ?_⟩
  rw[CP]
  generalize aS f x=X
  cases X<;>rfl
 case fieldAddr t x i=>
  refine⟨match aS f x with
   |some u=>au P t u i
   |none=>none,fun s=> ?_⟩
  rw[py]
  generalize aS f x=X
  cases X<;>rfl
 case field t x i=>
  refine⟨match aS f x with
   |some u=>BK P t u i
   |none=>none,fun s=> ?_⟩
  rw[y7]
  generalize aS f x=X
  cases X<;>rfl
 case indexAddr t x y=>
  refine⟨match aS f x,aS f y with
   |some u,some v=>bT P t u v
   |_,_=>none,fun s=> ?_⟩
  rw[pz]
  generalize aS f x=X
  generalize aS f y=Y
  cases X<;>cases Y<;>rfl
 case index t x y=>
  refine⟨match aS f x,aS f y with
   |some u,some v=>sA P t u v
   |_,_=>none,fun s=> ?_⟩
  rw[y8]
  generalize aS f x=X
  generalize aS f y=Y
  cases X<;>cases Y<;>rfl
 case extract x i=>
  refine⟨match aS f x with
   |some u=>ba u i
   |none=>none,fun s=> ?_⟩
  rw[tf]
  generalize aS f x=X
  cases X<;>rfl
theorem xu {P:av}{o:a4}(h:fv o=true){f:aW}{s t:aq}{v:a1}{s' :aq}(ha:cS P o f s=some (.val v s')):cS P o f t=some (.val v t):=by
 obtain⟨r,hr⟩:=Sw (P:=P) h f
 rw[hr] at ha
 cases r with
 |none=>cases ha
 |some u=>
  rw[xh] at ha
  injection ha with ha;injection ha with e _;subst e
  rw[hr];rfl
def fD (id:bb):bg AR->bg (a1×jZ)
 |some (.val v s1)=>
  match s1.bR id with
  |some b=>some (v,b)
  |none=>none
 |_=>none
def fK (P:av)(lib:aA)(all:aR a4):aR a4->bb->aW->aq->(aW->aq->Prop)->Prop
 |[],_,f,T,Q=>Q f T
 |o::r,id,f,T,Q=>
  match cT all o f with
  |true=>
   match aP P o,aM P o with
   |true,_=>
    match cS P o f T with
    |some (.val v _)=>bZ v v=true/\fA f o.dst v fun f' =>fK P lib all r id f' T Q
    |_=>False
   |false,true=>
    match fD id (cS P o f ⟨.nil,id⟩) with
    |some (v,b)=>fA f o.dst v fun f' =>fK P lib all r (id+1) f' (T.put id (.dZ b)) Q
    |none=>False
   |false,false=>
    match cS P o f T with
    |some (.val v T')=>fA f o.dst v fun f' =>fK P lib all r id f' T' Q
    |some (.call g args)=>Runs P lib g args T fun v T' =>fA f o.dst v fun f' =>fK P lib all r id f' T' Q
    |none=>False
  |false=>fA f o.dst undef fun f' =>fK P lib all r (if aM P o then id+1 else id) f' T Q
def C9 (P:av)(lib:aA)(all r:aR a4)(id:bb)(f:aW)(T:aq)(d:bg Tmp)(Q:aW->aq->Prop):bg AR->Prop
 |some (.val v _)=>bZ v v=true/\fA f d v fun f' =>fK P lib all r id f' T Q
 |_=>False
def Da (P:av)(lib:aA)(all r:aR a4)(id:bb)(f:aW)(T:aq)(d:bg Tmp)(Q:aW->aq->Prop):bg (a1×jZ)->Prop
 |some (v,b)=>fA f d v fun f' =>fK P lib all r (id+1) f' (T.put id (.dZ b)) Q
 |none=>False
def qa (P:av)(lib:aA)(all r:aR a4)(id:bb)(f:aW)(d:bg Tmp)(T:aq)(Q:aW->aq->Prop):bg AR->Prop
 |some (.val v T')=>fA f d v fun f' =>fK P lib all r id f' T' Q
 |some (.call g args)=>Runs P lib g args T fun v T' =>fA f d v fun f' =>fK P lib all r id f' T' Q
 |none=>False
def tm (P:av)(lib:aA)(all r:aR a4)(id:bb)(f:aW)(d:bg Tmp)(Q:aW->aq->Prop)(v:a1)(T' :aq):Prop:=fA f d v fun f' =>fK P lib all r id f' T' Q
def oQ (P:av)(lib:aA)(all:aR a4)(o:a4)(r:aR a4)(id:bb)(f:aW)(T:aq)(Q:aW->aq->Prop):ec->Prop
 |true=>
  match aP P o,aM P o with
  |true,_=>C9 P lib all r id f T o.dst Q (cS P o f T)
  |false,true=>Da P lib all r id f T o.dst Q (fD id (cS P o f ⟨.nil,id⟩))
  |false,false=>qa P lib all r id f o.dst T Q (cS P o f T)
 |false=>fA f o.dst undef fun f' =>fK P lib all r (if aM P o then id+1 else id) f' T Q
section
variable (P:av) (lib:aA) (all:aR a4) (r:aR a4) (id:bb) (f:aW) (T:aq) (Q:aW->aq->Prop)
theorem zb:fK P lib all [] id f T Q=Q f T:=by simp only[fK]
theorem vI (o:a4):fK P lib all (o::r) id f T Q=oQ P lib all o r id f T Q (cT all o f):=by
 simp only[fK]
 cases cT all o f with
 |false=>rfl
 |true=>
  simp only[oQ]
  cases aP P o with
  |true=>
   simp only
   cases cS P o f T with
   |none=>rfl
   |some a=>cases a<;>rfl
  |false=>
   cases aM P o with
   |true=>
    simp only
    cases fD id (cS P o f ⟨.nil,id⟩) with
    |none=>rfl
    |some a=>rfl
   |false=>
    simp only
    cases cS P o f T with
    |none=>rfl
    |some a=>cases a<;>rfl
theorem Ap (o:a4)(h:aP P o=true):oQ P lib all o r id f T Q true=C9 P lib all r id f T o.dst Q (cS P o f T):=by simp only[oQ,h]
theorem Aq (o:a4)(h:aP P o=false)(h2:aM P o=true):oQ P lib all o r id f T Q true=Da P lib all r id f T o.dst Q (fD id (cS P o f ⟨.nil,id⟩)):=by simp only[oQ,h,h2]
theorem xw (o:a4)(h:aP P o=false)(h2:aM P o=false):oQ P lib all o r id f T Q true=qa P lib all r id f o.dst T Q (cS P o f T):=by simp only[oQ,h,h2]
variable (d:bg Tmp) (ty:c3) (ps:String) (af:Array Edge) (gd:bg (bb×ec))
theorem N6 (o:a4):oQ P lib all o r id f T Q true=bif aP P o then C9 P lib all r id f T o.dst Q (cS P o f T) else bif aM P o then Da P lib all r id f T o.dst Q (fD id (cS P o f ⟨.nil,id⟩)) else qa P lib all r id f o.dst T Q (cS P o f T):=by
 cases hq:aP P o with
 |true=>rw[Ap _ _ _ _ _ _ _ _ _ hq];rfl
 |false=>
  cases ha:aM P o with
  |true=>rw[Aq _ _ _ _ _ _ _ _ _ hq ha];rfl
  |false=>rw[xw _ _ _ _ _ _ _ _ _ hq ha];rfl
theorem GW (o:a4):oQ P lib all o r id f T Q true=if aP P o=true then C9 P lib all r id f T o.dst Q (cS P o f T) else if aM P o=true then Da P lib all r id f T o.dst Q (fD id (cS P o f ⟨.nil,id⟩)) else qa P lib all r id f o.dst T Q (cS P o f T):=by
 rw[N6]
 cases aP P o<;>cases aM P o<;>rfl
theorem qb (op:Op)(t:Tmp):oQ P lib all ⟨some t,op,ty,ps,af,gd⟩ r id f T Q false=if t<f.n then fK P lib all r (bif aM P ⟨some t,op,ty,ps,af,gd⟩ then id+1 else id) (f.put t undef) T Q else False:=by
 unfold oQ;simp only;rw[eV]
 cases aM P ⟨some t,op,ty,ps,af,gd⟩<;>rfl
theorem qc (op:Op):oQ P lib all ⟨none,op,ty,ps,af,gd⟩ r id f T Q false=fK P lib all r (bif aM P ⟨none,op,ty,ps,af,gd⟩ then id+1 else id) f T Q:=by
 unfold oQ;simp only;rw[GA]
 cases aM P ⟨none,op,ty,ps,af,gd⟩<;>rfl
theorem GX (t:Tmp)(v:a1)(s' :aq):C9 P lib all r id f T (some t) Q (some (.val v s'))=if bZ v v=true/\t<f.n then fK P lib all r id (f.put t v) T Q else False:=by
 simp only[C9,eV]
 by_cases h1:bZ v v=true<;>by_cases h2:t<f.n<;>simp[h1,h2]
theorem GY (t:Tmp)(v:a1)(s' :aq):qa P lib all r id f (some t) T Q (some (.val v s'))=if t<f.n then fK P lib all r id (f.put t v) s' Q else False:=by
 simp only[qa,eV]
theorem tn (v:a1)(s' :aq):qa P lib all r id f none T Q (some (.val v s'))=fK P lib all r id f s' Q:=by
 simp only[qa,GA]
theorem Db (g:c7)(args:aR a1):qa P lib all r id f d T Q (some (.call g args))=Runs P lib g args T (tm P lib all r id f d Q):=rfl
theorem Dc (t:Tmp)(v:a1)(s' :aq):tm P lib all r id f (some t) Q v s' =if t<f.n then fK P lib all r id (f.put t v) s' Q else False:=by
 simp only[tm,eV]
theorem Dd (v:a1)(s' :aq):tm P lib all r id f none Q v s' =fK P lib all r id f s' Q:=rfl
end
theorem FC {P:av}{lib:aA}{all r:aR a4}{id:bb}{f:aW}{d:bg Tmp}{Q:aW->aq->Prop}{v:a1}{s' :aq}(F:aW->Prop)(h:F f)(k:∀f,F f->tm P lib all r id f d Q v s'):tm P lib all r id f d Q v s' :=k f h
def KX (P:av)(o:a4):ec:= !fv o&& !aM P o
def IY (P:av)(ops:aR a4):ec:=
 let ms:=cD ops []
 ops.zipIdx.all fun x=>
  (ops.zipIdx.all fun y=> !aM P y.1||(bif b4 y.2 x.2 then !KX P x.1||a7 (dg ms x.2) y.2 else !Nat.testBit (dg ms x.2) y.2))&&
  (!(aP P x.1&& !fv x.1)||(Nat.ble (countP (fun j=> !Nat.testBit (dg ms j) x.2) P ops 0) (countP (fun j=>b4 j x.2) P ops 0)&&eg (countP (a7 (dg ms x.2)) P ops 0) (countP (fun j=>b4 j x.2) P ops 0)))
theorem gA (P:av):∀(l:aR a4) (es:aR Ev) (T:aq),∃r,aH P l es T=T::r:=by
 intro l
 induction l with
 |nil=>intro es T;exact⟨[],by cases es<;>rfl⟩
 |cons o l ih=>
  intro es T
  cases es with
  |nil=>exact⟨[],rfl⟩
  |cons e es=>
   simp only[aH]
   split
   ·exact⟨_,rfl⟩
   ·split
    ·exact⟨_,rfl⟩
    ·exact ih es T
def gr (P:av):aR a4->bb->bb
 |[],_=>0
 |_,0=>0
 |o::r,n+1=>if bp P o then gr P r n+1 else gr P r n
theorem pB (P:av):∀(l:aR a4) (i n:bb),countP (fun j=>b4 j (i+n)) P l i=gr P l n:=by
 intro l
 induction l with
 |nil=>intro i n;cases n<;>rfl
 |cons o l ih=>
  intro i n
  simp only[countP]
  cases n with
  |zero=>
   have h0:∀(l:aR a4) (k:bb),i<=k->countP (fun j=>b4 j (i+0)) P l k=0:=by
    intro l
    induction l with
    |nil=>intro k _;rfl
    |cons p l ihl=>
     intro k hk
     have hb:b4 k (i+0)=false:=by rw[<-cm,cz];omega
     simp only[countP,hb,dT,bo,dD]
     exact ihl (k+1) (by omega)
   have hb:b4 i (i+0)=false:=by rw[<-cm,cz];omega
   simp only[hb,dT,bo,dD,gr]
   exact h0 l (i+1) (by omega)
  |succ n=>
   have hb:b4 i (i+(n+1))=true:=by rw[cz];omega
   have e:i+(n+1)=(i+1)+n:=by omega
   simp only[hb,dU,gr]
   rw[e,ih (i+1) n]
theorem Ar (P:av):∀(a b:aR a4),gr P (a++b) a.length=gr P a a.length:=by
 intro a
 induction a with
 |nil=>intro b;cases b<;>rfl
 |cons o a ih=>intro b;simp only[cp,cg,gr];rw[ih b]
theorem GZ (P:av)(o:a4):∀(a:aR a4),gr P (a++[o]) (a++[o]).length=if bp P o then gr P a a.length+1 else gr P a a.length:=by
 intro a
 induction a with
 |nil=>rfl
 |cons p a ih=>simp only[cp,cg,gr];rw[ih];split<;>split<;>rfl
theorem oR (p:bb->ec):∀(a b:aR (bb×bb×jZ)) (T:aq),Cl.fill p T (a++b)=Cl.fill p (Cl.fill p T a) b:=by
 intro a
 induction a with
 |nil=>intro b T;rfl
 |cons x a ih=>
  intro b T
  obtain⟨j,id,bk⟩:=x
  simp only[cp,Cl.fill]
  split
  ·exact ih _ _
  ·exact ih _ _
theorem G1 (p:bb->ec):∀(a:aR (bb×bb×jZ)) (T:aq),(∀x∈a,p x.1=false)->Cl.fill p T a=T:=by
 intro a
 induction a with
 |nil=>intro T _;rfl
 |cons x a ih=>
  intro T h
  obtain⟨j,id,bk⟩:=x
  have hj:p j=false:=h (j,id,bk) (a3 ..)
  simp only[Cl.fill,hj]
  exact ih T (fun y hy=>h y (bn _ hy))
theorem G2 (p:bb->ec):∀(a:aR (bb×bb×jZ)) (T:aq),(∀x∈a,T.heap.get x.2.1≠none)->Cl.fill p T a=T:=by
 intro a
 induction a with
 |nil=>intro T _;rfl
 |cons x a ih=>
  intro T h
  obtain⟨j,id,bk⟩:=x
  have hj:T.heap.get id≠none:=h (j,id,bk) (a3 ..)
  simp only[Cl.fill]
  split
  ·rename_i _ hn;exact ed hn hj
  ·exact ih T (fun y hy=>h y (bn _ hy))
structure Stands (s0:aq) (K:bb) (i id:bb) (ava:aR (bb×bb×jZ)) (T U:aq):Prop where
 fill:∀p:bb->ec,(∀x∈ava,p x.1=true)->Cl.fill p T ava=U
 here:∀x∈ava,U.heap.get x.2.1≠none
 before:∀x∈ava,x.1<i
 lo:s0.next<=id
 free:∀k,id<=k->k<s0.next+K->U.heap.get k=none
 next:s0.next+K<=U.next
 keeps:bW s0 U
theorem FD {P:av}{lib:aA}{all:aR a4}(s0:aq)(w7:aR bb){Q:aW->aq->Prop}
  (adw:∀(o:a4) (i:bb),all[i]?=some o->aP P o=true->fv o=false->countP (fun j=> !Nat.testBit (dg w7 j) i) P all 0<=gr P all i/\countP (a7 (dg w7 i)) P all 0=gr P all i)
  (VH:∀(o p:a4) (i j:bb),all[i]?=some o->all[j]?=some p->aM P p=true->j<i->KX P o=true->a7 (dg w7 i) j=true)
  (adx:∀(o p:a4) (i j:bb),all[i]?=some o->all[j]?=some p->aM P p=true->i<=j->a7 (dg w7 i) j=false):
  ∀(l pre:aR a4) (ms:aR bb) (id:bb) (f:aW) (T U:aq) (ava:aR (bb×bb×jZ)),all=pre++l->ms=w7.drop pre.length->ms.length=l.length->id+aT P l<=s0.next+aT P all->Stands s0 (aT P all) pre.length id ava T U->(∀x∈ava,∃p,all[x.1]?=some p/\aM P p=true)->fK P lib all l id f U Q->
  ∃es f' T' U',(∃n,∀m,n<=m->cO P (gX P lib m) all ms l pre.length id f T ava=some es)/\(aH P l es T).getLastD T=T' /\cU l es f=f' /\Cl.fill (fun _=>true) T' (ava++madeOf es pre.length)=U' /\
   (∀x∈madeOf es pre.length,pre.length<=x.1/\∃p,all[x.1]?=some p/\aM P p=true)/\
   (∀pQ before,pQ=before++aH P l es T->before.length=gr P pre pre.length->cE P all w7 (ava++madeOf es pre.length) pQ ms l es pre.length f=true)/\bW s0 U' /\Q f' U' :=by
 intro l
 induction l with
 |nil=>
  intro pre ms id f T U ava _ _ hl _ aE _ hw
  rw[zb] at hw
  cases ms with
  |cons m r=>simp at hl
  |nil=>exact⟨[],f,T,U,⟨0,fun _ _=>rfl⟩,rfl,rfl,by simp only[madeOf,dx];exact aE.fill _ (fun _ _=>rfl),(fun x hx=>by simp[madeOf] at hx),fun _ _ _ _=>rfl,aE.keeps,hw⟩
 |cons o r ih=>
  intro pre ms id f T U ava eC Qj hl gz aE has hw
  cases ms with
  |nil=>simp at hl
  |cons m ms=>
  have KM:ms.length=r.length:=by simpa using hl
  have xx:all=(pre++[o])++r:=by rw[eC,bz];rfl
  have eU:(pre++[o]).length=pre.length+1:=by simp
  have IZ:ms=w7.drop (pre++[o]).length:=by
   rw[eU,<-dH,<-Qj];rfl
  have hmA:dg w7 pre.length=m:=by
   have zc:∀(L:aR bb) (k:bb) (x:bb) (t:aR bb),L.drop k=x::t->dg L k=x:=by
    intro L
    induction L with
    |nil=>intro k x t h;simp at h
    |cons y L So=>
     intro k x t h
     cases k with
     |zero=>simp at h;exact h.1
     |succ k=>simp only[List.drop_succ_cons] at h;simp only[dg];exact So k x t h
   exact zc w7 pre.length m ms Qj.symm
  have ky:all[pre.length]?=some o:=by rw[eC];simp
  have Qy:gr P all pre.length=gr P pre pre.length:=by rw[eC,Ar]
  have I0:=GZ P o pre
  have nL:∀(v:a1) (id' :bb) (U' :aq),(fA f o.dst v fun f' =>fK P lib all r id' f' U' Q)->∃f1,kX f o.dst v=some f1/\fK P lib all r id' f1 U' Q:=by
   intro v id' U' h
   unfold fA at h
   split at h
   ·exact⟨_,‹_›,h⟩
   ·exact h.elim
  have mX:aT P (o::r)=if aM P o then aT P r+1 else aT P r:=rfl
  have De:KX P o=true->Cl.fill (a7 m) T ava=U:=fun hn=>aE.fill _ (fun x hx=>by
   obtain⟨p,hp,UN⟩:=has x hx
   rw[<-hmA]
   exact VH o p pre.length x.1 ky hp UN (aE.before x hx) hn)
  rw[vI] at hw
  cases yA:cT all o f with
  |false=>
   rw[yA] at hw
   obtain⟨f1,hp,hw⟩:=nL _ _ _ hw
   have dO:Stands s0 (aT P all) (pre++[o]).length (if aM P o then id+1 else id) ava T U:=by
    refine⟨aE.fill,aE.here,fun x hx=>by have:=aE.before x hx;omega,by have:=aE.lo;split<;>omega,fun k hk oB=>aE.free k (by split at hk<;>omega) oB,aE.next,aE.keeps⟩
   obtain⟨es,f',T',U',⟨n,h1⟩,h3,h4,hf,xy,h5,hk,h6⟩:=ih (pre++[o]) ms _ f1 T U ava xx IZ KM (by rw[mX] at gz;split<;>split at gz<;>first|omega|contradiction) dO has hw
   rw[eU] at h1 h5 hf xy
   refine⟨.skip::es,f',T',U',⟨n,fun q hq=> ?_⟩,?_,by simp only[cU,Ev.val,hp,h4],by simp only[madeOf];exact hf,(fun x hx=>by simp only[madeOf] at hx;obtain⟨a,b⟩:=xy x hx;exact⟨by omega,b⟩),fun pQ before hs hb=> ?_,hk,h6⟩
   ·simp only[cO,ei,yA,Ev.val,hp]
    rw[h1 q hq]
   ·simp only[aH]
    split
    ·obtain⟨rr,hr⟩:=gA P r es T
     rw[hr] at h3|-
     rw[a9] at h3|-
     rw[a9];exact h3
    ·exact h3
   ·simp only[cE,Ev.val,hp,cd,madeOf]
    simp only[aH] at hs
    split at hs
    ·rename_i he
     refine h5 pQ (before++[T]) (by rw[hs,bz];rfl) ?_
     rw[<-eU,I0,dX he,b8,hb];rfl
    ·rename_i he
     refine h5 pQ before hs ?_
     rw[<-eU,I0,b5 he,hb]
  |true=>
   rw[yA] at hw
   cases hq:aP P o with
   |true=>
    rw[Ap _ _ _ _ _ _ _ _ _ hq] at hw
    have cH:=lA hq
    have N1:=mC hq
    rw[mX,b5 (by simp[N1])] at gz
    unfold C9 at hw
    split at hw
    case h_2=>exact hw.elim
    rename_i v s1 fY
    obtain⟨hv,hw⟩:=hw
    obtain⟨f1,hp,hw⟩:=nL _ _ _ hw
    have dO:Stands s0 (aT P all) (pre++[o]).length id ava T U:=⟨aE.fill,aE.here,fun x hx=>by have:=aE.before x hx;omega,aE.lo,aE.free,aE.next,aE.keeps⟩
    obtain⟨es,f',T',U',⟨n,h1⟩,h3,h4,hf,xy,h5,hk,h6⟩:=ih (pre++[o]) ms id f1 T U ava xx IZ KM gz dO has hw
    rw[eU] at h1 h5 hf xy
    have sZ:∃s2,cS P o f (Cl.fill (a7 m) T ava)=some (.val v s2):=by
     cases vJ:fv o with
     |true=>exact⟨_,xu vJ fY⟩
     |false=>exact⟨s1,by rw[De (by simp[KX,vJ,N1])];exact fY⟩
    obtain⟨s2,sZ⟩:=sZ
    refine⟨.quiet v::es,f',T',U',⟨n,fun q Sx=> ?_⟩,?_,by simp only[cU,Ev.val,hp,h4],by simp only[madeOf];exact hf,(fun x hx=>by simp only[madeOf] at hx;obtain⟨a,b⟩:=xy x hx;exact⟨by omega,b⟩),fun pQ before hs hb=> ?_,hk,h6⟩
    ·simp only[cO,ei,yA,hq,sZ,Ev.val,hp,N1]
     rw[b5 (by simp),h1 q Sx]
    ·simp only[aH,cH];simpa using h3
    ·have BZ:pQ=before++aH P r es T:=by simpa [aH,cH] using hs
     simp only[cE,Ev.val,hp,madeOf]
     rw[h5 pQ before BZ (by rw[<-eU,I0,b5 (by simp[cH]),hb]),dU]
     have hfw:∀X:aq,Cl.fill (a7 m) X (ava++madeOf es (pre.length+1))=Cl.fill (a7 m) X ava:=by
      intro X
      rw[oR,G1 _ (madeOf es (pre.length+1))]
      intro x hx
      obtain⟨a,p,Vo,UN⟩:=xy x hx
      rw[<-hmA]
      exact adx o p pre.length x.1 ky Vo UN (by omega)
     have wL:∀(L:aR aq),(fv o=false->∀x∈L,x=T)->sameAt P m (ava++madeOf es (pre.length+1)) o f v L=true:=by
      intro L
      induction L with
      |nil=>intro _;rfl
      |cons x L So=>
       intro hx
       simp only[sameAt,hfw]
       have:∃s3,cS P o f (Cl.fill (a7 m) x ava)=some (.val v s3):=by
        cases vJ:fv o with
        |true=>exact⟨_,xu vJ fY⟩
        |false=>rw[hx vJ x (a3 ..)];exact⟨s2,sZ⟩
       obtain⟨s3,fB⟩:=this
       rw[fB]
       simp only[hv,cd]
       exact So (fun vJ y hy=>hx vJ y (bn _ hy))
     refine wL _ (fun vJ x hx=> ?_)
     obtain⟨t1,t2⟩:=adw o pre.length ky hq vJ
     rw[hmA] at t2
     rw[t2] at hx
     obtain⟨rr,hr⟩:=gA P r es T
     rw[Qy,<-hb,dI,BZ,hr,List.drop_left] at hx
     have lz:countP (fun j=> !Nat.testBit (dg w7 j) pre.length) P all 0+1-before.length<=1:=by omega
     generalize countP (fun j=> !Nat.testBit (dg w7 j) pre.length) P all 0+1-before.length=k at hx lz
     cases k with
     |zero=>simp at hx
     |succ k=>
      obtain rfl:k=0:=by omega
      simpa using hx
   |false=>
    cases ha:aM P o with
    |true=>
     rw[Aq _ _ _ _ _ _ _ _ _ hq ha] at hw
     rw[mX,dX ha] at gz
     have cH:bp P o=false:=by simp[bp,ha]
     unfold Da at hw
     split at hw
     case h_2=>exact hw.elim
     rename_i v b fY
     obtain⟨f1,hp,hw⟩:=nL _ _ _ hw
     have adA:∃s1,cS P o f ⟨.nil,id⟩=some (.val v s1)/\s1.bR id=some b:=by
      unfold fD at fY
      split at fY
      ·rename_i v1 s1 h1
       split at fY
       ·rename_i b1 gL
        injection fY with fY;injection fY with e1 e2;subst e1;subst e2
        exact⟨s1,h1,gL⟩
       ·cases fY
      ·cases fY
     obtain⟨s1,ux,fN⟩:=adA
     have mP:=aE.free id (a6 _) (by omega)
     have bd:id<U.next:=by have:=aE.next;omega
     have dO:Stands s0 (aT P all) (pre++[o]).length (id+1) (ava++[(pre.length,id,b)]) T (U.put id (.dZ b)):=by
      refine⟨fun p hp=> ?_,fun x hx=> ?_,fun x hx=> ?_,by have:=aE.lo;omega,fun k hk oB=> ?_,by have:=aE.next;simpa [aq.put] using this,?_⟩
      ·rw[oR,aE.fill p (fun x hx=>hp x (c5 _ hx))]
       have Qb:p pre.length=true:=hp (pre.length,id,b) (cR _ (a3 ..))
       simp only[Cl.fill,Qb,mP]
      ·rcases cB.mp hx with hx|hx
       ·have hh:=aE.here x hx
        have:x.2.1≠id:=fun e=>hh (by rw[e];exact mP)
        rw[aq.bP _ _ _ _ (Ne.symm this)];exact hh
       ·rw[ca] at hx;subst hx
        simp only[aq.put,Tr.bD _ _ _ _ (deep (by omega))];simp
      ·rcases cB.mp hx with hx|hx
       ·have:=aE.before x hx;omega
       ·rw[ca] at hx;subst hx;simp
      ·rw[aq.bP _ _ _ _ (by omega)];exact aE.free k (by omega) oB
      ·have hk:=aE.keeps
       refine⟨hk.next,fun j hj hn=> ?_,fun j hj=> ?_,⟨by omega,fun j ob hj=> ?_⟩⟩
       ·have:=aE.lo
        rw[aq.bP _ _ _ _ (by omega)];exact hk.gone j hj hn
       ·by_cases gR:id=j
        ·subst gR;simp only[aq.put,Tr.bD _ _ _ _ (deep (by omega))];simp
        ·rw[aq.bP _ _ _ _ gR];exact hk.here j hj
       ·by_cases gR:id=j
        ·subst gR;simpa [aq.put] using bd
        ·rw[aq.bP _ _ _ _ gR] at hj;have:=hk.wf.bound j ob hj;simpa [aq.put] using this
     have adB:∀x∈ava++[(pre.length,id,b)],∃p,all[x.1]?=some p/\aM P p=true:=by
      intro x hx
      rcases cB.mp hx with hx|hx
      ·exact has x hx
      ·rw[ca] at hx;subst hx;exact⟨o,ky,ha⟩
     obtain⟨es,f',T',U',⟨n,h1⟩,h3,h4,hf,xy,h5,hk,h6⟩:=ih (pre++[o]) ms (id+1) f1 T _ _ xx IZ KM (by omega) dO adB hw
     rw[eU] at h1 h5 hf xy
     have hap:∀L,ava++(pre.length,id,b)::L=(ava++[(pre.length,id,b)])++L:=fun L=>by rw[bz];rfl
     refine⟨.made v id b::es,f',T',U',⟨n,fun q Sx=> ?_⟩,?_,by simp only[cU,Ev.val,hp,h4],by simp only[madeOf];rw[hap];exact hf,(fun x hx=> ?_),fun pQ before hs hb=> ?_,hk,h6⟩
     ·simp only[cO,ei,yA,hq,ha,ux,fN,Ev.val,hp,cv]
      rw[h1 q Sx]
     ·simp only[aH,cH];simpa using h3
     ·simp only[madeOf] at hx
      rcases List.mem_cons.mp hx with rfl|hx
      ·exact⟨a6 _,o,ky,ha⟩
      ·obtain⟨a,c⟩:=xy x hx;exact⟨by omega,c⟩
     ·simp only[cE,Ev.val,hp,cd,madeOf]
      rw[hap]
      have BZ:pQ=before++aH P r es T:=by simpa [aH,cH] using hs
      exact h5 pQ before BZ (by rw[<-eU,I0,b5 (by simp[cH]),hb])
    |false=>
     rw[xw _ _ _ _ _ _ _ _ _ hq ha] at hw
     rw[mX,b5 (by simp[ha])] at gz
     have he:bp P o=true:=by simp[bp,hq,ha]
     have vJ:fv o=false:=by
      cases vJ:fv o with
      |false=>rfl
      |true=>rw[C8 vJ] at hq;cases hq
     have hU:=De (by simp[KX,vJ,ha])
     have fin:∀(v:a1) (U1:aq) (n0:bb),(∀q,n0<=q->ei P (gX P lib q) all m id ava o f T=some (.E9 v U1))->bW U U1->(fA f o.dst v fun f' =>fK P lib all r id f' U1 Q)->
       ∃es f' T' U',(∃n,∀m',n<=m' ->cO P (gX P lib m') all (m::ms) (o::r) pre.length id f T ava=some es)/\(aH P (o::r) es T).getLastD T=T' /\cU (o::r) es f=f' /\Cl.fill (fun _=>true) T' (ava++madeOf es pre.length)=U' /\
        (∀x∈madeOf es pre.length,pre.length<=x.1/\∃p,all[x.1]?=some p/\aM P p=true)/\
        (∀pQ before,pQ=before++aH P (o::r) es T->before.length=gr P pre pre.length->cE P all w7 (ava++madeOf es pre.length) pQ (m::ms) (o::r) es pre.length f=true)/\bW s0 U' /\Q f' U' :=by
      intro v U1 n0 hd Sy hw
      obtain⟨f1,hp,hw⟩:=nL _ _ _ hw
      have KY:∀x∈ava,U1.heap.get x.2.1≠none:=fun x hx=>Sy.here _ (aE.here x hx)
      have dO:Stands s0 (aT P all) (pre++[o]).length id ava U1 U1:=by
       refine⟨fun p hp=>G2 p ava U1 KY,KY,fun x hx=>by have:=aE.before x hx;omega,aE.lo,fun k hk oB=>Sy.gone k (by have:=aE.next;omega) (aE.free k hk oB),by have:=aE.next;have:=Sy.next;omega,aE.keeps.trans Sy⟩
      obtain⟨es,f',T',U',⟨n,h1⟩,h3,h4,hf,xy,h5,hk,h6⟩:=ih (pre++[o]) ms id f1 U1 U1 ava xx IZ KM gz dO has hw
      rw[eU] at h1 h5 hf xy
      refine⟨.E9 v U1::es,f',T',U',⟨n+n0,fun q Sx=> ?_⟩,?_,by simp only[cU,Ev.val,hp,h4],by simp only[madeOf];exact hf,(fun x hx=>by simp only[madeOf] at hx;obtain⟨a,b⟩:=xy x hx;exact⟨by omega,b⟩),fun pQ before hs hb=> ?_,hk,h6⟩
      ·simp only[cO,hd q (by omega),Ev.val,hp,ha]
       rw[b5 (by simp),h1 q (by omega)]
      ·simp only[aH]
       obtain⟨rr,hr⟩:=gA P r es U1
       rw[hr] at h3|-
       rw[a9] at h3|-
       rw[a9];exact h3
      ·simp only[cE,Ev.val,hp,cd,madeOf]
       simp only[aH] at hs
       refine h5 pQ (before++[T]) (by rw[hs,bz];rfl) ?_
       rw[<-eU,I0,dX he,b8,hb];rfl
     unfold qa at hw
     split at hw
     case h_3=>exact hw.elim
     ·rename_i v U1 fY
      exact fin v U1 0 (fun q _=>by simp only[ei,yA,hq,ha,hU,fY]) (yV aE.keeps.wf fY) hw
     ·rename_i g args fY
      obtain⟨v,U1,⟨nc,hc⟩,Sy,hw⟩:=hw aE.keeps.wf
      exact fin v U1 nc (fun q Sx=>by simp only[ei,yA,hq,ha,hU,fY,hc q Sx]) Sy hw
def spare (s:aq)(k:bb):aq:=⟨s.heap,s.next+k⟩
theorem qT (s:aq):spare s 0=s:=rfl
theorem bU (s:aq)(k:bb):(spare s k).next=s.next+k:=rfl
theorem ar.spare (s:aq)(k:bb):ar s.next s (spare s k):=⟨by simp[Cl.spare],fun _ _=>rfl⟩
theorem cX.tight {P:av}{lib:aA}{ops:aR a4}(ht:IY P ops=true){f:aW}{s:aq}{Q:aW->aq->Prop}(h:fK P lib ops ops s.next f (spare s (aT P ops)) Q):cX P lib ops f s Q:=by
 intro qC
 simp only[IY,List.all_eq_true,dv,Bool.or_eq_true,Bool.not_eq_true'] at ht
 have pT:∀(o:a4) (i:bb),ops[i]?=some o->(o,i)∈ops.zipIdx:=fun o i hi=>by rw[List.mem_zipIdx_iff_getElem?];simpa using hi
 have Qj:(cD ops []).length=ops.length:=by
  obtain⟨r,h1,h2⟩:=nm ops []
  rw[h1];simpa using h2
 have mP:∀k,s.next<=k->s.heap.get k=none:=fun k lz=>by
  cases hg:s.heap.get k with
  |none=>rfl
  |some o=>have:=qC.bound k o hg;omega
 have RT:bW s (spare s (aT P ops)):=⟨by simp[spare],fun _ _ h=>h,fun _ h=>h,⟨by omega,fun j o hj=>by have:=qC.bound j o hj;simp only[spare];omega⟩⟩
 obtain⟨es,f',T',U',⟨n,h1⟩,h3,h4,hf,xy,h5,hk,h6⟩:=FD (P:=P) (lib:=lib) (all:=ops) s (cD ops []) (Q:=Q) (fun o i hi hq hp=>by
   have:=(ht (o,i) (pT o i hi)).2
   have J0:=pB P ops 0 i
   rw[ea] at J0
   rcases this with h|h
   ·simp[hq,hp] at h
   ·obtain⟨t1,t2⟩:=h
    rw[J0] at t1 t2
    exact⟨by simpa [Nat.ble_eq] using t1,by simpa [ee] using t2⟩)
  (fun o p i j hi hj ha gR hn=>by
   have:=(ht (o,i) (pT o i hi)).1 (p,j) (pT p j hj)
   have hb:b4 j i=true:=by simpa [cz] using gR
   simp only[ha,hb,cond_true,hn] at this
   simpa using this)
  (fun o p i j hi hj ha ua=>by
   have:=(ht (o,i) (pT o i hi)).1 (p,j) (pT p j hj)
   have hb:b4 j i=false:=by rw[<-cm,cz];omega
   simp only[ha,hb,cond_false] at this
   simpa using this)
  ops [] (cD ops []) s.next f (spare s (aT P ops)) (spare s (aT P ops)) [] rfl rfl Qj (by omega)
  ⟨fun _ _=>rfl,fun _ hx=>(by cases hx),fun _ hx=>(by cases hx),a6 _,fun k lz _=>mP k lz,by simp[spare],RT⟩ (fun _ hx=>(by cases hx)) h
 simp only[List.nil_append,a5] at h1 h5 hf xy
 refine⟨f',U',⟨n,fun m hm=> ?_⟩,hk,h6⟩
 unfold fH
 have Zv:=h1 m hm
 have hb:Nat.ble 0 16000000=true:=rfl
 simp only[]
 show(match cO P (gX P lib m) ops (cD ops []) ops 0 s.next f (spare s (aT P ops)) [] with
  |some es=>match cE P ops (cD ops []) (madeOf es 0) (aH P ops es (spare s (aT P ops))) (cD ops []) ops es 0 f with
   |true=>some (cU ops es f,Cl.fill (fun _=>true) ((aH P ops es (spare s (aT P ops))).getLastD s) (madeOf es 0))
   |false=>none
  |none=>none)=_
 rw[Zv]
 have h5' :=h5 (aH P ops es (spare s (aT P ops))) [] rfl rfl
 simp only[h5',h4]
 obtain⟨rr,hr⟩:=gA P ops es (spare s (aT P ops))
 rw[hr] at h3|-
 rw[a9] at h3|-
 rw[h3,hf]
theorem cX.zd {P:av}{lib:aA}{ops:aR a4}{f:aW}{s:aq}{Q:aW->aq->Prop}(k:bb)(ht:IY P ops=true)(hk:eg (aT P ops) k=true)(h:fK P lib ops ops s.next f (spare s k) Q):GD P lib ops f s Q false:=by
 have:aT P ops=k:=by simpa [ee] using hk
 exact cX.tight ht (by rw[this];exact h)
theorem cX.vK {P:av}{lib:aA}{ops:aR a4}{f:aW}{s:aq}{Q:aW->aq->Prop}(ht:(IY P ops&&eg (aT P ops) 0)=true)(h:fK P lib ops ops s.next f s Q):GD P lib ops f s Q false:=by
 rw[dv] at ht
 exact cX.zd 0 ht.1 ht.2 h
end Go.Cl
