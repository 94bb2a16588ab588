/-
 The clean machine, part 23: more fuel turns no answer; a closed call, evaluated once, answers alike beside whatever lies there.
-/
import Derived.Test.YtdfjfncifneocaaGreatMem
import Derived.Test.YtdfjfncifneocaaGreatMcB
import Derived.ProofKit
import Derived.OpenShut
import Derived.Carry
import Derived.ChangeSlices
import Derived.WideShapes
namespace Go.Cl
abbrev Bi (c1 c2:FuncId->List Value->aq->Option (Value×aq)):Prop:=∀g a s r,c1 g a s=some r->c2 g a s=some r
theorem Hk {P:Program}{c1 c2:FuncId->List Value->aq->Option (Value×aq)}(h:Bi c1 c2)(all:List Oper):∀(l:List Oper) (f:aR) (s:aq) (r:aR×aq),gn P c1 all l f s=some r->gn P c2 all l f s=some r:=by
 intro l
 induction l with
 |nil=>intro f s r hr;exact hr
 |cons o l ih=>
  intro f s r hr
  simp only[gn] at hr|-
  split at hr
  ·rename_i hw
   rw[if_pos hw]
   split at hr
   ·rename_i v s1 dZ
    split at hr
    ·rename_i f1 hp;exact ih _ _ _ hr
    ·cases hr
   ·rename_i g args dZ
    split at hr
    ·rename_i v s1 hc
     split at hr
     ·rename_i f1 hp;simp only[h _ _ _ _ hc,hp];exact ih _ _ _ hr
     ·cases hr
    ·cases hr
   ·cases hr
  ·rename_i hw
   rw[if_neg hw]
   split at hr
   ·rename_i f1 hp;exact ih _ _ _ hr
   ·cases hr
theorem Hl {P:Program}{c1 c2:FuncId->List Value->aq->Option (Value×aq)}(h:Bi c1 c2){all:List Oper}{m id:Nat}{zS:List (Nat×Nat×iC)}{o:Oper}{f:aR}{T:aq}{e:Ev}(hd:cV P c1 all m id zS o f T=some e):cV P c2 all m id zS o f T=some e:=by
 unfold cV at*
 split at hd
 ·exact hd
 ·split at hd
  ·exact hd
  ·exact hd
  ·split at hd
   ·exact hd
   ·rename_i g args h1
    split at hd
    ·rename_i v s1 hc;simp only[h _ _ _ _ hc];exact hd
    ·cases hd
   ·cases hd
theorem Fw {P:Program}{c1 c2:FuncId->List Value->aq->Option (Value×aq)}(h:Bi c1 c2)(all:List Oper):∀(l:List Oper) (ms:List Nat) (i id:Nat) (f:aR) (T:aq) (zS:List (Nat×Nat×iC)) (es:List Ev),bQ P c1 all ms l i id f T zS=some es->bQ P c2 all ms l i id f T zS=some es:=by
 intro l
 induction l with
 |nil=>intro ms i id f T zS es hd;cases ms<;>exact hd
 |cons o l ih=>
  intro ms i id f T zS es hd
  cases ms with
  |nil=>exact hd
  |cons m ms=>
   simp only[bQ] at hd|-
   split at hd
   ·rename_i e he
    split at hd
    ·rename_i f1 hp
     split at hd
     ·rename_i Gu h1;simp only[Hl h he,hp,ih _ _ _ _ _ _ _ h1];exact hd
     ·cases hd
    ·cases hd
   ·cases hd
theorem Fy {P:Program}{c1 c2:FuncId->List Value->aq->Option (Value×aq)}(h:Bi c1 c2){ops:List Oper}{f:aR}{s:aq}{r:aR×aq}(hd:fj P c1 ops f s=some r):fj P c2 ops f s=some r:=by
 unfold fj at*
 split at hd
 ·cases hd
 ·split at hd
  ·rename_i es he;simp only[Fw h _ _ _ _ _ _ _ _ _ he];exact hd
  ·cases hd
abbrev PM (e1 e2:Code->aR->aq->Out):Prop:=∀c f s r,e1 c f s=some r->e2 c f s=some r
theorem oG {P:Program}{lib:ay}{e1 e2:Code->aR->aq->Out}(h:PM e1 e2):Bi (eG P lib e1) (eG P lib e2):=by
 intro g a s r hc
 unfold eG at*
 split at hc
 ·exact hc
 ·split at hc
  ·rename_i fn hf
   split at hc
   ·rename_i c hb hn
    split at hc
    ·rename_i f1 s1 he;simp only[h _ _ _ _ he];exact hc
    ·rename_i f1 s1 he;simp only[h _ _ _ _ he];exact hc
    ·cases hc
   ·cases hc
  ·cases hc
theorem Ng {P:Program}{lib:ay}{e1 e2:Code->aR->aq->Out}(h:PM e1 e2):PM (step P lib e1) (step P lib e2):=by
 intro c f s r hr
 cases c with
 |region id ops d=>
  simp only[step] at hr|-
  cases d with
  |false=>
   simp only at hr|-
   split at hr
   ·rename_i h1;simp only[Hk (oG h) _ _ _ _ _ h1];exact hr
   ·cases hr
  |true=>
   simp only at hr|-
   split at hr
   ·rename_i h1;simp only[Fy (oG h) h1];exact hr
   ·cases hr
 |seq a b=>
  simp only[step] at hr|-
  split at hr
  ·rename_i f1 s1 h1;simp only[h _ _ _ _ h1];exact h _ _ _ _ hr
  ·rename_i h1
   have:=h _ _ _ _ hr
   rw[this]
   cases r with
   |mk x r=>
    cases x with
    |normal=>exact absurd hr (h1 _ _)
    |exit=>rfl
    |ret=>rfl
 |cond x a b=>
  simp only[step] at hr|-
  split at hr
  ·rename_i t ht
   split at hr
   ·exact h _ _ _ _ hr
   ·exact h _ _ _ _ hr
  ·cases hr
 |block id a=>
  simp only[step] at hr|-
  split at hr
  ·rename_i j f1 s1 h1;simp only[h _ _ _ _ h1];exact hr
  ·rename_i h1
   have:=h _ _ _ _ hr
   rw[this]
   cases r with
   |mk x r=>
    cases x with
    |normal=>rfl
    |exit=>exact absurd hr (h1 _ _ _)
    |ret=>rfl
 |loop a=>
  simp only[step] at hr|-
  split at hr
  ·rename_i f1 s1 h1;simp only[h _ _ _ _ h1];exact h _ _ _ _ hr
  ·rename_i h1
   have:=h _ _ _ _ hr
   rw[this]
   cases r with
   |mk x r=>
    cases x with
    |normal=>exact absurd hr (h1 _ _)
    |exit=>rfl
    |ret=>rfl
 |scope a=>simp only[step] at hr|-;exact h _ _ _ _ hr
 |skip=>exact hr
 |label l=>exact hr
 |exit id=>exact hr
 |ret=>exact hr
 |rangeFunc=>simp[step] at hr
 |goto=>simp[step] at hr
 |refuse=>simp[step] at hr
theorem Nh {P:Program}{lib:ay}:∀n,PM (exec P lib n) (exec P lib (n+1)):=by
 intro n
 induction n with
 |zero=>intro c f s r h;simp[exec] at h
 |succ n ih=>exact Ng ih
theorem Fz {P:Program}{lib:ay}{n m:Nat}(h:n<=m):PM (exec P lib n) (exec P lib m):=by
 induction m with
 |zero=>obtain rfl:n=0:=by omega
        exact fun _ _ _ _ h=>h
 |succ m ih=>
  by_cases hn:n=m+1
  ·subst hn;exact fun _ _ _ _ h=>h
  ·exact fun c f s r hr=>Nh m c f s r (ih (by omega) c f s r hr)
theorem Runs.S6 {P:Program}{lib:ay}(hl:ln lib){n:Nat}{g:FuncId}{args:List Value}{s:aq}{v:Value}{s' :aq}{Q:Value->aq->Prop}(h:fx P lib n g args s=some (v,s'))(hq:Q v s'):Runs P lib g args s Q:=
 fun mE=>⟨v,s',⟨n,fun _ hm=>oG (Fz hm) _ _ _ _ h⟩,by obtain⟨_,_,_,k⟩:=G7 hl n _ _ _ _ _ _ _ (cP.refl s) mE h;exact k,hq⟩
theorem Runs.closed {P:Program}{lib:ay}(hl:ln lib){n k:Nat}{g:FuncId}(h:q7 (fx P lib n g [] ⟨.nil,k⟩)=true){s:aq}(hk:s.next=k)(hw:WF s):Runs P lib g [] s fun v s' =>v= .bool true/\ar s.next s s' /\WF s' :=by
 unfold q7 at h
 split at h
 case h_2=>cases h
 rename_i b t hc
 subst h
 have R6:WF ⟨.nil,k⟩:=⟨by omega,fun j o hj=>by simp[Tr.get] at hj⟩
 have ha:cP ⟨.nil,k⟩ s (fun j=>s.heap.get j):=⟨hk,fun j o hj=>⟨rfl,by show j<k;rw[<-hk];exact hw.bound j o hj⟩,fun j=>by simp only[Tr.get];cases s.heap.get j<;>rfl⟩
 obtain⟨t',h1,h2,h3⟩:=G7 hl n _ _ _ _ _ _ _ ha R6 hc
 refine Runs.S6 hl h1 ⟨rfl,⟨by rw[h2.next,hk];exact h3.next,fun i hi=> ?_⟩,⟨by omega,fun j o hj=> ?_⟩⟩
 ·rw[h2.get i]
  cases hx:s.heap.get i with
  |some o=>rfl
  |none=>exact h3.gone i (by show i<k;omega) rfl
 ·rw[h2.get j] at hj
  rw[h2.next]
  cases hx:s.heap.get j with
  |some o=>have:=hw.bound j o hx;have:=h3.next;show j<t.next;have e:(⟨Tr.nil,k⟩:aq).next=k:=rfl;omega
  |none=>rw[hx] at hj;exact h3.wf.bound j o hj
end Go.Cl
namespace Go.Cl
open Go.RowKit Go.ChangeShapes Go.WideShapes
structure mh (W:World) (S:St):Prop where
 sr:SR W.heap.size S
 w:S.w=W
 own:∀i b,S.s.bK i=some b->b.own=false
 map:∀i,S.s.dR i=none
theorem mh.start (W:World):mh W (St.start W):=
 ⟨SR.start W,rfl,fun i b h=>by simp[St.start,aq.empty,aq.bK,Tr.get] at h,fun i=>by simp[St.start,aq.empty,aq.dR,Tr.get]⟩
def St.da (S:St)(b:iC)(a:Nat×Nat):St:=⟨S.s.new (.dL b),⟨fun j c=>if j=S.s.next then a else S.e.loc j c,S.e.mp⟩,S.w⟩
theorem mh.push {W:World}{S:St}(h:mh W S)(b:iC)(a:Nat×Nat)(kI:b.own=false)(gC:1<=b.low)(fy:∀c,Live b c->c=b.cells.length+1)
  (nC:∀c,Live b c->a.1<W.heap.size) (iN:∀c,Live b c->∀p,p<b.cells.length->∃v,W.cell? ⟨a.1,a.2+p,none⟩=some v/\VR S (b.cells.getD p undef) v):
  mh W (S.da b a)/\Ext S (S.da b a)/\ar S.s.next S.s (S.da b a).s/\(S.da b a).s.next=S.s.next+1:=by
 have hw:=h.w
 have ir:(S.da b a).s.bK S.s.next=some b:=lh S.s b
 have aA:ar S.s.next S.s (S.da b a).s:=ar.new S.s _
 have hold:∀j b',(S.da b a).s.bK j=some b' ->(j=S.s.next/\b' =b)\/(j<S.s.next/\S.s.bK j=some b'):=by
  intro j b' hj
  by_cases UJ:j=S.s.next
  ·subst UJ;rw[ir] at hj;exact .inl ⟨rfl,(Option.some.inj hj).symm⟩
  ·have e:(S.da b a).s.bK j=S.s.bK j:=by
    simp only[St.da,aq.new,aq.bK,Tr.ct _ _ _ _ _ (Ne.symm UJ)]
   rw[e] at hj
   exact .inr ⟨h.sr.lt hj,hj⟩
 have lJ:Ext S (S.da b a):=by
  refine⟨fun i b' hb=> ?_,fun r es he=>(by rw[h.map r] at he;cases he),fun k arr E fr hk=>⟨arr,fr,hk,rfl⟩⟩
  have aP:=h.sr.lt hb
  refine⟨b',(aA.dL aP).trans hb,Nat.le_refl _,Nat.le_refl _,rfl,fun c _ _=> ?_⟩
  simp only[St.da,if_neg (Nat.ne_of_lt aP)]
 refine⟨⟨⟨by omega,?_,?_,?_,?_,?_,?_,?_,?_⟩,hw,?_,?_⟩,lJ,aA,rfl⟩
 ·intro i o hi
  show i<S.s.next+1
  by_cases zx:i=S.s.next
  ·omega
  ·have e:(S.da b a).s.heap.get i=S.s.heap.get i:=by simp only[St.da,aq.new,Tr.ct _ _ _ _ _ (Ne.symm zx)]
   rw[e] at hi
   have:=h.sr.bound i o hi;omega
 ·intro i b' hi
  rcases hold i b' hi with ⟨_,rfl⟩|⟨_,hi⟩
  ·exact gC
  ·exact h.sr.low i b' hi
 ·intro i b' hi c hc p hp
  rcases hold i b' hi with ⟨rfl,rfl⟩|⟨aP,hi⟩
  ·have:=fy c hc
   obtain⟨v,h1,h2⟩:=iN c hc p (by omega)
   refine⟨v,?_,h2.mono lJ⟩
   simp only[St.da,if_true,hw];exact h1
  ·obtain⟨v,h1,h2⟩:=h.sr.cell i b' hi c hc p hp
   refine⟨v,?_,h2.mono lJ⟩
   simp only[St.da,if_neg (Nat.ne_of_lt aP)];exact h1
 ·intro i b' hi ho
  rcases hold i b' hi with ⟨_,rfl⟩|⟨_,hi⟩
  ·rw[kI] at ho;cases ho
  ·rw[h.own i b' hi] at ho;cases ho
 ·intro r es he
  have:(S.da b a).s.dR r=none:=by
   by_cases hr:r=S.s.next
   ·subst hr;simp only[St.da,aq.new,aq.dR,Tr.bu _ _ _ _ (deep (by omega))]
   ·have:=h.map r
    simp only[aq.dR] at this
    simp only[St.da,aq.new,aq.dR,Tr.ct _ _ _ _ _ (Ne.symm hr),this]
  rw[this] at he;cases he
 ·intro r r' es fY he
  have:(S.da b a).s.dR r=none:=by
   by_cases hr:r=S.s.next
   ·subst hr;simp only[St.da,aq.new,aq.dR,Tr.bu _ _ _ _ (deep (by omega))]
   ·have:=h.map r
    simp only[aq.dR] at this
    simp only[St.da,aq.new,aq.dR,Tr.ct _ _ _ _ _ (Ne.symm hr),this]
  rw[this] at he;cases he
 ·show W.heap.size<=S.w.heap.size
  rw[hw];exact Nat.le_refl _
 ·intro i b' hi c hc
  show((S.da b a).e.loc i c).1<S.w.heap.size
  rw[hw]
  rcases hold i b' hi with ⟨rfl,rfl⟩|⟨aP,hi⟩
  ·simp only[St.da,if_true];exact nC c hc
  ·simp only[St.da,if_neg (Nat.ne_of_lt aP)]
   have:=h.sr.EW i b' hi c hc
   rw[hw] at this;exact this
 ·intro i b' hi
  rcases hold i b' hi with ⟨_,rfl⟩|⟨_,hi⟩
  ·exact kI
  ·exact h.own i b' hi
 ·intro r
  by_cases hr:r=S.s.next
  ·subst hr;simp only[St.da,aq.new,aq.dR,Tr.bu _ _ _ _ (deep (by omega))]
  ·have:=h.map r
   simp only[aq.dR] at this
   simp only[St.da,aq.new,aq.dR,Tr.ct _ _ _ _ _ (Ne.symm hr),this]
structure Hm (W:World) (S S' :St) (v' v:Value):Prop where
 begun:mh W S'
 ext:Ext S S'
 stay:ar S.s.next S.s S'.s
 next:S'.s.next=S.s.next+1
 vr:VR S' v' v
variable {H:Type} {enc:TypeId×Value->H} {P:Program}
theorem mh.ints {W:World}{S:St}(h:mh W S){t e:TypeId}{k:IntKind}{r:Reach}{b0:Nat}{v:Value}{d:DataW H}{ps:List MemPlace}(ht:P.underlying t=some (.slice e))(he:P.underlying e=some (.int k))(hc:P.cellsOf e=1)
  (Hn:Value.okWide P W r b0 t v) (hd:DataW.Trod enc P W 0 (fun _=>true) true t v d ps):
  ∃(S' :St) (v' :Value) (zs:List Int),Hm W S S' v' v/\aM S'.s 1 v' zs.length (zs.map (.int k))/\(∀n∈zs,(Lit.int k n).wf=true):=by
 obtain⟨a,len,cap,rfl⟩:=okWide_slice ht Hn
 obtain⟨fuel,hf⟩:=hd
 have dead:∀v',VR S v' (.slice a len cap)->∃S',Hm W S S' v' (.slice a len cap):=fun v' hv=>by
  obtain⟨h1,h2,h3,h4⟩:=h.push ⟨[],2,false,1⟩ (0,0) rfl (by simp) (fun c hc=>by simp only[Live,List.length_nil] at hc;omega) (fun c hc=>by simp only[Live,List.length_nil] at hc;omega) (fun c hc=>by simp only[Live,List.length_nil] at hc;omega)
  exact⟨_,h1,h2,h3,h4,hv.mono h2⟩
 rcases open_ints ht he hc hf with ⟨tL,_⟩|⟨a,V6,V7,zs,tL,hb,hZ,UM,mf,hx,iN,mE⟩
 ·have ur:[Value.slice a len cap]=[Value.slice none 0 0]:=tL
  injection ur with ur _
  injection ur with e1 e2 e3;subst e1;subst e2;subst e3
  obtain⟨S',hj⟩:=dead (.slice none 0 0) .gP
  exact⟨S',_,[],hj,.nil,fun n hn=>by cases hn⟩
 ·rename_i a0
  have ur:[Value.slice a0 len cap]=[Value.slice (some a) V6 V7]:=tL
  injection ur with ur _
  injection ur with e1 e2 e3;subst e1;subst e2;subst e3
  simp only[if_true] at mf
  by_cases oS:cap=0
  ·subst oS
   obtain rfl:len=0:=by omega
   obtain⟨S',hj⟩:=dead (.slice (some ⟨0,0,none⟩) 0 0) (.slice 0 0 0 0 a 0 (Nat.le_refl _) (fun _=>rfl) (fun hx=>by omega))
   exact⟨S',_,[],hj,.bare _ _,fun n hn=>by cases hn⟩
  ·have lK:∀i,i<cap->W.cell? ⟨a.block,a.off+i,none⟩=some (.int k (zs.getD i 0)):=by
    intro i hi
    have LI:=iN i (by omega)
    by_cases h0:i=0
    ·subst h0
     simp only[Addr.add,if_true] at LI
     unfold World.cell? at LI|-
     split at LI
     ·rename_i c _ _ hh
      simp only[hh]
      split at LI
      ·cases LI
      ·simpa using LI
     ·cases LI
    ·simpa only[Addr.add,if_neg h0] using LI
   have nC:∃arr E fr,W.heap[a.block]?=some (.cells arr E fr)/\a.off+cap<=arr.size:=by
    have hl:=lK (cap-1) (by omega)
    unfold World.cell? at hl
    split at hl
    ·rename_i c E fr hh
     refine⟨c,E,fr,hh,?_⟩
     simp only[Option.isSome_none,Bool.false_eq_true,if_false] at hl
     have I0:a.off+(cap-1)<c.size:=by
      rcases Nat.lt_or_ge (a.off+(cap-1)) c.size with q|q
      ·exact q
      ·rw[Array.getElem?_eq_none q] at hl;cases hl
     omega
    ·cases hl
   obtain⟨arr,E,fr,hh,cJ⟩:=nC
   have aP:a.block<W.heap.size:=by
    rcases Nat.lt_or_ge a.block W.heap.size with q|q
    ·exact q
    ·rw[Array.getElem?_eq_none q] at hh;cases hh
   have hlen:(zs.take len).length=len:=by rw[List.length_take];omega
   have Eb:((zs.take len).map (Value.int k)).length=len:=by rw[List.length_map,hlen]
   obtain⟨h1,h2,h3,h4⟩:=h.push ⟨(zs.take len).map (.int k),len+1,false,1⟩ (a.block,a.off) rfl (by simp) (fun c hc=>by simp only[Live,Eb] at hc|-;omega) (fun c _=>aP) (fun c _ p hp=>by
    simp only[Eb] at hp
    refine⟨_,lK p (by omega),?_⟩
    have:((zs.take len).map (Value.int k)).getD p undef= .int k (zs.getD p 0):=by
     simp[List.getD,List.getElem?_map,hp,List.getElem?_eq_getElem (show p<zs.length by omega)]
    rw[this];exact .int _ _)
   have PN:(S.da ⟨(zs.take len).map (.int k),len+1,false,1⟩ (a.block,a.off)).s.bK S.s.next=some ⟨(zs.take len).map (.int k),len+1,false,1⟩:=lh _ _
   refine⟨_,.slice (some ⟨S.s.next,0,none⟩) len (len+1),zs.take len,⟨h1,h2,h3,h4,?_⟩,?_,fun n hn=>mE n (List.mem_of_mem_take hn)⟩
   ·refine .slice _ _ _ _ a cap hZ (fun q=>by omega) (fun _=>⟨⟨_,PN,by simp only[Eb];omega,fun _=> ?_⟩,fun b hb hl=> ?_⟩)
    ·have db:a.spot=none:=by
      have:=iN 0 (by omega)
      simp only[Addr.add,if_true] at this
      unfold World.cell? at this
      rw[hh] at this
      simp only at this
      split at this
      ·cases this
      ·rename_i q;simpa using q
     cases a;simp only[St.da,if_true] at*;simp[db]
    ·rw[PN] at hb;obtain rfl:=Option.some.inj hb
     exact⟨arr,E,fr,by show S.w.heap[a.block]?=_;rw[h.w];exact hh,by simpa using cJ⟩
   ·rw[hlen]
    refine .of S.s.next 0 len _ _ _ (by rw[h4];omega) PN rfl (by simp) (by simp only[Eb];omega) (by simp only[Eb];omega) (by omega) ?_
    rw[List.drop_zero,Nat.mul_one];exact List.take_of_length_le (by rw[Eb];exact Nat.le_refl _)
theorem PO {zs:List Int}(h:∀n∈zs,(Lit.int .u8 n).wf=true):∃bs:List UInt8,bs.length=zs.length/\zs.map (.int .u8)=ofBytes bs:=by
 refine⟨zs.map fun n=>UInt8.ofNat n.toNat,by simp,?_⟩
 simp only[ofBytes,List.map_map]
 refine List.map_congr_left fun n hn=> ?_
 have hw:=h n hn
 simp only[Function.comp,Value.int.injEq,true_and]
 have:0<=n/\n<256:=by
  simp[Lit.wf,IntKind.min,IntKind.max,IntKind.bits,IntKind.signed] at hw
  omega
 rw[UInt8.toNat_ofNat']
 omega
theorem mh.bytes {W:World}{S:St}(h:mh W S){t e:TypeId}{r:Reach}{b0:Nat}{v:Value}{d:DataW H}{ps:List MemPlace}(ht:P.underlying t=some (.slice e))(he:P.underlying e=some (.int .u8))(hc:P.cellsOf e=1)
  (Hn:Value.okWide P W r b0 t v) (hd:DataW.Trod enc P W 0 (fun _=>true) true t v d ps):
  ∃(S' :St) (v' :Value) (bs:List UInt8),Hm W S S' v' v/\aM S'.s 1 v' bs.length (ofBytes bs):=by
 obtain⟨S',v',zs,hj,hs,hw⟩:=h.ints ht he hc Hn hd
 obtain⟨bs,h1,h2⟩:=PO hw
 exact⟨S',v',bs,hj,by rw[h1,<-h2];exact hs⟩
theorem Dg (hl:laidOutB P=true){W W' :World}(hb:Below W.heap.size W W'):∀{ts:List TypeId} {vs:List Value} {ds:List (DataW H)} {ps:List MemPlace},(∀t∈ts,P.readableRec t=true/\t<P.types.size)->
  DataW.TrodAll enc P W 0 (fun _=>true) true ts vs ds ps->(∀x∈ps,x.block<W.heap.size)->DataW.TrodAll enc P W' 0 (fun b=>decide (b<W.heap.size)) true ts vs ds ps:=by
 intro ts
 induction ts with
 |nil=>
  intro vs ds ps _ h _
  cases vs<;>cases ds<;>simp only[DataW.TrodAll] at h|-
  exact h
 |cons t ts ih=>
  intro vs ds ps hr h aP
  obtain⟨v,Le,d,ds',p,q,rfl,rfl,rfl,h1,h2⟩:=trodAll_cons h
  exact⟨p,q,Below.trod hl (hr t (List.mem_cons_self ..)).1 (hr t (List.mem_cons_self ..)).2 h1 hb (fun x hx=>aP x (List.mem_append_left _ hx)),ih (fun t ht=>hr t (List.mem_cons_of_mem _ ht)) h2 (fun x hx=>aP x (List.mem_append_right _ hx)),rfl⟩
theorem PQ {fn:Func}{s:ChangeSpec}{W W' :World}{args:Array Value}{ds gs:List (DataW H)}{before:List MemPlace}{tb:TypeId}(hl:laidOutB P=true)(Y0:∀t∈fn.params.toList,P.readableRec t=true/\t<P.types.size)
  (V4:fn.resultTypes= #[tb]) (hb:P.underlying tb=some .bool) (UN:s.vars=[]) (R7:∀l:List (DataW H),l.length=ds.length->s.fn H l={results:=[.lit (.bool true)],args:=l}) (hW:DataW.Whole enc P fn.params.toList s.vars false W args.toList ds gs before) (mN:Below W.heap.size W W'):
  ∃v,Ending.returned (.bool true)= .returned v/\s.post enc P fn false true false false W args v W' :=by
 have hW' :=hW
 obtain⟨p,q,hA,hV,rfl,hfz,hnd⟩:=hW
 rw[UN] at hV
 obtain⟨rfl,rfl⟩:=trodVars_none hV
 have PS:s.fn H (ds++[])={results:=[.lit (.bool true)],args:=ds}:=by rw[List.append_nil];exact R7 ds rfl
 refine⟨_,rfl,ds,[],p++[],[],p,[],hW',?_,?_,?_,mN.frame _,fun h=>by cases h⟩
 ·rw[PS,V4]
  exact trodAll_cons_mk (shut_bool hb _) trodAll_mk0
 ·rw[PS]
  exact Dg hl mN Y0 hA hA.lt
 ·rw[PS,UN];rfl
end Go.Cl
namespace Go.Cl
open Go.RowKit Go.ChangeShapes Go.WideShapes
theorem S7 {α:Type}{q:Nat->α->Prop}:∀n:Nat,(∀i,i<n->∃d,q i d)->∃D:List α,D.length=n/\∀i,i<n->∃d,D[i]?=some d/\q i d:=by
 intro n
 induction n with
 |zero=>intro _;exact⟨[],rfl,fun i h=>by omega⟩
 |succ n ih=>
  intro h
  obtain⟨D,h1,h2⟩:=ih (fun i hi=>h i (by omega))
  obtain⟨d,hd⟩:=h n (by omega)
  refine⟨D++[d],by simp[h1],fun i hi=> ?_⟩
  by_cases zx:i<n
  ·obtain⟨e,e1,e2⟩:=h2 i zx
   exact⟨e,by rw[List.getElem?_append_left (by omega)];exact e1,e2⟩
  ·obtain rfl:i=n:=by omega
   exact⟨d,by rw[List.getElem?_append_right (by omega),h1,Nat.sub_self];rfl,hd⟩
theorem Ho {α:Type}{f:α->List Value}{z:Nat}(hl:∀d,(f d).length=z):∀D:List α,(D.flatMap f).length=D.length*z:=by
 intro D
 induction D with
 |nil=>simp
 |cons d D ih=>rw[List.flatMap_cons,List.length_append,hl,ih,List.length_cons,Nat.succ_mul,Nat.add_comm]
theorem PT {α:Type}{f:α->List Value}{z:Nat}(hl:∀d,(f d).length=z){j:Nat}(hj:j<z):∀(D:List α) (i:Nat) (d:α),D[i]?=some d->(D.flatMap f).getD (i*z+j) undef=(f d).getD j undef:=by
 intro D
 induction D with
 |nil=>intro i d h;simp at h
 |cons e D ih=>
  intro i d h
  rw[List.flatMap_cons,List.getD_eq_getElem?_getD]
  cases i with
  |zero=>
   simp at h;subst h
   rw[Nat.zero_mul,Nat.zero_add,List.getElem?_append_left (by rw[hl];exact hj),List.getD_eq_getElem?_getD]
  |succ i=>
   have h' :D[i]?=some d:=by simpa using h
   rw[List.getElem?_append_right (by rw[hl,Nat.succ_mul];omega),hl]
   have e2:(i+1)*z+j-z=i*z+j:=by rw[Nat.succ_mul];omega
   rw[e2,<-List.getD_eq_getElem?_getD]
   exact ih i d h'
theorem Hp (b o n:Nat):(⟨b,o,none⟩:Addr).add n=⟨b,o+n,none⟩:=by
 unfold Addr.add;split
 ·rename_i h;subst h;rfl
 ·rfl
theorem Ni {W:World}{a:Addr}{v:Value}(h:W.cell? a=some v):a.spot=none:=by
 unfold World.cell? at h
 split at h
 ·split at h
  ·cases h
  ·rename_i q;simpa using q
 ·cases h
theorem Nj {W:World}{b o:Nat}{v:Value}(h:W.cell? ⟨b,o,none⟩=some v):∃arr E fr,W.heap[b]?=some (.cells arr E fr)/\o<arr.size:=by
 unfold World.cell? at h
 split at h
 ·rename_i c E fr hh
  refine⟨c,E,fr,hh,?_⟩
  simp only[Option.isSome_none,Bool.false_eq_true,if_false] at h
  rcases Nat.lt_or_ge o c.size with q|q
  ·exact q
  ·rw[Array.getElem?_eq_none q] at h;cases h
 ·cases h
variable {H:Type} {enc:TypeId×Value->H} {P:Program}
theorem mh.rows {W:World}{S:St}(h:mh W S){α:Type}(f:α->List Value)(p:α->Prop){t e:TypeId}{z:Nat}{r:Reach}{b0:Nat}{v:Value}{d:DataW H}{ps:List MemPlace}(ht:P.underlying t=some (.slice e))(hc:P.cellsOf e=z)(hz:0<z)
  (nI:∀fuel cs x,DataW.trod enc P W 0 (fun _=>true) true fuel e cs=some x->∃d,p d/\cs=f d) (hl:∀d,(f d).length=z) (hvr:∀(S:St) d v,v∈f d->VR S v v)
  (Hn:Value.okWide P W r b0 t v) (hd:DataW.Trod enc P W 0 (fun _=>true) true t v d ps):
  ∃(S' :St) (v' :Value) (D:List α),Hm W S S' v' v/\aM S'.s z v' D.length (D.flatMap f)/\(∀d∈D,p d):=by
 obtain⟨a,len,cap,rfl⟩:=okWide_slice ht Hn
 obtain⟨fuel,hf⟩:=hd
 have dead:∀v',VR S v' (.slice a len cap)->∃S',Hm W S S' v' (.slice a len cap):=fun v' hv=>by
  obtain⟨h1,h2,h3,h4⟩:=h.push ⟨[],2,false,1⟩ (0,0) rfl (by simp) (fun c hc=>by simp only[Live,List.length_nil] at hc;omega) (fun c hc=>by simp only[Live,List.length_nil] at hc;omega) (fun c hc=>by simp only[Live,List.length_nil] at hc;omega)
  exact⟨_,h1,h2,h3,h4,hv.mono h2⟩
 rcases DataW.trod_slice ht hf with ⟨tL,_⟩|⟨a',V6,V7,elems,rest,n,_,tL,_,hb,hZ,hm,cT,lj,db,_⟩
 ·have ur:[Value.slice a len cap]=[Value.slice none 0 0]:=tL
  injection ur with ur _
  injection ur with e1 e2 e3;subst e1;subst e2;subst e3
  obtain⟨S',hj⟩:=dead (.slice none 0 0) .gP
  exact⟨S',_,[],hj,.nil,fun d hd=>by cases hd⟩
 ·have ur:[Value.slice a len cap]=[Value.slice (some a') V6 V7]:=tL
  injection ur with ur _
  injection ur with e1 e2 e3;subst e1;subst e2;subst e3
  by_cases oS:cap=0
  ·subst oS
   obtain rfl:len=0:=by omega
   obtain⟨S',hj⟩:=dead (.slice (some ⟨0,0,none⟩) 0 0) (.slice 0 0 0 0 a' 0 (Nat.le_refl _) (fun _=>rfl) (fun hx=>by omega))
   exact⟨S',_,[],hj,.bare _ _,fun d hd=>by cases hd⟩
  ·rw[hc] at lj db
   have each:∀i,i<cap->∃d,p d/\W.cells? 0 (a'.add (i*z)) z=some (f d):=by
    intro i hi
    have:∃y,(W.cells? 0 (a'.add (i*z)) z).bind (DataW.trod enc P W 0 (fun _=>true) true n e)=some y:=by
     by_cases OG:i<len
     ·have:=lj i OG
      rw[List.getElem?_eq_getElem (by omega)] at this
      exact⟨_,this⟩
     ·obtain⟨kH,iT⟩:=db rfl
      have:=iT (i-len) (by omega)
      rw[show len+(i-len)=i by omega,List.getElem?_eq_getElem (by omega)] at this
      exact⟨_,this⟩
    obtain⟨y,hy⟩:=this
    rw[Option.bind_eq_some_iff] at hy
    obtain⟨cs,tL,hy⟩:=hy
    obtain⟨d,hd,rfl⟩:=nI _ _ _ hy
    exact⟨d,hd,tL⟩
   obtain⟨D,hDl,hD⟩:=S7 cap each
   have UP:a'.spot=none:=by
    obtain⟨d,_,_,hd⟩:=hD 0 (by omega)
    obtain⟨_,_,hg⟩:=World.cells?_some hd
    have h0:=hg 0 hz
    rw[List.getElem?_eq_getElem (by rw[hl];exact hz)] at h0
    have:=Ni h0
    rw[Nat.zero_mul] at this
    simpa [Addr.add] using this
   obtain⟨ab,ao,asp⟩:=a'
   simp only at UP;subst UP
   have iN:∀i d j,D[i]?=some d->j<z->W.cell? ⟨ab,ao+(i*z+j),none⟩=some ((f d).getD j undef):=by
    intro i d j hi hj
    have UQ:i<cap:=by
     rcases Nat.lt_or_ge i D.length with q|q
     ·omega
     ·rw[List.getElem?_eq_none q] at hi;cases hi
    obtain⟨d',e1,_,hd⟩:=hD i UQ
    rw[hi] at e1;injection e1 with e1;subst e1
    obtain⟨_,_,hg⟩:=World.cells?_some hd
    have:=hg j hj
    rw[Hp,Hp,List.getElem?_eq_getElem (by rw[hl];exact hj)] at this
    rw[<-Nat.add_assoc,this]
    simp[List.getD,List.getElem?_eq_getElem (show j<(f d).length by rw[hl];exact hj)]
   have nC:∃arr E fr,W.heap[ab]?=some (.cells arr E fr)/\ao+cap*z<=arr.size:=by
    obtain⟨d,hd,_⟩:=hD (cap-1) (by omega)
    obtain⟨arr,E,fr,h1,h2⟩:=Nj (iN (cap-1) d (z-1) hd (by omega))
    refine⟨arr,E,fr,h1,?_⟩
    have:cap*z=(cap-1)*z+z:=by
     conv=>lhs;rw[show cap=(cap-1)+1 by omega,Nat.succ_mul]
    omega
   obtain⟨arr,E,fr,hh,cJ⟩:=nC
   have aP:ab<W.heap.size:=by
    rcases Nat.lt_or_ge ab W.heap.size with q|q
    ·exact q
    ·rw[Array.getElem?_eq_none q] at hh;cases hh
   have hTl:(D.take len).length=len:=by rw[List.length_take];omega
   have XX:((D.take len).flatMap f).length=len*z:=by rw[Ho hl,hTl]
   have hFg:∀q,q<len*z->∃i d j,D[i]?=some d/\j<z/\q=i*z+j/\((D.take len).flatMap f).getD q undef=(f d).getD j undef:=by
    intro q hq
    have hqz:q/z<len:=Nat.div_lt_of_lt_mul (by rw[Nat.mul_comm];exact hq)
    have XT:q=q/z*z+q%z:=by rw[Nat.mul_comm];exact(Nat.div_add_mod q z).symm
    have hm2:q%z<z:=Nat.mod_lt _ hz
    obtain⟨d,hd,_⟩:=hD (q/z) (by omega)
    have hdt:(D.take len)[q/z]?=some d:=by rw[List.getElem?_take,if_pos hqz];exact hd
    refine⟨q/z,d,q%z,hd,hm2,XT,?_⟩
    conv=>lhs;rw[XT]
    exact PT hl hm2 _ _ _ hdt
   obtain⟨h1,h2,h3,h4⟩:=h.push ⟨(D.take len).flatMap f,len*z+1,false,z⟩ (ab,ao) rfl (by simp) (fun c hc=>by simp only[Live,XX] at hc|-;omega) (fun c _=>aP) (fun c _ q hq=>by
    simp only[XX] at hq
    obtain⟨i,d,j,hd,hj,e1,e2⟩:=hFg q hq
    refine⟨(f d).getD j undef,by rw[e1];exact iN i d j hd hj,?_⟩
    rw[e2]
    have V8:j<(f d).length:=by rw[hl];exact hj
    refine hvr _ d _ ?_
    rw[List.getD_eq_getElem?_getD,List.getElem?_eq_getElem V8]
    exact List.getElem_mem V8)
   have PN:(S.da ⟨(D.take len).flatMap f,len*z+1,false,z⟩ (ab,ao)).s.bK S.s.next=some ⟨(D.take len).flatMap f,len*z+1,false,z⟩:=lh _ _
   refine⟨_,.slice (some ⟨S.s.next,0,none⟩) len (len*z+1),D.take len,⟨h1,h2,h3,h4,?_⟩,?_,fun d hd=> ?_⟩
   ·refine .slice _ _ _ _ _ cap hZ (fun q=>by omega) (fun _=>⟨⟨_,PN,by simp only[XX];omega,fun _=> ?_⟩,fun b hb hl=> ?_⟩)
    ·simp only[St.da,if_true];simp
    ·rw[PN] at hb;obtain rfl:=Option.some.inj hb
     exact⟨arr,E,fr,by show S.w.heap[ab]?=_;rw[h.w];exact hh,cJ⟩
   ·rw[hTl]
    refine .of S.s.next 0 len _ _ _ (by rw[h4];omega) PN rfl (by simp) (by simp only[XX];omega) XX (by omega) ?_
    rw[List.drop_zero];exact List.take_of_length_le (by rw[XX];exact Nat.le_refl _)
   ·obtain⟨i,hi⟩:=List.getElem?_of_mem (List.mem_of_mem_take hd)
    have UQ:i<cap:=by
     rcases Nat.lt_or_ge i D.length with q|q
     ·omega
     ·rw[List.getElem?_eq_none q] at hi;cases hi
    obtain⟨d',e1,hp,_⟩:=hD i UQ
    rw[hi] at e1;injection e1 with e1;subst e1;exact hp
def bR:Value->Nat->Value
 | .pointer (some ⟨i,o,some c⟩),j=> .pointer (some ⟨i,o+j,some c⟩)
 |v,_=>v
theorem fA (z:Nat)(v:Value)(k j:Nat):bX (bR (aT z v k) j) (bR (aT z v k) j)=true:=by
 unfold aT
 split<;>exact lf _
theorem aM.eC {e:TypeId}(ow:cw P e=some false){s:aq}{z:Nat}{v:Value}{n:Nat}{l:List Value}(h:aM s z v n l){k j:Nat}(hk:k<n)(hj:j<z):aG P s e (bR (aT z v k) j)=some (l.getD (k*z+j) undef):=by
 have hlen:=h.length
 cases h with
 |nil=>omega
 |bare=>omega
 |of i off n c b l hi hb hz hl hc hlen fL ht=>
  have YX:k*z+z<=n*z:=by
   have:(k+1)*z<=n*z:=Nat.mul_le_mul_right z hk
   rwa [Nat.succ_mul] at this
  show aG P s e (.pointer (some ⟨i,off+k*z+j,some c⟩))=_
  unfold aG
  simp only[ow]
  rw[iz hb hl hc (by omega)]
  have e2:b.cells.drop (off+k*z+j)=(b.cells.drop off).drop (k*z+j):=by rw[List.drop_drop];congr 1;omega
  have nA:k*z+j<l.length:=by omega
  have e3:((b.cells.drop off).drop (k*z+j)).take 1=[l.getD (k*z+j) undef]:=by
   have:((b.cells.drop off).drop (k*z+j)).take 1=(((b.cells.drop off).take (n*z)).drop (k*z+j)).take 1:=by
    rw[List.drop_take,List.take_take];congr 1;omega
   rw[this,ht,List.drop_eq_getElem_cons nA,List.take_succ_cons,List.take_zero,List.getD_eq_getElem?_getD,List.getElem?_eq_getElem nA]
   rfl
  rw[e2,e3]
end Go.Cl
namespace Go.Cl
def eK (o:Oper):Bool:=
 match o.op with
 | .move _| .assign _| .pick _ _ _| .build _ _| .nilCheck _| .binOp _ _ _ _ _| .unOp _ _ _| .fieldAddr _ _ _| .field _ _ _| .indexAddr _ _ _| .index _ _ _| .extract _ _=>true
 |_=>false
theorem uu {P:Program}{o:Oper}(h:eK o=true):aI P o=true:=by
 obtain⟨dst,op,type,pos,after,guard⟩:=o
 cases op<;>simp_all[eK,aI]
theorem Nk {P:Program}{o:Oper}(h:eK o=true)(f:aR):∃r:Option Value,∀s,cy P o f s=oo s r:=by
 obtain⟨dst,op,type,pos,after,guard⟩:=o
 cases op<;>simp only[eK] at h<;>try (cases h;done)
 case move x=>exact⟨aS f x,fun _=>rfl⟩
 case assign x=>exact⟨aS f x,fun _=>rfl⟩
 case pick c a b=>
  refine⟨match aS f c,aS f a,aS f b with
   |some (.bool t),some u,some v=>some (if t then u else v)
   |_,_,_=>none,fun s=> ?_⟩
  rw[A0]
  generalize aS f c=X
  generalize aS f a=Y
  generalize aS f b=Z
  split<;>first|rfl|(split<;>first|rfl|(exfalso;simp_all))
 case build t ps=>
  refine⟨match ag f ps.toList with
   |some l=>dM P t l
   |none=>none,fun s=> ?_⟩
  rw[xg]
  generalize ag f ps.toList=X
  cases X<;>rfl
 case nilCheck x=>
  refine⟨match aS f x with
   |some (.pointer (some a))=>some (.pointer (some a))
   |some (.func (.func g) zS bs)=>some (.func (.func g) zS bs)
   |_=>none,fun s=> ?_⟩
  rw[pY]
  generalize aS f x=X
  split<;>first|rfl|(split<;>first|rfl|(exfalso;simp_all))
 case binOp op t x y t2=>
  refine⟨match aS f x,aS f y with
   |some u,some v=>du P op t u v
   |_,_=>none,fun s=> ?_⟩
  rw[xh]
  generalize aS f x=X
  generalize aS f y=Y
  cases X<;>cases Y<;>rfl
 case unOp op t x=>
  refine⟨match aS f x with
   |some u=>Uu op u
   |none=>none,fun s=> ?_⟩
  rw[A1]
  generalize aS f x=X
  cases X<;>rfl
 case fieldAddr t x i=>
  refine⟨match aS f x with
   |some u=>az P t u i
   |none=>none,fun s=> ?_⟩
  rw[oE]
  generalize aS f x=X
  cases X<;>rfl
 case field t x i=>
  refine⟨match aS f x with
   |some u=>zU P t u i
   |none=>none,fun s=> ?_⟩
  rw[xi]
  generalize aS f x=X
  cases X<;>rfl
 case indexAddr t x y=>
  refine⟨match aS f x,aS f y with
   |some u,some v=>dC P t u v
   |_,_=>none,fun s=> ?_⟩
  rw[oF]
  generalize aS f x=X
  generalize aS f y=Y
  cases X<;>cases Y<;>rfl
 case index t x y=>
  refine⟨match aS f x,aS f y with
   |some u,some v=>qZ P t u v
   |_,_=>none,fun s=> ?_⟩
  rw[xj]
  generalize aS f x=X
  generalize aS f y=Y
  cases X<;>cases Y<;>rfl
 case extract x i=>
  refine⟨match aS f x with
   |some u=>cN u i
   |none=>none,fun s=> ?_⟩
  rw[rK]
  generalize aS f x=X
  cases X<;>rfl
theorem rQ {P:Program}{o:Oper}(h:eK o=true){f:aR}{s t:aq}{v:Value}{s' :aq}(ha:cy P o f s=some (.val v s')):cy P o f t=some (.val v t):=by
 obtain⟨r,hr⟩:=Nk (P:=P) h f
 rw[hr] at ha
 cases r with
 |none=>cases ha
 |some u=>
  rw[rN] at ha
  injection ha with ha;injection ha with e _;subst e
  rw[hr];rfl
def cR (id:Nat):Option AR->Option (Value×iC)
 |some (.val v s1)=>
  match s1.bK id with
  |some b=>some (v,b)
  |none=>none
 |_=>none
def fO (P:Program)(lib:ay)(all:List Oper):List Oper->Nat->aR->aq->(aR->aq->Prop)->Prop
 |[],_,f,T,Q=>Q f T
 |o::r,id,f,T,Q=>
  match b9 all o f with
  |true=>
   match aI P o,aB P o with
   |true,_=>
    match cy P o f T with
    |some (.val v _)=>bX v v=true/\cO f o.dst v fun f' =>fO P lib all r id f' T Q
    |_=>False
   |false,true=>
    match cR id (cy P o f ⟨.nil,id⟩) with
    |some (v,b)=>cO f o.dst v fun f' =>fO P lib all r (id+1) f' (T.put id (.dL b)) Q
    |none=>False
   |false,false=>
    match cy P o f T with
    |some (.val v T')=>cO f o.dst v fun f' =>fO P lib all r id f' T' Q
    |some (.call g args)=>Runs P lib g args T fun v T' =>cO f o.dst v fun f' =>fO P lib all r id f' T' Q
    |none=>False
  |false=>cO f o.dst undef fun f' =>fO P lib all r (if aB P o then id+1 else id) f' T Q
def Bj (P:Program)(lib:ay)(all r:List Oper)(id:Nat)(f:aR)(T:aq)(d:Option Tmp)(Q:aR->aq->Prop):Option AR->Prop
 |some (.val v _)=>bX v v=true/\cO f d v fun f' =>fO P lib all r id f' T Q
 |_=>False
def Bk (P:Program)(lib:ay)(all r:List Oper)(id:Nat)(f:aR)(T:aq)(d:Option Tmp)(Q:aR->aq->Prop):Option (Value×iC)->Prop
 |some (v,b)=>cO f d v fun f' =>fO P lib all r (id+1) f' (T.put id (.dL b)) Q
 |none=>False
def qC (P:Program)(lib:ay)(all r:List Oper)(id:Nat)(f:aR)(d:Option Tmp)(T:aq)(Q:aR->aq->Prop):Option AR->Prop
 |some (.val v T')=>cO f d v fun f' =>fO P lib all r id f' T' Q
 |some (.call g args)=>Runs P lib g args T fun v T' =>cO f d v fun f' =>fO P lib all r id f' T' Q
 |none=>False
def yN (P:Program)(lib:ay)(all r:List Oper)(id:Nat)(f:aR)(d:Option Tmp)(Q:aR->aq->Prop)(v:Value)(T' :aq):Prop:=cO f d v fun f' =>fO P lib all r id f' T' Q
def nT (P:Program)(lib:ay)(all:List Oper)(o:Oper)(r:List Oper)(id:Nat)(f:aR)(T:aq)(Q:aR->aq->Prop):Bool->Prop
 |true=>
  match aI P o,aB P o with
  |true,_=>Bj P lib all r id f T o.dst Q (cy P o f T)
  |false,true=>Bk P lib all r id f T o.dst Q (cR id (cy P o f ⟨.nil,id⟩))
  |false,false=>qC P lib all r id f o.dst T Q (cy P o f T)
 |false=>cO f o.dst undef fun f' =>fO P lib all r (if aB P o then id+1 else id) f' T Q
section
variable (P:Program) (lib:ay) (all:List Oper) (r:List Oper) (id:Nat) (f:aR) (T:aq) (Q:aR->aq->Prop)
theorem xm:fO P lib all [] id f T Q=Q f T:=by simp only[fO]
theorem uv (o:Oper):fO P lib all (o::r) id f T Q=nT P lib all o r id f T Q (b9 all o f):=by
 simp only[fO]
 cases b9 all o f with
 |false=>rfl
 |true=>
  simp only[nT]
  cases aI P o with
  |true=>
   simp only
   cases cy P o f T with
   |none=>rfl
   |some a=>cases a<;>rfl
  |false=>
   cases aB P o with
   |true=>
    simp only
    cases cR id (cy P o f ⟨.nil,id⟩) with
    |none=>rfl
    |some a=>rfl
   |false=>
    simp only
    cases cy P o f T with
    |none=>rfl
    |some a=>cases a<;>rfl
theorem yO (o:Oper)(h:aI P o=true):nT P lib all o r id f T Q true=Bj P lib all r id f T o.dst Q (cy P o f T):=by simp only[nT,h]
theorem yP (o:Oper)(h:aI P o=false)(h2:aB P o=true):nT P lib all o r id f T Q true=Bk P lib all r id f T o.dst Q (cR id (cy P o f ⟨.nil,id⟩)):=by simp only[nT,h,h2]
theorem vC (o:Oper)(h:aI P o=false)(h2:aB P o=false):nT P lib all o r id f T Q true=qC P lib all r id f o.dst T Q (cy P o f T):=by simp only[nT,h,h2]
variable (d:Option Tmp) (ty:TypeId) (ps:String) (af:Array Edge) (gd:Option (Nat×Bool))
theorem JH (o:Oper):nT P lib all o r id f T Q true=bif aI P o then Bj P lib all r id f T o.dst Q (cy P o f T) else bif aB P o then Bk P lib all r id f T o.dst Q (cR id (cy P o f ⟨.nil,id⟩)) else qC P lib all r id f o.dst T Q (cy P o f T):=by
 cases hq:aI P o with
 |true=>rw[yO _ _ _ _ _ _ _ _ _ hq];rfl
 |false=>
  cases ha:aB P o with
  |true=>rw[yP _ _ _ _ _ _ _ _ _ hq ha];rfl
  |false=>rw[vC _ _ _ _ _ _ _ _ _ hq ha];rfl
theorem Ec (o:Oper):nT P lib all o r id f T Q true=if aI P o=true then Bj P lib all r id f T o.dst Q (cy P o f T) else if aB P o=true then Bk P lib all r id f T o.dst Q (cR id (cy P o f ⟨.nil,id⟩)) else qC P lib all r id f o.dst T Q (cy P o f T):=by
 rw[JH]
 cases aI P o<;>cases aB P o<;>rfl
theorem pc (op:Op)(t:Tmp):nT P lib all ⟨some t,op,ty,ps,af,gd⟩ r id f T Q false=if t<f.n then fO P lib all r (bif aB P ⟨some t,op,ty,ps,af,gd⟩ then id+1 else id) (f.put t undef) T Q else False:=by
 unfold nT;simp only;rw[dk]
 cases aB P ⟨some t,op,ty,ps,af,gd⟩<;>rfl
theorem pd (op:Op):nT P lib all ⟨none,op,ty,ps,af,gd⟩ r id f T Q false=fO P lib all r (bif aB P ⟨none,op,ty,ps,af,gd⟩ then id+1 else id) f T Q:=by
 unfold nT;simp only;rw[DT]
 cases aB P ⟨none,op,ty,ps,af,gd⟩<;>rfl
theorem Ed (t:Tmp)(v:Value)(s' :aq):Bj P lib all r id f T (some t) Q (some (.val v s'))=if bX v v=true/\t<f.n then fO P lib all r id (f.put t v) T Q else False:=by
 simp only[Bj,dk]
 by_cases h1:bX v v=true<;>by_cases h2:t<f.n<;>simp[h1,h2]
theorem Ee (t:Tmp)(v:Value)(s' :aq):qC P lib all r id f (some t) T Q (some (.val v s'))=if t<f.n then fO P lib all r id (f.put t v) s' Q else False:=by
 simp only[qC,dk]
theorem rR (v:Value)(s' :aq):qC P lib all r id f none T Q (some (.val v s'))=fO P lib all r id f s' Q:=by
 simp only[qC,DT]
theorem Bl (g:FuncId)(args:List Value):qC P lib all r id f d T Q (some (.call g args))=Runs P lib g args T (yN P lib all r id f d Q):=rfl
theorem Bm (t:Tmp)(v:Value)(s' :aq):yN P lib all r id f (some t) Q v s' =if t<f.n then fO P lib all r id (f.put t v) s' Q else False:=by
 simp only[yN,dk]
theorem Bn (v:Value)(s' :aq):yN P lib all r id f none Q v s' =fO P lib all r id f s' Q:=rfl
end
def Hq (P:Program)(o:Oper):Bool:= !eK o&& !aB P o
def FA (P:Program)(ops:List Oper):Bool:=
 let ms:=bW ops []
 ops.zipIdx.all fun x=>
  (ops.zipIdx.all fun y=> !aB P y.1||(bif Nat.blt y.2 x.2 then !Hq P x.1||Nat.testBit (cC ms x.2) y.2 else !Nat.testBit (cC ms x.2) y.2))&&
  (!(aI P x.1&& !eK x.1)||(Nat.ble (countP (fun j=> !Nat.testBit (cC ms j) x.2) P ops 0) (countP (fun j=>Nat.blt j x.2) P ops 0)&&Nat.beq (countP (Nat.testBit (cC ms x.2)) P ops 0) (countP (fun j=>Nat.blt j x.2) P ops 0)))
theorem dd (P:Program):∀(l:List Oper) (es:List Ev) (T:aq),∃r,ax P l es T=T::r:=by
 intro l
 induction l with
 |nil=>intro es T;exact⟨[],by cases es<;>rfl⟩
 |cons o l ih=>
  intro es T
  cases es with
  |nil=>exact⟨[],rfl⟩
  |cons e es=>
   simp only[ax]
   split
   ·exact⟨_,rfl⟩
   ·split
    ·exact⟨_,rfl⟩
    ·exact ih es T
def eU (P:Program):List Oper->Nat->Nat
 |[],_=>0
 |_,0=>0
 |o::r,n+1=>if aY P o then eU P r n+1 else eU P r n
theorem ji (P:Program):∀(l:List Oper) (i n:Nat),countP (fun j=>Nat.blt j (i+n)) P l i=eU P l n:=by
 intro l
 induction l with
 |nil=>intro i n;cases n<;>rfl
 |cons o l ih=>
  intro i n
  simp only[countP]
  cases n with
  |zero=>
   have h0:∀(l:List Oper) (k:Nat),i<=k->countP (fun j=>Nat.blt j (i+0)) P l k=0:=by
    intro l
    induction l with
    |nil=>intro k _;rfl
    |cons p l ihl=>
     intro k hk
     have hb:Nat.blt k (i+0)=false:=by rw[<-Bool.not_eq_true,Nat.blt_eq];omega
     simp only[countP,hb,Bool.and_false,Bool.false_eq_true,if_false]
     exact ihl (k+1) (by omega)
   have hb:Nat.blt i (i+0)=false:=by rw[<-Bool.not_eq_true,Nat.blt_eq];omega
   simp only[hb,Bool.and_false,Bool.false_eq_true,if_false,eU]
   exact h0 l (i+1) (by omega)
  |succ n=>
   have hb:Nat.blt i (i+(n+1))=true:=by rw[Nat.blt_eq];omega
   have e:i+(n+1)=(i+1)+n:=by omega
   simp only[hb,Bool.and_true,eU]
   rw[e,ih (i+1) n]
theorem nU (P:Program):∀(a b:List Oper),eU P (a++b) a.length=eU P a a.length:=by
 intro a
 induction a with
 |nil=>intro b;cases b<;>rfl
 |cons o a ih=>intro b;simp only[List.cons_append,List.length_cons,eU];rw[ih b]
theorem sQ (P:Program)(o:Oper):∀(a:List Oper),eU P (a++[o]) (a++[o]).length=if aY P o then eU P a a.length+1 else eU P a a.length:=by
 intro a
 induction a with
 |nil=>rfl
 |cons p a ih=>simp only[List.cons_append,List.length_cons,eU];rw[ih];split<;>split<;>rfl
theorem gJ (p:Nat->Bool):∀(a b:List (Nat×Nat×iC)) (T:aq),Cl.fill p T (a++b)=Cl.fill p (Cl.fill p T a) b:=by
 intro a
 induction a with
 |nil=>intro b T;rfl
 |cons x a ih=>
  intro b T
  obtain⟨j,id,bk⟩:=x
  simp only[List.cons_append,Cl.fill]
  split
  ·exact ih _ _
  ·exact ih _ _
theorem sR (p:Nat->Bool):∀(a:List (Nat×Nat×iC)) (T:aq),(∀x∈a,p x.1=false)->Cl.fill p T a=T:=by
 intro a
 induction a with
 |nil=>intro T _;rfl
 |cons x a ih=>
  intro T h
  obtain⟨j,id,bk⟩:=x
  have hj:p j=false:=h (j,id,bk) (List.mem_cons_self ..)
  simp only[Cl.fill,hj]
  exact ih T (fun y hy=>h y (List.mem_cons_of_mem _ hy))
theorem sS (p:Nat->Bool):∀(a:List (Nat×Nat×iC)) (T:aq),(∀x∈a,T.heap.get x.2.1≠none)->Cl.fill p T a=T:=by
 intro a
 induction a with
 |nil=>intro T _;rfl
 |cons x a ih=>
  intro T h
  obtain⟨j,id,bk⟩:=x
  have hj:T.heap.get id≠none:=h (j,id,bk) (List.mem_cons_self ..)
  simp only[Cl.fill]
  split
  ·rename_i _ hn;exact absurd hn hj
  ·exact ih T (fun y hy=>h y (List.mem_cons_of_mem _ hy))
structure Stands (s0:aq) (K:Nat) (i id:Nat) (zS:List (Nat×Nat×iC)) (T U:aq):Prop where
 fill:∀p:Nat->Bool,(∀x∈zS,p x.1=true)->Cl.fill p T zS=U
 here:∀x∈zS,U.heap.get x.2.1≠none
 before:∀x∈zS,x.1<i
 lo:s0.next<=id
 free:∀k,id<=k->k<s0.next+K->U.heap.get k=none
 next:s0.next+K<=U.next
 keeps:bL s0 U
theorem Dh {P:Program}{lib:ay}{all:List Oper}(s0:aq)(kM:List Nat){Q:aR->aq->Prop}
  (JI:∀(o:Oper) (i:Nat),all[i]?=some o->aI P o=true->eK o=false->countP (fun j=> !Nat.testBit (cC kM j) i) P all 0<=eU P all i/\countP (Nat.testBit (cC kM i)) P all 0=eU P all i)
  (Bo:∀(o p:Oper) (i j:Nat),all[i]?=some o->all[j]?=some p->aB P p=true->j<i->Hq P o=true->Nat.testBit (cC kM i) j=true)
  (JJ:∀(o p:Oper) (i j:Nat),all[i]?=some o->all[j]?=some p->aB P p=true->i<=j->Nat.testBit (cC kM i) j=false):
  ∀(l pre:List Oper) (ms:List Nat) (id:Nat) (f:aR) (T U:aq) (zS:List (Nat×Nat×iC)),all=pre++l->ms=kM.drop pre.length->ms.length=l.length->id+aF P l<=s0.next+aF P all->Stands s0 (aF P all) pre.length id zS T U->(∀x∈zS,∃p,all[x.1]?=some p/\aB P p=true)->fO P lib all l id f U Q->
  ∃es f' T' U',(∃n,∀m,n<=m->bQ P (fx P lib m) all ms l pre.length id f T zS=some es)/\(ax P l es T).getLastD T=T' /\bN l es f=f' /\Cl.fill (fun _=>true) T' (zS++madeOf es pre.length)=U' /\
   (∀x∈madeOf es pre.length,pre.length<=x.1/\∃p,all[x.1]?=some p/\aB P p=true)/\
   (∀gL before,gL=before++ax P l es T->before.length=eU P pre pre.length->bJ P all kM (zS++madeOf es pre.length) gL ms l es pre.length f=true)/\bL s0 U' /\Q f' U' :=by
 intro l
 induction l with
 |nil=>
  intro pre ms id f T U zS _ _ hl _ aA _ hw
  rw[xm] at hw
  cases ms with
  |cons m r=>simp at hl
  |nil=>exact⟨[],f,T,U,⟨0,fun _ _=>rfl⟩,rfl,rfl,by simp only[madeOf,List.append_nil];exact aA.fill _ (fun _ _=>rfl),(fun x hx=>by simp[madeOf] at hx),fun _ _ _ _=>rfl,aA.keeps,hw⟩
 |cons o r ih=>
  intro pre ms id f T U zS dS zD hl fc aA has hw
  cases ms with
  |nil=>simp at hl
  |cons m ms=>
  have CO:ms.length=r.length:=by simpa using hl
  have kh:all=(pre++[o])++r:=by rw[dS,List.append_assoc];rfl
  have cT:(pre++[o]).length=pre.length+1:=by simp
  have p8:ms=kM.drop (pre++[o]).length:=by
   rw[cT,<-List.drop_drop,<-zD];rfl
  have JK:cC kM pre.length=m:=by
   have kP:∀(L:List Nat) (k:Nat) (x:Nat) (t:List Nat),L.drop k=x::t->cC L k=x:=by
    intro L
    induction L with
    |nil=>intro k x t h;simp at h
    |cons y L Dc=>
     intro k x t h
     cases k with
     |zero=>simp at h;exact h.1
     |succ k=>simp only[List.drop_succ_cons] at h;simp only[cC];exact Dc k x t h
   exact kP kM pre.length m ms zD.symm
  have gq:all[pre.length]?=some o:=by rw[dS];simp
  have yQ:eU P all pre.length=eU P pre pre.length:=by rw[dS,nU]
  have vD:=sQ P o pre
  have gr:∀(v:Value) (JL:Nat) (U' :aq),(cO f o.dst v fun f' =>fO P lib all r JL f' U' Q)->∃f1,jS f o.dst v=some f1/\fO P lib all r JL f1 U' Q:=by
   intro v JL U' h
   unfold cO at h
   split at h
   ·exact⟨_,‹_›,h⟩
   ·exact h.elim
  have fk:aF P (o::r)=if aB P o then aF P r+1 else aF P r:=rfl
  have mT:Hq P o=true->Cl.fill (Nat.testBit m) T zS=U:=fun hn=>aA.fill _ (fun x hx=>by
   obtain⟨p,hp,EZ⟩:=has x hx
   rw[<-JK]
   exact Bo o p pre.length x.1 gq hp EZ (aA.before x hx) hn)
  rw[uv] at hw
  cases nO:b9 all o f with
  |false=>
   rw[nO] at hw
   obtain⟨f1,hp,hw⟩:=gr _ _ _ hw
   have cI:Stands s0 (aF P all) (pre++[o]).length (if aB P o then id+1 else id) zS T U:=by
    refine⟨aA.fill,aA.here,fun x hx=>by have:=aA.before x hx;omega,by have:=aA.lo;split<;>omega,fun k hk kY=>aA.free k (by split at hk<;>omega) kY,aA.next,aA.keeps⟩
   obtain⟨es,f',T',U',⟨n,h1⟩,h3,h4,hf,ki,h5,hk,h6⟩:=ih (pre++[o]) ms _ f1 T U zS kh p8 CO (by rw[fk] at fc;split<;>split at fc<;>first|omega|contradiction) cI has hw
   rw[cT] at h1 h5 hf ki
   refine⟨.skip::es,f',T',U',⟨n,fun q hq=> ?_⟩,?_,by simp only[bN,Ev.val,hp,h4],by simp only[madeOf];exact hf,(fun x hx=>by simp only[madeOf] at hx;obtain⟨a,b⟩:=ki x hx;exact⟨by omega,b⟩),fun gL before hs hb=> ?_,hk,h6⟩
   ·simp only[bQ,cV,nO,Ev.val,hp]
    rw[h1 q hq]
   ·simp only[ax]
    split
    ·obtain⟨rr,hr⟩:=dd P r es T
     rw[hr] at h3|-
     rw[List.getLastD_cons] at h3|-
     rw[List.getLastD_cons];exact h3
    ·exact h3
   ·simp only[bJ,Ev.val,hp,Bool.true_and,madeOf]
    simp only[ax] at hs
    split at hs
    ·rename_i he
     refine h5 gL (before++[T]) (by rw[hs,List.append_assoc];rfl) ?_
     rw[<-cT,vD,if_pos he,List.length_append,hb];rfl
    ·rename_i he
     refine h5 gL before hs ?_
     rw[<-cT,vD,if_neg he,hb]
  |true=>
   rw[nO] at hw
   cases hq:aI P o with
   |true=>
    rw[yO _ _ _ _ _ _ _ _ _ hq] at hw
    have cD:=gu hq
    have AG:=gQ hq
    rw[fk,if_neg (by simp[AG])] at fc
    unfold Bj at hw
    split at hw
    case h_2=>exact hw.elim
    rename_i v s1 dZ
    obtain⟨hv,hw⟩:=hw
    obtain⟨f1,hp,hw⟩:=gr _ _ _ hw
    have cI:Stands s0 (aF P all) (pre++[o]).length id zS T U:=⟨aA.fill,aA.here,fun x hx=>by have:=aA.before x hx;omega,aA.lo,aA.free,aA.next,aA.keeps⟩
    obtain⟨es,f',T',U',⟨n,h1⟩,h3,h4,hf,ki,h5,hk,h6⟩:=ih (pre++[o]) ms id f1 T U zS kh p8 CO fc cI has hw
    rw[cT] at h1 h5 hf ki
    have mn:∃s2,cy P o f (Cl.fill (Nat.testBit m) T zS)=some (.val v s2):=by
     cases kj:eK o with
     |true=>exact⟨_,rQ kj dZ⟩
     |false=>exact⟨s1,by rw[mT (by simp[Hq,kj,AG])];exact dZ⟩
    obtain⟨s2,mn⟩:=mn
    refine⟨.quiet v::es,f',T',U',⟨n,fun q xo=> ?_⟩,?_,by simp only[bN,Ev.val,hp,h4],by simp only[madeOf];exact hf,(fun x hx=>by simp only[madeOf] at hx;obtain⟨a,b⟩:=ki x hx;exact⟨by omega,b⟩),fun gL before hs hb=> ?_,hk,h6⟩
    ·simp only[bQ,cV,nO,hq,mn,Ev.val,hp,AG]
     rw[if_neg (by simp),h1 q xo]
    ·simp only[ax,cD];simpa using h3
    ·have rf:gL=before++ax P r es T:=by simpa [ax,cD] using hs
     simp only[bJ,Ev.val,hp,madeOf]
     rw[h5 gL before rf (by rw[<-cT,vD,if_neg (by simp[cD]),hb]),Bool.and_true]
     have V9:∀X:aq,Cl.fill (Nat.testBit m) X (zS++madeOf es (pre.length+1))=Cl.fill (Nat.testBit m) X zS:=by
      intro X
      rw[gJ,sR _ (madeOf es (pre.length+1))]
      intro x hx
      obtain⟨a,p,Jz,EZ⟩:=ki x hx
      rw[<-JK]
      exact JJ o p pre.length x.1 gq Jz EZ (by omega)
     have j6:∀(L:List aq),(eK o=false->∀x∈L,x=T)->sameAt P m (zS++madeOf es (pre.length+1)) o f v L=true:=by
      intro L
      induction L with
      |nil=>intro _;rfl
      |cons x L Dc=>
       intro hx
       simp only[sameAt,V9]
       have:∃s3,cy P o f (Cl.fill (Nat.testBit m) x zS)=some (.val v s3):=by
        cases kj:eK o with
        |true=>exact⟨_,rQ kj dZ⟩
        |false=>rw[hx kj x (List.mem_cons_self ..)];exact⟨s2,mn⟩
       obtain⟨s3,ij⟩:=this
       rw[ij]
       simp only[hv,Bool.true_and]
       exact Dc (fun kj y hy=>hx kj y (List.mem_cons_of_mem _ hy))
     refine j6 _ (fun kj x hx=> ?_)
     obtain⟨t1,t2⟩:=JI o pre.length gq hq kj
     rw[JK] at t2
     rw[t2] at hx
     obtain⟨rr,hr⟩:=dd P r es T
     rw[yQ,<-hb,List.drop_take,rf,hr,List.drop_left] at hx
     have iW:countP (fun j=> !Nat.testBit (cC kM j) pre.length) P all 0+1-before.length<=1:=by omega
     generalize countP (fun j=> !Nat.testBit (cC kM j) pre.length) P all 0+1-before.length=k at hx iW
     cases k with
     |zero=>simp at hx
     |succ k=>
      obtain rfl:k=0:=by omega
      simpa using hx
   |false=>
    cases ha:aB P o with
    |true=>
     rw[yP _ _ _ _ _ _ _ _ _ hq ha] at hw
     rw[fk,if_pos ha] at fc
     have cD:aY P o=false:=by simp[aY,ha]
     unfold Bk at hw
     split at hw
     case h_2=>exact hw.elim
     rename_i v b dZ
     obtain⟨f1,hp,hw⟩:=gr _ _ _ hw
     have JM:∃s1,cy P o f ⟨.nil,id⟩=some (.val v s1)/\s1.bK id=some b:=by
      unfold cR at dZ
      split at dZ
      ·rename_i v1 s1 h1
       split at dZ
       ·rename_i b1 jv
        injection dZ with dZ;injection dZ with e1 e2;subst e1;subst e2
        exact⟨s1,h1,jv⟩
       ·cases dZ
      ·cases dZ
     obtain⟨s1,mO,fK⟩:=JM
     have gI:=aA.free id (Nat.le_refl _) (by omega)
     have aP:id<U.next:=by have:=aA.next;omega
     have cI:Stands s0 (aF P all) (pre++[o]).length (id+1) (zS++[(pre.length,id,b)]) T (U.put id (.dL b)):=by
      refine⟨fun p hp=> ?_,fun x hx=> ?_,fun x hx=> ?_,by have:=aA.lo;omega,fun k hk kY=> ?_,by have:=aA.next;simpa [aq.put] using this,?_⟩
      ·rw[gJ,aA.fill p (fun x hx=>hp x (List.mem_append_left _ hx))]
       have Gv:p pre.length=true:=hp (pre.length,id,b) (List.mem_append_right _ (List.mem_cons_self ..))
       simp only[Cl.fill,Gv,gI]
      ·rcases List.mem_append.mp hx with hx|hx
       ·have hh:=aA.here x hx
        have:x.2.1≠id:=fun e=>hh (by rw[e];exact gI)
        rw[aq.a8 _ _ _ _ (Ne.symm this)];exact hh
       ·rw[List.mem_singleton] at hx;subst hx
        simp only[aq.put,Tr.bu _ _ _ _ (deep (by omega))];simp
      ·rcases List.mem_append.mp hx with hx|hx
       ·have:=aA.before x hx;omega
       ·rw[List.mem_singleton] at hx;subst hx;simp
      ·rw[aq.a8 _ _ _ _ (by omega)];exact aA.free k (by omega) kY
      ·have hk:=aA.keeps
       refine⟨hk.next,fun j hj hn=> ?_,fun j hj=> ?_,⟨by omega,fun j ob hj=> ?_⟩⟩
       ·have:=aA.lo
        rw[aq.a8 _ _ _ _ (by omega)];exact hk.gone j hj hn
       ·by_cases fZ:id=j
        ·subst fZ;simp only[aq.put,Tr.bu _ _ _ _ (deep (by omega))];simp
        ·rw[aq.a8 _ _ _ _ fZ];exact hk.here j hj
       ·by_cases fZ:id=j
        ·subst fZ;simpa [aq.put] using aP
        ·rw[aq.a8 _ _ _ _ fZ] at hj;have:=hk.wf.bound j ob hj;simpa [aq.put] using this
     have JN:∀x∈zS++[(pre.length,id,b)],∃p,all[x.1]?=some p/\aB P p=true:=by
      intro x hx
      rcases List.mem_append.mp hx with hx|hx
      ·exact has x hx
      ·rw[List.mem_singleton] at hx;subst hx;exact⟨o,gq,ha⟩
     obtain⟨es,f',T',U',⟨n,h1⟩,h3,h4,hf,ki,h5,hk,h6⟩:=ih (pre++[o]) ms (id+1) f1 T _ _ kh p8 CO (by omega) cI JN hw
     rw[cT] at h1 h5 hf ki
     have PU:∀L,zS++(pre.length,id,b)::L=(zS++[(pre.length,id,b)])++L:=fun L=>by rw[List.append_assoc];rfl
     refine⟨.made v id b::es,f',T',U',⟨n,fun q xo=> ?_⟩,?_,by simp only[bN,Ev.val,hp,h4],by simp only[madeOf];rw[PU];exact hf,(fun x hx=> ?_),fun gL before hs hb=> ?_,hk,h6⟩
     ·simp only[bQ,cV,nO,hq,ha,mO,fK,Ev.val,hp,if_true]
      rw[h1 q xo]
     ·simp only[ax,cD];simpa using h3
     ·simp only[madeOf] at hx
      rcases List.mem_cons.mp hx with rfl|hx
      ·exact⟨Nat.le_refl _,o,gq,ha⟩
      ·obtain⟨a,c⟩:=ki x hx;exact⟨by omega,c⟩
     ·simp only[bJ,Ev.val,hp,Bool.true_and,madeOf]
      rw[PU]
      have rf:gL=before++ax P r es T:=by simpa [ax,cD] using hs
      exact h5 gL before rf (by rw[<-cT,vD,if_neg (by simp[cD]),hb])
    |false=>
     rw[vC _ _ _ _ _ _ _ _ _ hq ha] at hw
     rw[fk,if_neg (by simp[ha])] at fc
     have he:aY P o=true:=by simp[aY,hq,ha]
     have kj:eK o=false:=by
      cases kj:eK o with
      |false=>rfl
      |true=>rw[uu kj] at hq;cases hq
     have hU:=mT (by simp[Hq,kj,ha])
     have fin:∀(v:Value) (U1:aq) (n0:Nat),(∀q,n0<=q->cV P (fx P lib q) all m id zS o f T=some (.zc v U1))->bL U U1->(cO f o.dst v fun f' =>fO P lib all r id f' U1 Q)->
       ∃es f' T' U',(∃n,∀m',n<=m' ->bQ P (fx P lib m') all (m::ms) (o::r) pre.length id f T zS=some es)/\(ax P (o::r) es T).getLastD T=T' /\bN (o::r) es f=f' /\Cl.fill (fun _=>true) T' (zS++madeOf es pre.length)=U' /\
        (∀x∈madeOf es pre.length,pre.length<=x.1/\∃p,all[x.1]?=some p/\aB P p=true)/\
        (∀gL before,gL=before++ax P (o::r) es T->before.length=eU P pre pre.length->bJ P all kM (zS++madeOf es pre.length) gL (m::ms) (o::r) es pre.length f=true)/\bL s0 U' /\Q f' U' :=by
      intro v U1 n0 hd xp hw
      obtain⟨f1,hp,hw⟩:=gr _ _ _ hw
      have rS:∀x∈zS,U1.heap.get x.2.1≠none:=fun x hx=>xp.here _ (aA.here x hx)
      have cI:Stands s0 (aF P all) (pre++[o]).length id zS U1 U1:=by
       refine⟨fun p hp=>sS p zS U1 rS,rS,fun x hx=>by have:=aA.before x hx;omega,aA.lo,fun k hk kY=>xp.gone k (by have:=aA.next;omega) (aA.free k hk kY),by have:=aA.next;have:=xp.next;omega,aA.keeps.trans xp⟩
      obtain⟨es,f',T',U',⟨n,h1⟩,h3,h4,hf,ki,h5,hk,h6⟩:=ih (pre++[o]) ms id f1 U1 U1 zS kh p8 CO fc cI has hw
      rw[cT] at h1 h5 hf ki
      refine⟨.zc v U1::es,f',T',U',⟨n+n0,fun q xo=> ?_⟩,?_,by simp only[bN,Ev.val,hp,h4],by simp only[madeOf];exact hf,(fun x hx=>by simp only[madeOf] at hx;obtain⟨a,b⟩:=ki x hx;exact⟨by omega,b⟩),fun gL before hs hb=> ?_,hk,h6⟩
      ·simp only[bQ,hd q (by omega),Ev.val,hp,ha]
       rw[if_neg (by simp),h1 q (by omega)]
      ·simp only[ax]
       obtain⟨rr,hr⟩:=dd P r es U1
       rw[hr] at h3|-
       rw[List.getLastD_cons] at h3|-
       rw[List.getLastD_cons];exact h3
      ·simp only[bJ,Ev.val,hp,Bool.true_and,madeOf]
       simp only[ax] at hs
       refine h5 gL (before++[T]) (by rw[hs,List.append_assoc];rfl) ?_
       rw[<-cT,vD,if_pos he,List.length_append,hb];rfl
     unfold qC at hw
     split at hw
     case h_3=>exact hw.elim
     ·rename_i v U1 dZ
      exact fin v U1 0 (fun q _=>by simp only[cV,nO,hq,ha,hU,dZ]) (oX aA.keeps.wf dZ) hw
     ·rename_i g args dZ
      obtain⟨v,U1,⟨nc,hc⟩,xp,hw⟩:=hw aA.keeps.wf
      exact fin v U1 nc (fun q xo=>by simp only[cV,nO,hq,ha,hU,dZ,hc q xo]) xp hw
def spare (s:aq)(k:Nat):aq:=⟨s.heap,s.next+k⟩
theorem mU (s:aq):spare s 0=s:=rfl
theorem bT (s:aq)(k:Nat):(spare s k).next=s.next+k:=rfl
theorem ar.spare (s:aq)(k:Nat):ar s.next s (spare s k):=⟨by simp[Cl.spare],fun _ _=>rfl⟩
theorem cF.tight {P:Program}{lib:ay}{ops:List Oper}(ht:FA P ops=true){f:aR}{s:aq}{Q:aR->aq->Prop}(h:fO P lib ops ops s.next f (spare s (aF P ops)) Q):cF P lib ops f s Q:=by
 intro mE
 simp only[FA,List.all_eq_true,Bool.and_eq_true,Bool.or_eq_true,Bool.not_eq_true'] at ht
 have jU:∀(o:Oper) (i:Nat),ops[i]?=some o->(o,i)∈ops.zipIdx:=fun o i hi=>by rw[List.mem_zipIdx_iff_getElem?];simpa using hi
 have zD:(bW ops []).length=ops.length:=by
  obtain⟨r,h1,h2⟩:=jP ops []
  rw[h1];simpa using h2
 have gI:∀k,s.next<=k->s.heap.get k=none:=fun k iW=>by
  cases hg:s.heap.get k with
  |none=>rfl
  |some o=>have:=mE.bound k o hg;omega
 have zA:bL s (spare s (aF P ops)):=⟨by simp[spare],fun _ _ h=>h,fun _ h=>h,⟨by omega,fun j o hj=>by have:=mE.bound j o hj;simp only[spare];omega⟩⟩
 obtain⟨es,f',T',U',⟨n,h1⟩,h3,h4,hf,ki,h5,hk,h6⟩:=Dh (P:=P) (lib:=lib) (all:=ops) s (bW ops []) (Q:=Q) (fun o i hi hq hp=>by
   have:=(ht (o,i) (jU o i hi)).2
   have CL:=ji P ops 0 i
   rw[Nat.zero_add] at CL
   rcases this with h|h
   ·simp[hq,hp] at h
   ·obtain⟨t1,t2⟩:=h
    rw[CL] at t1 t2
    exact⟨by simpa [Nat.ble_eq] using t1,by simpa [Nat.beq_eq] using t2⟩)
  (fun o p i j hi hj ha fZ hn=>by
   have:=(ht (o,i) (jU o i hi)).1 (p,j) (jU p j hj)
   have hb:Nat.blt j i=true:=by simpa [Nat.blt_eq] using fZ
   simp only[ha,hb,cond_true,hn] at this
   simpa using this)
  (fun o p i j hi hj ha zj=>by
   have:=(ht (o,i) (jU o i hi)).1 (p,j) (jU p j hj)
   have hb:Nat.blt j i=false:=by rw[<-Bool.not_eq_true,Nat.blt_eq];omega
   simp only[ha,hb,cond_false] at this
   simpa using this)
  ops [] (bW ops []) s.next f (spare s (aF P ops)) (spare s (aF P ops)) [] rfl rfl zD (by omega)
  ⟨fun _ _=>rfl,fun _ hx=>(by cases hx),fun _ hx=>(by cases hx),Nat.le_refl _,fun k iW _=>gI k iW,by simp[spare],zA⟩ (fun _ hx=>(by cases hx)) h
 simp only[List.nil_append,List.length_nil] at h1 h5 hf ki
 refine⟨f',U',⟨n,fun m hm=> ?_⟩,hk,h6⟩
 unfold fj
 have M3:=h1 m hm
 have hb:Nat.ble 0 16000000=true:=rfl
 simp only[]
 show(match bQ P (fx P lib m) ops (bW ops []) ops 0 s.next f (spare s (aF P ops)) [] with
  |some es=>match bJ P ops (bW ops []) (madeOf es 0) (ax P ops es (spare s (aF P ops))) (bW ops []) ops es 0 f with
   |true=>some (bN ops es f,Cl.fill (fun _=>true) ((ax P ops es (spare s (aF P ops))).getLastD s) (madeOf es 0))
   |false=>none
  |none=>none)=_
 rw[M3]
 have R8:=h5 (ax P ops es (spare s (aF P ops))) [] rfl rfl
 simp only[R8,h4]
 obtain⟨rr,hr⟩:=dd P ops es (spare s (aF P ops))
 rw[hr] at h3|-
 rw[List.getLastD_cons] at h3|-
 rw[h3,hf]
theorem cF.PV {P:Program}{lib:ay}{ops:List Oper}{f:aR}{s:aq}{Q:aR->aq->Prop}(k:Nat)(ht:FA P ops=true)(hk:Nat.beq (aF P ops) k=true)(h:fO P lib ops ops s.next f (spare s k) Q):yq P lib ops f s Q false:=by
 have:aF P ops=k:=by simpa [Nat.beq_eq] using hk
 exact cF.tight ht (by rw[this];exact h)
theorem cF.p9 {P:Program}{lib:ay}{ops:List Oper}{f:aR}{s:aq}{Q:aR->aq->Prop}(ht:(FA P ops&&Nat.beq (aF P ops) 0)=true)(h:fO P lib ops ops s.next f s Q):yq P lib ops f s Q false:=by
 rw[Bool.and_eq_true] at ht
 exact cF.PV 0 ht.1 ht.2 h
end Go.Cl
