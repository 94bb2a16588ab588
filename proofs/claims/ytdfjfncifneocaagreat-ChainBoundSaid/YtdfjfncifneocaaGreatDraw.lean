/-
 The clean machine, part 23: more fuel turns no answer; a closed call, evaluated once, answers alike beside whatever lies there.
-/
import Derived.Test.YtdfjfncifneocaaGreatMem
import Derived.Test.YtdfjfncifneocaaGreatMcB
import Derived.ProofKit
import Derived.OpenShut
import Derived.Carry
import Derived.ChangeSlices
import Derived.WideShapes
namespace Go.Cl
abbrev Cj (c1 c2:FuncId->List Value->aq->Option (Value×aq)):Prop:=∀g a s r,c1 g a s=some r->c2 g a s=some r
theorem Jt {P:Program}{c1 c2:FuncId->List Value->aq->Option (Value×aq)}(h:Cj c1 c2)(all:List Oper):∀(l:List Oper) (f:aT) (s:aq) (r:aT×aq),fJ P c1 all l f s=some r->fJ P c2 all l f s=some r:=by
 intro l
 induction l with
 |nil=>intro f s r hr;exact hr
 |cons o l ih=>
  intro f s r hr
  simp only[fJ] at hr|-
  split at hr
  ·rename_i hw
   rw[if_pos hw]
   split at hr
   ·rename_i v s1 fE
    split at hr
    ·rename_i f1 hp;exact ih _ _ _ hr
    ·cases hr
   ·rename_i g args fE
    split at hr
    ·rename_i v s1 hc
     split at hr
     ·rename_i f1 hp;simp only[h _ _ _ _ hc,hp];exact ih _ _ _ hr
     ·cases hr
    ·cases hr
   ·cases hr
  ·rename_i hw
   rw[if_neg hw]
   split at hr
   ·rename_i f1 hp;exact ih _ _ _ hr
   ·cases hr
theorem Ju {P:Program}{c1 c2:FuncId->List Value->aq->Option (Value×aq)}(h:Cj c1 c2){all:List Oper}{m id:Nat}{arv:List (Nat×Nat×jE)}{o:Oper}{f:aT}{T:aq}{e:Ev}(hd:dL P c1 all m id arv o f T=some e):dL P c2 all m id arv o f T=some e:=by
 unfold dL at*
 split at hd
 ·exact hd
 ·split at hd
  ·exact hd
  ·exact hd
  ·split at hd
   ·exact hd
   ·rename_i g args h1
    split at hd
    ·rename_i v s1 hc;simp only[h _ _ _ _ hc];exact hd
    ·cases hd
   ·cases hd
theorem HI {P:Program}{c1 c2:FuncId->List Value->aq->Option (Value×aq)}(h:Cj c1 c2)(all:List Oper):∀(l:List Oper) (ms:List Nat) (i id:Nat) (f:aT) (T:aq) (arv:List (Nat×Nat×jE)) (es:List Ev),cG P c1 all ms l i id f T arv=some es->cG P c2 all ms l i id f T arv=some es:=by
 intro l
 induction l with
 |nil=>intro ms i id f T arv es hd;cases ms<;>exact hd
 |cons o l ih=>
  intro ms i id f T arv es hd
  cases ms with
  |nil=>exact hd
  |cons m ms=>
   simp only[cG] at hd|-
   split at hd
   ·rename_i e he
    split at hd
    ·rename_i f1 hp
     split at hd
     ·rename_i IE h1;simp only[Ju h he,hp,ih _ _ _ _ _ _ _ h1];exact hd
     ·cases hd
    ·cases hd
   ·cases hd
theorem HJ {P:Program}{c1 c2:FuncId->List Value->aq->Option (Value×aq)}(h:Cj c1 c2){ops:List Oper}{f:aT}{s:aq}{r:aT×aq}(hd:fj P c1 ops f s=some r):fj P c2 ops f s=some r:=by
 unfold fj at*
 split at hd
 ·cases hd
 ·split at hd
  ·rename_i es he;simp only[HI h _ _ _ _ _ _ _ _ _ he];exact hd
  ·cases hd
abbrev TJ (e1 e2:Code->aT->aq->Out):Prop:=∀c f s r,e1 c f s=some r->e2 c f s=some r
theorem oK {P:Program}{lib:az}{e1 e2:Code->aT->aq->Out}(h:TJ e1 e2):Cj (dP P lib e1) (dP P lib e2):=by
 intro g a s r hc
 unfold dP at*
 split at hc
 ·exact hc
 ·split at hc
  ·rename_i fn hf
   split at hc
   ·rename_i c hb hn
    split at hc
    ·rename_i f1 s1 he;simp only[h _ _ _ _ he];exact hc
    ·rename_i f1 s1 he;simp only[h _ _ _ _ he];exact hc
    ·cases hc
   ·cases hc
  ·cases hc
theorem QP {P:Program}{lib:az}{e1 e2:Code->aT->aq->Out}(h:TJ e1 e2):TJ (step P lib e1) (step P lib e2):=by
 intro c f s r hr
 cases c with
 |region id ops d=>
  simp only[step] at hr|-
  cases d with
  |false=>
   simp only at hr|-
   split at hr
   ·rename_i h1;simp only[Jt (oK h) _ _ _ _ _ h1];exact hr
   ·cases hr
  |true=>
   simp only at hr|-
   split at hr
   ·rename_i h1;simp only[HJ (oK h) h1];exact hr
   ·cases hr
 |seq a b=>
  simp only[step] at hr|-
  split at hr
  ·rename_i f1 s1 h1;simp only[h _ _ _ _ h1];exact h _ _ _ _ hr
  ·rename_i h1
   have:=h _ _ _ _ hr
   rw[this]
   cases r with
   |mk x r=>
    cases x with
    |normal=>exact absurd hr (h1 _ _)
    |exit=>rfl
    |ret=>rfl
 |cond x a b=>
  simp only[step] at hr|-
  split at hr
  ·rename_i t ht
   split at hr
   ·exact h _ _ _ _ hr
   ·exact h _ _ _ _ hr
  ·cases hr
 |block id a=>
  simp only[step] at hr|-
  split at hr
  ·rename_i j f1 s1 h1;simp only[h _ _ _ _ h1];exact hr
  ·rename_i h1
   have:=h _ _ _ _ hr
   rw[this]
   cases r with
   |mk x r=>
    cases x with
    |normal=>rfl
    |exit=>exact absurd hr (h1 _ _ _)
    |ret=>rfl
 |loop a=>
  simp only[step] at hr|-
  split at hr
  ·rename_i f1 s1 h1;simp only[h _ _ _ _ h1];exact h _ _ _ _ hr
  ·rename_i h1
   have:=h _ _ _ _ hr
   rw[this]
   cases r with
   |mk x r=>
    cases x with
    |normal=>exact absurd hr (h1 _ _)
    |exit=>rfl
    |ret=>rfl
 |scope a=>simp only[step] at hr|-;exact h _ _ _ _ hr
 |skip=>exact hr
 |label l=>exact hr
 |exit id=>exact hr
 |ret=>exact hr
 |rangeFunc=>simp[step] at hr
 |goto=>simp[step] at hr
 |refuse=>simp[step] at hr
theorem QR {P:Program}{lib:az}:∀n,TJ (exec P lib n) (exec P lib (n+1)):=by
 intro n
 induction n with
 |zero=>intro c f s r h;simp[exec] at h
 |succ n ih=>exact QP ih
theorem HK {P:Program}{lib:az}{n m:Nat}(h:n<=m):TJ (exec P lib n) (exec P lib m):=by
 induction m with
 |zero=>obtain rfl:n=0:=by omega
        exact fun _ _ _ _ h=>h
 |succ m ih=>
  by_cases hn:n=m+1
  ·subst hn;exact fun _ _ _ _ h=>h
  ·exact fun c f s r hr=>QR m c f s r (ih (by omega) c f s r hr)
theorem Runs.Xs {P:Program}{lib:az}(hl:ly lib){n:Nat}{g:FuncId}{args:List Value}{s:aq}{v:Value}{s' :aq}{Q:Value->aq->Prop}(h:gV P lib n g args s=some (v,s'))(hq:Q v s'):Runs P lib g args s Q:=
 fun pW=>⟨v,s',⟨n,fun _ hm=>oK (HK hm) _ _ _ _ h⟩,by obtain⟨_,_,_,k⟩:=Jd hl n _ _ _ _ _ _ _ (ct.refl s) pW h;exact k,hq⟩
theorem Runs.closed {P:Program}{lib:az}(hl:ly lib){n k:Nat}{g:FuncId}(h:rF (gV P lib n g [] ⟨.nil,k⟩)=true){s:aq}(hk:s.next=k)(hw:WF s):Runs P lib g [] s fun v s' =>v= .bool true/\ar s.next s s' /\WF s' :=by
 unfold rF at h
 split at h
 case h_2=>cases h
 rename_i b t hc
 subst h
 have Zq:WF ⟨.nil,k⟩:=⟨by omega,fun j o hj=>by simp[Tr.get] at hj⟩
 have ha:ct ⟨.nil,k⟩ s (fun j=>s.heap.get j):=⟨hk,fun j o hj=>⟨rfl,by show j<k;rw[<-hk];exact hw.bound j o hj⟩,fun j=>by simp only[Tr.get];cases s.heap.get j<;>rfl⟩
 obtain⟨t',h1,h2,h3⟩:=Jd hl n _ _ _ _ _ _ _ ha Zq hc
 refine Runs.Xs hl h1 ⟨rfl,⟨by rw[h2.next,hk];exact h3.next,fun i hi=> ?_⟩,⟨by omega,fun j o hj=> ?_⟩⟩
 ·rw[h2.get i]
  cases hx:s.heap.get i with
  |some o=>rfl
  |none=>exact h3.gone i (by show i<k;omega) rfl
 ·rw[h2.get j] at hj
  rw[h2.next]
  cases hx:s.heap.get j with
  |some o=>have:=hw.bound j o hx;have:=h3.next;show j<t.next;have e:(⟨Tr.nil,k⟩:aq).next=k:=rfl;omega
  |none=>rw[hx] at hj;exact h3.wf.bound j o hj
end Go.Cl
namespace Go.Cl
open Go.RowKit Go.ChangeShapes Go.WideShapes
structure mj (W:World) (S:St):Prop where
 sr:SR W.heap.size S
 w:S.w=W
 own:∀i b,S.s.bA i=some b->b.own=false
 map:∀i,S.s.dp i=none
theorem mj.start (W:World):mj W (St.start W):=
 ⟨SR.start W,rfl,fun i b h=>by simp[St.start,aq.empty,aq.bA,Tr.get] at h,fun i=>by simp[St.start,aq.empty,aq.dp,Tr.get]⟩
def St.cH (S:St)(b:jE)(a:Nat×Nat):St:=⟨S.s.new (.dK b),⟨fun j c=>if j=S.s.next then a else S.e.loc j c,S.e.mp⟩,S.w⟩
theorem mj.push {W:World}{S:St}(h:mj W S)(b:jE)(a:Nat×Nat)(ky:b.own=false)(iS:1<=b.low)(eT:∀c,Live b c->c=b.cells.length+1)
  (nI:∀c,Live b c->a.1<W.heap.size) (iz:∀c,Live b c->∀p,p<b.cells.length->∃v,W.cell? ⟨a.1,a.2+p,none⟩=some v/\VR S (b.cells.getD p undef) v):
  mj W (S.cH b a)/\Ext S (S.cH b a)/\ar S.s.next S.s (S.cH b a).s/\(S.cH b a).s.next=S.s.next+1:=by
 have hw:=h.w
 have lN:(S.cH b a).s.bA S.s.next=some b:=nU S.s b
 have aD:ar S.s.next S.s (S.cH b a).s:=ar.new S.s _
 have hold:∀j b',(S.cH b a).s.bA j=some b' ->(j=S.s.next/\b' =b)\/(j<S.s.next/\S.s.bA j=some b'):=by
  intro j b' hj
  by_cases hjn:j=S.s.next
  ·subst hjn;rw[lN] at hj;exact .inl ⟨rfl,(Option.some.inj hj).symm⟩
  ·have e:(S.cH b a).s.bA j=S.s.bA j:=by
    simp only[St.cH,aq.new,aq.bA,Tr.bZ _ _ _ _ _ (Ne.symm hjn)]
   rw[e] at hj
   exact .inr ⟨h.sr.lt hj,hj⟩
 have lK:Ext S (S.cH b a):=by
  refine⟨fun i b' hb=> ?_,fun r es he=>(by rw[h.map r] at he;cases he),fun k arr E fr hk=>⟨arr,fr,hk,rfl⟩⟩
  have bc:=h.sr.lt hb
  refine⟨b',(aD.dK bc).trans hb,Nat.le_refl _,Nat.le_refl _,rfl,fun c _ _=> ?_⟩
  simp only[St.cH,if_neg (Nat.ne_of_lt bc)]
 refine⟨⟨⟨by omega,?_,?_,?_,?_,?_,?_,?_,?_⟩,hw,?_,?_⟩,lK,aD,rfl⟩
 ·intro i o hi
  show i<S.s.next+1
  by_cases L1:i=S.s.next
  ·omega
  ·have e:(S.cH b a).s.heap.get i=S.s.heap.get i:=by simp only[St.cH,aq.new,Tr.bZ _ _ _ _ _ (Ne.symm L1)]
   rw[e] at hi
   have:=h.sr.bound i o hi;omega
 ·intro i b' hi
  rcases hold i b' hi with ⟨_,rfl⟩|⟨_,hi⟩
  ·exact iS
  ·exact h.sr.low i b' hi
 ·intro i b' hi c hc p hp
  rcases hold i b' hi with ⟨rfl,rfl⟩|⟨bc,hi⟩
  ·have:=eT c hc
   obtain⟨v,h1,h2⟩:=iz c hc p (by omega)
   refine⟨v,?_,h2.mono lK⟩
   simp only[St.cH,if_true,hw];exact h1
  ·obtain⟨v,h1,h2⟩:=h.sr.cell i b' hi c hc p hp
   refine⟨v,?_,h2.mono lK⟩
   simp only[St.cH,if_neg (Nat.ne_of_lt bc)];exact h1
 ·intro i b' hi ho
  rcases hold i b' hi with ⟨_,rfl⟩|⟨_,hi⟩
  ·rw[ky] at ho;cases ho
  ·rw[h.own i b' hi] at ho;cases ho
 ·intro r es he
  have:(S.cH b a).s.dp r=none:=by
   by_cases hr:r=S.s.next
   ·subst hr;simp only[St.cH,aq.new,aq.dp,Tr.bp _ _ _ _ (deep (by omega))]
   ·have:=h.map r
    simp only[aq.dp] at this
    simp only[St.cH,aq.new,aq.dp,Tr.bZ _ _ _ _ _ (Ne.symm hr),this]
  rw[this] at he;cases he
 ·intro r r' es fz he
  have:(S.cH b a).s.dp r=none:=by
   by_cases hr:r=S.s.next
   ·subst hr;simp only[St.cH,aq.new,aq.dp,Tr.bp _ _ _ _ (deep (by omega))]
   ·have:=h.map r
    simp only[aq.dp] at this
    simp only[St.cH,aq.new,aq.dp,Tr.bZ _ _ _ _ _ (Ne.symm hr),this]
  rw[this] at he;cases he
 ·show W.heap.size<=S.w.heap.size
  rw[hw];exact Nat.le_refl _
 ·intro i b' hi c hc
  show((S.cH b a).e.loc i c).1<S.w.heap.size
  rw[hw]
  rcases hold i b' hi with ⟨rfl,rfl⟩|⟨bc,hi⟩
  ·simp only[St.cH,if_true];exact nI c hc
  ·simp only[St.cH,if_neg (Nat.ne_of_lt bc)]
   have:=h.sr.He i b' hi c hc
   rw[hw] at this;exact this
 ·intro i b' hi
  rcases hold i b' hi with ⟨_,rfl⟩|⟨_,hi⟩
  ·exact ky
  ·exact h.own i b' hi
 ·intro r
  by_cases hr:r=S.s.next
  ·subst hr;simp only[St.cH,aq.new,aq.dp,Tr.bp _ _ _ _ (deep (by omega))]
  ·have:=h.map r
   simp only[aq.dp] at this
   simp only[St.cH,aq.new,aq.dp,Tr.bZ _ _ _ _ _ (Ne.symm hr),this]
structure Jv (W:World) (S S' :St) (v' v:Value):Prop where
 begun:mj W S'
 ext:Ext S S'
 stay:ar S.s.next S.s S'.s
 next:S'.s.next=S.s.next+1
 vr:VR S' v' v
variable {H:Type} {enc:TypeId×Value->H} {P:Program}
theorem mj.ints {W:World}{S:St}(h:mj W S){t e:TypeId}{k:IntKind}{r:Reach}{b0:Nat}{v:Value}{d:DataW H}{ps:List MemPlace}(ht:P.underlying t=some (.slice e))(he:P.underlying e=some (.int k))(hc:P.cellsOf e=1)
  (Jw:Value.okWide P W r b0 t v) (hd:DataW.Trod enc P W 0 (fun _=>true) true t v d ps):
  ∃(S' :St) (v' :Value) (zs:List Int),Jv W S S' v' v/\aN S'.s 1 v' zs.length (zs.map (.int k))/\(∀n∈zs,(Lit.int k n).wf=true):=by
 obtain⟨a,len,cap,rfl⟩:=okWide_slice ht Jw
 obtain⟨fuel,hf⟩:=hd
 have dead:∀v',VR S v' (.slice a len cap)->∃S',Jv W S S' v' (.slice a len cap):=fun v' hv=>by
  obtain⟨h1,h2,h3,h4⟩:=h.push ⟨[],2,false,1⟩ (0,0) rfl (by simp) (fun c hc=>by simp only[Live,List.length_nil] at hc;omega) (fun c hc=>by simp only[Live,List.length_nil] at hc;omega) (fun c hc=>by simp only[Live,List.length_nil] at hc;omega)
  exact⟨_,h1,h2,h3,h4,hv.mono h2⟩
 rcases open_ints ht he hc hf with ⟨Af,_⟩|⟨a,aa4,aa5,zs,Af,hb,js,hcm,o8,hx,iz,pW⟩
 ·have uI:[Value.slice a len cap]=[Value.slice none 0 0]:=Af
  injection uI with uI _
  injection uI with e1 e2 e3;subst e1;subst e2;subst e3
  obtain⟨S',hj⟩:=dead (.slice none 0 0) .gq
  exact⟨S',_,[],hj,.nil,fun n hn=>by cases hn⟩
 ·rename_i a0
  have uI:[Value.slice a0 len cap]=[Value.slice (some a) aa4 aa5]:=Af
  injection uI with uI _
  injection uI with e1 e2 e3;subst e1;subst e2;subst e3
  simp only[if_true] at o8
  by_cases oZ:cap=0
  ·subst oZ
   obtain rfl:len=0:=by omega
   obtain⟨S',hj⟩:=dead (.slice (some ⟨0,0,none⟩) 0 0) (.slice 0 0 0 0 a 0 (Nat.le_refl _) (fun _=>rfl) (fun hx=>by omega))
   exact⟨S',_,[],hj,.bare _ _,fun n hn=>by cases hn⟩
  ·have lO:∀i,i<cap->W.cell? ⟨a.block,a.off+i,none⟩=some (.int k (zs.getD i 0)):=by
    intro i hi
    have SI:=iz i (by omega)
    by_cases h0:i=0
    ·subst h0
     simp only[Addr.add,if_true] at SI
     unfold World.cell? at SI|-
     split at SI
     ·rename_i c _ _ hh
      simp only[hh]
      split at SI
      ·cases SI
      ·simpa using SI
     ·cases SI
    ·simpa only[Addr.add,if_neg h0] using SI
   have nI:∃arr E fr,W.heap[a.block]?=some (.cells arr E fr)/\a.off+cap<=arr.size:=by
    have hl:=lO (cap-1) (by omega)
    unfold World.cell? at hl
    split at hl
    ·rename_i c E fr hh
     refine⟨c,E,fr,hh,?_⟩
     simp only[Option.isSome_none,Bool.false_eq_true,if_false] at hl
     have W1:a.off+(cap-1)<c.size:=by
      rcases Nat.lt_or_ge (a.off+(cap-1)) c.size with q|q
      ·exact q
      ·rw[Array.getElem?_eq_none q] at hl;cases hl
     omega
    ·cases hl
   obtain⟨arr,E,fr,hh,b6⟩:=nI
   have bc:a.block<W.heap.size:=by
    rcases Nat.lt_or_ge a.block W.heap.size with q|q
    ·exact q
    ·rw[Array.getElem?_eq_none q] at hh;cases hh
   have hlen:(zs.take len).length=len:=by rw[List.length_take];omega
   have Ck:((zs.take len).map (Value.int k)).length=len:=by rw[List.length_map,hlen]
   obtain⟨h1,h2,h3,h4⟩:=h.push ⟨(zs.take len).map (.int k),len+1,false,1⟩ (a.block,a.off) rfl (by simp) (fun c hc=>by simp only[Live,Ck] at hc|-;omega) (fun c _=>bc) (fun c _ p hp=>by
    simp only[Ck] at hp
    refine⟨_,lO p (by omega),?_⟩
    have:((zs.take len).map (Value.int k)).getD p undef= .int k (zs.getD p 0):=by
     simp[List.getD,List.getElem?_map,hp,List.getElem?_eq_getElem (show p<zs.length by omega)]
    rw[this];exact .int _ _)
   have Eh:(S.cH ⟨(zs.take len).map (.int k),len+1,false,1⟩ (a.block,a.off)).s.bA S.s.next=some ⟨(zs.take len).map (.int k),len+1,false,1⟩:=nU _ _
   refine⟨_,.slice (some ⟨S.s.next,0,none⟩) len (len+1),zs.take len,⟨h1,h2,h3,h4,?_⟩,?_,fun n hn=>pW n (List.mem_of_mem_take hn)⟩
   ·refine .slice _ _ _ _ a cap js (fun q=>by omega) (fun _=>⟨⟨_,Eh,by simp only[Ck];omega,fun _=> ?_⟩,fun b hb hl=> ?_⟩)
    ·have eI:a.spot=none:=by
      have:=iz 0 (by omega)
      simp only[Addr.add,if_true] at this
      unfold World.cell? at this
      rw[hh] at this
      simp only at this
      split at this
      ·cases this
      ·rename_i q;simpa using q
     cases a;simp only[St.cH,if_true] at*;simp[eI]
    ·rw[Eh] at hb;obtain rfl:=Option.some.inj hb
     exact⟨arr,E,fr,by show S.w.heap[a.block]?=_;rw[h.w];exact hh,by simpa using b6⟩
   ·rw[hlen]
    refine .of S.s.next 0 len _ _ _ (by rw[h4];omega) Eh rfl (by simp) (by simp only[Ck];omega) (by simp only[Ck];omega) (by omega) ?_
    rw[List.drop_zero,Nat.mul_one];exact List.take_of_length_le (by rw[Ck];exact Nat.le_refl _)
theorem TL {zs:List Int}(h:∀n∈zs,(Lit.int .u8 n).wf=true):∃bs:List UInt8,bs.length=zs.length/\zs.map (.int .u8)=ofBytes bs:=by
 refine⟨zs.map fun n=>UInt8.ofNat n.toNat,by simp,?_⟩
 simp only[ofBytes,List.map_map]
 refine List.map_congr_left fun n hn=> ?_
 have hw:=h n hn
 simp only[Function.comp,Value.int.injEq,true_and]
 have:0<=n/\n<256:=by
  simp[Lit.wf,IntKind.min,IntKind.max,IntKind.bits,IntKind.signed] at hw
  omega
 rw[UInt8.toNat_ofNat']
 omega
theorem mj.bytes {W:World}{S:St}(h:mj W S){t e:TypeId}{r:Reach}{b0:Nat}{v:Value}{d:DataW H}{ps:List MemPlace}(ht:P.underlying t=some (.slice e))(he:P.underlying e=some (.int .u8))(hc:P.cellsOf e=1)
  (Jw:Value.okWide P W r b0 t v) (hd:DataW.Trod enc P W 0 (fun _=>true) true t v d ps):
  ∃(S' :St) (v' :Value) (bs:List UInt8),Jv W S S' v' v/\aN S'.s 1 v' bs.length (ofBytes bs):=by
 obtain⟨S',v',zs,hj,hs,hw⟩:=h.ints ht he hc Jw hd
 obtain⟨bs,h1,h2⟩:=TL hw
 exact⟨S',v',bs,hj,by rw[h1,<-h2];exact hs⟩
theorem Ei (hl:laidOutB P=true){W W' :World}(hb:Below W.heap.size W W'):∀{ts:List TypeId} {vs:List Value} {ds:List (DataW H)} {ps:List MemPlace},(∀t∈ts,P.readableRec t=true/\t<P.types.size)->
  DataW.TrodAll enc P W 0 (fun _=>true) true ts vs ds ps->(∀x∈ps,x.block<W.heap.size)->DataW.TrodAll enc P W' 0 (fun b=>decide (b<W.heap.size)) true ts vs ds ps:=by
 intro ts
 induction ts with
 |nil=>
  intro vs ds ps _ h _
  cases vs<;>cases ds<;>simp only[DataW.TrodAll] at h|-
  exact h
 |cons t ts ih=>
  intro vs ds ps hr h bc
  obtain⟨v,Ot,d,ds',p,q,rfl,rfl,rfl,h1,h2⟩:=trodAll_cons h
  exact⟨p,q,Below.trod hl (hr t (List.mem_cons_self ..)).1 (hr t (List.mem_cons_self ..)).2 h1 hb (fun x hx=>bc x (List.mem_append_left _ hx)),ih (fun t ht=>hr t (List.mem_cons_of_mem _ ht)) h2 (fun x hx=>bc x (List.mem_append_right _ hx)),rfl⟩
theorem TM {fn:Func}{s:ChangeSpec}{W W' :World}{args:Array Value}{ds gs:List (DataW H)}{before:List MemPlace}{tb:TypeId}(hl:laidOutB P=true)(aeL:∀t∈fn.params.toList,P.readableRec t=true/\t<P.types.size)
  (aa1:fn.resultTypes= #[tb]) (hb:P.underlying tb=some .bool) (Zy:s.vars=[]) (TA:∀l:List (DataW H),l.length=ds.length->s.fn H l={results:=[.lit (.bool true)],args:=l}) (hW:DataW.Whole enc P fn.params.toList s.vars false W args.toList ds gs before) (mY:Below W.heap.size W W'):
  ∃v,Ending.returned (.bool true)= .returned v/\s.post enc P fn false true false false W args v W' :=by
 have hW' :=hW
 obtain⟨p,q,hA,hV,rfl,hfz,hnd⟩:=hW
 rw[Zy] at hV
 obtain⟨rfl,rfl⟩:=trodVars_none hV
 have TN:s.fn H (ds++[])={results:=[.lit (.bool true)],args:=ds}:=by rw[List.append_nil];exact TA ds rfl
 refine⟨_,rfl,ds,[],p++[],[],p,[],hW',?_,?_,?_,mY.frame _,fun h=>by cases h⟩
 ·rw[TN,aa1]
  exact trodAll_cons_mk (shut_bool hb _) trodAll_mk0
 ·rw[TN]
  exact Ei hl mY aeL hA hA.lt
 ·rw[TN,Zy];rfl
end Go.Cl
namespace Go.Cl
def eW (o:Oper):Bool:=
 match o.op with
 | .move _| .assign _| .pick _ _ _| .build _ _| .nilCheck _| .binOp _ _ _ _ _| .unOp _ _ _| .fieldAddr _ _ _| .field _ _ _| .indexAddr _ _ _| .index _ _ _| .extract _ _=>true
 |_=>false
theorem Cn {P:Program}{o:Oper}(h:eW o=true):aM P o=true:=by
 obtain⟨dst,op,type,pos,after,guard⟩:=o
 cases op<;>simp_all[eW,aM]
theorem QT {P:Program}{o:Oper}(h:eW o=true)(f:aT):∃r:Option Value,∀s,cM P o f s=oW s r:=by
 obtain⟨dst,op,type,pos,after,guard⟩:=o
 cases op<;>simp only[eW] at h<;>try (cases h;done)
 case move x=>exact⟨aO f x,fun _=>rfl⟩
 case assign x=>exact⟨aO f x,fun _=>rfl⟩
 case pick c a b=>
  refine⟨match aO f c,aO f a,aO f b with
   |some (.bool t),some u,some v=>some (if t then u else v)
   |_,_,_=>none,fun s=> ?_⟩
  rw[B0]
  generalize aO f c=X
  generalize aO f a=Y
  generalize aO f b=Z
  split<;>first|rfl|(split<;>first|rfl|(exfalso;simp_all))
 case build t ps=>
  refine⟨match ae f ps.toList with
   |some l=>cE P t l
   |none=>none,fun s=> ?_⟩
  rw[xX]
  generalize ae f ps.toList=X
  cases X<;>rfl
 case nilCheck x=>
  refine⟨match aO f x with
   |some (.pointer (some a))=>some (.pointer (some a))
   |some (.func (.func g) arv bs)=>some (.func (.func g) arv bs)
   |_=>none,fun s=> ?_⟩
  rw[qg]
  generalize aO f x=X
  split<;>first|rfl|(split<;>first|rfl|(exfalso;simp_all))
 case binOp op t x y t2=>
  refine⟨match aO f x,aO f y with
   |some u,some v=>cI P op t u v
   |_,_=>none,fun s=> ?_⟩
  rw[xY]
  generalize aO f x=X
  generalize aO f y=Y
  cases X<;>cases Y<;>rfl
 case unOp op t x=>
  refine⟨match aO f x with
   |some u=>Ze op u
   |none=>none,fun s=> ?_⟩
  rw[B2]
  generalize aO f x=X
  cases X<;>rfl
 case fieldAddr t x i=>
  refine⟨match aO f x with
   |some u=>ay P t u i
   |none=>none,fun s=> ?_⟩
  rw[oI]
  generalize aO f x=X
  cases X<;>rfl
 case field t x i=>
  refine⟨match aO f x with
   |some u=>AU P t u i
   |none=>none,fun s=> ?_⟩
  rw[x4]
  generalize aO f x=X
  cases X<;>rfl
 case indexAddr t x y=>
  refine⟨match aO f x,aO f y with
   |some u,some v=>bQ P t u v
   |_,_=>none,fun s=> ?_⟩
  rw[oJ]
  generalize aO f x=X
  generalize aO f y=Y
  cases X<;>cases Y<;>rfl
 case index t x y=>
  refine⟨match aO f x,aO f y with
   |some u,some v=>rC P t u v
   |_,_=>none,fun s=> ?_⟩
  rw[x5]
  generalize aO f x=X
  generalize aO f y=Y
  cases X<;>cases Y<;>rfl
 case extract x i=>
  refine⟨match aO f x with
   |some u=>ba u i
   |none=>none,fun s=> ?_⟩
  rw[sk]
  generalize aO f x=X
  cases X<;>rfl
theorem wg {P:Program}{o:Oper}(h:eW o=true){f:aT}{s t:aq}{v:Value}{s' :aq}(ha:cM P o f s=some (.val v s')):cM P o f t=some (.val v t):=by
 obtain⟨r,hr⟩:=QT (P:=P) h f
 rw[hr] at ha
 cases r with
 |none=>cases ha
 |some u=>
  rw[vU] at ha
  injection ha with ha;injection ha with e _;subst e
  rw[hr];rfl
def ff (id:Nat):Option AR->Option (Value×jE)
 |some (.val v s1)=>
  match s1.bA id with
  |some b=>some (v,b)
  |none=>none
 |_=>none
def fq (P:Program)(lib:az)(all:List Oper):List Oper->Nat->aT->aq->(aT->aq->Prop)->Prop
 |[],_,f,T,Q=>Q f T
 |o::r,id,f,T,Q=>
  match cK all o f with
  |true=>
   match aM P o,aK P o with
   |true,_=>
    match cM P o f T with
    |some (.val v _)=>cf v v=true/\fa f o.dst v fun f' =>fq P lib all r id f' T Q
    |_=>False
   |false,true=>
    match ff id (cM P o f ⟨.nil,id⟩) with
    |some (v,b)=>fa f o.dst v fun f' =>fq P lib all r (id+1) f' (T.put id (.dK b)) Q
    |none=>False
   |false,false=>
    match cM P o f T with
    |some (.val v T')=>fa f o.dst v fun f' =>fq P lib all r id f' T' Q
    |some (.call g args)=>Runs P lib g args T fun v T' =>fa f o.dst v fun f' =>fq P lib all r id f' T' Q
    |none=>False
  |false=>fa f o.dst undef fun f' =>fq P lib all r (if aK P o then id+1 else id) f' T Q
def Co (P:Program)(lib:az)(all r:List Oper)(id:Nat)(f:aT)(T:aq)(d:Option Tmp)(Q:aT->aq->Prop):Option AR->Prop
 |some (.val v _)=>cf v v=true/\fa f d v fun f' =>fq P lib all r id f' T Q
 |_=>False
def Cp (P:Program)(lib:az)(all r:List Oper)(id:Nat)(f:aT)(T:aq)(d:Option Tmp)(Q:aT->aq->Prop):Option (Value×jE)->Prop
 |some (v,b)=>fa f d v fun f' =>fq P lib all r (id+1) f' (T.put id (.dK b)) Q
 |none=>False
def pn (P:Program)(lib:az)(all r:List Oper)(id:Nat)(f:aT)(d:Option Tmp)(T:aq)(Q:aT->aq->Prop):Option AR->Prop
 |some (.val v T')=>fa f d v fun f' =>fq P lib all r id f' T' Q
 |some (.call g args)=>Runs P lib g args T fun v T' =>fa f d v fun f' =>fq P lib all r id f' T' Q
 |none=>False
def sy (P:Program)(lib:az)(all r:List Oper)(id:Nat)(f:aT)(d:Option Tmp)(Q:aT->aq->Prop)(v:Value)(T' :aq):Prop:=fa f d v fun f' =>fq P lib all r id f' T' Q
def nW (P:Program)(lib:az)(all:List Oper)(o:Oper)(r:List Oper)(id:Nat)(f:aT)(T:aq)(Q:aT->aq->Prop):Bool->Prop
 |true=>
  match aM P o,aK P o with
  |true,_=>Co P lib all r id f T o.dst Q (cM P o f T)
  |false,true=>Cp P lib all r id f T o.dst Q (ff id (cM P o f ⟨.nil,id⟩))
  |false,false=>pn P lib all r id f o.dst T Q (cM P o f T)
 |false=>fa f o.dst undef fun f' =>fq P lib all r (if aK P o then id+1 else id) f' T Q
section
variable (P:Program) (lib:az) (all:List Oper) (r:List Oper) (id:Nat) (f:aT) (T:aq) (Q:aT->aq->Prop)
theorem x7:fq P lib all [] id f T Q=Q f T:=by simp only[fq]
theorem uJ (o:Oper):fq P lib all (o::r) id f T Q=nW P lib all o r id f T Q (cK all o f):=by
 simp only[fq]
 cases cK all o f with
 |false=>rfl
 |true=>
  simp only[nW]
  cases aM P o with
  |true=>
   simp only
   cases cM P o f T with
   |none=>rfl
   |some a=>cases a<;>rfl
  |false=>
   cases aK P o with
   |true=>
    simp only
    cases ff id (cM P o f ⟨.nil,id⟩) with
    |none=>rfl
    |some a=>rfl
   |false=>
    simp only
    cases cM P o f T with
    |none=>rfl
    |some a=>cases a<;>rfl
theorem zp (o:Oper)(h:aM P o=true):nW P lib all o r id f T Q true=Co P lib all r id f T o.dst Q (cM P o f T):=by simp only[nW,h]
theorem zq (o:Oper)(h:aM P o=false)(h2:aK P o=true):nW P lib all o r id f T Q true=Cp P lib all r id f T o.dst Q (ff id (cM P o f ⟨.nil,id⟩)):=by simp only[nW,h,h2]
theorem wh (o:Oper)(h:aM P o=false)(h2:aK P o=false):nW P lib all o r id f T Q true=pn P lib all r id f o.dst T Q (cM P o f T):=by simp only[nW,h,h2]
variable (d:Option Tmp) (ty:TypeId) (ps:String) (af:Array Edge) (gd:Option (Nat×Bool))
theorem Mr (o:Oper):nW P lib all o r id f T Q true=bif aM P o then Co P lib all r id f T o.dst Q (cM P o f T) else bif aK P o then Cp P lib all r id f T o.dst Q (ff id (cM P o f ⟨.nil,id⟩)) else pn P lib all r id f o.dst T Q (cM P o f T):=by
 cases hq:aM P o with
 |true=>rw[zp _ _ _ _ _ _ _ _ _ hq];rfl
 |false=>
  cases ha:aK P o with
  |true=>rw[zq _ _ _ _ _ _ _ _ _ hq ha];rfl
  |false=>rw[wh _ _ _ _ _ _ _ _ _ hq ha];rfl
theorem FH (o:Oper):nW P lib all o r id f T Q true=if aM P o=true then Co P lib all r id f T o.dst Q (cM P o f T) else if aK P o=true then Cp P lib all r id f T o.dst Q (ff id (cM P o f ⟨.nil,id⟩)) else pn P lib all r id f o.dst T Q (cM P o f T):=by
 rw[Mr]
 cases aM P o<;>cases aK P o<;>rfl
theorem pr (op:Op)(t:Tmp):nW P lib all ⟨some t,op,ty,ps,af,gd⟩ r id f T Q false=if t<f.n then fq P lib all r (bif aK P ⟨some t,op,ty,ps,af,gd⟩ then id+1 else id) (f.put t undef) T Q else False:=by
 unfold nW;simp only;rw[eg]
 cases aK P ⟨some t,op,ty,ps,af,gd⟩<;>rfl
theorem pt (op:Op):nW P lib all ⟨none,op,ty,ps,af,gd⟩ r id f T Q false=fq P lib all r (bif aK P ⟨none,op,ty,ps,af,gd⟩ then id+1 else id) f T Q:=by
 unfold nW;simp only;rw[Ff]
 cases aK P ⟨none,op,ty,ps,af,gd⟩<;>rfl
theorem FJ (t:Tmp)(v:Value)(s' :aq):Co P lib all r id f T (some t) Q (some (.val v s'))=if cf v v=true/\t<f.n then fq P lib all r id (f.put t v) T Q else False:=by
 simp only[Co,eg]
 by_cases h1:cf v v=true<;>by_cases h2:t<f.n<;>simp[h1,h2]
theorem FK (t:Tmp)(v:Value)(s' :aq):pn P lib all r id f (some t) T Q (some (.val v s'))=if t<f.n then fq P lib all r id (f.put t v) s' Q else False:=by
 simp only[pn,eg]
theorem sA (v:Value)(s' :aq):pn P lib all r id f none T Q (some (.val v s'))=fq P lib all r id f s' Q:=by
 simp only[pn,Ff]
theorem Cq (g:FuncId)(args:List Value):pn P lib all r id f d T Q (some (.call g args))=Runs P lib g args T (sy P lib all r id f d Q):=rfl
theorem Cr (t:Tmp)(v:Value)(s' :aq):sy P lib all r id f (some t) Q v s' =if t<f.n then fq P lib all r id (f.put t v) s' Q else False:=by
 simp only[sy,eg]
theorem Cs (v:Value)(s' :aq):sy P lib all r id f none Q v s' =fq P lib all r id f s' Q:=rfl
end
theorem Ej {P:Program}{lib:az}{all r:List Oper}{id:Nat}{f:aT}{d:Option Tmp}{Q:aT->aq->Prop}{v:Value}{s' :aq}(F:aT->Prop)(h:F f)(k:∀f,F f->sy P lib all r id f d Q v s'):sy P lib all r id f d Q v s' :=k f h
def Jx (P:Program)(o:Oper):Bool:= !eW o&& !aK P o
def HL (P:Program)(ops:List Oper):Bool:=
 let ms:=cq ops []
 ops.zipIdx.all fun x=>
  (ops.zipIdx.all fun y=> !aK P y.1||(bif Nat.blt y.2 x.2 then !Jx P x.1||Nat.testBit (cW ms x.2) y.2 else !Nat.testBit (cW ms x.2) y.2))&&
  (!(aM P x.1&& !eW x.1)||(Nat.ble (countP (fun j=> !Nat.testBit (cW ms j) x.2) P ops 0) (countP (fun j=>Nat.blt j x.2) P ops 0)&&Nat.beq (countP (Nat.testBit (cW ms x.2)) P ops 0) (countP (fun j=>Nat.blt j x.2) P ops 0)))
theorem fY (P:Program):∀(l:List Oper) (es:List Ev) (T:aq),∃r,aF P l es T=T::r:=by
 intro l
 induction l with
 |nil=>intro es T;exact⟨[],by cases es<;>rfl⟩
 |cons o l ih=>
  intro es T
  cases es with
  |nil=>exact⟨[],rfl⟩
  |cons e es=>
   simp only[aF]
   split
   ·exact⟨_,rfl⟩
   ·split
    ·exact⟨_,rfl⟩
    ·exact ih es T
def fV (P:Program):List Oper->Nat->Nat
 |[],_=>0
 |_,0=>0
 |o::r,n+1=>if bd P o then fV P r n+1 else fV P r n
theorem oL (P:Program):∀(l:List Oper) (i n:Nat),countP (fun j=>Nat.blt j (i+n)) P l i=fV P l n:=by
 intro l
 induction l with
 |nil=>intro i n;cases n<;>rfl
 |cons o l ih=>
  intro i n
  simp only[countP]
  cases n with
  |zero=>
   have h0:∀(l:List Oper) (k:Nat),i<=k->countP (fun j=>Nat.blt j (i+0)) P l k=0:=by
    intro l
    induction l with
    |nil=>intro k _;rfl
    |cons p l ihl=>
     intro k hk
     have hb:Nat.blt k (i+0)=false:=by rw[<-Bool.not_eq_true,Nat.blt_eq];omega
     simp only[countP,hb,Bool.and_false,Bool.false_eq_true,if_false]
     exact ihl (k+1) (by omega)
   have hb:Nat.blt i (i+0)=false:=by rw[<-Bool.not_eq_true,Nat.blt_eq];omega
   simp only[hb,Bool.and_false,Bool.false_eq_true,if_false,fV]
   exact h0 l (i+1) (by omega)
  |succ n=>
   have hb:Nat.blt i (i+(n+1))=true:=by rw[Nat.blt_eq];omega
   have e:i+(n+1)=(i+1)+n:=by omega
   simp only[hb,Bool.and_true,fV]
   rw[e,ih (i+1) n]
theorem zt (P:Program):∀(a b:List Oper),fV P (a++b) a.length=fV P a a.length:=by
 intro a
 induction a with
 |nil=>intro b;cases b<;>rfl
 |cons o a ih=>intro b;simp only[List.cons_append,List.length_cons,fV];rw[ih b]
theorem FL (P:Program)(o:Oper):∀(a:List Oper),fV P (a++[o]) (a++[o]).length=if bd P o then fV P a a.length+1 else fV P a a.length:=by
 intro a
 induction a with
 |nil=>rfl
 |cons p a ih=>simp only[List.cons_append,List.length_cons,fV];rw[ih];split<;>split<;>rfl
theorem nX (p:Nat->Bool):∀(a b:List (Nat×Nat×jE)) (T:aq),Cl.fill p T (a++b)=Cl.fill p (Cl.fill p T a) b:=by
 intro a
 induction a with
 |nil=>intro b T;rfl
 |cons x a ih=>
  intro b T
  obtain⟨j,id,bk⟩:=x
  simp only[List.cons_append,Cl.fill]
  split
  ·exact ih _ _
  ·exact ih _ _
theorem FM (p:Nat->Bool):∀(a:List (Nat×Nat×jE)) (T:aq),(∀x∈a,p x.1=false)->Cl.fill p T a=T:=by
 intro a
 induction a with
 |nil=>intro T _;rfl
 |cons x a ih=>
  intro T h
  obtain⟨j,id,bk⟩:=x
  have hj:p j=false:=h (j,id,bk) (List.mem_cons_self ..)
  simp only[Cl.fill,hj]
  exact ih T (fun y hy=>h y (List.mem_cons_of_mem _ hy))
theorem FN (p:Nat->Bool):∀(a:List (Nat×Nat×jE)) (T:aq),(∀x∈a,T.heap.get x.2.1≠none)->Cl.fill p T a=T:=by
 intro a
 induction a with
 |nil=>intro T _;rfl
 |cons x a ih=>
  intro T h
  obtain⟨j,id,bk⟩:=x
  have hj:T.heap.get id≠none:=h (j,id,bk) (List.mem_cons_self ..)
  simp only[Cl.fill]
  split
  ·rename_i _ hn;exact absurd hn hj
  ·exact ih T (fun y hy=>h y (List.mem_cons_of_mem _ hy))
structure Stands (s0:aq) (K:Nat) (i id:Nat) (arv:List (Nat×Nat×jE)) (T U:aq):Prop where
 fill:∀p:Nat->Bool,(∀x∈arv,p x.1=true)->Cl.fill p T arv=U
 here:∀x∈arv,U.heap.get x.2.1≠none
 before:∀x∈arv,x.1<i
 lo:s0.next<=id
 free:∀k,id<=k->k<s0.next+K->U.heap.get k=none
 next:s0.next+K<=U.next
 keeps:bN s0 U
theorem Ek {P:Program}{lib:az}{all:List Oper}(s0:aq)(vP:List Nat){Q:aT->aq->Prop}
  (aa6:∀(o:Oper) (i:Nat),all[i]?=some o->aM P o=true->eW o=false->countP (fun j=> !Nat.testBit (cW vP j) i) P all 0<=fV P all i/\countP (Nat.testBit (cW vP i)) P all 0=fV P all i)
  (TO:∀(o p:Oper) (i j:Nat),all[i]?=some o->all[j]?=some p->aK P p=true->j<i->Jx P o=true->Nat.testBit (cW vP i) j=true)
  (aa7:∀(o p:Oper) (i j:Nat),all[i]?=some o->all[j]?=some p->aK P p=true->i<=j->Nat.testBit (cW vP i) j=false):
  ∀(l pre:List Oper) (ms:List Nat) (id:Nat) (f:aT) (T U:aq) (arv:List (Nat×Nat×jE)),all=pre++l->ms=vP.drop pre.length->ms.length=l.length->id+aP P l<=s0.next+aP P all->Stands s0 (aP P all) pre.length id arv T U->(∀x∈arv,∃p,all[x.1]?=some p/\aK P p=true)->fq P lib all l id f U Q->
  ∃es f' T' U',(∃n,∀m,n<=m->cG P (gV P lib m) all ms l pre.length id f T arv=some es)/\(aF P l es T).getLastD T=T' /\cL l es f=f' /\Cl.fill (fun _=>true) T' (arv++madeOf es pre.length)=U' /\
   (∀x∈madeOf es pre.length,pre.length<=x.1/\∃p,all[x.1]?=some p/\aK P p=true)/\
   (∀oX before,oX=before++aF P l es T->before.length=fV P pre pre.length->cr P all vP (arv++madeOf es pre.length) oX ms l es pre.length f=true)/\bN s0 U' /\Q f' U' :=by
 intro l
 induction l with
 |nil=>
  intro pre ms id f T U arv _ _ hl _ aD _ hw
  rw[x7] at hw
  cases ms with
  |cons m r=>simp at hl
  |nil=>exact⟨[],f,T,U,⟨0,fun _ _=>rfl⟩,rfl,rfl,by simp only[madeOf,List.append_nil];exact aD.fill _ (fun _ _=>rfl),(fun x hx=>by simp[madeOf] at hx),fun _ _ _ _=>rfl,aD.keeps,hw⟩
 |cons o r ih=>
  intro pre ms id f T U arv dN OG hl gn aD has hw
  cases ms with
  |nil=>simp at hl
  |cons m ms=>
  have Jo:ms.length=r.length:=by simpa using hl
  have wi:all=(pre++[o])++r:=by rw[dN,List.append_assoc];rfl
  have ef:(pre++[o]).length=pre.length+1:=by simp
  have HM:ms=vP.drop (pre++[o]).length:=by
   rw[ef,<-List.drop_drop,<-OG];rfl
  have hmA:cW vP pre.length=m:=by
   have x8:∀(L:List Nat) (k:Nat) (x:Nat) (t:List Nat),L.drop k=x::t->cW L k=x:=by
    intro L
    induction L with
    |nil=>intro k x t h;simp at h
    |cons y L QM=>
     intro k x t h
     cases k with
     |zero=>simp at h;exact h.1
     |succ k=>simp only[List.drop_succ_cons] at h;simp only[cW];exact QM k x t h
   exact x8 vP pre.length m ms OG.symm
  have jV:all[pre.length]?=some o:=by rw[dN];simp
  have OT:fV P all pre.length=fV P pre pre.length:=by rw[dN,zt]
  have HN:=FL P o pre
  have nd:∀(v:Value) (id' :Nat) (U' :aq),(fa f o.dst v fun f' =>fq P lib all r id' f' U' Q)->∃f1,kr f o.dst v=some f1/\fq P lib all r id' f1 U' Q:=by
   intro v id' U' h
   unfold fa at h
   split at h
   ·exact⟨_,‹_›,h⟩
   ·exact h.elim
  have mA:aP P (o::r)=if aK P o then aP P r+1 else aP P r:=rfl
  have Ct:Jx P o=true->Cl.fill (Nat.testBit m) T arv=U:=fun hn=>aD.fill _ (fun x hx=>by
   obtain⟨p,hp,SU⟩:=has x hx
   rw[<-hmA]
   exact TO o p pre.length x.1 jV hp SU (aD.before x hx) hn)
  rw[uJ] at hw
  cases xy:cK all o f with
  |false=>
   rw[xy] at hw
   obtain⟨f1,hp,hw⟩:=nd _ _ _ hw
   have dC:Stands s0 (aP P all) (pre++[o]).length (if aK P o then id+1 else id) arv T U:=by
    refine⟨aD.fill,aD.here,fun x hx=>by have:=aD.before x hx;omega,by have:=aD.lo;split<;>omega,fun k hk mv=>aD.free k (by split at hk<;>omega) mv,aD.next,aD.keeps⟩
   obtain⟨es,f',T',U',⟨n,h1⟩,h3,h4,hf,wj,h5,hk,h6⟩:=ih (pre++[o]) ms _ f1 T U arv wi HM Jo (by rw[mA] at gn;split<;>split at gn<;>first|omega|contradiction) dC has hw
   rw[ef] at h1 h5 hf wj
   refine⟨.skip::es,f',T',U',⟨n,fun q hq=> ?_⟩,?_,by simp only[cL,Ev.val,hp,h4],by simp only[madeOf];exact hf,(fun x hx=>by simp only[madeOf] at hx;obtain⟨a,b⟩:=wj x hx;exact⟨by omega,b⟩),fun oX before hs hb=> ?_,hk,h6⟩
   ·simp only[cG,dL,xy,Ev.val,hp]
    rw[h1 q hq]
   ·simp only[aF]
    split
    ·obtain⟨rr,hr⟩:=fY P r es T
     rw[hr] at h3|-
     rw[List.getLastD_cons] at h3|-
     rw[List.getLastD_cons];exact h3
    ·exact h3
   ·simp only[cr,Ev.val,hp,Bool.true_and,madeOf]
    simp only[aF] at hs
    split at hs
    ·rename_i he
     refine h5 oX (before++[T]) (by rw[hs,List.append_assoc];rfl) ?_
     rw[<-ef,HN,if_pos he,List.length_append,hb];rfl
    ·rename_i he
     refine h5 oX before hs ?_
     rw[<-ef,HN,if_neg he,hb]
  |true=>
   rw[xy] at hw
   cases hq:aM P o with
   |true=>
    rw[zp _ _ _ _ _ _ _ _ _ hq] at hw
    have ck:=kE hq
    have Mn:=lR hq
    rw[mA,if_neg (by simp[Mn])] at gn
    unfold Co at hw
    split at hw
    case h_2=>exact hw.elim
    rename_i v s1 fE
    obtain⟨hv,hw⟩:=hw
    obtain⟨f1,hp,hw⟩:=nd _ _ _ hw
    have dC:Stands s0 (aP P all) (pre++[o]).length id arv T U:=⟨aD.fill,aD.here,fun x hx=>by have:=aD.before x hx;omega,aD.lo,aD.free,aD.next,aD.keeps⟩
    obtain⟨es,f',T',U',⟨n,h1⟩,h3,h4,hf,wj,h5,hk,h6⟩:=ih (pre++[o]) ms id f1 T U arv wi HM Jo gn dC has hw
    rw[ef] at h1 h5 hf wj
    have sd:∃s2,cM P o f (Cl.fill (Nat.testBit m) T arv)=some (.val v s2):=by
     cases uK:eW o with
     |true=>exact⟨_,wg uK fE⟩
     |false=>exact⟨s1,by rw[Ct (by simp[Jx,uK,Mn])];exact fE⟩
    obtain⟨s2,sd⟩:=sd
    refine⟨.quiet v::es,f',T',U',⟨n,fun q QU=> ?_⟩,?_,by simp only[cL,Ev.val,hp,h4],by simp only[madeOf];exact hf,(fun x hx=>by simp only[madeOf] at hx;obtain⟨a,b⟩:=wj x hx;exact⟨by omega,b⟩),fun oX before hs hb=> ?_,hk,h6⟩
    ·simp only[cG,dL,xy,hq,sd,Ev.val,hp,Mn]
     rw[if_neg (by simp),h1 q QU]
    ·simp only[aF,ck];simpa using h3
    ·have Ba:oX=before++aF P r es T:=by simpa [aF,ck] using hs
     simp only[cr,Ev.val,hp,madeOf]
     rw[h5 oX before Ba (by rw[<-ef,HN,if_neg (by simp[ck]),hb]),Bool.and_true]
     have hfw:∀X:aq,Cl.fill (Nat.testBit m) X (arv++madeOf es (pre.length+1))=Cl.fill (Nat.testBit m) X arv:=by
      intro X
      rw[nX,FM _ (madeOf es (pre.length+1))]
      intro x hx
      obtain⟨a,p,Tt,SU⟩:=wj x hx
      rw[<-hmA]
      exact aa7 o p pre.length x.1 jV Tt SU (by omega)
     have vA:∀(L:List aq),(eW o=false->∀x∈L,x=T)->sameAt P m (arv++madeOf es (pre.length+1)) o f v L=true:=by
      intro L
      induction L with
      |nil=>intro _;rfl
      |cons x L QM=>
       intro hx
       simp only[sameAt,hfw]
       have:∃s3,cM P o f (Cl.fill (Nat.testBit m) x arv)=some (.val v s3):=by
        cases uK:eW o with
        |true=>exact⟨_,wg uK fE⟩
        |false=>rw[hx uK x (List.mem_cons_self ..)];exact⟨s2,sd⟩
       obtain⟨s3,ij⟩:=this
       rw[ij]
       simp only[hv,Bool.true_and]
       exact QM (fun uK y hy=>hx uK y (List.mem_cons_of_mem _ hy))
     refine vA _ (fun uK x hx=> ?_)
     obtain⟨t1,t2⟩:=aa6 o pre.length jV hq uK
     rw[hmA] at t2
     rw[t2] at hx
     obtain⟨rr,hr⟩:=fY P r es T
     rw[OT,<-hb,List.drop_take,Ba,hr,List.drop_left] at hx
     have kD:countP (fun j=> !Nat.testBit (cW vP j) pre.length) P all 0+1-before.length<=1:=by omega
     generalize countP (fun j=> !Nat.testBit (cW vP j) pre.length) P all 0+1-before.length=k at hx kD
     cases k with
     |zero=>simp at hx
     |succ k=>
      obtain rfl:k=0:=by omega
      simpa using hx
   |false=>
    cases ha:aK P o with
    |true=>
     rw[zq _ _ _ _ _ _ _ _ _ hq ha] at hw
     rw[mA,if_pos ha] at gn
     have ck:bd P o=false:=by simp[bd,ha]
     unfold Cp at hw
     split at hw
     case h_2=>exact hw.elim
     rename_i v b fE
     obtain⟨f1,hp,hw⟩:=nd _ _ _ hw
     have aba:∃s1,cM P o f ⟨.nil,id⟩=some (.val v s1)/\s1.bA id=some b:=by
      unfold ff at fE
      split at fE
      ·rename_i v1 s1 h1
       split at fE
       ·rename_i b1 gu
        injection fE with fE;injection fE with e1 e2;subst e1;subst e2
        exact⟨s1,h1,gu⟩
       ·cases fE
      ·cases fE
     obtain⟨s1,tE,fx⟩:=aba
     have mi:=aD.free id (Nat.le_refl _) (by omega)
     have bc:id<U.next:=by have:=aD.next;omega
     have dC:Stands s0 (aP P all) (pre++[o]).length (id+1) (arv++[(pre.length,id,b)]) T (U.put id (.dK b)):=by
      refine⟨fun p hp=> ?_,fun x hx=> ?_,fun x hx=> ?_,by have:=aD.lo;omega,fun k hk mv=> ?_,by have:=aD.next;simpa [aq.put] using this,?_⟩
      ·rw[nX,aD.fill p (fun x hx=>hp x (List.mem_append_left _ hx))]
       have Ow:p pre.length=true:=hp (pre.length,id,b) (List.mem_append_right _ (List.mem_cons_self ..))
       simp only[Cl.fill,Ow,mi]
      ·rcases List.mem_append.mp hx with hx|hx
       ·have hh:=aD.here x hx
        have:x.2.1≠id:=fun e=>hh (by rw[e];exact mi)
        rw[aq.bD _ _ _ _ (Ne.symm this)];exact hh
       ·rw[List.mem_singleton] at hx;subst hx
        simp only[aq.put,Tr.bp _ _ _ _ (deep (by omega))];simp
      ·rcases List.mem_append.mp hx with hx|hx
       ·have:=aD.before x hx;omega
       ·rw[List.mem_singleton] at hx;subst hx;simp
      ·rw[aq.bD _ _ _ _ (by omega)];exact aD.free k (by omega) mv
      ·have hk:=aD.keeps
       refine⟨hk.next,fun j hj hn=> ?_,fun j hj=> ?_,⟨by omega,fun j ob hj=> ?_⟩⟩
       ·have:=aD.lo
        rw[aq.bD _ _ _ _ (by omega)];exact hk.gone j hj hn
       ·by_cases gz:id=j
        ·subst gz;simp only[aq.put,Tr.bp _ _ _ _ (deep (by omega))];simp
        ·rw[aq.bD _ _ _ _ gz];exact hk.here j hj
       ·by_cases gz:id=j
        ·subst gz;simpa [aq.put] using bc
        ·rw[aq.bD _ _ _ _ gz] at hj;have:=hk.wf.bound j ob hj;simpa [aq.put] using this
     have abb:∀x∈arv++[(pre.length,id,b)],∃p,all[x.1]?=some p/\aK P p=true:=by
      intro x hx
      rcases List.mem_append.mp hx with hx|hx
      ·exact has x hx
      ·rw[List.mem_singleton] at hx;subst hx;exact⟨o,jV,ha⟩
     obtain⟨es,f',T',U',⟨n,h1⟩,h3,h4,hf,wj,h5,hk,h6⟩:=ih (pre++[o]) ms (id+1) f1 T _ _ wi HM Jo (by omega) dC abb hw
     rw[ef] at h1 h5 hf wj
     have hap:∀L,arv++(pre.length,id,b)::L=(arv++[(pre.length,id,b)])++L:=fun L=>by rw[List.append_assoc];rfl
     refine⟨.made v id b::es,f',T',U',⟨n,fun q QU=> ?_⟩,?_,by simp only[cL,Ev.val,hp,h4],by simp only[madeOf];rw[hap];exact hf,(fun x hx=> ?_),fun oX before hs hb=> ?_,hk,h6⟩
     ·simp only[cG,dL,xy,hq,ha,tE,fx,Ev.val,hp,if_true]
      rw[h1 q QU]
     ·simp only[aF,ck];simpa using h3
     ·simp only[madeOf] at hx
      rcases List.mem_cons.mp hx with rfl|hx
      ·exact⟨Nat.le_refl _,o,jV,ha⟩
      ·obtain⟨a,c⟩:=wj x hx;exact⟨by omega,c⟩
     ·simp only[cr,Ev.val,hp,Bool.true_and,madeOf]
      rw[hap]
      have Ba:oX=before++aF P r es T:=by simpa [aF,ck] using hs
      exact h5 oX before Ba (by rw[<-ef,HN,if_neg (by simp[ck]),hb])
    |false=>
     rw[wh _ _ _ _ _ _ _ _ _ hq ha] at hw
     rw[mA,if_neg (by simp[ha])] at gn
     have he:bd P o=true:=by simp[bd,hq,ha]
     have uK:eW o=false:=by
      cases uK:eW o with
      |false=>rfl
      |true=>rw[Cn uK] at hq;cases hq
     have hU:=Ct (by simp[Jx,uK,ha])
     have fin:∀(v:Value) (U1:aq) (n0:Nat),(∀q,n0<=q->dL P (gV P lib q) all m id arv o f T=some (.DV v U1))->bN U U1->(fa f o.dst v fun f' =>fq P lib all r id f' U1 Q)->
       ∃es f' T' U',(∃n,∀m',n<=m' ->cG P (gV P lib m') all (m::ms) (o::r) pre.length id f T arv=some es)/\(aF P (o::r) es T).getLastD T=T' /\cL (o::r) es f=f' /\Cl.fill (fun _=>true) T' (arv++madeOf es pre.length)=U' /\
        (∀x∈madeOf es pre.length,pre.length<=x.1/\∃p,all[x.1]?=some p/\aK P p=true)/\
        (∀oX before,oX=before++aF P (o::r) es T->before.length=fV P pre pre.length->cr P all vP (arv++madeOf es pre.length) oX (m::ms) (o::r) es pre.length f=true)/\bN s0 U' /\Q f' U' :=by
      intro v U1 n0 hd QV hw
      obtain⟨f1,hp,hw⟩:=nd _ _ _ hw
      have Jy:∀x∈arv,U1.heap.get x.2.1≠none:=fun x hx=>QV.here _ (aD.here x hx)
      have dC:Stands s0 (aP P all) (pre++[o]).length id arv U1 U1:=by
       refine⟨fun p hp=>FN p arv U1 Jy,Jy,fun x hx=>by have:=aD.before x hx;omega,aD.lo,fun k hk mv=>QV.gone k (by have:=aD.next;omega) (aD.free k hk mv),by have:=aD.next;have:=QV.next;omega,aD.keeps.trans QV⟩
      obtain⟨es,f',T',U',⟨n,h1⟩,h3,h4,hf,wj,h5,hk,h6⟩:=ih (pre++[o]) ms id f1 U1 U1 arv wi HM Jo gn dC has hw
      rw[ef] at h1 h5 hf wj
      refine⟨.DV v U1::es,f',T',U',⟨n+n0,fun q QU=> ?_⟩,?_,by simp only[cL,Ev.val,hp,h4],by simp only[madeOf];exact hf,(fun x hx=>by simp only[madeOf] at hx;obtain⟨a,b⟩:=wj x hx;exact⟨by omega,b⟩),fun oX before hs hb=> ?_,hk,h6⟩
      ·simp only[cG,hd q (by omega),Ev.val,hp,ha]
       rw[if_neg (by simp),h1 q (by omega)]
      ·simp only[aF]
       obtain⟨rr,hr⟩:=fY P r es U1
       rw[hr] at h3|-
       rw[List.getLastD_cons] at h3|-
       rw[List.getLastD_cons];exact h3
      ·simp only[cr,Ev.val,hp,Bool.true_and,madeOf]
       simp only[aF] at hs
       refine h5 oX (before++[T]) (by rw[hs,List.append_assoc];rfl) ?_
       rw[<-ef,HN,if_pos he,List.length_append,hb];rfl
     unfold pn at hw
     split at hw
     case h_3=>exact hw.elim
     ·rename_i v U1 fE
      exact fin v U1 0 (fun q _=>by simp only[dL,xy,hq,ha,hU,fE]) (xT aD.keeps.wf fE) hw
     ·rename_i g args fE
      obtain⟨v,U1,⟨nc,hc⟩,QV,hw⟩:=hw aD.keeps.wf
      exact fin v U1 nc (fun q QU=>by simp only[dL,xy,hq,ha,hU,fE,hc q QU]) QV hw
def spare (s:aq)(k:Nat):aq:=⟨s.heap,s.next+k⟩
theorem qi (s:aq):spare s 0=s:=rfl
theorem bU (s:aq)(k:Nat):(spare s k).next=s.next+k:=rfl
theorem ar.spare (s:aq)(k:Nat):ar s.next s (spare s k):=⟨by simp[Cl.spare],fun _ _=>rfl⟩
theorem da.tight {P:Program}{lib:az}{ops:List Oper}(ht:HL P ops=true){f:aT}{s:aq}{Q:aT->aq->Prop}(h:fq P lib ops ops s.next f (spare s (aP P ops)) Q):da P lib ops f s Q:=by
 intro pW
 simp only[HL,List.all_eq_true,Bool.and_eq_true,Bool.or_eq_true,Bool.not_eq_true'] at ht
 have o7:∀(o:Oper) (i:Nat),ops[i]?=some o->(o,i)∈ops.zipIdx:=fun o i hi=>by rw[List.mem_zipIdx_iff_getElem?];simpa using hi
 have OG:(cq ops []).length=ops.length:=by
  obtain⟨r,h1,h2⟩:=mM ops []
  rw[h1];simpa using h2
 have mi:∀k,s.next<=k->s.heap.get k=none:=fun k kD=>by
  cases hg:s.heap.get k with
  |none=>rfl
  |some o=>have:=pW.bound k o hg;omega
 have SB:bN s (spare s (aP P ops)):=⟨by simp[spare],fun _ _ h=>h,fun _ h=>h,⟨by omega,fun j o hj=>by have:=pW.bound j o hj;simp only[spare];omega⟩⟩
 obtain⟨es,f',T',U',⟨n,h1⟩,h3,h4,hf,wj,h5,hk,h6⟩:=Ek (P:=P) (lib:=lib) (all:=ops) s (cq ops []) (Q:=Q) (fun o i hi hq hp=>by
   have:=(ht (o,i) (o7 o i hi)).2
   have IG:=oL P ops 0 i
   rw[Nat.zero_add] at IG
   rcases this with h|h
   ·simp[hq,hp] at h
   ·obtain⟨t1,t2⟩:=h
    rw[IG] at t1 t2
    exact⟨by simpa [Nat.ble_eq] using t1,by simpa [Nat.beq_eq] using t2⟩)
  (fun o p i j hi hj ha gz hn=>by
   have:=(ht (o,i) (o7 o i hi)).1 (p,j) (o7 p j hj)
   have hb:Nat.blt j i=true:=by simpa [Nat.blt_eq] using gz
   simp only[ha,hb,cond_true,hn] at this
   simpa using this)
  (fun o p i j hi hj ha th=>by
   have:=(ht (o,i) (o7 o i hi)).1 (p,j) (o7 p j hj)
   have hb:Nat.blt j i=false:=by rw[<-Bool.not_eq_true,Nat.blt_eq];omega
   simp only[ha,hb,cond_false] at this
   simpa using this)
  ops [] (cq ops []) s.next f (spare s (aP P ops)) (spare s (aP P ops)) [] rfl rfl OG (by omega)
  ⟨fun _ _=>rfl,fun _ hx=>(by cases hx),fun _ hx=>(by cases hx),Nat.le_refl _,fun k kD _=>mi k kD,by simp[spare],SB⟩ (fun _ hx=>(by cases hx)) h
 simp only[List.nil_append,List.length_nil] at h1 h5 hf wj
 refine⟨f',U',⟨n,fun m hm=> ?_⟩,hk,h6⟩
 unfold fj
 have Xh:=h1 m hm
 have hb:Nat.ble 0 16000000=true:=rfl
 simp only[]
 show(match cG P (gV P lib m) ops (cq ops []) ops 0 s.next f (spare s (aP P ops)) [] with
  |some es=>match cr P ops (cq ops []) (madeOf es 0) (aF P ops es (spare s (aP P ops))) (cq ops []) ops es 0 f with
   |true=>some (cL ops es f,Cl.fill (fun _=>true) ((aF P ops es (spare s (aP P ops))).getLastD s) (madeOf es 0))
   |false=>none
  |none=>none)=_
 rw[Xh]
 have h5' :=h5 (aF P ops es (spare s (aP P ops))) [] rfl rfl
 simp only[h5',h4]
 obtain⟨rr,hr⟩:=fY P ops es (spare s (aP P ops))
 rw[hr] at h3|-
 rw[List.getLastD_cons] at h3|-
 rw[h3,hf]
theorem da.x9 {P:Program}{lib:az}{ops:List Oper}{f:aT}{s:aq}{Q:aT->aq->Prop}(k:Nat)(ht:HL P ops=true)(hk:Nat.beq (aP P ops) k=true)(h:fq P lib ops ops s.next f (spare s k) Q):Fi P lib ops f s Q false:=by
 have:aP P ops=k:=by simpa [Nat.beq_eq] using hk
 exact da.tight ht (by rw[this];exact h)
theorem da.uL {P:Program}{lib:az}{ops:List Oper}{f:aT}{s:aq}{Q:aT->aq->Prop}(ht:(HL P ops&&Nat.beq (aP P ops) 0)=true)(h:fq P lib ops ops s.next f s Q):Fi P lib ops f s Q false:=by
 rw[Bool.and_eq_true] at ht
 exact da.x9 0 ht.1 ht.2 h
end Go.Cl
