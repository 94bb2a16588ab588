import Derived.Test.YtdfjfncifneocaaGreatNfE
import Derived.Test.YtdfjfncifneocaaGreatPrim
open Nat renaming reduceLT->QS,reduceEqDiff->WP
set_option linter.unusedSimpArgs false
set_option linter.unusedVariables false
set_option maxRecDepth 100000
namespace Go.Cl.Fx
theorem LR.kept {jf jb:Nat}{o:Value}{s t t' :aq}(h:LR jf jb o s o t)(k:ar t.next t t'):LR jf jb o s o t' :=
 ⟨Nat.le_trans h.next k.next,fun i hi h1 h2 h3=>(k.get i (Nat.lt_of_lt_of_le hi h.next)).trans (h.get i hi h1 h2 h3),.inl rfl⟩
end Go.Cl.Fx
namespace Go.Cl
namespace LB
end LB
end Go.Cl
namespace Go.Cl.Nf
open Go.Cl.Fx Go.Cl.Sto
theorem VT {P:Program}{lib:az}{cA cB:Code}{f:aT}{s:aq}{Q:AX->aT->aq->Prop}{b:Bool}(J:aT->aq->Prop)(h1:∀Q' :AX->aT->aq->Prop,(∀f' s',J f' s' ->Q' .normal f' s')->TE P lib cA cB f s Q' b)(h2:∀f' s',J f' s' ->Q .normal f' s'):TE P lib cA cB f s Q b:=h1 Q h2
theorem R8 (D:List UInt8)(e n:Nat):GM D (.error e) n= .error e:=rfl
theorem xg {D:List UInt8}{p n:Nat}(h:p+n<=8*D.length):VP D (.ok p) n=bM D p n:=if_pos h
theorem xh {D:List UInt8}{p n:Nat}(h:p+n<=8*D.length):GM D (.ok p) n= .ok (p+n):=if_pos h
theorem xi {D:List UInt8}{p n:Nat}(h:¬p+n<=8*D.length):GM D (.ok p) n= .error 2:=if_neg h
def zW {α β:Type}(x:Except Nat α)(f:α->Except Nat β):Except Nat β:=match x with| .ok a=>f a| .error e=> .error e
theorem ko {α β:Type}(a:α)(f:α->Except Nat β):zW (.ok a) f=f a:=rfl
theorem mT {α β:Type}(e:Nat)(f:α->Except Nat β):zW (.error e) f= .error e:=rfl
end Go.Cl.Nf
namespace Go.Proofs.YtdfjfncifneocaaGreat
open Go.Cl Go.Cl.Rw Go.Cl.Sto Go.Cl.Fx Go.Cl.Nf
theorem SN.turns {base jf jb:Nat}{D P:List UInt8}{M:Int}{bv o y:Value}{t t' :aq}{x:Except Nat Nat}(h:SN base jf jb D P M bv o t x)(k:aY y t t')(hy:∀i,aE y=some i->base<=i/\i≠jf/\i≠jb/\aE o≠some i)(hb:base<=t.next):SN base jf jb D P M bv o t' x:=by
 have n1:aE y≠some jb:=fun e=>(hy _ e).2.2.1 rfl
 have n2:aE y≠some jf:=fun e=>(hy _ e).2.1 rfl
 cases x with
 |ok p=>exact⟨⟨h.1.b.turns k n1,h.1.f.turns k n2,h.1.low.stay (k.keeps (fun i e=>(hy i e).1) hb),h.1.own.turns k (fun i e e2=>(hy i e2).2.2.2 e),h.1.fresh,h.1.nb,h.1.nf,h.1.ne,h.1.lb,h.1.lf⟩,h.2⟩
 |error e=>
  obtain⟨kO,pv,o',m',h⟩:=h
  exact⟨kO,pv,o',m',⟨h.b.turns k n1,h.f.turns k n2,h.pos,h.ne,h.lb,h.lf⟩⟩
theorem GN (L K:List Nat):fZ L++fZ K=fZ (L++K):=by simp[fZ]
end Go.Proofs.YtdfjfncifneocaaGreat
set_option linter.unusedSimpArgs false
set_option linter.unusedVariables false
set_option maxRecDepth 100000
namespace Go.Cl.Nf
open Go.Cl.Fx Go.Cl.Sto
theorem acw (N:Nat)(D:List UInt8)(M p:Nat)(P:List UInt8):eH N D M p P=zW (GM D (GM D (.ok p) 1) 2) fun r=>zW (gN N D M (VP D (GM D (.ok p) 1) 2) r P) fun y=> .ok (VP D (.ok p) 1,y.1,y.2):=by
 unfold eH
 by_cases c1:p+1<=8*D.length
 rotate_left
 ·rw[lF c1,xi c1];rfl
 rw[dW c1,xh c1,xg c1]
 dsimp only
 by_cases c2:p+1+2<=8*D.length
 rotate_left
 ·rw[lF c2,xi c2];rfl
 rw[dW c2,xh c2,xg c2,ko]
 dsimp only
 cases gN N D M (bM D (p+1) 2) (p+1+2) P with
 |error e=>rfl
 |ok y=>rfl
theorem PS {D:List UInt8}:∀{r:List Nat} {p:Nat} {o o' :List Nat} {q:Nat},NF D r p o= .ok (o',q)->p<=q
 |[],p,o,o',q,h=>by injection h with h;injection h with h1 h2;omega
 |i::r,p,o,o',q,h=>by
  unfold NF at h
  cases h1:di D p 3 with
  |error e=>rw[h1] at h;cases h
  |ok x=>rw[h1] at h;have:=PS h;omega
theorem R9 {D:List UInt8}{s p:Nat}{l:List Nat}{x n q:Nat}(h:yH D s p l= .ok (x,n,q)):p<=q:=by
 unfold yH at h
 split at h
 ·split at h
  ·cases h
  ·cases h1:di D p 2 with
   |error e=>rw[h1] at h;cases h
   |ok y=>rw[h1] at h;injection h with h;injection h with _ h;injection h with _ h;omega
 split at h
 ·cases h1:di D p 3 with
  |error e=>rw[h1] at h;cases h
  |ok y=>rw[h1] at h;injection h with h;injection h with _ h;injection h with _ h;omega
 split at h
 ·cases h1:di D p 7 with
  |error e=>rw[h1] at h;cases h
  |ok y=>rw[h1] at h;injection h with h;injection h with _ h;injection h with _ h;omega
 ·injection h with h;injection h with _ h;injection h with _ h;omega
theorem KY {D:List UInt8}{C:List Nat}{M:Nat}:∀{k p:Nat} {l l' :List Nat} {q:Nat},Du D C M k p l= .ok (l',q)->p<=q
 |0,p,l,l',q,h=>by cases h
 |k+1,p,l,l',q,h=>by
  unfold Du at h
  split at h
  ·injection h with h;injection h with _ h;omega
  cases h1:sym D C p with
  |error e=>rw[h1] at h;cases h
  |ok c=>
   obtain⟨c1,c2⟩:=c
   rw[h1] at h
   dsimp only at h
   cases h2:yH D c1 c2 l with
   |error e=>rw[h2] at h;cases h
   |ok a=>
    obtain⟨a1,a2,a3⟩:=a
    rw[h2] at h
    dsimp only at h
    split at h
    ·cases h
    ·have:=KY h
     have:=R9 h2
     have:=Iu h1
     omega
theorem YN {N:Nat}{D:List UInt8}{p q:Nat}{y:List Nat×List Nat}(h:KV N D p= .ok (y,q)):p<=q:=by
 unfold KV at h
 cases h1:PM D p with
 |error e=>rw[h1] at h;cases h
 |ok c=>
  rw[h1] at h
  dsimp only at h
  cases h2:NF D (order.take c.2.2) (p+14) (List.replicate 19 0) with
  |error e=>rw[h2] at h;cases h
  |ok o=>
   rw[h2] at h
   dsimp only at h
   have:=PS (o' :=o.1) (q:=o.2) h2
   split at h
   ·cases h3:Du D o.1 (c.1+c.2.1) N o.2 [] with
    |error e=>rw[h3] at h;cases h
    |ok l=>
     rw[h3] at h
     dsimp only at h
     have:=KY (l' :=l.1) (q:=l.2) h3
     split at h
     ·injection h with h;injection h with _ h;omega
     ·cases h
   ·cases h
theorem VU {N:Nat}{D:List UInt8}{M kind p:Nat}{P:List UInt8}{q:Nat}{P' :List UInt8}(h:gN N D M kind p P= .ok (q,P'))(hp:P.length<=M):p<=q:=by
 unfold gN at h
 split at h
 ·exact(Dv h hp).1
 split at h
 ·exact(mS h hp).1
 split at h
 ·cases h1:KV N D p with
  |error e=>rw[h1] at h;cases h
  |ok c=>
   rw[h1] at h
   have:=YN (y:=c.1) (q:=c.2) h1
   have:=(mS h hp).1
   omega
 ·cases h
theorem Sa {N:Nat}{D:List UInt8}{M p:Nat}{P:List UInt8}{last q:Nat}{P' :List UInt8}(h:eH N D M p P= .ok (last,q,P'))(hp:P.length<=M):p+3<=q:=by
 unfold eH at h
 cases h1:di D p 1 with
 |error e=>rw[h1] at h;cases h
 |ok c=>
  rw[h1] at h
  dsimp only at h
  cases h2:di D (p+1) 2 with
  |error e=>rw[h2] at h;cases h
  |ok d=>
   rw[h2] at h
   dsimp only at h
   cases h3:gN N D M d (p+3) P with
   |error e=>rw[h3] at h;cases h
   |ok r=>
    rw[h3] at h
    injection h with h;injection h with e0 h;injection h with e1 e2
    have:=VU (q:=r.1) (P' :=r.2) h3 hp
    omega
end Go.Cl.Nf
namespace Go.Proofs.YtdfjfncifneocaaGreat
open Go.Cl Go.Cl.Rw Go.Cl.Sto Go.Cl.Fx Go.Cl.Nf
def agw (s:aq)(v:Value)(s' :aq):Except Nat (Nat×List UInt8)->Prop
 | .ok (q,P)=>∃o,v= .tuple #[o,.int .i64 ((q+7)/8:Nat),.int .i64 0]/\Own s' 1 o P.length (ofBytes P)/\aH s.next o/\ar s.next s s'
 | .error e=>v= .tuple #[.slice none 0 0,.int .i64 0,.int .i64 (e:Nat)]/\ar s.next s s'
end Go.Proofs.YtdfjfncifneocaaGreat
set_option linter.unusedSimpArgs false
set_option linter.unusedVariables false
set_option maxRecDepth 100000
namespace Go.Cl.Nf
open Go.Cl.Fx Go.Cl.Sto
theorem uo (C:List Nat):∀m n,1<=n->n<=m->∀r,r<C.count n->(dd C (n-1)).length+r<(dd C m).length/\(dd C m).getD ((dd C (n-1)).length+r) 0=(idx C n).getD r 0
 |0,n,h1,h2,r,hr=>by omega
 |m+1,n,h1,h2,r,hr=>by
  have hl:=vj C (m+1)
  by_cases c:n=m+1
  ·subst c
   simp only[dd,Nat.add_sub_cancel]
   refine⟨by rw[List.length_append,hl];omega,?_⟩
   rw[List.getD_eq_getElem?_getD,List.getElem?_append_right (by omega),Nat.add_sub_cancel_left,List.getD_eq_getElem?_getD]
  ·obtain⟨k1,k2⟩:=uo C m n h1 (by omega) r hr
   simp only[dd]
   refine⟨by rw[List.length_append];omega,?_⟩
   rw[List.getD_eq_getElem?_getD,List.getElem?_append_left k1,<-List.getD_eq_getElem?_getD,k2]
theorem acx (C:List Nat){n:Nat}(h:1<=n):cn C n=C.count n:=if_neg (by omega)
theorem GO (C:List Nat)(n:Nat):(dd C (n+1)).length=(dd C n).length+C.count (n+1):=by
 simp only[dd];rw[List.length_append,vj]
theorem GP (C:List Nat):∀m,(dd C m).length<=C.length:=by
 have key:∀(L:List Nat) (m:Nat),(dd L m).length=(L.filter (fun x=>decide (1<=x/\x<=m))).length:=by
  intro L m
  induction m with
  |zero=>
   rw[show L.filter (fun x=>decide (1<=x/\x<=0))=[] from List.filter_eq_nil_iff.2 (fun x _=>by simp;omega)]
   rfl
  |succ m ih=>
   rw[GO,ih]
   clear ih
   induction L with
   |nil=>rfl
   |cons a r ih=>
    simp only[List.filter_cons,List.count_cons]
    by_cases c1:a=m+1
    ·subst c1
     have c4:(decide (1<=m+1/\m+1<=m))=false:=decide_eq_false (by omega)
     have c5:(decide (1<=m+1/\m+1<=m+1))=true:=decide_eq_true (by omega)
     have c6:(m+1==m+1)=true:=by simp
     rw[c4,c5,c6]
     simp only[if_true,List.length_cons]
     rw[if_neg (by decide)]
     omega
    ·by_cases c2:1<=a/\a<=m
     ·have c3:1<=a/\a<=m+1:=by omega
      have c4:(decide (1<=a/\a<=m))=true:=decide_eq_true c2
      have c5:(decide (1<=a/\a<=m+1))=true:=decide_eq_true c3
      have c6:(a==m+1)=false:=by simpa using c1
      rw[c4,c5,c6]
      simp only[if_true,List.length_cons]
      rw[if_neg (by decide)]
      omega
     ·have c3:¬(1<=a/\a<=m+1):=by omega
      have c4:(decide (1<=a/\a<=m))=false:=decide_eq_false c2
      have c5:(decide (1<=a/\a<=m+1))=false:=decide_eq_false c3
      have c6:(a==m+1)=false:=by simpa using c1
      rw[c4,c5,c6]
      simpa using ih
 intro m
 rw[key]
 exact List.length_filter_le _ _
theorem PT {P:Program}{t e:TypeId}{m:Nat}(hu:P.underlying t=some (.array m e))(b6:aW P e=some 1)(i o c:Nat){x:Int}(h0:0<=x)(hx:x<m)(kk:IntKind):
  bQ P t (.pointer (some ⟨i,o,some c⟩)) (.int kk x)=some (.pointer (some ⟨i,o+x.toNat,some c⟩)):=by
 obtain⟨k,rfl⟩:∃k:Nat,x=k:=⟨x.toNat,by omega⟩
 have hb:Nat.blt k m=true:=by rw[Nat.blt_eq];omega
 show bQ P t _ (.int kk (Int.ofNat k))=_
 unfold bQ
 rw[hu]
 simp only[b6,hb,if_true,Nat.mul_one,Int.toNat_natCast]
end Go.Cl.Nf
namespace Go.Proofs.YtdfjfncifneocaaGreat
open Go.Cl Go.Cl.Rw Go.Cl.Sto Go.Cl.Fx Go.Cl.Nf Go.Cl.Bt
def nfp:List Nat:=[149,220,210,211,187,215,212,188,214,213,189,217,223,218,191,222,221,216,190,150,102,155,192,186,209,105,100]
def NH (lib:az):Prop:=∀g,nfp.contains g=true->lib.at g=none
theorem dy (a b:Value):ba (.tuple #[a,b]) 0=some a:=rfl
theorem dz (a b:Value):ba (.tuple #[a,b]) 1=some b:=rfl
theorem gL.le {base:Nat}{s:aq}{jx ic:Nat}{D:List UInt8}{p:Nat}(h:gL base s jx ic D p):p<=8*D.length:=by
 obtain⟨q,now,left,h,-⟩:=h
 have:=h.e
 have:=h.c.choose_spec.2.2.2
 omega
theorem gL.lt {base:Nat}{s:aq}{jx ic:Nat}{D:List UInt8}{p:Nat}(h:gL base s jx ic D p):jx<s.next/\ic<s.next/\base<=jx/\base<=ic/\jx≠ic:=by
 obtain⟨q,now,left,h,-⟩:=h
 exact⟨h.t.lt,h.c.choose_spec.1.lt,h.lx,h.lc,h.ne⟩
theorem gL.keeps {base:Nat}{s s' :aq}{jx ic:Nat}{D:List UInt8}{p:Nat}(h:gL base s jx ic D p)(hb:base<=s.next)(k:ar s.next s s'):gL base s' jx ic D p:=by
 obtain⟨q,now,left,h,h7⟩:=h
 exact⟨q,now,left,⟨h.c.keeps hb k,h.t.keeps k,h.e,h.l8,h.r,h.now,h.lx,h.lc,h.ne⟩,h7⟩
def akN (base jx ic:Nat)(D:List UInt8)(p n:Nat)(s:aq)(v:Value)(s' :aq):Except Nat Nat->Prop
 | .ok x=>v= .tuple #[.int .i64 (x:Nat),.int .i64 0]/\gL base s' jx ic D (p+n)/\kl jx ic s s'
 | .error e=>e=2/\v= .tuple #[.int .i64 0,.int .i64 2]/\kl jx ic s s'
set_option maxHeartbeats 4000000 in
theorem nF {lib:az}(hL:NH lib)(base:Nat)(s:aq)(jx ic:Nat)(D:List UInt8)(p n:Nat)(h:gL base s jx ic D p)(hb:base<=s.next)(apQ:n<=16)(hlen:D.length<=1000000):
  Runs Tryz.prog lib 187 [pQ jx,.int .i64 (n:Nat)] s fun v s' =>akN base jx ic D p n s v s' (di D p n):=by
 refine Runs.enter 13 Tryz.func187 rfl (hL _ rfl) rfl rfl ?_
 intro f hn hf
 have h0:f.get 0=pQ jx:=hf 0
 have h1:f.get 1= .int .i64 (n:Nat):=hf 1
 clear hf
 simp-implicitDefEqProofs(disch:=omega)only[aj,ak,ad,QS,WP,↓reduceIte,hn,h0,h1]
 refine(GI (hL _ rfl) (hL _ rfl) (hL _ rfl) (hL _ rfl) (hL _ rfl) (hL _ rfl) base s jx ic D p (n:Nat) h hb hlen).mono ?_
 rintro _ s1 ⟨rfl,hB,eX⟩
 by_cases c:p+n<=8*D.length
 ·have ht:takes D p (n:Nat):=⟨by omega,by omega,by omega⟩
  rw[if_pos ht,Int.toNat_natCast] at hB
  have e1:oP D p (n:Nat)=((bM D p n:Nat):Int):=by unfold oP;rw[if_pos ht,Int.toNat_natCast]
  have d1:¬((bM D p n:Nat):Int)<0:=by omega
  simp-implicitDefEqProofs(disch:=omega)only[aj,al,oneOf,QS,WP,↓reduceIte,hn,e1,eq_false d1,Tryz.results187]
  rw[dW c]
  exact⟨rfl,hB,eX⟩
 ·have ht:¬takes D p (n:Nat):=fun h=>c (by have:=h.2.2;omega)
  have e1:oP D p (n:Nat)= -1:=by unfold oP;rw[if_neg ht]
  have d1:(-1:Int)<0:=by decide
  simp-implicitDefEqProofs(disch:=omega)only[aj,al,oneOf,QS,WP,↓reduceIte,hn,e1,eq_true d1,Tryz.results187]
  rw[lF c]
  exact⟨rfl,rfl,eX⟩
set_option maxHeartbeats 4000000 in
theorem VV {lib:az}(hL:NH lib)(base:Nat)(s:aq)(jx ic:Nat)(D:List UInt8)(p:Nat)(h:gL base s jx ic D p)(hb:base<=s.next)(hlen:D.length<=1000000):
  Runs Tryz.prog lib 220 [pQ jx] s fun v s' =>v= .int .i64 (if p+1<=8*D.length then((bit D p:Nat):Int) else-1)/\(p+1<=8*D.length->gL base s' jx ic D (p+1))/\kl jx ic s s' :=by
 refine Runs.enter 5 Tryz.func220 rfl (hL _ rfl) rfl rfl ?_
 intro f hn hf
 have h0:f.get 0=pQ jx:=hf 0
 clear hf
 simp-implicitDefEqProofs(disch:=omega)only[aj,ak,ad,QS,WP,↓reduceIte,hn,h0]
 refine(GI (hL _ rfl) (hL _ rfl) (hL _ rfl) (hL _ rfl) (hL _ rfl) (hL _ rfl) base s jx ic D p 1 h hb hlen).mono ?_
 rintro _ s1 ⟨rfl,hB,eX⟩
 simp-implicitDefEqProofs(disch:=omega)only[aj,al,oneOf,QS,↓reduceIte,hn,Tryz.results220]
 by_cases c:p+1<=8*D.length
 ·have ht:takes D p 1:=⟨by omega,by omega,by omega⟩
  rw[if_pos ht] at hB
  refine⟨?_,fun _=>hB,eX⟩
  unfold oP
  rw[if_pos ht,if_pos c]
  show Value.int .i64 ((bM D p 1:Nat):Int)=_
  rw[R3]
 ·have ht:¬takes D p 1:=fun h=>c (by have:=h.2.2;omega)
  refine⟨?_,fun h=>absurd h c,eX⟩
  unfold oP
  rw[if_neg ht,if_neg c]
theorem aai:aW Tryz.prog 217=some 16:=by kernel_rfl
theorem PU:aW Tryz.prog 134=some 1:=by kernel_rfl
theorem PV:bY Tryz.prog 134=some false:=by kernel_rfl
theorem dA:aW Tryz.prog 219=some 17:=by kernel_rfl
theorem iI:bY Tryz.prog 219=some true:=by kernel_rfl
theorem agx:Tryz.prog.underlying 217=some (.array 16 3):=Tryz.underlying217
theorem VW (i o c:Nat):ay Tryz.prog 219 (.pointer (some ⟨i,o,some c⟩)) 0=some (.pointer (some ⟨i,o+0,some c⟩)):=by
 unfold ay;rw[Tryz.underlying219];simp[aai]
theorem PW (i o c:Nat):ay Tryz.prog 219 (.pointer (some ⟨i,o,some c⟩)) 1=some (.pointer (some ⟨i,o+16,some c⟩)):=by
 unfold ay;rw[Tryz.underlying219];simp[PU]
def cj (C:List Nat)(sv:Value):List Value:=((List.range 16).map fun n=>Value.int .i64 ((cn C n:Nat):Int))++[sv]
theorem aw (C:List Nat)(sv:Value):(cj C sv).length=17:=by simp[cj]
theorem nG (C:List Nat)(sv:Value){n:Nat}(h:n<16):(cj C sv).getD n undef= .int .i64 ((cn C n:Nat):Int):=by
 unfold cj
 rw[List.getD_eq_getElem?_getD,List.getElem?_append_left (by simpa using h),List.getElem?_map,List.getElem?_range h];rfl
theorem tc (C:List Nat)(sv:Value):(cj C sv).getD 16 undef=sv:=by simp[cj,List.getD_eq_getElem?_getD]
def EL (jx ic:Nat)(s:aq)(sv:Value)(C:List Nat):Prop:=aN s 1 sv (dd C 15).length (fZ (dd C 15))/\∀i,aE sv=some i->i<s.next/\i≠jx/\i≠ic
theorem VX {s s' :aq}{z:Nat}{v:Value}{n:Nat}{L:List Value}(h:aN s z v n L)(hn:s.next<=s'.next)(hs:∀i,aE v=some i->i<s.next->s'.heap.get i=s.heap.get i):aN s' z v n L:=by
 cases h with
 |nil=>exact .nil
 |bare i off=>exact .bare i off
 |of i off n c b l hi hb hz hl hc hlen eZ ht=>
  refine .of i off _ c b _ (Nat.lt_of_lt_of_le hi hn) ?_ hz hl hc hlen eZ ht
  simp only[aq.bA,hs i rfl hi];exact hb
theorem EL.to {jx ic:Nat}{s s' :aq}{sv:Value}{C:List Nat}(h:EL jx ic s sv C)(k:kl jx ic s s'):EL jx ic s' sv C:=
 ⟨VX h.1 k.next (fun i hi hl=>k.get i hl (h.2 i hi).2.1 (h.2 i hi).2.2),fun i hi=>⟨Nat.lt_of_lt_of_le (h.2 i hi).1 k.next,(h.2 i hi).2⟩⟩
def agy (base jx ic:Nat)(D:List UInt8)(s:aq)(v:Value)(s' :aq):Except Nat (Nat×Nat)->Prop
 | .ok (x,q)=>v= .tuple #[.int .i64 (x:Nat),.int .i64 0]/\gL base s' jx ic D q/\kl jx ic s s'
 | .error e=>0<e/\v= .tuple #[.int .i64 0,.int .i64 (e:Nat)]/\kl jx ic s s'
set_option maxHeartbeats 8000000 in
theorem KZ {lib:az}(hL:NH lib)(base:Nat)(s:aq)(jx ic:Nat)(D:List UInt8)(p:Nat)(h:gL base s jx ic D p)(hb:base<=s.next)(hlen:D.length<=1000000)(C:List Nat)(sv:Value)(hC:EL jx ic s sv C)(hCl:C.length<=1000):
  Runs Tryz.prog lib 215 [pQ jx,.agg (cj C sv).toArray] s fun v s' =>agy base jx ic D s v s' (sym D C p):=by
 refine Runs.enter 54 Tryz.func215 rfl (hL _ rfl) rfl rfl ?_
 intro f hn hf
 have h0:f.get 0=pQ jx:=hf 0
 have h1:f.get 1= .agg (cj C sv).toArray:=hf 1
 clear hf
 simp-implicitDefEqProofs(disch:=omega)only[aj,QS,↓reduceIte,hn,h1]
 refine ax ?_
 intro s1 SJ bm iY
 obtain⟨jc,hjc⟩:∃j,j=s.next:=⟨_,rfl⟩
 rw[<-hjc] at SJ
 have js:=aw C sv
 have h1B:kl jx ic s s1:=⟨bm.next,fun i hi _ _=>bm.get i hi⟩
 have hC1:=hC.to h1B
 have apR:(2:Nat)^15=32768:=by decide
 have K1:=GP C
 simp-implicitDefEqProofs(disch:=omega)only[aj,QS,Nat.reduceAdd,↓reduceIte,hn,<-hjc,js]
 refine Comes.bK (fun z f t=>∃k:Nat,z=15-k/\k<=15/\p+k<=8*D.length/\As D C p (15-k) k=sym D C p/\fst C k+cn C k<=hi D p k/\gL base t jx ic D (p+k)/\kl jx ic s1 t/\av t jc (cj C sv)/\EL jx ic t sv C/\f.n=54/\f.get 0=pQ jx/\f.get 3= .pointer (some ⟨jc,0,some 18⟩)/\f.get 6= .int .i64 (hi D p k:Nat)/\f.get 7= .int .i64 ((fst C k+cn C k:Nat):Int)/\f.get 8= .int .i64 ((dd C k).length:Nat)/\f.get 9= .int .i64 ((k:Int)+1))
  (fun z f t=>(z= .ret/\f.n=54/\∃v e:Value,f.get 4=v/\f.get 5=e/\agy base jx ic D s (.tuple #[v,e]) t (sym D C p))\/(z= .exit 0/\f.n=54/\sym D C p= .error 4/\kl jx ic s t))
  ⟨0,rfl,by omega,h.le,rfl,by simp[fst,cn,hi],h.keeps hb bm,kl.refl _ _ _,SJ,hC1,by simp only[ag,hn],by simp only[aa,↓reduceIte,WP,h0],by simp only[aa,↓reduceIte,WP],by simp only[aa,↓reduceIte,WP];rfl,by simp only[aa,↓reduceIte,WP];rfl,by simp only[aa,↓reduceIte,WP];rfl,by simp only[aa,↓reduceIte];rfl⟩ ?_ ?_
 ·have hjx:=h.lt
  clear hn h0 h1 f SJ h hC hC1
  rintro Q hQ z f t ⟨k,rfl,hk,hkD,VY,hle,hB,eX,SJ,hS,hn,h0,h3,h6,h7,h8,h9⟩
  by_cases ae3:k<15
  rotate_left
  ·obtain rfl:k=15:=by omega
   have d1:¬((15:Nat):Int)+1<=15:=by omega
   simp-implicitDefEqProofs(disch:=omega)only[aj,QS,↓reduceIte,hn,h9,eq_false d1]
   exact hQ _ _ _ (.inr ⟨rfl,by simp only[ag,hn],VY.symm,h1B.trans eX⟩)
  have d1:(k:Int)+1<=15:=by omega
  have hkp:2^k<=2^15:=Nat.pow_le_pow_right (by omega) (by omega)
  have hhl:=VL D p k
  rw[show 15-k=(15-(k+1))+1 by omega,As] at VY
  have Iq:base<=t.next:=by have:=eX.next;omega
  simp-implicitDefEqProofs(disch:=omega)only[aj,ak,ad,QS,WP,↓reduceIte,hn,h0,h9,eq_true d1]
  refine(VV hL base t jx ic D (p+k) hB Iq hlen).mono ?_
  rintro _ t1 ⟨rfl,Hv,Et⟩
  have Vq:=h1B.trans (eX.trans Et)
  by_cases cY:p+(k+1)<=8*D.length
  rotate_left
  ·rw[if_neg cY] at VY
   have d2:(-1:Int)<0:=by decide
   rw[if_neg (show¬p+k+1<=8*D.length by omega)]
   simp-implicitDefEqProofs(disch:=omega)only[aj,QS,↓reduceIte,hn,eq_true d2]
   refine hQ _ _ _ (.inl ⟨rfl,by simp only[ag,hn],_,_,by simp only[aa,↓reduceIte,WP];rfl,by simp only[aa,↓reduceIte];rfl,?_⟩)
   rw[<-VY]
   exact⟨by decide,rfl,Vq⟩
  rw[if_pos cY] at VY
  have Hv:=Hv cY
  rw[if_pos (show p+k+1<=8*D.length by omega)]
  have nP:=uQ D (p+k)
  have d2:¬((bit D (p+k):Nat):Int)<0:=by omega
  have apS:jc<t1.next:=by have:=eX.next;have:=Et.next;omega
  have vg:av t1 jc (cj C sv):=by
   obtain⟨i1,low,z,i2,i3⟩:=SJ
   exact⟨Nat.lt_of_lt_of_le i1 Et.next,low,z,by simp only[aq.bA,Et.get jc i1 (by omega) (by omega)];exact i2,i3⟩
  have hS1:=hS.to Et
  have ug:=agv Tryz.prog 3 .u64 (x:=hi D p k) (by omega)
  have qU:=agu (x:=hi D p k) (b:=bit D (p+k)) (by omega) nP
  have ehi:2*hi D p k+bit D (p+k)=hi D p (k+1):=rfl
  rw[ehi] at qU
  have hsf:=agv Tryz.prog 3 .u64 (x:=fst C k+cn C k) (by omega)
  have akQ:(fst C k+cn C k)*2^1=fst C (k+1):=by simp only[fst];omega
  rw[akQ] at hsf
  have I5:fst C (k+1)<=hi D p (k+1):=by rw[<-ehi];simp only[fst];omega
  have e1:((hi D p (k+1):Nat):Int)-((fst C (k+1):Nat):Int)=((hi D p (k+1)-fst C (k+1):Nat):Int):=by omega
  have apT:=VL D p (k+1)
  have apU:2^(k+1)<=2^15:=Nat.pow_le_pow_right (by omega) (by omega)
  have Um:cn C (k+1)=C.count (k+1):=acx C (by omega)
  have ek:((k:Int)+1).toNat=k+1:=by omega
  have ik:=PT (P:=Tryz.prog) agx bB jc 0 18 (x:=(k:Int)+1) (by omega) (by omega) .i64
  rw[ek,Nat.zero_add] at ik
  have lk:=vg.load (P:=Tryz.prog) bC (off:=k+1) (c:=18) (by rw[js]) (by rw[js];omega)
  rw[nG C sv (by omega)] at lk
  have lsv:=vg.load (P:=Tryz.prog) PV (off:=16) (c:=18) (by rw[js]) (by rw[js];omega)
  rw[tc] at lsv
  have HW:=K1 15
  have hfk:=K1 k
  by_cases RB:xe D C p (k+1)
  ·rw[if_pos RB] at VY
   have d3:((hi D p (k+1)-fst C (k+1):Nat):Int)<((cn C (k+1):Nat):Int):=by have:=RB.2;omega
   obtain⟨q1,q2⟩:=uo C 15 (k+1) (by omega) (by omega) (hi D p (k+1)-fst C (k+1)) (by have:=RB.2;omega)
   rw[Nat.add_sub_cancel] at q1 q2
   have e2:((dd C k).length:Int)+((hi D p (k+1):Nat):Int)-((fst C (k+1):Nat):Int)=(((dd C k).length+(hi D p (k+1)-fst C (k+1)):Nat):Int):=by omega
   have is:=hS1.1.indexAddr (P:=Tryz.prog) (k:= .i64) (x:=(((dd C k).length+(hi D p (k+1)-fst C (k+1)):Nat):Int)) qp bB (by omega) (by omega)
   rw[Int.toNat_natCast] at is
   have ls:=hS1.1.dJ (P:=Tryz.prog) bC q1
   rw[uR q1,q2] at ls
   simp-implicitDefEqProofs(disch:=omega)only[aj,QS,WP,↓reduceIte,hn,h3,h6,h7,h8,h9,eq_false d2,ug,jB,qU,hsf,aB,e1,VW,PW,ik,lk,eq_true d3,lsv,e2,is,ls]
   refine hQ _ _ _ (.inl ⟨rfl,by simp only[ag,hn],_,_,by simp only[aa,↓reduceIte,WP];rfl,by simp only[aa,↓reduceIte];rfl,?_⟩)
   rw[<-VY]
   exact⟨rfl,Hv,Vq⟩
  ·rw[if_neg RB] at VY
   have aiG:cn C (k+1)<=hi D p (k+1)-fst C (k+1):=by
    rw[Um]
    rcases Nat.lt_or_ge (hi D p (k+1)-fst C (k+1)) (C.count (k+1)) with c|c
    ·exact absurd ⟨I5,by omega⟩ RB
    ·exact c
   have d3:¬((hi D p (k+1)-fst C (k+1):Nat):Int)<((cn C (k+1):Nat):Int):=by omega
   have e2:((fst C (k+1):Nat):Int)+((cn C (k+1):Nat):Int)=((fst C (k+1)+cn C (k+1):Nat):Int):=by omega
   have TA:=GO C k
   have e3:(((dd C k).length:Nat):Int)+((cn C (k+1):Nat):Int)=(((dd C (k+1)).length:Nat):Int):=by omega
   have apV:=K1 (k+1)
   simp-implicitDefEqProofs(disch:=omega)only[aj,QS,WP,↓reduceIte,hn,h3,h6,h7,h8,h9,eq_false d2,ug,jB,qU,hsf,aB,e1,VW,ik,lk,eq_false d3,e2,e3]
   exact au (15-(k+1)) (by omega) ⟨k+1,rfl,by omega,by omega,VY,by omega,Hv,eX.trans Et,vg,hS1,by simp only[ag,hn],by simp only[aa,↓reduceIte,WP,h0],by simp only[aa,↓reduceIte,WP,h3],by simp only[aa,↓reduceIte,WP],by simp only[aa,↓reduceIte,WP],by simp only[aa,↓reduceIte,WP],by simp only[aa,↓reduceIte];rfl⟩
 clear hn h0 h1 f
 rintro z f t (⟨rfl,hn,v,e,h4,h5,hR⟩|⟨rfl,hn,VY,eX⟩)
 ·simp-implicitDefEqProofs(disch:=omega)only[aj,al,oneOf,QS,↓reduceIte,hn,h4,h5,Tryz.results215]
  exact hR
 ·simp-implicitDefEqProofs(disch:=omega)only[aj,al,oneOf,QS,WP,↓reduceIte,hn,Tryz.results215]
  rw[VY]
  exact⟨by decide,rfl,eX⟩
theorem jw:bY Tryz.prog 177=some false:=by kernel_rfl
theorem AM:aW Tryz.prog 177=some 1:=by kernel_rfl
theorem pS (i o c:Nat):ay Tryz.prog 180 (.pointer (some ⟨i,o,some c⟩)) 0=some (.pointer (some ⟨i,o+0,some c⟩)):=by
 unfold ay;rw[Tryz.underlying180];simp[AM]
theorem aaj (i o c:Nat):ay Tryz.prog 180 (.pointer (some ⟨i,o,some c⟩)) 1=some (.pointer (some ⟨i,o+1,some c⟩)):=by
 unfold ay;rw[Tryz.underlying180];simp[bB]
theorem zX (i o c:Nat):ay Tryz.prog 180 (.pointer (some ⟨i,o,some c⟩)) 2=some (.pointer (some ⟨i,o+2,some c⟩)):=by
 unfold ay;rw[Tryz.underlying180];simp[gv]
abbrev ry (j:Nat):Value:= .pointer (some ⟨j,0,some 4⟩)
structure Rs (base:Nat) (s:aq) (jr jx ic:Nat) (D:List UInt8) (p:Nat) (P:List UInt8) (M:Int) (o:Value):Prop where
 bit:gL base s jx ic D p
 t:av s jr [pQ jx,.int .i64 M,o]
 own:Own s 1 o P.length (ofBytes P)
 fresh:aH base o
 nr:aE o≠some jr
 nx:aE o≠some jx
 nc:aE o≠some ic
 rx:jr≠jx
 rc:jr≠ic
 lr:base<=jr
structure tB (jr jx ic:Nat) (o:Value) (s:aq) (o' :Value) (s' :aq):Prop where
 next:s.next<=s'.next
 get:∀i,i<s.next->i≠jr->i≠jx->i≠ic->aE o≠some i->s'.heap.get i=s.heap.get i
 id:aE o' =aE o\/∃i,aE o' =some i/\s.next<=i
theorem tB.refl (jr jx ic:Nat)(o:Value)(s:aq):tB jr jx ic o s o s:=⟨Nat.le_refl _,fun _ _ _ _ _ _=>rfl,.inl rfl⟩
theorem tB.trans {jr jx ic:Nat}{o o' o'' :Value}{s s' ss:aq}(h:tB jr jx ic o s o' s')(k:tB jr jx ic o' s' o'' ss):tB jr jx ic o s o'' ss:=by
 refine⟨Nat.le_trans h.next k.next,fun i hi h1 h2 h4 h3=> ?_,?_⟩
 ·rw[k.get i (Nat.lt_of_lt_of_le hi h.next) h1 h2 h4 ?_,h.get i hi h1 h2 h4 h3]
  rcases h.id with e|⟨q,e,hq⟩
  ·rw[e];exact h3
  ·rw[e];intro q2;injection q2 with q2;omega
 ·rcases k.id with e|⟨q,e,hq⟩
  ·rcases h.id with e2|⟨q,e2,hq⟩
   ·exact .inl (by rw[e,e2])
   ·exact .inr ⟨q,by rw[e,e2],hq⟩
  ·exact .inr ⟨q,e,Nat.le_trans h.next hq⟩
theorem tB.stay {jr jx ic base:Nat}{o o' :Value}{s s' :aq}(h:tB jr jx ic o s o' s')(h1:base<=jr)(h2:base<=jx)(h4:base<=ic)(h3:aH base o)(hb:base<=s.next):ar base s s' :=
 ⟨h.next,fun i hi=>h.get i (by omega) (by omega) (by omega) (by omega) (fun e=>by have:=h3 i e;omega)⟩
theorem qD {jr jx ic:Nat}{o:Value}{s s' :aq}(h:kl jx ic s s'):tB jr jx ic o s o s' :=⟨h.next,fun i hi _ h2 h4 _=>h.get i hi h2 h4,.inl rfl⟩
theorem tB.kept {jr jx ic:Nat}{o o' :Value}{s t t' :aq}(h:tB jr jx ic o s o' t)(k:ar t.next t t'):tB jr jx ic o s o' t' :=
 ⟨Nat.le_trans h.next k.next,fun i hi h1 h2 h4 h3=>(k.get i (Nat.lt_of_lt_of_le hi h.next)).trans (h.get i hi h1 h2 h4 h3),h.id⟩
theorem tC {s s' :aq}{i:Nat}{cs:List Value}(h:av s i cs)(hn:s.next<=s'.next)(hg:s'.heap.get i=s.heap.get i):av s' i cs:=by
 obtain⟨i1,low,z,i2,i3⟩:=h
 exact⟨Nat.lt_of_lt_of_le i1 hn,low,z,by simp only[aq.bA,hg];exact i2,i3⟩
theorem aak {s s' :aq}{z:Nat}{v:Value}{n:Nat}{L:List Value}(h:Own s z v n L)(hn:s.next<=s'.next)(hs:∀i,aE v=some i->i<s.next->s'.heap.get i=s.heap.get i):Own s' z v n L:=by
 cases h with
 |nil=>exact .nil
 |of i n low l hi hb hl hlen=>
  refine .of i _ low _ (Nat.lt_of_lt_of_le hi hn) ?_ hl hlen
  simp only[aq.bA,hs i rfl hi];exact hb
theorem Rs.bits {base:Nat}{s s' :aq}{jr jx ic:Nat}{D P:List UInt8}{p p' :Nat}{M:Int}{o:Value}(h:Rs base s jr jx ic D p P M o)(hB:gL base s' jx ic D p')(k:kl jx ic s s'):Rs base s' jr jx ic D p' P M o:=
 ⟨hB,tC h.t k.next (k.get jr h.t.lt h.rx h.rc),aak h.own k.next (fun i hi hl=>k.get i hl (fun e=>h.nx (by rw[hi,e])) (fun e=>h.nc (by rw[hi,e]))),h.fresh,h.nr,h.nx,h.nc,h.rx,h.rc,h.lr⟩
theorem Rs.keeps {base:Nat}{s s' :aq}{jr jx ic:Nat}{D P:List UInt8}{p:Nat}{M:Int}{o:Value}(h:Rs base s jr jx ic D p P M o)(hb:base<=s.next)(k:ar s.next s s'):Rs base s' jr jx ic D p P M o:=
 ⟨h.bit.keeps hb k,h.t.keeps k,h.own.keeps k,h.fresh,h.nr,h.nx,h.nc,h.rx,h.rc,h.lr⟩
theorem EL.rto {jr jx ic:Nat}{o o' :Value}{s s' :aq}{sv:Value}{C:List Nat}(h:EL jx ic s sv C)(hr:∀i,aE sv=some i->i≠jr/\aE o≠some i)(k:tB jr jx ic o s o' s'):EL jx ic s' sv C:=
 ⟨VX h.1 k.next (fun i hi hl=>k.get i hl (hr i hi).1 (h.2 i hi).2.1 (h.2 i hi).2.2 (hr i hi).2),fun i hi=>⟨Nat.lt_of_lt_of_le (h.2 i hi).1 k.next,(h.2 i hi).2⟩⟩
def Iv (base jr jx ic:Nat)(D:List UInt8)(M:Int)(o:Value)(s:aq)(v:Value)(s' :aq):Except Nat (Nat×List UInt8)->Prop
 | .ok (q,P)=>v= .int .i64 0/\∃o',Rs base s' jr jx ic D q P M o' /\tB jr jx ic o s o' s'
 | .error e=>0<e/\v= .int .i64 (e:Nat)/\ar base s s'
set_option maxHeartbeats 4000000 in
theorem Dz {lib:az}(hL:NH lib)(base:Nat)(s:aq)(jr jx ic:Nat)(D P:List UInt8)(p m:Nat)(M:Int)(hM:m=M.toNat)(c:UInt8)(o:Value)(h:Rs base s jr jx ic D p P M o)(hb:base<=s.next)(ZF:P.length<=100000000):
  Runs Tryz.prog lib 212 [ry jr,.int .u8 c.toNat] s fun v s' =>Iv base jr jx ic D M o s v s' (if m<=P.length then .error 7 else .ok (p,P++[c])):=by
 have nP:=h.bit.lt
 refine Runs.enter 25 Tryz.func212 rfl (hL _ rfl) rfl rfl ?_
 intro f hn hf
 have h0:f.get 0=ry jr:=hf 0
 have h1:f.get 1= .int .u8 c.toNat:=hf 1
 clear hf
 have r0:=h.t.load (P:=Tryz.prog) jw (off:=0) (c:=4) rfl (by simp)
 have r1:=h.t.load (P:=Tryz.prog) bC (off:=1) (c:=4) rfl (by simp)
 have r2:=h.t.load (P:=Tryz.prog) gw (off:=2) (c:=4) rfl (by simp)
 by_cases cm:m<=P.length
 ·have c1:(P.length:Int)>=M:=by omega
  simp-implicitDefEqProofs(disch:=omega)only[aj,ak,al,oneOf,ad,QS,WP,↓reduceIte,hn,h0,aaj,zX,r1,r2,h.own.aG.bh Tryz.underlying22,h.own.self,eq_true c1,Tryz.results212]
  rw[if_pos cm]
  exact⟨by decide,rfl,ar.refl _ _⟩
 have c1:¬(P.length:Int)>=M:=by omega
 simp-implicitDefEqProofs(disch:=omega)only[aj,ak,ad,ae,QS,WP,↓reduceIte,hn,h0,h1,aaj,zX,r1,r2,h.own.aG.bh Tryz.underlying22,h.own.self,eq_false c1,g9 Tryz.underlying22 bL lh]
 refine bI Tryz.underlying22 bL kG lh rfl h.own (by simp only[aa,↓reduceIte,WP]) (by decide) (by simp only[ag,hn];decide) (by simp only[ag,hn];decide) (by rfl) (by decide) rfl (by omega) (by omega) h.fresh hb ?_
 intro bs o2 s2 fx Zk aU dZ qb
 have ck:∀j,j<s.next->aE o≠some j->aE o2≠some j:=fun j hj ck=>by
  rcases qb with e|⟨i,e,hi⟩
  ·rw[e];exact ck
  ·rw[e];intro q;injection q with q;omega
 have hnr:=ck jr h.t.lt h.nr
 have DQ:=ck jx nP.1 h.nx
 have hnc:=ck ic nP.2.1 h.nc
 have gr:=h.t.turns dZ h.nr
 simp-implicitDefEqProofs(disch:=omega)only[aj,QS,WP,↓reduceIte,hn,zX]
 refine aX gv gr rfl (by simp) fx.aG.aJ ?_
 intro s3 Ag mm ij
 simp-implicitDefEqProofs(disch:=omega)only[aj,al,oneOf,QS,↓reduceIte,hn,Tryz.results212]
 rw[if_neg cm]
 have bH:=aU.trans (ar.aI mm ij h.lr)
 obtain⟨q,now,left,hB,h7⟩:=h.bit
 have Ep:gL base s3 jx ic D p:=by
  have dB:base<=s2.next:=Nat.le_trans hb aU.next
  have c2:=(hB.c.turns hb h.fresh dZ h.nc).turns dB (cQ h.lr) (aY.aI (i:=jr) (o:=0) (c:=some 3) mm ij) (dO h.rc)
  exact⟨q,now,left,⟨c2,(hB.t.turns dZ h.nx).turns (aY.aI (i:=jr) (o:=0) (c:=none) mm ij) (fun e=>h.rx (by injection e)),hB.e,hB.l8,hB.r,hB.now,hB.lx,hB.lc,hB.ne⟩,h7⟩
 refine⟨rfl,o2,⟨Ep,Ag,?_,Zk,hnr,DQ,hnc,h.rx,h.rc,h.lr⟩,⟨by have:=dZ.next;omega,fun i hi h1 _ _ h3=>by rw[ij i h1,dZ.get i hi h3],qb⟩⟩
 rw[bn,List.length_append]
 exact fx.aI mm ij hnr
end Go.Proofs.YtdfjfncifneocaaGreat
