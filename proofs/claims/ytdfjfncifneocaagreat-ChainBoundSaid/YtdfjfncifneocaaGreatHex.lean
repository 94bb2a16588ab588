/-
 LZW, reading: what codes say, as one function; what was written is read as it was.
-/
import Derived.Test.YtdfjfncifneocaaGreatB85P
import Derived.Test.YtdfjfncifneocaaGreatLzwU
import Derived.Test.YtdfjfncifneocaaGreatNum
import Derived.Test.YtdfjfncifneocaaGreatLooseA
open Nat renaming reduceLT->QS,reduceEqDiff->WP
namespace Go.Cl.Lz
def lD (b:List UInt8)(i:Nat):Nat:=(b.getD (i/8) 0).toNat/2^(7-i%8)%2
theorem Kv (b:List UInt8)(i:Nat):lD b i<2:=Nat.mod_lt _ (by omega)
def jh (b:List UInt8)(p:Nat):Nat->Nat
 |0=>0
 |w+1=>jh b p w*2+lD b (p+w)
theorem C8 (b:List UInt8)(p:Nat):∀w,jh b p w<2^w
 |0=>by simp[jh]
 |w+1=>by have h1:=C8 b p w;have h2:=Kv b (p+w);rw[jh,Nat.pow_succ];omega
def rowOf (T:List (List UInt8))(last:List UInt8)(c:Nat):Option (List UInt8):=
 if c<256 then some [UInt8.ofNat c]
 else if last=[] then none
 else if c=258+T.length then some (last++last.take 1)
 else T[c-258]?
def grow (T:List (List UInt8))(last x:List UInt8):List (List UInt8):=if last≠[]/\258+T.length<4096 then T++[last++x.take 1] else T
def dec (b:List UInt8)(most:Nat):Nat->Nat->List (List UInt8)->List UInt8->List UInt8->Nat×List UInt8
 |0,_,_,_,out=>(0,out)
 |k+1,p,T,last,out=>
  if 8*b.length<p+width (258+T.length) then(2,[])
  else if jh b p (width (258+T.length))=257 then(0,out)
  else if jh b p (width (258+T.length))=256 then dec b most k (p+width (258+T.length)) [] [] out
  else match rowOf T last (jh b p (width (258+T.length))) with
   |none=>(4,[])
   |some x=>if most<out.length+x.length then(7,[]) else dec b most k (p+width (258+T.length)) (grow T last x) x (out++x)
def sP (b:List UInt8)(most:Nat):Nat×List UInt8:=dec b most (8*b.length+1) 0 [] [] []
theorem mQ {b:List UInt8}{most k p:Nat}{T:List (List UInt8)}{last out:List UInt8}(h:8*b.length<p+width (258+T.length)):dec b most (k+1) p T last out=(2,[]):=by rw[dec,if_pos h]
theorem wK {b:List UInt8}{most k p:Nat}{T:List (List UInt8)}{last out:List UInt8}(h:¬8*b.length<p+width (258+T.length))(hc:jh b p (width (258+T.length))=257):dec b most (k+1) p T last out=(0,out):=by rw[dec,if_neg h,if_pos hc]
theorem yB {b:List UInt8}{most k p:Nat}{T:List (List UInt8)}{last out:List UInt8}(h:¬8*b.length<p+width (258+T.length))(hc:jh b p (width (258+T.length))=256):dec b most (k+1) p T last out=dec b most k (p+width (258+T.length)) [] [] out:=by rw[dec,if_neg h,if_neg (by omega),if_pos hc]
theorem qu {b:List UInt8}{most k p c:Nat}{T:List (List UInt8)}{last out:List UInt8}(h:¬8*b.length<p+width (258+T.length))(hc:jh b p (width (258+T.length))=c)(h7:c≠257)(h6:c≠256):
  dec b most (k+1) p T last out=match rowOf T last c with
   |none=>(4,[])
   |some x=>if most<out.length+x.length then(7,[]) else dec b most k (p+width (258+T.length)) (grow T last x) x (out++x):=by
 rw[dec,if_neg h,if_neg (by omega),if_neg (by omega),hc]
def pM (b:List UInt8)(p:Nat)(L:List Nat):Prop:=∀i,i<L.length->p+i<8*b.length->lD b (p+i)=L.getD i 0
theorem EG {L M:List Nat}{i:Nat}(h:i<L.length):(L++M).getD i 0=L.getD i 0:=by
 rw[List.getD_eq_getElem?_getD,List.getD_eq_getElem?_getD,List.getElem?_append_left h]
theorem C9 {L M:List Nat}(i:Nat):(L++M).getD (L.length+i) 0=M.getD i 0:=by
 rw[List.getD_eq_getElem?_getD,List.getD_eq_getElem?_getD,List.getElem?_append_right (by omega),Nat.add_sub_cancel_left]
theorem pM.left {b:List UInt8}{p:Nat}{L M:List Nat}(h:pM b p (L++M)):pM b p L:=fun i hi hb=>by
 rw[h i (by rw[List.length_append];omega) hb,EG hi]
theorem pM.right {b:List UInt8}{p:Nat}{L M:List Nat}(h:pM b p (L++M)):pM b (p+L.length) M:=fun i hi hb=>by
 rw[Nat.add_assoc] at hb|-
 rw[h (L.length+i) (by rw[List.length_append];omega) hb,C9]
theorem Kw {b:List UInt8}{p c w:Nat}(h:pM b p (dh c w))(hw:p+w<=8*b.length):∀k,k<=w->jh b p k=c/2^(w-k)%2^k:=by
 intro k
 induction k with
 |zero=>intro _;simp[jh,Nat.mod_one]
 |succ k ih=>
  intro hk
  have e1:lD b (p+k)=c/2^(w-(k+1))%2:=by
   rw[h k (by rw[cT];omega) (by omega),List.getD_eq_getElem?_getD,Kx c w k (by omega),Option.getD_some]
  have e2:w-k=(w-(k+1))+1:=by omega
  rw[jh,ih (by omega),e1,e2,Nat.pow_succ,<-Nat.div_div_eq_div_mul]
  generalize c/2^(w-(k+1))=q
  rw[Nat.pow_succ,Nat.mul_comm (2^k) 2,Nat.mod_mul]
  omega
where
 Kx (c:Nat):∀(w k:Nat),k<w->(dh c w)[k]?=some (c/2^(w-(k+1))%2)
 |0,k,h=>by omega
 |w+1,0,h=>by simp[dh]
 |w+1,k+1,h=>by
  simp only[dh,List.getElem?_cons_succ]
  rw[Kx c w k (by omega),show w+1-(k+1+1)=w-(k+1) by omega]
theorem tv {b:List UInt8}{p c w:Nat}(h:pM b p (dh c w))(hw:p+w<=8*b.length)(hc:c<2^w):jh b p w=c:=by
 rw[Kw h hw w (Nat.le_refl _),Nat.sub_self,Nat.pow_zero,Nat.div_one,Nat.mod_eq_of_lt hc]
theorem RL {l:List Nat}(h:∀i,l.getD i 0<2){i:Nat}(hi:i<8):(fN l).toNat/2^(7-i)%2=l.getD i 0:=by
 have h0:=h 0;have h1:=h 1;have h2:=h 2;have h3:=h 3;have h4:=h 4;have h5:=h 5;have h6:=h 6;have h7:=h 7
 unfold fN
 rw[UInt8.toNat_ofNat']
 match i,hi with
 |0,_=>omega
 |1,_=>omega
 |2,_=>omega
 |3,_=>omega
 |4,_=>omega
 |5,_=>omega
 |6,_=>omega
 |7,_=>omega
theorem Da (l:List Nat)(i:Nat):(l.drop 8).getD i 0=l.getD (i+8) 0:=by
 rw[List.getD_eq_getElem?_getD,List.getD_eq_getElem?_getD,List.getElem?_drop,Nat.add_comm]
theorem Ky:∀(n:Nat) (L:List Nat) (more:List UInt8),L.length<=n->(∀i,L.getD i 0<2)->∀i,i<L.length->lD (pack L++more) i=L.getD i 0
 |0,L,more,hn,h,i,hi=>by omega
 |n+1,L,more,hn,h,i,hi=>by
  have hL:L≠[]:=by intro e;rw[e] at hi;simp at hi
  rw[tl hL,List.cons_append]
  by_cases h8:i<8
  ·unfold lD
   rw[show i/8=0 by omega,show i%8=i by omega,List.getD_cons_zero]
   exact RL h h8
  ·have ih:=Ky n (L.drop 8) more (by rw[List.length_drop];omega) (fun i=>by rw[Da];exact h _) (i-8) (by rw[List.length_drop];omega)
   rw[Da,show i-8+8=i by omega] at ih
   rw[<-ih]
   unfold lD
   rw[show i/8=(i-8)/8+1 by omega,show i%8=(i-8)%8 by omega,List.getD_cons_succ]
theorem sQ:∀(n:Nat) (L:List Nat),L.length<=n->(pack L).length=(L.length+7)/8
 |0,L,hn=>by
  have:L=[]:=List.length_eq_zero_iff.mp (by omega)
  subst this;rw[sH];rfl
 |n+1,L,hn=>by
  by_cases hL:L=[]
  ·subst hL;rw[sH];rfl
  ·have:0<L.length:=List.length_pos_iff.mpr hL
   rw[tl hL,List.length_cons,sQ n (L.drop 8) (by rw[List.length_drop];omega),List.length_drop]
   omega
def ZX (T:rp):Prop:=∀i e,T[i]?=some e->e.2=((258+i:Nat):Int)
theorem ZX.nil:ZX []:=fun i e h=>by simp at h
theorem ZX.snoc {T:rp}(h:ZX T)(r:List UInt8):ZX (T++[(r,((258+T.length:Nat):Int))]):=fun i e he=>by
 by_cases hi:i<T.length
 ·rw[List.getElem?_append_left hi] at he;exact h i e he
 ·rw[List.getElem?_append_right (by omega)] at he
  cases hq:i-T.length with
  |zero=>
   rw[hq] at he
   simp at he
   rw[<-he,show i=T.length by omega]
   simp
  |succ m=>rw[hq] at he;simp at he
theorem tw {n:Nat}(h:n<4096):n<2^width n/\257<2^width n:=by
 unfold width
 repeat (first|(split;all_goals try omega)|omega)
theorem pw {l:List UInt8}{n:Nat}(h:n<l.length):l.take (n+1)=l.take n++(l.drop n).take 1:=by
 rw[List.take_add]
structure Sync (l:List UInt8) (T:rp) (rd:Nat) (fst:Bool) (D:List (List UInt8)) (last:List UInt8):Prop where
 Vh:Good T
 num:ZX T
 rd:rd=258+D.length
 few:D.length<3838
 first:fst=true->T=[]/\D=[]/\last=[]
 TV:fst=false->last≠[]/\(l≠[]->T.map Prod.fst=D++[last++l.take 1])
theorem Sync.row {l:List UInt8}{T:rp}{rd:Nat}{fst:Bool}{D:List (List UInt8)}{last:List UInt8}(h:Sync l T rd fst D last)(hl:l≠[]){p:Nat×Int}(hp:p=cS l T (1,((l.getD 0 0).toNat:Int))):
  p.2.toNat<2^width rd/\p.2.toNat≠256/\p.2.toNat≠257/\rowOf D last p.2.toNat=some (l.take p.1)/\1<=p.1/\p.1<=l.length/\
   (grow D last (l.take p.1))=T.map Prod.fst/\pG rd fst=258+T.length:=by
 have hF:=h.Vh.found hl
 have aD:=(nn (b:=l) (A:=T) (c0:=((l.getD 0 0).toNat:Int)) T (1,((l.getD 0 0).toNat:Int)) (fun _ h=>h) h.Vh.closed.two (.inl rfl)).1
 rw[<-hp] at hF aD
 obtain⟨x,r,rfl⟩:∃x r,l=x::r:=by cases l with|nil=>exact absurd rfl hl|cons x r=>exact⟨x,r,rfl⟩
 have hw:257<2^width rd:=(tw (by rw[h.rd];have:=h.few;omega)).2
 have M0:rd<2^width rd:=(tw (by rw[h.rd];have:=h.few;omega)).1
 have ra:=hF.lo
 have Hr:(x::r).take 1=[x]:=rfl
 have eO:((x::r).take p.1).take 1=[x]:=by
  rw[List.take_take,show min 1 p.1=1 by have:=hF.one;omega];rfl
 have hg:grow D last ((x::r).take p.1)=T.map Prod.fst/\pG rd fst=258+T.length:=by
  unfold grow pG
  cases Yo:fst with
  |true=>
   obtain⟨rfl,rfl,rfl⟩:=h.first Yo
   have:=h.rd
   simp at this|-;exact this
  |false=>
   obtain⟨h1,h2⟩:=h.TV Yo
   have h2:=h2 hl
   have h3:=h.few
   have h4:=congrArg List.length h2
   simp only[List.length_map,List.length_append,List.length_singleton] at h4
   rw[if_pos ⟨h1,by omega⟩,eO,h2]
   refine⟨rfl,?_⟩
   have:=h.rd
   simp only[Bool.false_eq_true,if_false];omega
 rcases aD with e|⟨a1,a2,a3⟩
 ·have hx:p.2.toNat=x.toNat:=by rw[e];rfl
  have kv:=x.toNat_lt
  have rJ:p.1=1:=by rw[e]
  refine⟨by omega,by omega,by omega,?_,by omega,hF.le,hg.1,hg.2⟩
  rw[hx,rJ]
  unfold rowOf
  rw[if_pos (by omega),UInt8.ofNat_toNat]
  rfl
 ·obtain⟨i,hi⟩:=List.mem_iff_getElem?.mp a2
  have hc:p.2.toNat=258+i:=by have:=h.num i _ hi;simp only at this;omega
  have hiT:i<T.length:=(List.getElem?_eq_some_iff.mp hi).1
  have hnf:fst=false:=by
   cases Yo:fst with
   |true=>rw[(h.first Yo).1] at hiT;simp at hiT
   |false=>rfl
  obtain⟨h1,h2⟩:=h.TV hnf
  have h2:=h2 hl
  have h4:=congrArg List.length h2
  simp only[List.length_map,List.length_append,List.length_singleton] at h4
  have qq:(T.map Prod.fst)[i]?=some ((x::r).take p.1):=by rw[List.getElem?_map,hi];rfl
  refine⟨by have:=h.rd;omega,by omega,by omega,?_,hF.one,hF.le,hg.1,hg.2⟩
  rw[hc]
  unfold rowOf
  rw[if_neg (by omega),if_neg h1]
  by_cases hn:258+i=258+D.length
  ·rw[if_pos hn]
   rw[h2,show i=D.length by omega,List.getElem?_append_right (by omega),Nat.sub_self] at qq
   simp only[List.getElem?_cons_zero,Option.some.injEq] at qq
   rw[<-qq]
   obtain⟨y,q,hy⟩:∃y q,last=y::q:=by cases last with|nil=>exact absurd rfl h1|cons y q=>exact⟨y,q,rfl⟩
   subst hy
   have:=congrArg (fun t=>t.take 1) qq
   simp only[eO] at this
   rw[List.cons_append,List.take_succ_cons,List.take_zero] at this
   injection this with this
   subst this
   rfl
  ·rw[if_neg hn,show 258+i-258=i by omega]
   rw[h2,List.getElem?_append_left (by omega)] at qq
   exact qq
theorem AK (b:List UInt8)(most:Nat):∀(k:Nat) (l:List UInt8) (T:rp) (rd:Nat) (fst:Bool) (D:List (List UInt8)) (last:List UInt8) (p n:Nat) (out:List UInt8),
  l.length<k->Sync l T rd fst D last->pM b p (enc k l T rd fst)->p<=8*b.length->8*b.length<p+n->
  (out.length+l.length<=most->dec b most n p D last out=if 8*b.length<p+(enc k l T rd fst).length then(2,[]) else(0,out++l))/\
  (most<out.length+l.length->out.length<=most->p+(enc k l T rd fst).length<=8*b.length->dec b most n p D last out=(7,[]))
 |0,l,T,rd,fst,D,last,p,n,out,hk,_,_,_,_=>by omega
 |k+1,l,T,rd,fst,D,last,p,n,out,hk,hS,hH,hp,hn=>by
  obtain⟨m,rfl⟩:∃m,n=m+1:=⟨n-1,by omega⟩
  have Pv:=hS.rd
  have hwp:=tw (n:=rd) (by have:=hS.few;omega)
  have hw9:=pE rd
  by_cases hl:l=[]
  ·subst hl
   rw[Pg] at hH|-
   rw[cT]
   refine⟨fun _=> ?_,fun h1 h2 _=>by simp at h1;omega⟩
   by_cases c1:8*b.length<p+width rd
   ·rw[if_pos c1];exact mQ (by rw[<-Pv];exact c1)
   ·rw[if_neg c1,List.append_nil]
    exact wK (by rw[<-Pv];exact c1) (by rw[<-Pv];exact tv hH (by omega) hwp.2)
  ·obtain⟨q,hq⟩:∃q,q=cS l T (1,((l.getD 0 0).toNat:Int)):=⟨_,rfl⟩
   obtain⟨r1,r2,r3,r4,r5,r6,r7,r8⟩:=hS.row hl hq
   have hF:=hS.Vh.found hl
   rw[<-hq] at hF
   obtain⟨c,hc⟩:∃c,c=q.2.toNat:=⟨_,rfl⟩
   rw[<-hc] at r1 r2 r3 r4
   obtain⟨x,hx⟩:∃x,x=l.take q.1:=⟨_,rfl⟩
   have vq:x.length=q.1:=by rw[hx,List.length_take];omega
   have Aw:x≠[]:=by intro e;rw[e] at vq;simp at vq;omega
   have WL:x++l.drop q.1=l:=by rw[hx];exact List.take_append_drop _ _
   have xH:x.length+(l.drop q.1).length=l.length:=by rw[<-List.length_append,WL]
   rw[<-hx] at r4 r7
   have hTl:=hS.Vh.len
   have hDl:(grow D last x).length=T.length:=by rw[r7,List.length_map]
   obtain⟨R,hR,af3⟩:∃R,enc (k+1) l T rd fst=dh c (width rd)++R/\
     ∀(m:Nat),pM b (p+width rd) R->p+width rd<=8*b.length->8*b.length<p+width rd+m->
      ((out++x).length+(l.drop q.1).length<=most->dec b most m (p+width rd) (grow D last x) x (out++x)=if 8*b.length<p+width rd+R.length then(2,[]) else(0,out++l))/\
      (most<(out++x).length+(l.drop q.1).length->(out++x).length<=most->p+width rd+R.length<=8*b.length->dec b most m (p+width rd) (grow D last x) x (out++x)=(7,[])):=by
    by_cases bc:q.1<l.length
    ·by_cases jH:258+T.length=4095
     ·refine⟨_,by rw[Gi hl hq bc jH,<-hc],?_⟩
      intro m Yp LN im
      obtain⟨m,rfl⟩:∃j,m=j+1:=⟨m-1,by omega⟩
      have e8:258+(grow D last x).length=pG rd fst:=by rw[hDl,r8]
      have api:=tw (n:=pG rd fst) (by omega)
      by_cases c1:8*b.length<p+width rd+width (pG rd fst)
      ·rw[mQ (by rw[e8];exact c1)]
       rw[@List.length_append _ (dh 256 _),cT]
       exact⟨fun _=>by rw[if_pos (by omega)],fun _ _ _=>by omega⟩
      ·have hb:=tv Yp.left (by omega) (c:=256) (by omega)
       have hH3:=Yp.right
       rw[cT] at hH3
       rw[yB (by rw[e8];exact c1) (by rw[e8];exact hb),e8]
       have ih:=AK b most k (l.drop q.1) [] 258 true [] [] (p+width rd+width (pG rd fst)) m (out++x) (by omega) ⟨Good.nil,ZX.nil,rfl,by simp,fun _=>⟨rfl,rfl,rfl⟩,fun e=>by cases e⟩ hH3 (by omega) (by have:=pE (pG rd fst);omega)
       rw[List.append_assoc,WL] at ih
       rw[@List.length_append _ (dh 256 _),cT,<-Nat.add_assoc]
       exact ih
     ·refine⟨_,by rw[J5 hl hq bc jH,<-hc],?_⟩
      intro m Yp LN im
      have ih:=AK b most k (l.drop q.1) (T++[(l.take (q.1+1),((258+T.length:Nat):Int))]) (pG rd fst) false (grow D last x) x (p+width rd) m (out++x) (by omega)
       ⟨hF.more bc jH,hS.num.snoc _,by rw[r8,hDl],by omega,(fun e=>by cases e),fun _=>⟨Aw,fun _=>by rw[List.map_append,r7,pw bc,<-hx];rfl⟩⟩ Yp LN im
      rw[List.append_assoc,WL] at ih
      exact ih
    ·have hd0:l.drop q.1=[]:=List.drop_eq_nil_of_le (by omega)
     refine⟨_,by rw[Ph hl hq bc,<-hc],?_⟩
     intro m Yp LN im
     have ih:=AK b most k (l.drop q.1) T (pG rd fst) false (grow D last x) x (p+width rd) m (out++x) (by omega)
      ⟨hS.Vh,hS.num,by rw[r8,hDl],by omega,(fun e=>by cases e),fun _=>⟨Aw,fun e=>absurd hd0 e⟩⟩ Yp LN im
     rw[List.append_assoc,WL] at ih
     exact ih
   rw[hR] at hH|-
   rw[List.length_append,cT]
   by_cases c1:8*b.length<p+width rd
   ·rw[mQ (by rw[<-Pv];exact c1)]
    exact⟨fun _=>by rw[if_pos (by omega)],fun _ _ _=>by omega⟩
   ·have hb:=tv hH.left (by omega) r1
    have Yp:=hH.right
    rw[cT] at Yp
    rw[qu (by rw[<-Pv];exact c1) (by rw[<-Pv];exact hb) r3 r2,r4]
    simp only
    rw[<-Pv]
    obtain⟨i1,i2⟩:=af3 m Yp (by omega) (by omega)
    rw[List.length_append] at i1 i2
    rw[<-Nat.add_assoc]
    refine⟨fun hm=> ?_,fun hm1 hm2 hm3=> ?_⟩
    ·rw[if_neg (by omega)];exact i1 (by omega)
    ·by_cases c2:most<out.length+x.length
     ·rw[if_pos c2]
     ·rw[if_neg c2];exact i2 (by omega) (by omega) hm3
theorem RM (b:List UInt8)(i:Nat):(np b).getD i 0<2:=by
 by_cases h:i<(np b).length
 ·rw[List.getD_eq_getElem?_getD,List.getElem?_eq_getElem h,Option.getD_some]
  exact J6 b _ (List.getElem_mem _)
 ·rw[List.getD_eq_getElem?_getD,List.getElem?_eq_none (by omega)];simp
theorem u9 (b:List UInt8):(Gg b).length=((np b).length+7)/8:=sQ _ _ (Nat.le_refl _)
theorem Db {b e:List UInt8}(h:∀i,i<(np b).length->i<8*e.length->lD e i=lD (Gg b) i):pM e 0 (np b):=fun i hi he=>by
 rw[Nat.zero_add] at he|-
 rw[h i hi he]
 have:=Ky _ (np b) [] (Nat.le_refl _) (RM b) i hi
 rw[List.append_nil] at this
 exact this
theorem Kz {b e:List UInt8}{most:Nat}(hH:pM e 0 (np b)):
  (b.length<=most->sP e most=if 8*e.length<(np b).length then(2,[]) else(0,b))/\(most<b.length->(np b).length<=8*e.length->sP e most=(7,[])):=by
 have h1:=hH.left
 have h2:=hH.right
 rw[cT] at h2
 unfold sP
 have Tl:(np b).length=9+(enc (b.length+1) b [] 258 true).length:=by unfold np;rw[List.length_append,cT]
 by_cases c1:8*e.length<0+width (258+([]:List (List UInt8)).length)
 ·have c9:8*e.length<9:=by simpa [width] using c1
  rw[mQ c1]
  exact⟨fun _=>by rw[if_pos (by omega)],fun _ _=>by omega⟩
 ·have c9:¬8*e.length<9:=by simpa [width] using c1
  have hb:=tv h1 (by omega) (by decide)
  rw[yB c1 hb]
  have ih:=AK e most (b.length+1) b [] 258 true [] [] (0+9) (8*e.length) [] (by omega) ⟨Good.nil,ZX.nil,rfl,by simp,fun _=>⟨rfl,rfl,rfl⟩,fun e=>by cases e⟩ h2 (by omega) (by omega)
  rw[Tl]
  simp only[List.length_nil,Nat.zero_add,List.nil_append] at ih|-
  exact⟨ih.1,fun a b=>ih.2 a (by omega) (by omega)⟩
theorem Ig {a m:List UInt8}{i:Nat}(h:i<8*a.length):lD (a++m) i=lD a i:=by
 unfold lD
 rw[List.getD_eq_getElem?_getD,List.getD_eq_getElem?_getD,List.getElem?_append_left (by omega)]
theorem Nm (b more:List UInt8){most:Nat}(h:b.length<=most):sP (Gg b++more) most=(0,b):=by
 have hl:=u9 b
 have hH:pM (Gg b++more) 0 (np b):=Db (fun i hi _=>Ig (by omega))
 rw[(Kz hH).1 h,if_neg (by rw[List.length_append];omega)]
theorem Nn (b:List UInt8){most:Nat}(h:most<b.length):sP (Gg b) most=(7,[]):=by
 have hl:=u9 b
 exact(Kz (Db (fun i hi _=>rfl))).2 h (by omega)
end Go.Cl.Lz
set_option linter.unusedSimpArgs false
set_option linter.unusedVariables false
set_option maxRecDepth 100000
namespace Go.Proofs.YtdfjfncifneocaaGreat
open Go.Cl Go.Cl.Lz Go.Cl.Rw
theorem Dc:∀(L:List Nat) (p:List UInt8×List Nat),(∀x∈L,x<2)->C6 p->C6 (fv p L)
 |[],p,_,h=>h
 |b::L,p,hL,h=>by
  show C6 (fv (sO p b) L)
  exact Dc L _ (fun x hx=>hL x (List.mem_cons_of_mem _ hx)) (yA h (hL b (List.mem_cons_self ..)))
theorem Gz:∀(L:List Nat) (p:List UInt8×List Nat),(fv p L).1.length<=p.1.length+L.length
 |[],p=>by simp[fv]
 |b::L,p=>by
  show(fv (sO p b) L).1.length<=_
  have h1:=Gz L (sO p b)
  have h2:=Kt p b
  simp only[List.length_cons];omega
theorem qz (p:List UInt8×List Nat)(L M:List Nat):fv p (L++M)=fv (fv p L) M:=List.foldl_append ..
theorem ZY:C6 ([],[]):=⟨by simp,fun i=>by simp⟩
theorem mH.stay {base:Nat}{s s' :aq}{j:Nat}{v bv v' kO:Value}{q:List UInt8×List Nat}{next:Nat}{begun:Bool}(h:Wr base s j v bv q next begun)(k:mH j v bv s v' kO s')(hb:base<=s.next):ar base s s' :=
 ⟨k.next,fun i hi=>k.get i (by omega) (by have:=h.row.lo;omega) (fun e=>by have:=h.row.fresh i e;omega) (fun e=>by have:=h.bf i e;omega)⟩
structure qV (base:Nat) (s:aq) (j r:Nat) (v bv:Value) (q:List UInt8×List Nat) (T:rp) (next:Nat) (begun:Bool):Prop where
 wr:Wr base s j v bv q next begun
 map:jg s r T
 rj:r≠j
 rv:aE v≠some r
 rb:aE bv≠some r
 lo:base<=r
section
variable {base:Nat} {s s' :aq} {j r:Nat} {v bv v' kO:Value} {q q' :List UInt8×List Nat} {T:rp} {next next' :Nat} {begun Vi:Bool}
theorem qV.wrote (h:qV base s j r v bv q T next begun)(hw:Wr base s' j v' kO q' next' Vi)(k:mH j v bv s v' kO s'):qV base s' j r v' kO q' T next' Vi:=by
 have bc:=h.map.lt
 refine⟨hw,⟨Nat.lt_of_lt_of_le bc k.next,?_⟩,h.rj,?_,?_,h.lo⟩
 ·have:=h.map.map
  simp only[aq.dp,k.get r bc h.rj h.rv h.rb] at this|-
  exact this
 ·rcases k.iv with e|⟨i,e,hi⟩
  ·rw[e];exact h.rv
  ·rw[e];intro q;injection q with q;omega
 ·rcases k.ib with e|e|⟨i,e,hi⟩
  ·rw[e];intro q;cases q
  ·rw[e];exact h.rb
  ·rw[e];intro q;injection q with q;omega
theorem qV.put {T' :rp}(h:qV base s j r v bv q T next begun)(hm:jg s' r T')(hn:s'.next=s.next)(hs:∀i,i≠r->s'.heap.get i=s.heap.get i):qV base s' j r v bv q T' next begun:=by
 have ht:aY (.pointer (some ⟨r,0,some 0⟩)) s s' :=aY.aI hn hs
 refine⟨⟨⟨h.wr.row.cu.turns ht (fun e=>h.rj (by injection e)),h.wr.row.own.aI hn hs h.rv,h.wr.row.fresh,h.wr.row.ne,h.wr.row.lo,h.wr.row.ok⟩,h.wr.bits.aI hn hs h.rb,h.wr.bf,h.wr.bj,h.wr.bx⟩,hm,h.rj,h.rv,h.rb,h.lo⟩
theorem qV.fresh {r' :Nat}(h:Wr base s j v bv q next begun)(hb:base<=s.next)(hm:jg s' s.next [])(k:ar s.next s s'):qV base s' j s.next v bv q [] next begun:=by
 refine⟨⟨⟨h.row.cu.keeps k,h.row.own.keeps k,h.row.fresh,h.row.ne,h.row.lo,h.row.ok⟩,h.bits.keeps k,h.bf,h.bj,h.bx⟩,hm,?_,?_,?_,hb⟩
 ·have:=h.row.cu.lt;omega
 ·intro e;have:=h.row.own.g8 _ e;omega
 ·intro e;have:=h.bits.g8 _ e;omega
end
theorem Yq:cE Tryz.prog 164 [(2,.int .i64 258)]=some (.agg #[.slice none 0 0,.int .i64 0,.slice none 0 0,.int .i64 258,.bool false]):=by kernel_rfl
theorem cC.after {s s1 s' :aq}{w:Value}{l:List UInt8}{base:Nat}(h:cC s1 w s' l)(k:ar base s s1)(hb:base=s.next):cC s w s' l:=by
 subst hb
 exact⟨h.own,fun i hi=>Nat.le_trans k.next (h.fresh i hi),k.trans (h.stay.weaken k.next)⟩
end Go.Proofs.YtdfjfncifneocaaGreat
namespace Go.Proofs.YtdfjfncifneocaaGreat
open Go.Cl Go.Cl.Lz Go.Cl.Rw
theorem Vj (s:aq):jg (s.new (.map [])) s.next []:=by
 refine⟨by rw[we];omega,?_⟩
 simp only[aq.dp,aq.new,Tr.bp _ _ _ _ (deep (by omega))]
 rfl
theorem ZZ (a b:Value):ba (.tuple #[a,b]) 0=some a:=rfl
theorem Z0 (a b:Value):ba (.tuple #[a,b]) 1=some b:=rfl
theorem ab4:Tryz.prog.underlying 166=some (.map 9 3):=Tryz.underlying166
theorem Pw {l:List UInt8}{n:Nat}:(l.drop 0).take (n-0)=l.take n:=by rw[List.drop_zero,Nat.sub_zero]
theorem Yr {l:List UInt8}{n:Nat}:(l.drop n).take (l.length-n)=l.drop n:=List.take_of_length_le (by rw[List.length_drop];omega)
theorem x6.sx {base:Nat}{s:aq}{v:Value}{l:List UInt8}(h:x6 base s 1 v l.length (ofBytes l)){lo hi:Nat}(h1:lo<=hi)(h2:hi<=l.length):x6 base s 1 (eB 1 v lo hi) ((l.drop lo).take (hi-lo)).length (ofBytes ((l.drop lo).take (hi-lo))):=fun s' k=>(h s' k).sx h1 h2
theorem RN {c:Nat}(h6:c≠256)(h7:c≠257)(rd:Nat)(fst:Bool):nB c rd (!fst)=pG rd fst/\mI c (!fst)=true:=by
 unfold nB mI pG
 rw[if_neg h6,if_neg h7,if_neg h6,if_neg h7]
 cases fst<;>exact⟨rfl,rfl⟩
theorem RO {q:List UInt8×List Nat}(h0:q.2≠[])(h7:q.2.length<=7):(sO q 0).1++pack (sO q 0).2=q.1++pack q.2:=by
 have hz:=J3 q.2 1
 rw[show List.replicate 1 0=[0] from rfl] at hz
 unfold sO
 by_cases h:q.2.length=7
 ·rw[if_pos h]
  simp only
  rw[sH,List.append_nil,hz,uX h0 (by omega)]
 ·rw[if_neg h]
  simp only
  rw[uX h0 (by omega),uX (by simp) (by rw[List.length_append,List.length_singleton];omega),hz]
set_option maxRecDepth 100000 in
set_option maxHeartbeats 8000000 in
theorem Np {lib:az}(hl:lib.at 84=none)(js:lib.at 136=none)(IP:lib.at 152=none)(C7:lib.at 137=none)(jQ:lib.at 170=none)(lj:lib.at 200=none)(ake:lib.at 138=none)(Al:lib.at 36=none)(s:aq)(x:Value)(b:List UInt8)(hx:aN s 1 x b.length (ofBytes b))(hb:b.length<=4000000):
  Runs Tryz.prog lib 84 [x] s fun w s' =>cC s w s' (Gg b):=by
 obtain⟨base,yU⟩:∃base,base=s.next:=⟨_,rfl⟩
 have Aw:x6 base s 1 x b.length (ofBytes b):=by rw[yU];exact hx.low
 have nP:base<=s.next:=by omega
 have hD:∀(D E:List Nat),np b=D++E->C6 (fv ([],[]) D)/\(fv ([],[]) D).1.length<=100000000:=fun D E h=>by
  refine⟨Dc _ _ (fun x hx=>J6 b x (by rw[h];exact List.mem_append_left _ hx)) ZY,?_⟩
  have h1:=Gz D ([],[])
  have h2:=J7 b
  rw[h,List.length_append] at h2
  simp only[List.length_nil] at h1;omega
 refine Runs.enter 80 Tryz.func84 rfl hl rfl rfl ?_
 intro f hn hf
 have h0:f.get 0=x:=hf 0
 clear hf
 simp-implicitDefEqProofs(disch:=omega)only[aj,ae,QS,↓reduceIte,hn,Yq]
 refine ax ?_
 intro s1 SJ bm iY
 obtain⟨j,hj⟩:∃j,j=s.next:=⟨_,rfl⟩
 rw[<-hj] at SJ
 have hW1:Wr base s1 j (.slice none 0 0) (.slice none 0 0) ([],[]) 258 false:=⟨⟨SJ,.nil,aH.nil _,(fun e=>by cases e),by omega,⟨Nat.le_refl _,by simp⟩⟩,.nil,aH.nil _,(fun e=>by cases e),fun _ e=>by cases e⟩
 have gu:base<=s1.next:=by omega
 simp-implicitDefEqProofs(disch:=omega)only[aj,ak,ad,QS,Nat.reduceAdd,↓reduceIte,hn,List.length_cons,List.length_nil]
 rw[<-hj]
 refine(tu js IP C7 jQ lj base s1 j _ _ ([],[]) 258 false 256 hW1 gu ZY (by simp) (by omega) (by omega)).mono ?_
 rintro _ s2 ⟨v2,b2,hW2,ni⟩
 have aU:=ni.stay hW1 gu
 have dB:base<=s2.next:=Nat.le_trans gu aU.next
 obtain⟨s3,ij⟩:∃s3,s3=s2.new (.map []):=⟨_,rfl⟩
 have hm3:jg s3 s2.next []:=by rw[ij];exact Vj s2
 have bH:ar s2.next s2 s3:=by rw[ij];exact ar.new s2 _
 have hE3:qV base s3 j s2.next v2 b2 (fv ([],[]) (dh 256 9)) [] 258 false:=qV.fresh (r' :=0) hW2 dB hm3 bH
 have hS3:ar base s s3:=((bm.weaken nP).trans aU).trans (bH.weaken dB)
 have ZK:=Aw.stay hS3
 simp-implicitDefEqProofs(disch:=omega)only[aj,QS,↓reduceIte,hn]
 rw[<-ij]
 refine Comes.bK (fun z f s' =>∃(k:Nat) (l:List UInt8) (T:rp) (rd:Nat) (fst:Bool) (D:List Nat) (r:Nat) (v bv xv:Value),z=l.length/\l.length<k/\l.length<=b.length/\np b=D++enc k l T rd fst/\Lz.Good T/\rd<=4096/\qV base s' j r v bv (fv ([],[]) D) T rd (!fst)/\ar base s s' /\x6 base s' 1 xv l.length (ofBytes l)/\f.n=80/\f.get 0=xv/\f.get 3=nA j/\f.get 4= .map (some r))
  (fun y f s' =>y= .exit 0/\∃(rd:Nat) (begun:Bool) (D:List Nat) (v bv:Value),rd<=4096/\np b=D++dh 257 (width rd)/\Wr base s' j v bv (fv ([],[]) D) rd begun/\ar base s s' /\f.n=80/\f.get 3=nA j)
  ⟨b.length+1,b,[],258,true,dh 256 9,s2.next,v2,b2,x,rfl,by omega,by omega,rfl,Lz.Good.nil,by omega,hE3,hS3,ZK,by simp only[ag,hn],by simp only[aa,↓reduceIte,WP,h0],by simp only[aa,↓reduceIte,WP],by simp only[aa,↓reduceIte]⟩ ?_ ?_
 ·clear hn h0 f hE3 hS3 ZK hm3 bH ij s3 hW2 ni aU dB hW1 gu SJ bm iY s1 Aw v2 b2 s2
  rintro Q hQ z f s4 ⟨k,l,T,rd,fst,D,r,v,bv,xv,rfl,hk,apk,dN,hG,Pv,hE,hS,hL,hn,h0,h3,h4⟩
  have m8:=Nat.le_trans nP hS.next
  have ED:=hL.aG
  by_cases m9:l=[]
  ·subst m9
   have c1:¬(0:Int)<((([]:List UInt8).length:Nat):Int):=by simp
   simp-implicitDefEqProofs(disch:=omega)only[aj,ad,QS,↓reduceIte,hn,h0,ED.bh Tryz.underlying22,eq_false c1]
   rw[Pg] at dN
   exact hQ _ _ _ ⟨rfl,rd,_,D,v,bv,Pv,dN,hE.wr,hS,by simp only[ag,hn],by simp only[aa,↓reduceIte,WP,h3]⟩
  ·have Hh:0<l.length:=List.length_pos_iff.mpr m9
   have c1:(0:Int)<(l.length:Int):=by omega
   obtain⟨p,hp⟩:∃p,p=cS l T (1,((l.getD 0 0).toNat:Int)):=⟨_,rfl⟩
   have hF:=hG.found m9
   rw[<-hp] at hF
   have amQ:((l.getD 0 0).toNat:Int)<256:=by have:=(l.getD 0 0).toNat_lt;omega
   simp-implicitDefEqProofs(disch:=omega)only[aj,ad,QS,WP,↓reduceIte,hn,h0,ED.bh Tryz.underlying22,eq_true c1,Tryz.underlying3,ED.self,ED.indexAddr Tryz.underlying22 bL,ED.dJ mB,bG,bR Tryz.underlying5 Tryz.underlying3,aB,Int.toNat_zero]
   refine Comes.bK (fun z f s' =>∃(n:Nat) (c:Int),z=l.length-n/\1<=n/\n<=l.length/\ext T l (l.length-n) n c=p/\f.n=80/\f.get 0=xv/\f.get 3=nA j/\f.get 4= .map (some r)/\f.get 5= .int .i64 n/\f.get 6= .int .i64 c/\s' =s4)
    (fun y f s' =>y= .exit 2/\f.n=80/\f.get 0=xv/\f.get 3=nA j/\f.get 4= .map (some r)/\f.get 5= .int .i64 p.1/\f.get 6= .int .i64 p.2/\s' =s4)
    ⟨1,((l.getD 0 0).toNat:Int),rfl,by omega,by omega,hF.eq,by simp only[ag,hn],by simp only[aa,↓reduceIte,WP,h0],by simp only[aa,↓reduceIte,WP,h3],by simp only[aa,↓reduceIte,WP,h4],by simp only[aa,↓reduceIte,WP];rfl,by simp only[aa,↓reduceIte],rfl⟩ ?_ ?_
   ·clear hn h0 h3 h4 f
    rintro Q2 ZD z f _ ⟨n,c,rfl,iJ,I3,lK,hn,h0,h3,h4,h5,h6,rfl⟩
    by_cases bc:n<l.length
    ·have c2:(n:Int)<(l.length:Int):=by omega
     have e1:((n:Int)+1).toNat=n+1:=by omega
     have ez:=ED.sx (lo:=0) (hi:=n+1) (by omega) (by omega)
     rw[Pw] at ez
     simp-implicitDefEqProofs(disch:=omega)only[aj,ad,ai,QS,WP,↓reduceIte,hn,h0,h4,h5,ED.bh Tryz.underlying22,eq_true c2,aB,ED.kF Tryz.underlying22 bL,e1,ez.str Tryz.underlying22 Tryz.underlying9 Tryz.underlying5,hE.map.lookup ab4 Tryz.underlying9 TR]
     have vt:ext T l (l.length-n) n c=(match kK (l.take (n+1)) T with|some x=>ext T l (l.length-(n+1)) (n+1) x|none=>(n,c)):=by
      rw[show l.length-n=(l.length-(n+1))+1 by omega,ext]
      rfl
     rw[vt] at lK
     cases hsk:kK (l.take (n+1)) T with
     |none=>
      rw[hsk] at lK
      obtain rfl:p=(n,c):=lK.symm
      simp-implicitDefEqProofs(disch:=omega)only[aj,QS,WP,↓reduceIte,hn,ZZ,Z0,Option.getD_none,Option.isSome_none]
      exact ZD _ _ _ ⟨rfl,by simp only[ag,hn],by simp only[aa,↓reduceIte,WP,h0],by simp only[aa,↓reduceIte,WP,h3],by simp only[aa,↓reduceIte,WP,h4],by simp only[aa,↓reduceIte,WP,h5],by simp only[aa,↓reduceIte,WP,h6],rfl⟩
     |some y=>
      rw[hsk] at lK
      simp-implicitDefEqProofs(disch:=omega)only[aj,QS,WP,↓reduceIte,hn,h5,ZZ,Z0,Option.getD_some,Option.isSome_some,aB]
      refine au (l.length-(n+1)) (by omega) ⟨n+1,y,rfl,by omega,by omega,lK,by simp only[ag,hn],by simp only[aa,↓reduceIte,WP,h0],by simp only[aa,↓reduceIte,WP,h3],by simp only[aa,↓reduceIte,WP,h4],by simp only[aa,↓reduceIte,WP];rfl,by simp only[aa,↓reduceIte],rfl⟩
    ·obtain rfl:n=l.length:=by omega
     have c2:¬(l.length:Int)<(l.length:Int):=by omega
     rw[Nat.sub_self] at lK
     simp-implicitDefEqProofs(disch:=omega)only[aj,ad,QS,WP,↓reduceIte,hn,h0,h5,ED.bh Tryz.underlying22,eq_false c2]
     obtain rfl:p=(l.length,c):=lK.symm
     exact ZD _ _ _ ⟨rfl,by simp only[ag,hn],by simp only[aa,↓reduceIte,WP,h0],by simp only[aa,↓reduceIte,WP,h3],by simp only[aa,↓reduceIte,WP,h4],by simp only[aa,↓reduceIte,WP,h5],by simp only[aa,↓reduceIte,WP,h6],rfl⟩
   ·clear hn h0 h3 h4 f
    rintro _ f _ ⟨rfl,hn,h0,h3,h4,h5,h6,rfl⟩
    obtain⟨c,hc⟩:∃c:Nat,p.2=(c:Int):=⟨p.2.toNat,by have:=hF.lo;omega⟩
    have Um:p.2.toNat=c:=by omega
    have Z1:c≠256:=by have:=hF.n6;omega
    have hc7:c≠257:=by have:=hF.n7;omega
    have hcm:c<100000000:=by have:=hF.hi;omega
    obtain⟨tT,uD⟩:=hD _ _ dN
    rw[hc] at h6
    simp-implicitDefEqProofs(disch:=omega)only[aj,ak,ad,QS,WP,↓reduceIte,hn,h3,h6]
    refine(tu js IP C7 jQ lj base _ j v bv (fv ([],[]) D) rd (!fst) c hE.wr m8 tT uD hcm Pv).mono ?_
    rintro _ s5 ⟨v5,b5,WS,C5⟩
    obtain⟨e5,e6⟩:=RN Z1 hc7 rd fst
    rw[e5,e6,<-qz] at WS
    have hE5:=hE.wrote WS C5
    have qx:=C5.stay hE.wr m8
    have Yl:base<=s5.next:=Nat.le_trans m8 qx.next
    have hL5:=hL.stay qx
    have Nq:=hL5.aG
    have hS5:=hS.trans qx
    have ab5:=XU Pv fst
    have rJ:=hF.one
    have LN:=hF.le
    have hcd:=x6.sx hL5 (lo:=p.1) (hi:=l.length) LN (Nat.le_refl _)
    rw[Yr] at hcd
    have hdl:(l.drop p.1).length=l.length-p.1:=List.length_drop
    by_cases bc:p.1<l.length
    ·have c2:(p.1:Int)<(l.length:Int):=by omega
     have ez:=Nq.sx (lo:=0) (hi:=p.1+1) (by omega) (by omega)
     rw[Pw] at ez
     have e1:((p.1:Int)+1).toNat=p.1+1:=by omega
     have hTl:=hG.len
     simp-implicitDefEqProofs(disch:=omega)only[aj,ad,ai,QS,WP,↓reduceIte,hn,h0,h4,h5,Nq.bh Tryz.underlying22,eq_true c2,hE5.map.len ab4,aB,Nq.kF Tryz.underlying22 bL,e1,ez.str Tryz.underlying22 Tryz.underlying9 Tryz.underlying5]
     refine An ab4 Tryz.underlying9 hE5.map (l.take (p.1+1)) (258+(T.length:Int)) (hF.kK bc) ?_
     intro s6 hm6 X6 M4
     have hE6:=hE5.put hm6 X6 M4
     have eD:ar base s5 s6:=ar.aI X6 M4 hE5.lo
     have hb6:base<=s6.next:=Nat.le_trans Yl eD.next
     have UH:=hL5.stay eD
     by_cases cx:258+T.length=4095
     ·have cx' :(258:Int)+(T.length:Int)=4095:=by omega
      have uk:=dN
      rw[show k=(k-1)+1 by omega,Gi m9 hp bc cx,Um,<-List.append_assoc] at uk
      obtain⟨hd5,mO⟩:=hD _ _ uk
      simp-implicitDefEqProofs(disch:=omega)only[aj,ak,ad,QS,WP,↓reduceIte,hn,h3,eq_true cx']
      refine(tu js IP C7 jQ lj base _ j v5 b5 _ (pG rd fst) true 256 hE6.wr hb6 hd5 mO (by omega) ab5).mono ?_
      rintro _ s7 ⟨v7,b7,hW7,akj⟩
      have mF:=akj.stay hE6.wr hb6
      have Yb:base<=s7.next:=Nat.le_trans hb6 mF.next
      rw[<-qz] at hW7
      obtain⟨s8,UT⟩:∃s8,s8=s7.new (.map []):=⟨_,rfl⟩
      have hm8:jg s8 s7.next []:=by rw[UT];exact Vj s7
      have RD:ar s7.next s7 s8:=by rw[UT];exact ar.new s7 _
      have hE8:=qV.fresh (r' :=0) hW7 Yb hm8 RD
      have hL8:=(UH.stay mF).stay (RD.weaken Yb)
      have af6:=hL8.aG
      have akk:x6 base s8 1 (eB 1 xv p.1 l.length) (l.drop p.1).length (ofBytes (l.drop p.1)):=((hcd.stay eD).stay mF).stay (RD.weaken Yb)
      simp-implicitDefEqProofs(disch:=omega)only[aj,ai,QS,WP,↓reduceIte,hn,h0,h5]
      rw[<-UT]
      simp-implicitDefEqProofs(disch:=omega)only[aj,QS,↓reduceIte,hn,af6.fp Tryz.underlying22 bL]
      refine au (l.drop p.1).length (by omega) ⟨k-1,l.drop p.1,[],258,true,_,s7.next,v7,b7,eB 1 xv p.1 l.length,rfl,by omega,by omega,by rw[List.append_assoc] at uk|-;rw[List.append_assoc];exact uk,Lz.Good.nil,by omega,hE8,((hS5.trans eD).trans mF).trans (RD.weaken Yb),akk,by simp only[ag,hn],by simp only[aa,↓reduceIte],by simp only[aa,↓reduceIte,WP,h3],by simp only[aa,↓reduceIte,WP]⟩
     ·have cx' :¬(258:Int)+(T.length:Int)=4095:=by omega
      have uk:=dN
      rw[show k=(k-1)+1 by omega,J5 m9 hp bc cx,Um,<-List.append_assoc] at uk
      have af7:=UH.aG
      simp-implicitDefEqProofs(disch:=omega)only[aj,ai,QS,WP,↓reduceIte,hn,h0,h5,eq_false cx',af7.fp Tryz.underlying22 bL]
      refine au (l.drop p.1).length (by omega) ⟨k-1,l.drop p.1,_,pG rd fst,false,_,r,v5,b5,eB 1 xv p.1 l.length,rfl,by omega,by omega,uk,hF.more bc cx,ab5,hE6,hS5.trans eD,hcd.stay eD,by simp only[ag,hn],by simp only[aa,↓reduceIte],by simp only[aa,↓reduceIte,WP,h3],by simp only[aa,↓reduceIte,WP,h4]⟩
    ·have c2:¬(p.1:Int)<(l.length:Int):=by omega
     have uk:=dN
     rw[show k=(k-1)+1 by omega,Ph m9 hp bc,Um,<-List.append_assoc] at uk
     simp-implicitDefEqProofs(disch:=omega)only[aj,ad,ai,QS,WP,↓reduceIte,hn,h0,h5,Nq.bh Tryz.underlying22,eq_false c2,Nq.fp Tryz.underlying22 bL]
     refine au (l.drop p.1).length (by omega) ⟨k-1,l.drop p.1,T,pG rd fst,false,_,r,v5,b5,eB 1 xv p.1 l.length,rfl,by omega,by omega,uk,hG,ab5,hE5,hS5,hcd,by simp only[ag,hn],by simp only[aa,↓reduceIte],by simp only[aa,↓reduceIte,WP,h3],by simp only[aa,↓reduceIte,WP,h4]⟩
 ·clear hn h0 f hE3 hS3 ZK hm3 bH ij s3 hW2 ni aU dB hW1 gu SJ bm iY s1 Aw v2 b2 s2
  rintro _ f s4 ⟨rfl,rd,begun,D,v,bv,Pv,dN,hW,hS,hn,h3⟩
  have m8:=Nat.le_trans nP hS.next
  obtain⟨tT,uD⟩:=hD _ _ dN
  simp-implicitDefEqProofs(disch:=omega)only[aj,ak,ad,QS,↓reduceIte,hn,h3]
  refine(tu js IP C7 jQ lj base _ j v bv _ rd begun 257 hW m8 tT uD (by omega) Pv).mono ?_
  rintro _ s5 ⟨v5,b5,WS,C5⟩
  have qx:=C5.stay hW m8
  have Yl:base<=s5.next:=Nat.le_trans m8 qx.next
  rw[<-qz,<-dN] at WS
  obtain⟨hd5,mO⟩:=hD (np b) [] (by simp)
  have hS5:=hS.trans qx
  have hpk:=uW (np b) ([],[]) (by simp)
  obtain⟨pq,hpq⟩:∃pq,pq=fv ([],[]) (np b):=⟨_,rfl⟩
  have af8:pq.1++pack pq.2=Gg b:=by rw[hpq];exact hpk.1
  rw[<-hpq] at WS hd5 mO
  have akm:(Gg b).length<=100000000:=by have h1:=u9 b;have h2:=J7 b;omega
  simp-implicitDefEqProofs(disch:=omega)only[aj,QS,↓reduceIte,hn]
  refine Comes.bK (fun z f s' =>∃(q:List UInt8×List Nat) (rd:Nat) (bg:Bool) (v bv:Value),z=(if q.2=[] then 0 else 8-q.2.length)/\Wr base s' j v bv q rd bg/\C6 q/\q.1++pack q.2=Gg b/\ar base s s' /\f.n=80/\f.get 3=nA j)
   (fun y f s' =>y= .exit 4/\∃(rd:Nat) (bg:Bool) (v bv:Value),Wr base s' j v bv (Gg b,[]) rd bg/\ar base s s' /\f.n=80/\f.get 3=nA j)
   ⟨pq,_,_,v5,b5,rfl,WS,hd5,af8,hS5,by simp only[ag,hn],by simp only[aa,↓reduceIte,WP,h3]⟩ ?_ ?_
  ·clear hn h3 f WS hd5 mO af8 hpq hpk C5 qx Yl hS5 m8 tT uD hW hS dN Pv
   rintro Q hQ z f s4 ⟨q,rd,bg,v,bv,rfl,hW,hH,hq,hS,hn,h3⟩
   have m8:=Nat.le_trans nP hS.next
   have g2:=hW.row.cu.load (P:=Tryz.prog) Ie (off:=2) (c:=6) rfl (by simp)
   have hq1:q.1.length<=100000000:=by rw[<-hq,List.length_append] at akm;omega
   by_cases Z2:q.2=[]
   ·have c1:¬(0:Int)<((q.2.length:Nat):Int):=by rw[Z2];simp
    simp-implicitDefEqProofs(disch:=omega)only[aj,ak,ad,QS,↓reduceIte,hn,h3,zS,g2,hW.bits.aG.bh Tryz.underlying134,eq_false c1]
    refine hQ _ _ _ ⟨rfl,rd,bg,v,bv,?_,hS,by simp only[ag,hn],by simp only[aa,↓reduceIte,WP,h3]⟩
    rw[Z2,sH,List.append_nil] at hq
    obtain⟨q1,q2⟩:=q
    simp only at hq Z2
    rw[<-hq,<-Z2]
    exact hW
   ·have c1:(0:Int)<((q.2.length:Nat):Int):=by have:=List.length_pos_iff.mpr Z2;omega
    simp-implicitDefEqProofs(disch:=omega)only[aj,ak,ad,QS,WP,↓reduceIte,hn,h3,zS,g2,hW.bits.aG.bh Tryz.underlying134,eq_true c1]
    refine(Ku C7 jQ lj base s4 j v bv q rd bg 0 hW m8 hH (by omega)).mono ?_
    rintro _ s5 ⟨v5,b5,WS,C5⟩
    rw[show((0:Int)%2).toNat=0 from rfl] at WS
    simp-implicitDefEqProofs(disch:=omega)only[aj,QS,↓reduceIte,hn]
    refine au _ ?_ ⟨sO q 0,rd,bg,v5,b5,rfl,WS,yA hH (by omega),by rw[RO Z2 hH.1];exact hq,hS.trans (C5.stay hW m8),by simp only[ag,hn],by simp only[aa,↓reduceIte,WP,h3]⟩
    have hh:=hH.1
    have m9:=List.length_pos_iff.mpr Z2
    rw[if_neg Z2]
    unfold sO
    by_cases h7:q.2.length=7
    ·rw[if_pos h7,if_pos rfl];omega
    ·rw[if_neg h7,if_neg (by simp),List.length_append,List.length_singleton];omega
  ·clear hn h3 f
   rintro _ f s6 ⟨rfl,rd6,bg6,v6,bv6,hW6,hS6,hn,h3⟩
   simp-implicitDefEqProofs(disch:=omega)only[aj,ak,ad,QS,↓reduceIte,hn,h3,ZW]
   refine(Ib ake Al base s6 j [bv6,.int .i64 rd6,.bool bg6] v6 (Gg b,8*(Gg b).length) hW6.row (by simp only;omega)).mono ?_
   intro w s7 hw
   simp-implicitDefEqProofs(disch:=omega)only[aj,al,oneOf,QS,↓reduceIte,hn,Tryz.results84]
   exact cC.after hw hS6 yU
end Go.Proofs.YtdfjfncifneocaaGreat
set_option linter.unusedSimpArgs false
set_option linter.unusedVariables false
set_option maxRecDepth 100000
namespace Go.Proofs.YtdfjfncifneocaaGreat
open Go.Cl Go.Cl.B85
theorem Z3:bW Tryz.prog 157=some (.agg #[.int .u8 0,.int .u8 0,.int .u8 0,.int .u8 0,.int .u8 0]):=by kernel_rfl
theorem Z4:bP (.agg #[.int .u8 0,.int .u8 0,.int .u8 0,.int .u8 0,.int .u8 0])=true:=by kernel_rfl
theorem Z5:AW Tryz.prog 157=1:=by kernel_rfl
theorem Z6 (x:Nat):((x:Int)).tmod 85=((x%85:Nat):Int):=by rw[Int.tmod_eq_emod_of_nonneg (by omega)];omega
theorem Z7 (x:Nat):((x:Int)).tdiv 85=((x/85:Nat):Int):=by rw[Int.tdiv_eq_ediv_of_nonneg (by omega)];omega
theorem Z8 (x:Nat):((33:Int)+((x%85:Nat):Int))%4294967296=33+((x%85:Nat):Int):=by omega
theorem Z9 {x:Nat}(h:x<4294967296):((x:Nat):Int)%4294967296=((x:Nat):Int):=by omega
theorem Vk (x j:Nat):x/85^j/85=x/85^(j+1):=by rw[Nat.div_div_eq_div_mul,Nat.pow_succ]
theorem Ys {base:Nat}{s:aq}{v:Value}{l:List UInt8}(h:x6 base s 1 v l.length (ofBytes l)){n:Nat}(hn:n<=l.length):x6 base s 1 (eB 1 v n l.length) (l.drop n).length (ofBytes (l.drop n)):=fun s' k=>by
 have:=(h s' k).sx (lo:=n) (hi:=l.length) hn (Nat.le_refl _)
 rw[List.take_of_length_le (by rw[List.length_drop];exact Nat.le_refl _)] at this
 exact this
set_option maxRecDepth 100000 in
set_option maxHeartbeats 4000000 in
theorem Nr {lib:az}(hl:lib.at 80=none)(s:aq)(x:Value)(l0:List UInt8)(hx:aN s 1 x l0.length (ofBytes l0))(hlen:l0.length<=1073741824):
  Runs Tryz.prog lib 80 [x] s fun v s' =>cC s v s' (Ez l0):=by
 refine Runs.enter 63 Tryz.func80 rfl hl rfl rfl ?_
 intro f hn hf
 have h0:f.get 0=x:=hf 0
 clear hf
 simp-implicitDefEqProofs(disch:=omega)only[aj,QS,↓reduceIte,hn]
 refine Comes.eU (fun q f s' =>∃(l:List UInt8) (b o:Value) (P:List UInt8),q=l.length/\l.length<=l0.length/\P.length+2*l.length<=2*l0.length/\P++Ez l=Ez l0/\x6 s.next s' 1 b l.length (ofBytes l)/\Own s' 1 o P.length (ofBytes P)/\aH s.next o/\ar s.next s s' /\f.n=63/\f.get 0=b/\f.get 3=o) ⟨l0,x,_,[],rfl,by omega,by simp,rfl,hx.low,.nil,aH.nil _,ar.refl _ _,by simp only[ag,hn],by simp only[aa,↓reduceIte,WP,h0],by simp only[aa,↓reduceIte]⟩ ?_
 clear hn h0 f
 rintro q f s1 ⟨l,b,o,P,rfl,xH,hP,vc,hb,ho,oz,aD,hn,h0,h3⟩
 by_cases m9:l=[]
 ·subst m9
  simp-implicitDefEqProofs(disch:=omega)only[aj,ad,ae,QS,WP,↓reduceIte,hn,h0,h3,hb.aG.bh Tryz.underlying22,List.length_nil,Int.natCast_zero,Int.lt_irrefl,HP Tryz.underlying22 bL lh]
  refine bI Tryz.underlying22 bL kG lh rfl ho (by simp only[aa,↓reduceIte]) (by decide) (by simp only[ag,hn];decide) (by simp only[ag,hn];decide) (by rfl) (by decide) rfl (by omega) (by omega) oz aD.next ?_
  intro bs o' s2 rZ uC dC _ _
  simp-implicitDefEqProofs(disch:=omega)only[aj,al,oneOf,QS,↓reduceIte,hn,Tryz.results80]
  rw[oh] at vc
  refine⟨?_,uC,aD.trans dC⟩
  rw[<-vc,bn,List.length_append];exact rZ
 ·have hp:0<l.length:=List.length_pos_iff.mpr m9
  have Tt:(0:Int)<l.length:=by omega
  obtain⟨n,Oy⟩:∃n,n=min 4 l.length:=⟨_,rfl⟩
  have Br:(if(4:Int)<(l.length:Int) then(4:Int) else(l.length:Int))=(n:Int):=by split<;>omega
  simp-implicitDefEqProofs(disch:=omega)only[aj,ad,QS,WP,↓reduceIte,hn,h0,hb.aG.bh Tryz.underlying22,Tt,Br]
  refine Comes.bK (fun q f s' =>∃i:Nat,q=4-i/\i<=4/\f.n=63/\f.get 0=b/\f.get 3=o/\f.get 4= .int .i64 n/\f.get 5= .int .u32 (val l i)/\f.get 15= .int .i64 i/\s' =s1)
   (fun x f s' =>x= .exit 2/\f.n=63/\f.get 0=b/\f.get 3=o/\f.get 4= .int .i64 n/\f.get 5= .int .u32 (val l 4)/\s' =s1)
   ⟨0,rfl,by omega,by simp only[ag,hn],by simp only[aa,↓reduceIte,WP,h0],by simp only[aa,↓reduceIte,WP,h3],by simp only[aa,↓reduceIte,WP],by simp only[aa,↓reduceIte,WP];rfl,by simp only[aa,↓reduceIte];rfl,rfl⟩ ?_ ?_
  ·clear hn h0 h3 f
   rintro Q hQ q f s1 ⟨i,rfl,hi,hn,h0,h3,h4,h5,oU,rfl⟩
   by_cases hi4:i<4
   ·have Yt:(i:Int)<4:=by omega
    have hv:=XV l hi4
    by_cases L1:i<n
    ·have Dd:val l i*256+(l.getD i 0).toNat=val l (i+1):=by simp only[val];rw[if_pos (by omega)]
     simp-implicitDefEqProofs(disch:=omega)only[aj,QS,WP,↓reduceIte,hn,h0,h4,h5,oU,Yt,L1,ZM,tm,XX,hb.aG.indexAddr Tryz.underlying22 bL,hb.aG.dJ mB,bG,bR Tryz.underlying5 Tryz.underlying117,Ux,jB,abD,Dd,aB]
     refine au (4-(i+1)) (by omega) ⟨i+1,rfl,by omega,by simp only[ag,hn],by simp only[aa,↓reduceIte,WP,h0],by simp only[aa,↓reduceIte,WP,h3],by simp only[aa,↓reduceIte,WP,h4],by simp only[aa,↓reduceIte,WP],by simp only[aa,↓reduceIte];rfl,rfl⟩
    ·have Dd:((val l i:Nat):Int)*256=((val l (i+1):Nat):Int):=by simp only[val];rw[if_neg (by omega)];omega
     have Vl:((val l (i+1):Nat):Int)%4294967296=((val l (i+1):Nat):Int):=by omega
     simp-implicitDefEqProofs(disch:=omega)only[aj,QS,WP,↓reduceIte,hn,h4,h5,oU,Yt,L1,ZM,tm,Dd,Vl,aB]
     refine au (4-(i+1)) (by omega) ⟨i+1,rfl,by omega,by simp only[ag,hn],by simp only[aa,↓reduceIte,WP,h0],by simp only[aa,↓reduceIte,WP,h3],by simp only[aa,↓reduceIte,WP,h4],by simp only[aa,↓reduceIte,WP],by simp only[aa,↓reduceIte];rfl,rfl⟩
   ·have Yt:¬(i:Int)<4:=by omega
    obtain rfl:i=4:=by omega
    simp-implicitDefEqProofs(disch:=omega)only[aj,QS,↓reduceIte,hn,oU,Yt]
    exact hQ _ _ _ ⟨rfl,by simp only[ag,hn],by simp only[aa,↓reduceIte,WP,h0],by simp only[aa,↓reduceIte,WP,h3],by simp only[aa,↓reduceIte,WP,h4],by simp only[aa,↓reduceIte,WP,h5],rfl⟩
  ·clear hn h0 h3 f
   rintro _ f s1 ⟨rfl,hn,h0,h3,h4,h5,rfl⟩
   obtain⟨X,hX⟩:∃X,X=val l 4:=⟨_,rfl⟩
   have Yu:X<4294967296:=by rw[hX];exact XW l
   rw[<-hX] at h5
   have hdl:=Ys hb (n:=n) (by omega)
   have hdn:(l.drop n).length=l.length-n:=List.length_drop
   by_cases hz:n=4/\X=0
   ·have hz1:(n:Int)=4:=by omega
    have Wz:(X:Int)=0:=by omega
    simp-implicitDefEqProofs(disch:=omega)only[aj,ak,ae,ai,QS,WP,↓reduceIte,hn,h0,h3,h4,h5,hb.aG.fp Tryz.underlying22 bL,eq_true hz1,eq_true Wz,g9 Tryz.underlying22 bL lh]
    refine bI Tryz.underlying22 bL kG lh rfl ho (by simp only[aa,↓reduceIte]) (by decide) (by simp only[ag,hn];decide) (by simp only[ag,hn];decide) (by rfl) (by decide) rfl (by omega) (by omega) oz aD.next ?_
    intro bs o' s2 rZ uC dC _ _
    simp-implicitDefEqProofs(disch:=omega)only[aj,QS,↓reduceIte,hn]
    refine au (l.drop n).length (by omega) ⟨l.drop n,_,o',P++[122],rfl,by omega,by simp;omega,?_,hdl.stay dC,?_,uC,aD.trans dC,by simp only[ag,hn],by simp only[aa,↓reduceIte,WP],by simp only[aa,↓reduceIte]⟩
    ·rw[Uw m9 (by rw[<-Oy,<-hX];exact hz),<-Oy] at vc
     simpa using vc
    ·rw[bn,List.length_append];exact rZ
   ·have uy:¬((n:Int)=4/\(X:Int)=0):=by omega
    by_cases h4n:n=4
    ·have hz1:(n:Int)=4:=by omega
     have Wz:¬(X:Int)=0:=by omega
     simp-implicitDefEqProofs(disch:=omega)only[aj,ak,ai,QS,WP,↓reduceIte,hn,h0,h4,h5,hb.aG.fp Tryz.underlying22 bL,eq_true hz1,eq_false Wz,Z3,Z4,Z5]
     refine wk (n:=5) rfl ?_
     intro a s2 ha haF aU
     have fx:=ho.keeps aU
     simp-implicitDefEqProofs(disch:=omega)only[aj,QS,↓reduceIte,hn]
     have hla:ofBytes (laid X 0)=[.int .u8 0,.int .u8 0,.int .u8 0,.int .u8 0,.int .u8 0]:=by rw[Gk];rfl
     rw[<-hla] at ha
     refine Comes.bK (fun q f s' =>∃j:Nat,q=5-j/\j<=5/\Own s' 1 a 5 (ofBytes (laid X j))/\aY a s2 s' /\f.n=63/\f.get 0=eB 1 b n l.length/\f.get 3=o/\f.get 4= .int .i64 n/\f.get 5= .int .u32 (X/85^j:Nat)/\f.get 7=oM a/\f.get 8= .int .i64 (4-(j:Int)))
      (fun x f s' =>x= .exit 4/\Own s' 1 a 5 (ofBytes (wL X))/\aY a s2 s' /\f.n=63/\f.get 0=eB 1 b n l.length/\f.get 3=o/\f.get 4= .int .i64 n/\f.get 7=oM a)
      ⟨0,rfl,by omega,ha,⟨Nat.le_refl _,fun _ _ _=>rfl⟩,by simp only[ag,hn],by simp only[aa,↓reduceIte,WP],by simp only[aa,↓reduceIte,WP,h3],by simp only[aa,↓reduceIte,WP,h4],by simp only[aa,↓reduceIte,WP,h5];rw[Nat.pow_zero,Nat.div_one],by simp only[aa,↓reduceIte,WP],by simp only[aa,↓reduceIte];rfl⟩ ?_ ?_
     ·clear hn h0 h3 h4 h5 f ha
      rintro Q hQ q f s3 ⟨j,rfl,hj,ha,ht,hn,h0,h3,h4,h5,h7,h8⟩
      by_cases hj5:j<5
      ·have Ns:(0:Int)<=4-j:=by omega
       have hd:X/85^j<4294967296:=Nat.lt_of_le_of_lt (Nat.div_le_self _ _) Yu
       have ln:((4:Int)-j).toNat=4-j:=by omega
       simp-implicitDefEqProofs(disch:=omega)only[aj,QS,WP,↓reduceIte,hn,h5,h7,h8,eq_true Ns,eK,Z6,tm,Z8,bR Tryz.underlying117 Tryz.underlying5,gA,Pl X j hj5,ha.Jz Tryz.underlying157 bL,ln]
       refine qR bL ha (by omega) rfl ?_
       intro s4 ha4 ie
       have DQ:=Vk X j
       have Vl:=Z9 (Nat.lt_of_le_of_lt (Nat.div_le_self X (85^(j+1))) Yu)
       simp-implicitDefEqProofs(disch:=omega)only[aj,QS,WP,↓reduceIte,hn,h5,h8,mw,Z7,tm,DQ,Vl,aB]
       refine au (5-(j+1)) (by omega) ⟨j+1,rfl,by omega,?_,⟨Nat.le_trans ht.next ie.next,fun i hi ck=>(ie.get i (Nat.lt_of_lt_of_le hi ht.next) ck).trans (ht.get i hi ck)⟩,by simp only[ag,hn],by simp only[aa,↓reduceIte,WP,h0],by simp only[aa,↓reduceIte,WP,h3],by simp only[aa,↓reduceIte,WP,h4],by simp only[aa,↓reduceIte,WP],by simp only[aa,↓reduceIte,WP,h7],by simp only[aa,↓reduceIte];congr 1;omega⟩
       rw[pz,J8 X hj5] at ha4
       exact ha4
      ·obtain rfl:j=5:=by omega
       have Ns:¬(0:Int)<=4-((5:Nat):Int):=by omega
       simp-implicitDefEqProofs(disch:=omega)only[aj,QS,↓reduceIte,hn,h8,eq_false Ns]
       rw[Gl] at ha
       exact hQ _ _ _ ⟨rfl,ha,ht,by simp only[ag,hn],by simp only[aa,↓reduceIte,WP,h0],by simp only[aa,↓reduceIte,WP,h3],by simp only[aa,↓reduceIte,WP,h4],by simp only[aa,↓reduceIte,WP,h7]⟩
     ·clear hn h0 h3 h4 h5 f ha
      rintro _ f s3 ⟨rfl,ha,ht,hn,h0,h3,h4,h7⟩
      have bH:ar s1.next s1 s3:=aU.trans (ht.keeps haF aU.next)
      have nJ:=ho.keeps bH
      have ez:=ha.aG.sx (l:=wL X) (lo:=0) (hi:=n+1) (by omega) (by show n+1<=5;omega)
      rw[List.drop_zero,Nat.sub_zero] at ez
      have iJ:((n:Int)+1).toNat=n+1:=by omega
      have WO:(n:Int)+1<=5:=by omega
      have JW:((wL X).take (n+1)).length=n+1:=by rw[List.length_take];show min (n+1) 5=_;omega
      simp-implicitDefEqProofs(disch:=omega)only[aj,ad,ai,QS,WP,↓reduceIte,hn,h3,h4,h7,aB,ha.JA Tryz.underlying157 bL (by decide),iJ]
      refine bV Tryz.underlying22 Tryz.underlying22 (.inl ⟨_,rfl⟩) bL kG lh rfl nJ ez.src (by simp[bF]) (by decide) (dj _) (by omega) (by omega) oz (by have:=aD.next;have:=bH.next;omega) ?_
      intro o' s4 rZ uC dC _ _
      simp-implicitDefEqProofs(disch:=omega)only[aj,QS,↓reduceIte,hn]
      have dY:=(bH.weaken aD.next).trans dC
      refine au (l.drop n).length (by omega) ⟨l.drop n,_,o',P++(wL X).take (n+1),rfl,by omega,by rw[List.length_append,JW];omega,?_,hdl.stay dY,?_,uC,aD.trans dY,by simp only[ag,hn],by simp only[aa,↓reduceIte,WP,h0],by simp only[aa,↓reduceIte]⟩
      ·rw[nv m9 (by rw[<-Oy,<-hX];exact hz),<-Oy,<-hX] at vc
       simpa using vc
      ·rw[bn,List.length_append];exact rZ
    ·have hz1:¬(n:Int)=4:=by omega
     simp-implicitDefEqProofs(disch:=omega)only[aj,ak,ai,QS,WP,↓reduceIte,hn,h0,h4,hb.aG.fp Tryz.underlying22 bL,eq_false hz1,Z3,Z4,Z5]
     refine wk (n:=5) rfl ?_
     intro a s2 ha haF aU
     have fx:=ho.keeps aU
     simp-implicitDefEqProofs(disch:=omega)only[aj,QS,↓reduceIte,hn]
     have hla:ofBytes (laid X 0)=[.int .u8 0,.int .u8 0,.int .u8 0,.int .u8 0,.int .u8 0]:=by rw[Gk];rfl
     rw[<-hla] at ha
     refine Comes.bK (fun q f s' =>∃j:Nat,q=5-j/\j<=5/\Own s' 1 a 5 (ofBytes (laid X j))/\aY a s2 s' /\f.n=63/\f.get 0=eB 1 b n l.length/\f.get 3=o/\f.get 4= .int .i64 n/\f.get 5= .int .u32 (X/85^j:Nat)/\f.get 7=oM a/\f.get 8= .int .i64 (4-(j:Int)))
      (fun x f s' =>x= .exit 4/\Own s' 1 a 5 (ofBytes (wL X))/\aY a s2 s' /\f.n=63/\f.get 0=eB 1 b n l.length/\f.get 3=o/\f.get 4= .int .i64 n/\f.get 7=oM a)
      ⟨0,rfl,by omega,ha,⟨Nat.le_refl _,fun _ _ _=>rfl⟩,by simp only[ag,hn],by simp only[aa,↓reduceIte,WP],by simp only[aa,↓reduceIte,WP,h3],by simp only[aa,↓reduceIte,WP,h4],by simp only[aa,↓reduceIte,WP,h5];rw[Nat.pow_zero,Nat.div_one],by simp only[aa,↓reduceIte,WP],by simp only[aa,↓reduceIte];rfl⟩ ?_ ?_
     ·clear hn h0 h3 h4 h5 f ha
      rintro Q hQ q f s3 ⟨j,rfl,hj,ha,ht,hn,h0,h3,h4,h5,h7,h8⟩
      by_cases hj5:j<5
      ·have Ns:(0:Int)<=4-j:=by omega
       have hd:X/85^j<4294967296:=Nat.lt_of_le_of_lt (Nat.div_le_self _ _) Yu
       have ln:((4:Int)-j).toNat=4-j:=by omega
       simp-implicitDefEqProofs(disch:=omega)only[aj,QS,WP,↓reduceIte,hn,h5,h7,h8,eq_true Ns,eK,Z6,tm,Z8,bR Tryz.underlying117 Tryz.underlying5,gA,Pl X j hj5,ha.Jz Tryz.underlying157 bL,ln]
       refine qR bL ha (by omega) rfl ?_
       intro s4 ha4 ie
       have DQ:=Vk X j
       have Vl:=Z9 (Nat.lt_of_le_of_lt (Nat.div_le_self X (85^(j+1))) Yu)
       simp-implicitDefEqProofs(disch:=omega)only[aj,QS,WP,↓reduceIte,hn,h5,h8,mw,Z7,tm,DQ,Vl,aB]
       refine au (5-(j+1)) (by omega) ⟨j+1,rfl,by omega,?_,⟨Nat.le_trans ht.next ie.next,fun i hi ck=>(ie.get i (Nat.lt_of_lt_of_le hi ht.next) ck).trans (ht.get i hi ck)⟩,by simp only[ag,hn],by simp only[aa,↓reduceIte,WP,h0],by simp only[aa,↓reduceIte,WP,h3],by simp only[aa,↓reduceIte,WP,h4],by simp only[aa,↓reduceIte,WP],by simp only[aa,↓reduceIte,WP,h7],by simp only[aa,↓reduceIte];congr 1;omega⟩
       rw[pz,J8 X hj5] at ha4
       exact ha4
      ·obtain rfl:j=5:=by omega
       have Ns:¬(0:Int)<=4-((5:Nat):Int):=by omega
       simp-implicitDefEqProofs(disch:=omega)only[aj,QS,↓reduceIte,hn,h8,eq_false Ns]
       rw[Gl] at ha
       exact hQ _ _ _ ⟨rfl,ha,ht,by simp only[ag,hn],by simp only[aa,↓reduceIte,WP,h0],by simp only[aa,↓reduceIte,WP,h3],by simp only[aa,↓reduceIte,WP,h4],by simp only[aa,↓reduceIte,WP,h7]⟩
     ·clear hn h0 h3 h4 h5 f ha
      rintro _ f s3 ⟨rfl,ha,ht,hn,h0,h3,h4,h7⟩
      have bH:ar s1.next s1 s3:=aU.trans (ht.keeps haF aU.next)
      have nJ:=ho.keeps bH
      have ez:=ha.aG.sx (l:=wL X) (lo:=0) (hi:=n+1) (by omega) (by show n+1<=5;omega)
      rw[List.drop_zero,Nat.sub_zero] at ez
      have iJ:((n:Int)+1).toNat=n+1:=by omega
      have WO:(n:Int)+1<=5:=by omega
      have JW:((wL X).take (n+1)).length=n+1:=by rw[List.length_take];show min (n+1) 5=_;omega
      simp-implicitDefEqProofs(disch:=omega)only[aj,ad,ai,QS,WP,↓reduceIte,hn,h3,h4,h7,aB,ha.JA Tryz.underlying157 bL (by decide),iJ]
      refine bV Tryz.underlying22 Tryz.underlying22 (.inl ⟨_,rfl⟩) bL kG lh rfl nJ ez.src (by simp[bF]) (by decide) (dj _) (by omega) (by omega) oz (by have:=aD.next;have:=bH.next;omega) ?_
      intro o' s4 rZ uC dC _ _
      simp-implicitDefEqProofs(disch:=omega)only[aj,QS,↓reduceIte,hn]
      have dY:=(bH.weaken aD.next).trans dC
      refine au (l.drop n).length (by omega) ⟨l.drop n,_,o',P++(wL X).take (n+1),rfl,by omega,by rw[List.length_append,JW];omega,?_,hdl.stay dY,?_,uC,aD.trans dY,by simp only[ag,hn],by simp only[aa,↓reduceIte,WP,h0],by simp only[aa,↓reduceIte]⟩
      ·rw[nv m9 (by rw[<-Oy,<-hX];exact hz),<-Oy,<-hX] at vc
       simpa using vc
      ·rw[bn,List.length_append];exact rZ
end Go.Proofs.YtdfjfncifneocaaGreat
set_option linter.unusedSimpArgs false
set_option linter.unusedVariables false
set_option maxRecDepth 100000
namespace Go.Proofs.YtdfjfncifneocaaGreat
open Go.Cl Go.Cl.Hx
theorem Yv {lib:az}(hl:lib.at 79=none)(s:aq)(x:Value)(l:List UInt8)(hx:aN s 1 x l.length (ofBytes l))(hlen:l.length<=1073741824):
  Runs Tryz.prog lib 79 [x] s fun v s' =>cC s v s' (hex l):=by
 refine Runs.enter 25 Tryz.func79 rfl hl rfl rfl ?_
 intro f hn hf
 have h0:f.get 0=x:=hf 0
 clear hf
 simp-implicitDefEqProofs(disch:=omega)only[aj,ad,QS,WP,↓reduceIte,hn,h0,hx.bh Tryz.underlying22]
 refine Comes.eU (fun k f s' =>∃(i:Nat) (o:Value),k=l.length-i/\i<=l.length/\Own s' 1 o (2*i) (ofBytes (yn (l.take i)))/\aH s.next o/\ar s.next s s' /\f.n=25/\f.get 3=o/\f.get 6=x/\f.get 7= .int .i64 l.length/\f.get 8= .int .i64 i) ⟨0,_,rfl,by omega,.nil,aH.nil _,ar.refl _ _,by simp only[ag,hn],by simp only[aa,↓reduceIte,WP],by simp only[aa,↓reduceIte,WP],by simp only[aa,↓reduceIte,WP],by simp only[aa,↓reduceIte];rfl⟩ ?_
 clear hn h0 f
 rintro k f s1 ⟨i,o,rfl,hi,ho,oz,aD,hn,h3,h6,h7,h8⟩
 have lM:=hx.keeps aD
 by_cases bc:i<l.length
 ·have hc8:=(l.getD i 0).toNat_lt
  simp-implicitDefEqProofs(disch:=omega)only[aj,QS,WP,↓reduceIte,hn,h6,h7,h8,bc,lM.indexAddr Tryz.underlying22 bL,lM.dJ mB,bG]
  refine da.x9 1 (by kernel_rfl) (by kernel_rfl) ?_
  have qo:(l.getD i 0).toNat/16<16:=by omega
  have IF:(l.getD i 0).toNat%16<16:=by omega
  simp-implicitDefEqProofs(disch:=omega)only[aj,ae,QS,WP,↓reduceIte,hn,h3,ajr,eL,Ut,Uu Tryz.underlying9,ho.self,HP Tryz.underlying22 bL lh]
  refine hI (base:=s1.next) (by rfl) (by rw[bU];omega) (Nat.le_refl _) ?_
  intro b s2 hb gn aU DQ _
  have dn:=(ar.spare s1 1).trans aU
  have fx:=ho.keeps dn
  simp-implicitDefEqProofs(disch:=omega)only[aj,ad,QS,WP,↓reduceIte,hn]
  refine j8 Tryz.underlying22 Tryz.underlying22 (.inl ⟨_,rfl⟩) bL kG lh rfl fx hb.aG.src rfl (by decide) rfl (by omega) (by omega) oz (by have:=aD.next;have:=dn.next;omega) ?_
  intro o' s3 rZ uC bH _ _
  simp-implicitDefEqProofs(disch:=omega)only[aj,QS,WP,↓reduceIte,hn,h8,rZ.self,aB]
  refine au (l.length-(i+1)) (by omega) ⟨i+1,o',rfl,by omega,?_,uC,(aD.trans (dn.weaken aD.next)).trans bH,by simp only[ag,hn],by simp only[aa,↓reduceIte,WP],by simp only[aa,↓reduceIte,WP,h6],by simp only[aa,↓reduceIte,WP,h7],by simp only[aa,↓reduceIte];rfl⟩
  rw[pw bc,Rr,bn];exact rZ
 ·obtain rfl:i=l.length:=by omega
  simp-implicitDefEqProofs(disch:=omega)only[aj,ae,QS,WP,↓reduceIte,hn,h3,h7,h8,bc,g9 Tryz.underlying22 bL lh]
  rw[List.take_of_length_le (Nat.le_refl _)] at ho
  refine bI Tryz.underlying22 bL kG lh rfl ho (by simp only[aa,↓reduceIte]) (by decide) (by simp only[ag,hn];decide) (by simp only[ag,hn];decide) (by rfl) (by decide) rfl (by omega) (by omega) oz aD.next ?_
  intro bs o' s2 rZ uC dC _ _
  simp-implicitDefEqProofs(disch:=omega)only[aj,al,oneOf,QS,↓reduceIte,hn,Tryz.results79]
  refine⟨?_,uC,aD.trans dC⟩
  rw[hex,bn,List.length_append,zG];exact rZ
end Go.Proofs.YtdfjfncifneocaaGreat
