/-
 LZW, writing: the longest row of the table that stands, found step by step and found by looking at all.
-/
import Derived.Test.YtdfjfncifneocaaGreatMapS
import Derived.Test.YtdfjfncifneocaaGreatStoP
import Derived.Test.YtdfjfncifneocaaGreatMcA
import Derived.Test.YtdfjfncifneocaaGreatMem
import Derived.Test.YtdfjfncifneocaaGreatAdl
import Derived.Test.YtdfjfncifneocaaGreatCutA
namespace Go.Cl.Lz
abbrev qF:=List (List UInt8×Int)
def ext (T:qF)(b:List UInt8):Nat->Nat->Int->Nat×Int
 |0,n,c=>(n,c)
 |k+1,n,c=>
  match kT (b.take (n+1)) T with
  |some x=>ext T b k (n+1) x
  |none=>(n,c)
def bZ (b:List UInt8):qF->Nat×Int->Nat×Int
 |[],p=>p
 |e::T,p=>bZ b T (if p.1<e.1.length/\b.take e.1.length=e.1 then(e.1.length,e.2) else p)
structure gM (T:qF):Prop where
 two:∀e∈T,2<=e.1.length
 pre:∀e∈T,2<e.1.length->∃x,(e.1.dropLast,x)∈T
 one:∀e∈T,∀e' ∈T,e.1=e'.1->e=e'
theorem xQ {k:List UInt8}{v:Int}:∀{T:qF},kT k T=some v->(k,v)∈T
 |[],h=>by cases h
 |e::T,h=>by
  simp only[kT] at h
  by_cases q:k=e.1
  ·rw[if_pos q] at h;injection h with h;subst h;subst q;exact List.mem_cons_self ..
  ·rw[if_neg q] at h;exact List.mem_cons_of_mem _ (xQ h)
theorem gM.kT {T:qF}(h:gM T){k:List UInt8}{v:Int}(hm:(k,v)∈T):Go.Cl.kT k T=some v:=by
 cases hs:Go.Cl.kT k T with
 |none=>exact absurd rfl (th.mp hs _ hm)
 |some w=>
  have:=h.one _ (xQ hs) _ hm rfl
  injection this with _ e;rw[e]
theorem gM.down {T:qF}(h:gM T){b:List UInt8}:∀(d:Nat) (e:List UInt8×Int) (m:Nat),e∈T->b.take e.1.length=e.1->2<=m->m+d=e.1.length->∃x,(b.take m,x)∈T:=by
 intro d
 induction d with
 |zero=>intro e m he hb _ hm;exact⟨e.2,by rw[show m=e.1.length by omega,hb];exact he⟩
 |succ d ih=>
  intro e m he hb h2 hm
  obtain⟨x,hx⟩:=h.pre e he (by omega)
  have hl:e.1.dropLast.length=e.1.length-1:=List.length_dropLast
  refine ih (e.1.dropLast,x) m hx ?_ h2 (by show m+d=e.1.dropLast.length;omega)
  show b.take e.1.dropLast.length=e.1.dropLast
  rw[hl,List.dropLast_eq_take]
  conv=>rhs;rw[<-hb]
  rw[List.take_take,Nat.min_eq_left (by rw[hb];omega),hb]
def vZ (T:qF)(b:List UInt8)(c0:Int)(p:Nat×Int):Prop:=(p=(1,c0))\/(2<=p.1/\(b.take p.1,p.2)∈T/\p.1<=b.length)
def NQ (T:qF)(b:List UInt8)(n:Nat):Prop:=∀e∈T,b.take e.1.length=e.1->e.1.length<=n
theorem NR {T:qF}(h:gM T){b:List UInt8}{c0:Int}{p q:Nat×Int}(hp:vZ T b c0 p)(hq:vZ T b c0 q)(hm:NQ T b p.1)(hn:NQ T b q.1):p=q:=by
 have aux:∀{p q:Nat×Int},vZ T b c0 p->NQ T b q.1->vZ T b c0 q->p.1<=q.1:=by
  intro p q hp hn hq
  rcases hp with rfl|⟨h2,jU,hl⟩
  ·rcases hq with rfl|⟨h2,_⟩
   ·exact Nat.le_refl _
   ·show 1<=q.1;omega
  ·have:=hn _ jU (by show b.take (b.take p.1).length=b.take p.1;rw[List.length_take,Nat.min_eq_left hl])
   have e:(b.take p.1).length=p.1:=by rw[List.length_take];omega
   simp only[e] at this;exact this
 have h1:=aux hp hn hq
 have h2:=aux hq hm hp
 have e1:p.1=q.1:=by omega
 rcases hp with rfl|⟨a1,a2,a3⟩
 ·rcases hq with rfl|⟨b1,b2,b3⟩
  ·rfl
  ·simp only at e1;omega
 ·rcases hq with rfl|⟨b1,b2,b3⟩
  ·simp only at e1;omega
  ·rw[e1] at a2
   have:=h.one _ a2 _ b2 rfl
   injection this with _ e2
   exact Prod.ext e1 e2
theorem NS {T:qF}(h:gM T){b:List UInt8}{c0:Int}:∀(k n:Nat) (c:Int),n+k=b.length->1<=n->vZ T b c0 (n,c)->vZ T b c0 (ext T b k n c)/\NQ T b (ext T b k n c).1:=by
 intro k
 induction k with
 |zero=>
  intro n c hk h1 hs
  refine⟨hs,fun e he hb=> ?_⟩
  show e.1.length<=n
  have:e.1.length<=b.length:=by rw[<-hb,List.length_take];omega
  omega
 |succ k ih=>
  intro n c hk h1 hs
  rw[ext]
  cases hx:Go.Cl.kT (b.take (n+1)) T with
  |some x=>exact ih (n+1) x (by omega) (by omega) (.inr ⟨by show 2<=n+1;omega,xQ hx,by show n+1<=b.length;omega⟩)
  |none=>
   refine⟨hs,fun e he hb=> ?_⟩
   show e.1.length<=n
   rcases Nat.lt_or_ge n e.1.length with q|q
   ·obtain⟨x,kC⟩:=h.down (e.1.length-(n+1)) e (n+1) he hb (by omega) (by omega)
    exact absurd rfl (th.mp hx _ kC)
   ·exact q
theorem nk {b:List UInt8}{c0:Int}{A:qF}:∀(T:qF) (p:Nat×Int),(∀e∈T,e∈A)->(∀e∈T,2<=e.1.length)->vZ A b c0 p->vZ A b c0 (bZ b T p)/\p.1<=(bZ b T p).1/\NQ T b (bZ b T p).1
 |[],p,_,_,hs=>⟨hs,Nat.le_refl _,fun e he=>by cases he⟩
 |e::T,p,hA,h2,hs=>by
  have X1:=fun x hx=>hA x (List.mem_cons_of_mem _ hx)
  have Uv:=fun x hx=>h2 x (List.mem_cons_of_mem _ hx)
  have he:=hA e (List.mem_cons_self ..)
  have lj:=h2 e (List.mem_cons_self ..)
  rw[bZ]
  by_cases q:p.1<e.1.length/\b.take e.1.length=e.1
  ·rw[if_pos q]
   have nd:e.1.length<=b.length:=by
    have:=congrArg List.length q.2
    rw[List.length_take] at this;omega
   obtain⟨g1,g2,g3⟩:=nk T (e.1.length,e.2) X1 Uv (.inr ⟨lj,by show(b.take e.1.length,e.2)∈A;rw[q.2];exact he,nd⟩)
   refine⟨g1,by have:=q.1;simp only at g2;omega,fun x hx hb=> ?_⟩
   rcases List.mem_cons.mp hx with rfl|hx
   ·exact g2
   ·exact g3 x hx hb
  ·rw[if_neg q]
   obtain⟨g1,g2,g3⟩:=nk T p X1 Uv hs
   refine⟨g1,g2,fun x hx hb=> ?_⟩
   rcases List.mem_cons.mp hx with rfl|hx
   ·rcases Nat.lt_or_ge p.1 x.1.length with r|r
    ·exact absurd ⟨r,hb⟩ q
    ·omega
   ·exact g3 x hx hb
theorem Qx {T:qF}(h:gM T){b:List UInt8}(hb:b≠[])(c0:Int):ext T b (b.length-1) 1 c0=bZ b T (1,c0):=by
 have hl:0<b.length:=List.length_pos_iff.mpr hb
 obtain⟨e1,e2⟩:=NS h (b:=b) (c0:=c0) (b.length-1) 1 c0 (by omega) (Nat.le_refl _) (.inl rfl)
 obtain⟨g1,_,g3⟩:=nk (A:=T) (c0:=c0) T (1,c0) (fun _ h=>h) h.two (.inl rfl)
 exact NR h e1 g1 e2 g3
theorem gM.more {T:qF}(h:gM T){b:List UInt8}{c0 x:Int}{p:Nat×Int}(hs:vZ T b c0 p)(hm:NQ T b p.1)(hp:p.1<b.length):Go.Cl.kT (b.take (p.1+1)) T=none/\gM (T++[(b.take (p.1+1),x)]):=by
 have hlen:(b.take (p.1+1)).length=p.1+1:=by rw[List.length_take];omega
 have hn:∀e∈T,b.take (p.1+1)≠e.1:=by
  intro e he q
  have:=hm e he (by rw[<-q,hlen])
  rw[<-q,hlen] at this;omega
 have h1:1<=p.1:=by
  rcases hs with rfl|⟨a,_⟩
  ·exact Nat.le_refl _
  ·omega
 refine⟨th.mpr hn,⟨fun e he=> ?_,fun e he hl=> ?_,fun e he e' zd q=> ?_⟩⟩
 ·rcases List.mem_append.mp he with he|he
  ·exact h.two e he
  ·rw[List.mem_singleton] at he;subst he;show 2<=(b.take (p.1+1)).length;omega
 ·rcases List.mem_append.mp he with he|he
  ·obtain⟨y,hy⟩:=h.pre e he hl
   exact⟨y,List.mem_append_left _ hy⟩
  ·rw[List.mem_singleton] at he;subst he
   simp only[hlen] at hl
   rcases hs with rfl|⟨a1,a2,a3⟩
   ·simp only at hl;omega
   ·refine⟨p.2,List.mem_append_left _ ?_⟩
    have:(b.take (p.1+1)).dropLast=b.take p.1:=by
     rw[List.dropLast_eq_take,hlen,List.take_take];congr 1;omega
    show((b.take (p.1+1)).dropLast,p.2)∈T
    rw[this];exact a2
 ·rcases List.mem_append.mp he with he|he<;>rcases List.mem_append.mp zd with zd|zd
  ·exact h.one e he e' zd q
  ·rw[List.mem_singleton] at zd;subst zd;exact absurd q.symm (hn e he)
  ·rw[List.mem_singleton] at he;subst he;exact absurd q (hn e' zd)
  ·rw[List.mem_singleton] at he zd;subst he;subst zd;rfl
theorem gM.nil:gM []:=⟨fun e h=>by(cases h),fun e h=>by(cases h),fun e h=>by(cases h)⟩
end Go.Cl.Lz
namespace Go.Cl.Lz
def width (next:Nat):Nat:=if next<511 then 9 else if next<1023 then 10 else if next<2047 then 11 else 12
theorem nm (n:Nat):9<=width n/\width n<=12:=by unfold width;repeat (first|(split;all_goals try omega)|omega)
def dD (c:Nat):Nat->List Nat
 |0=>[]
 |w+1=>c/2^w%2::dD c w
theorem fq (c:Nat):∀w,(dD c w).length=w
 |0=>rfl
 |w+1=>by simp[dD,fq c w]
theorem mG (c:Nat):∀w,∀x∈dD c w,x<2
 |0,x,h=>by cases h
 |w+1,x,h=>by
  rcases List.mem_cons.mp h with rfl|h
  ·exact Nat.mod_lt _ (by omega)
  ·exact mG c w x h
def fF (l:List Nat):UInt8:=UInt8.ofNat (l.getD 0 0*128+l.getD 1 0*64+l.getD 2 0*32+l.getD 3 0*16+l.getD 4 0*8+l.getD 5 0*4+l.getD 6 0*2+l.getD 7 0)
def pack (l:List Nat):List UInt8:=
 if _h:l=[] then [] else fF l::pack (l.drop 8)
termination_by l.length
decreasing_by
 have:0<l.length:=List.length_pos_iff.mpr _h
 rw[List.length_drop];omega
theorem lB:pack []=[]:=by rw[pack];simp
theorem xR {l:List Nat}(h:l≠[]):pack l=fF l::pack (l.drop 8):=by rw[pack,dif_neg h]
def enc:Nat->List UInt8->qF->Nat->Bool->List Nat
 |0,_,_,rd,_=>dD 257 (width rd)
 |k+1,b,T,rd,fst=>
  if b=[] then dD 257 (width rd)
  else
   let p:=bZ b T (1,((b.getD 0 0).toNat:Int))
   let X3:=if fst then rd else min (rd+1) 4096
   dD p.2.toNat (width rd)++
    (if p.1<b.length then
     (if 258+T.length=4095 then dD 256 (width X3)++enc k (b.drop p.1) [] 258 true
     else enc k (b.drop p.1) (T++[(b.take (p.1+1),((258+T.length:Nat):Int))]) X3 false)
    else enc k (b.drop p.1) T X3 false)
def GC (b:List UInt8):List UInt8:=pack (dD 256 9++enc (b.length+1) b [] 258 true)
end Go.Cl.Lz
namespace Go.Cl.Lz
open Go.Cl.Rw
def B1 (l:List Nat):Nat->Nat
 |0=>0
 |k+1=>B1 l k+l.getD (7-k) 0*2^k
theorem L1 {l:List Nat}(h:∀i,l.getD i 0<2):∀k,B1 l k<2^k
 |0=>by simp[B1]
 |k+1=>by
  have h1:=L1 h k
  have h2:=h (7-k)
  have h3:l.getD (7-k) 0=0\/l.getD (7-k) 0=1:=by omega
  simp only[B1,Nat.pow_succ]
  rcases h3 with q|q<;>rw[q]<;>omega
theorem Qy (l:List Nat):UInt8.ofNat (B1 l 8)=fF l:=by
 unfold fF
 congr 1
 simp only[B1,Nat.reducePow,Nat.reduceSub]
 omega
def pw (B:List UInt8)(l:List Nat)(k:Nat):List UInt8×Nat:=(if k=0 then B else B++[UInt8.ofNat (B1 l k)],8*B.length+k)
theorem Wy {v b k:Nat}(hv:v<2^k)(hb:b<2)(hk:k<8):(UInt8.ofNat v|||UInt8.ofNat (b*2^k))=UInt8.ofNat (v+b*2^k):=by
 apply UInt8.toNat_inj.mp
 have hp:2^k<=2^7:=Nat.pow_le_pow_right (by omega) (by omega)
 have Tg:(2:Nat)^7=128:=by decide
 have hx:b=0\/b=1:=by omega
 have hbk:b*2^k<=128:=by rcases hx with rfl|rfl<;>(generalize 2^k=q at*;omega)
 rw[UInt8.toNat_or,UInt8.toNat_ofNat',UInt8.toNat_ofNat',UInt8.toNat_ofNat',Nat.mod_eq_of_lt (by omega),Nat.mod_eq_of_lt (by omega),Nat.mod_eq_of_lt (by omega)]
 have:=Nat.shiftLeft_add_eq_or_of_lt (i:=k) (b:=v) hv b
 rw[Nat.shiftLeft_eq] at this
 rw[Nat.or_comm,<-this,Nat.add_comm]
theorem Kl {B:List UInt8}{l:List Nat}(h:∀i,l.getD i 0<2){k:Nat}(hk:k<8):lO (pw B l k) ((l.getD (7-k) 0:Nat):Int)=pw B l (k+1):=by
 have dh:room (pw B l k)=B++[UInt8.ofNat (B1 l k)]:=by
  unfold room pw
  by_cases hz:k=0
  ·subst hz;simp[B1]
  ·have:¬(8*B.length+k)%8=0:=by omega
   simp only[if_neg this,if_neg hz]
 have hi:(pw B l k).2/8=B.length:=by show(8*B.length+k)/8=_;omega
 have hm:(pw B l k).2%8=k:=by show(8*B.length+k)%8=_;omega
 have hb:=h (7-k)
 have hv:=L1 h k
 have hx:((((l.getD (7-k) 0:Nat):Int))%2).toNat=l.getD (7-k) 0:=by omega
 unfold lO
 rw[dh,hi,hm]
 have hg:(B++[UInt8.ofNat (B1 l k)]).getD B.length 0=UInt8.ofNat (B1 l k):=by
  rw[List.getD_eq_getElem?_getD,List.getElem?_append_right (Nat.le_refl _),Nat.sub_self];rfl
 rw[hg]
 unfold uA
 rw[hx,Wy hv hb hk]
 unfold pw
 rw[if_neg (by omega:¬k+1=0),List.set_append_right _ _ (Nat.le_refl _),Nat.sub_self]
 rfl
theorem HU (B:List UInt8)(l:List Nat):pw B l 8=(B++[fF l],8*(B++[fF l]).length):=by
 unfold pw
 rw[if_neg (by omega),Qy,List.length_append]
 rfl
end Go.Cl.Lz
namespace Go.Cl.Lz
def sj (p:List UInt8×List Nat)(b:Nat):List UInt8×List Nat:=if p.2.length=7 then(p.1++[fF (p.2++[b])],[]) else(p.1,p.2++[b])
theorem Km {l:List Nat}:fF (l.take 8)=fF l:=by
 have h:∀i,i<8->(l.take 8).getD i 0=l.getD i 0:=fun i hi=>by
  rw[List.getD_eq_getElem?_getD,List.getD_eq_getElem?_getD,List.getElem?_take,if_pos hi]
 unfold fF
 rw[h 0 (by omega),h 1 (by omega),h 2 (by omega),h 3 (by omega),h 4 (by omega),h 5 (by omega),h 6 (by omega),h 7 (by omega)]
theorem NT {l:List Nat}(h:l.length=8)(r:List Nat):pack (l++r)=fF l::pack r:=by
 have cD:l++r≠[]:=by intro e;have:=congrArg List.length e;rw[List.length_append,List.length_nil] at this;omega
 rw[xR cD]
 have e1:fF (l++r)=fF l:=by rw[<-Km (l:=l++r),<-h,List.take_left]
 have e2:(l++r).drop 8=r:=by rw[<-h,List.drop_left]
 rw[e1,e2]
theorem ql:∀(L:List Nat) (p:List UInt8×List Nat),p.2.length<=7->(L.foldl sj p).1++pack (L.foldl sj p).2=p.1++pack (p.2++L)/\(L.foldl sj p).2.length<=7
 |[],p,h=>⟨by simp,h⟩
 |b::L,p,h=>by
  rw[List.foldl_cons]
  unfold sj
  by_cases q:p.2.length=7
  ·rw[if_pos q]
   obtain⟨g1,g2⟩:=ql L (p.1++[fF (p.2++[b])],[]) (by simp)
   refine⟨?_,g2⟩
   unfold sj at g1
   rw[g1]
   have e:p.2++b::L=(p.2++[b])++L:=by simp
   show(p.1++[fF (p.2++[b])])++pack ([]++L)=p.1++pack (p.2++b::L)
   rw[e,NT (l:=p.2++[b]) (by rw[List.length_append,q];rfl),List.nil_append,List.append_assoc]
   rfl
  ·rw[if_neg q]
   obtain⟨g1,g2⟩:=ql L (p.1,p.2++[b]) (by simp;omega)
   refine⟨?_,g2⟩
   unfold sj at g1
   rw[g1]
   simp
theorem Kn (B:List Nat)(k i:Nat):(B++List.replicate k 0).getD i 0=B.getD i 0:=by
 rw[List.getD_eq_getElem?_getD,List.getD_eq_getElem?_getD]
 by_cases h:i<B.length
 ·rw[List.getElem?_append_left h]
 ·rw[List.getElem?_append_right (by omega),List.getElem?_eq_none (l:=B) (by omega),List.getElem?_replicate]
  split<;>rfl
theorem HV (B:List Nat)(k:Nat):fF (B++List.replicate k 0)=fF B:=by
 unfold fF
 simp only[Kn]
theorem nn {B:List Nat}(h:B≠[])(h7:B.length<=8):pack B=[fF B]:=by
 rw[xR h,List.drop_eq_nil_of_le (by omega),lB]
end Go.Cl.Lz
namespace Go.Cl.Lz
theorem zM:∀(k:Nat) (b:List UInt8) (T:qF) (rd:Nat) (fst:Bool),∀x∈enc k b T rd fst,x<2
 |0,b,T,rd,fst=>mG _ _
 |k+1,b,T,rd,fst=>by
  intro x hx
  rw[enc] at hx
  split at hx
  ·exact mG _ _ x hx
  ·simp only at hx
   rcases List.mem_append.mp hx with hx|hx
   ·exact mG _ _ x hx
   ·split at hx
    ·split at hx
     ·rcases List.mem_append.mp hx with hx|hx
      ·exact mG _ _ x hx
      ·exact zM k _ _ _ _ x hx
     ·exact zM k _ _ _ _ x hx
    ·exact zM k _ _ _ _ x hx
theorem nW (c n:Nat):(dD c (width n)).length<=12:=by rw[fq];exact(nm n).2
structure Good (T:qF):Prop where
 closed:gM T
 lo:∀e∈T,258<=e.2/\e.2<4096
 len:T.length<3838
theorem Good.nil:Good []:=⟨gM.nil,fun e h=>by(cases h),by simp⟩
structure Found (T:qF) (b:List UInt8) (p:Nat×Int):Prop where
 eq:ext T b (b.length-1) 1 ((b.getD 0 0).toNat:Int)=p
 one:1<=p.1
 le:p.1<=b.length
 lo:0<=p.2
 hi:p.2<4096
 n6:p.2≠256
 n7:p.2≠257
 kT:p.1<b.length->Go.Cl.kT (b.take (p.1+1)) T=none
 more:p.1<b.length->258+T.length≠4095->Good (T++[(b.take (p.1+1),((258+T.length:Nat):Int))])
theorem Good.found {T:qF}(h:Good T){b:List UInt8}(hb:b≠[]):Found T b (bZ b T (1,((b.getD 0 0).toNat:Int))):=by
 have hl:0<b.length:=List.length_pos_iff.mpr hb
 obtain⟨g1,g2,g3⟩:=nk (A:=T) (c0:=((b.getD 0 0).toNat:Int)) T (1,((b.getD 0 0).toNat:Int)) (fun _ h=>h) h.closed.two (.inl rfl)
 obtain⟨p,hp⟩:∃p,p=bZ b T (1,((b.getD 0 0).toNat:Int)):=⟨_,rfl⟩
 have he:=Qx h.closed hb ((b.getD 0 0).toNat:Int)
 rw[<-hp] at g1 g2 g3 he|-
 have X4:((b.getD 0 0).toNat:Int)<256:=by have:=(b.getD 0 0).toNat_lt;omega
 have hm:=fun q=>h.closed.more (x:=((258+T.length:Nat):Int)) g1 g3 q
 have Pf:1<=p.1/\p.1<=b.length/\0<=p.2/\p.2<4096/\p.2≠256/\p.2≠257:=by
  rcases g1 with e|⟨a1,a2,a3⟩
  ·rw[e];simp only;omega
  ·have:=h.lo _ a2
   simp only at this
   omega
 refine⟨he,Pf.1,Pf.2.1,Pf.2.2.1,Pf.2.2.2.1,Pf.2.2.2.2.1,Pf.2.2.2.2.2,fun q=>(hm q).1,fun q r=>⟨(hm q).2,fun e hx=> ?_,?_⟩⟩
 ·rcases List.mem_append.mp hx with hx|hx
  ·exact h.lo e hx
  ·rw[List.mem_singleton] at hx;subst hx
   have:=h.len
   simp only;omega
 ·have:=h.len
  simp only[List.length_append,List.length_singleton];omega
theorem L2 (k:Nat)(T:qF)(rd:Nat)(fst:Bool):enc k [] T rd fst=dD 257 (width rd):=by
 cases k with
 |zero=>rw[enc]
 |succ k=>rw[enc,if_pos rfl]
def fu (rd:Nat)(fst:Bool):Nat:=if fst then rd else min (rd+1) 4096
theorem L3 {k:Nat}{b:List UInt8}(hb:b≠[]){T:qF}{rd:Nat}{fst:Bool}{p:Nat×Int}(hp:p=bZ b T (1,((b.getD 0 0).toNat:Int)))(h:¬p.1<b.length):enc (k+1) b T rd fst=dD p.2.toNat (width rd)++enc k (b.drop p.1) T (fu rd fst) false:=by
 rw[enc,if_neg hb];simp only;rw[<-hp,if_neg h];rfl
theorem v8 {k:Nat}{b:List UInt8}(hb:b≠[]){T:qF}{rd:Nat}{fst:Bool}{p:Nat×Int}(hp:p=bZ b T (1,((b.getD 0 0).toNat:Int)))(h:p.1<b.length)(hx:258+T.length≠4095):enc (k+1) b T rd fst=dD p.2.toNat (width rd)++enc k (b.drop p.1) (T++[(b.take (p.1+1),((258+T.length:Nat):Int))]) (fu rd fst) false:=by
 rw[enc,if_neg hb];simp only;rw[<-hp,if_pos h,if_neg hx];rfl
theorem tj {k:Nat}{b:List UInt8}(hb:b≠[]){T:qF}{rd:Nat}{fst:Bool}{p:Nat×Int}(hp:p=bZ b T (1,((b.getD 0 0).toNat:Int)))(h:p.1<b.length)(hx:258+T.length=4095):enc (k+1) b T rd fst=dD p.2.toNat (width rd)++(dD 256 (width (fu rd fst))++enc k (b.drop p.1) [] 258 true):=by
 rw[enc,if_neg hb];simp only;rw[<-hp,if_pos h,if_pos hx];rfl
theorem L4 {rd:Nat}(h:rd<=4096)(fst:Bool):fu rd fst<=4096:=by unfold fu;split<;>omega
def tD (b:List UInt8):List Nat:=dD 256 9++enc (b.length+1) b [] 258 true
theorem HW (b:List UInt8):∀x∈tD b,x<2:=fun x hx=>by
 rcases List.mem_append.mp hx with hx|hx
 ·exact mG _ _ x hx
 ·exact zM _ _ _ _ _ x hx
theorem we:∀(k:Nat) (b:List UInt8) (T:qF) (rd:Nat) (fst:Bool),(enc k b T rd fst).length<=13*k+T.length+12
 |0,b,T,rd,fst=>by rw[enc];have:=nW 257 rd;omega
 |k+1,b,T,rd,fst=>by
  rw[enc]
  split
  ·have:=nW 257 rd;omega
  ·simp only
   rw[List.length_append]
   have h1:=nW (bZ b T (1,((b.getD 0 0).toNat:Int))).2.toNat rd
   split
   ·split
    ·rw[List.length_append]
     have h2:=nW 256 (if fst=true then rd else min (rd+1) 4096)
     have h3:=we k (b.drop (bZ b T (1,((b.getD 0 0).toNat:Int))).1) [] 258 true
     simp only[List.length_nil] at h3
     omega
    ·have h3:=we k (b.drop (bZ b T (1,((b.getD 0 0).toNat:Int))).1) (T++[(b.take ((bZ b T (1,((b.getD 0 0).toNat:Int))).1+1),((258+T.length:Nat):Int))]) (if fst=true then rd else min (rd+1) 4096) false
     rw[List.length_append,List.length_singleton] at h3
     omega
   ·have h3:=we k (b.drop (bZ b T (1,((b.getD 0 0).toNat:Int))).1) T (if fst=true then rd else min (rd+1) 4096) false
    omega
theorem Eu (b:List UInt8):(tD b).length<=13*b.length+34:=by
 unfold tD
 rw[List.length_append,fq]
 have:=we (b.length+1) b [] 258 true
 simp only[List.length_nil] at this
 omega
theorem B2 (b:List UInt8):(tD b).length<=24*b.length+45:=by
 have:=Eu b
 omega
end Go.Cl.Lz
namespace Go.Cl.Runs
theorem px (l:List UInt8)(i j:Nat):(l.drop i).getD j 0=l.getD (i+j) 0:=by simp[List.getD]
theorem FY (p:UInt8->Bool):∀(m:List UInt8) (n:Nat),n<=m.length->(∀j,j<n->p (m.getD j 0)=true)->n<=(m.takeWhile p).length:=by
 intro m
 induction m with
 |nil=>intro n h _;simpa using h
 |cons c r ih=>
  intro n h hp
  cases n with
  |zero=>omega
  |succ n=>
   have h0:=hp 0 (by omega)
   have hc:p c=true:=h0
   rw[List.takeWhile_cons,if_pos hc]
   simp only[List.length_cons] at h|-
   have:=ih n (by omega) (fun j hj=>hp (j+1) (by omega))
   omega
theorem takeWhile_eq (p:UInt8->Bool):∀(m:List UInt8) (n:Nat),n<=m.length->(∀j,j<n->p (m.getD j 0)=true)->(n=m.length\/p (m.getD n 0)=false)->(m.takeWhile p).length=n:=by
 intro m
 induction m with
 |nil=>intro n h _ _;simp at h;simp[h]
 |cons c r ih=>
  intro n h hp he
  cases n with
  |zero=>
   rcases he with he|he
   ·simp at he
   ·have hc:p c=false:=he
    rw[List.takeWhile_cons,hc];simp
  |succ n=>
   have hc:p c=true:=hp 0 (by omega)
   rw[List.takeWhile_cons,if_pos hc]
   simp only[List.length_cons] at h|-
   rw[ih n (by omega) (fun j hj=>hp (j+1) (by omega)) (by
    rcases he with he|he
    ·left;simp only[List.length_cons] at he;omega
    ·right;exact he)]
def rowOf (l:List UInt8):Nat:=min 128 (l.takeWhile (fun x=>x==l.getD 0 0)).length
theorem B3 (l:List UInt8):rowOf l<=l.length:=by
 unfold rowOf
 have:(l.takeWhile (fun x=>x==l.getD 0 0)).length<=l.length:=(List.takeWhile_sublist _).length_le
 omega
theorem nX (l:List UInt8):rowOf l<=128:=by unfold rowOf;omega
theorem HX {l:List UInt8}{i n:Nat}(hn:n<=128)(hi:i+n<=l.length)(h:∀j,j<n->l.getD (i+j) 0=l.getD i 0)(he:n=128\/i+n=l.length\/l.getD (i+n) 0≠l.getD i 0):rowOf (l.drop i)=n:=by
 unfold rowOf
 have h0:(l.drop i).getD 0 0=l.getD i 0:=by rw[px];rfl
 rw[h0]
 have hp:∀j,j<n->(fun x=>x==l.getD i 0) ((l.drop i).getD j 0)=true:=fun j hj=>by rw[px];simp only[beq_iff_eq];exact h j hj
 rcases he with he|he
 ·have:=FY (fun x=>x==l.getD i 0) (l.drop i) n (by rw[List.length_drop];omega) hp
  omega
 ·have:=takeWhile_eq (fun x=>x==l.getD i 0) (l.drop i) n (by rw[List.length_drop];omega) hp (by
   rcases he with he|he
   ·left;rw[List.length_drop];omega
   ·right;rw[px];simpa using he)
  omega
def gm (l:List UInt8):Nat->Nat->Nat
 |0,k=>k
 |f+1,k=>if k<l.length/\rowOf (l.drop k)<3 then gm l f (k+1) else k
def jd (l:List UInt8):Nat:=gm l 127 1
theorem B4 (l:List UInt8):∀(f k:Nat),k<=gm l f k/\gm l f k<=k+f:=by
 intro f
 induction f with
 |zero=>intro k;simp[gm]
 |succ f ih=>
  intro k
  unfold gm
  split
  ·have:=ih (k+1);omega
  ·omega
theorem Ko (l:List UInt8):∀(f k:Nat),k<=l.length->gm l f k<=l.length:=by
 intro f
 induction f with
 |zero=>intro k h;simpa [gm] using h
 |succ f ih=>
  intro k h
  unfold gm
  split
  ·exact ih (k+1) (by omega)
  ·exact h
theorem qm (l:List UInt8):1<=jd l:=(B4 l 127 1).1
theorem wg (l:List UInt8):jd l<=128:=(B4 l 127 1).2
theorem xS {l:List UInt8}(h:0<l.length):jd l<=l.length:=Ko l 127 1 h
theorem HY {l:List UInt8}{k:Nat}(hk:k<128)(h1:k<l.length)(h2:rowOf (l.drop k)<3):gm l (128-k) k=gm l (128-(k+1)) (k+1):=by
 obtain⟨f,hf⟩:∃f,128-k=f+1:=⟨127-k,by omega⟩
 rw[hf,show 128-(k+1)=f by omega,gm,if_pos ⟨h1,h2⟩]
theorem HZ {l:List UInt8}{k:Nat}(hk:k<=128)(h:k=128\/l.length<=k\/3<=rowOf (l.drop k)):gm l (128-k) k=k:=by
 by_cases kY:k=128
 ·subst kY;rfl
 ·obtain⟨f,hf⟩:∃f,128-k=f+1:=⟨127-k,by omega⟩
  rw[hf,gm,if_neg (by omega)]
def encode (l:List UInt8):List UInt8:=
 if _h:l=[] then [128]
 else if 3<=rowOf l then UInt8.ofNat (257-rowOf l)::l.getD 0 0::encode (l.drop (rowOf l))
 else UInt8.ofNat (jd l-1)::(l.take (jd l)++encode (l.drop (jd l)))
termination_by l.length
decreasing_by
 ·have:0<l.length:=List.length_pos_iff.mpr _h
  rw[List.length_drop];omega
 ·have:0<l.length:=List.length_pos_iff.mpr _h
  have:=qm l
  rw[List.length_drop];omega
theorem qn:encode []=[128]:=by rw[encode];simp
theorem uF {l:List UInt8}(h:l≠[])(h3:3<=rowOf l):encode l=UInt8.ofNat (257-rowOf l)::l.getD 0 0::encode (l.drop (rowOf l)):=by rw[encode,dif_neg h,if_pos h3]
theorem uG {l:List UInt8}(h:l≠[])(h3:rowOf l<3):encode l=UInt8.ofNat (jd l-1)::(l.take (jd l)++encode (l.drop (jd l))):=by rw[encode,dif_neg h,if_neg (by omega)]
def room (most:Int)(out:List UInt8):Nat:=(most-out.length).toNat
theorem FZ:∀(n:Nat) (l:List UInt8),l.length<=n->(encode l).length<=2*l.length+1:=by
 intro n
 induction n with
 |zero=>
  intro l hl
  have:l=[]:=List.eq_nil_of_length_eq_zero (by omega)
  subst this
  rw[qn];simp
 |succ n ih=>
  intro l hl
  by_cases h:l=[]
  ·subst h;rw[qn];simp
  ·have hp:0<l.length:=List.length_pos_iff.mpr h
   by_cases h3:3<=rowOf l
   ·rw[uF h h3]
    have:=ih (l.drop (rowOf l)) (by rw[List.length_drop];omega)
    have h2:=B3 l
    rw[List.length_drop] at this
    simp only[List.length_cons];omega
   ·rw[uG h (by omega)]
    have h1:=qm l
    have h2:=xS hp
    have:=ih (l.drop (jd l)) (by rw[List.length_drop];omega)
    rw[List.length_drop] at this
    simp only[List.length_cons,List.length_append,List.length_take];omega
end Go.Cl.Runs
namespace Go.Cl.Hx
def digits:List UInt8:=[48,49,50,51,52,53,54,55,56,57,97,98,99,100,101,102]
def two (c:UInt8):List UInt8:=[digits.getD (c.toNat/16) 0,digits.getD (c.toNat%16) 0]
def uH (l:List UInt8):List UInt8:=l.flatMap two
def hex (l:List UInt8):List UInt8:=uH l++[62]
theorem Ew (l:List UInt8)(c:UInt8):uH (l++[c])=uH l++two c:=by simp[uH]
theorem B5 (c:UInt8):(two c).length=2:=rfl
theorem nY (l:List UInt8):(uH l).length=2*l.length:=by
 induction l with
 |nil=>rfl
 |cons c l ih=>simp only[uH,List.flatMap_cons,List.length_append,List.length_cons] at*;rw[ih,B5];omega
theorem Zq (P:Program)(t:TypeId)(k' :IntKind)(c:UInt8):du P .shr t (.int .u8 c.toNat) (.int k' 4)=some (.int .u8 ((c.toNat/16:Nat):Int)):=by
 rw[sO P t .u8 _ 4 k' (by decide)]
 have:((c.toNat:Int)).fdiv (2^(min (4:Int).toNat IntKind.u8.bits))=((c.toNat/16:Nat):Int):=by
  show((c.toNat:Int)).fdiv 16=_
  rw[Int.fdiv_eq_ediv_of_nonneg _ (by omega)];omega
 rw[this]
theorem U9 (c:UInt8):IntKind.u8.wrap (((BitVec.ofInt IntKind.u8.bits (c.toNat:Int)&&&BitVec.ofInt IntKind.u8.bits 15).toNat:Nat):Int)=((c.toNat%16:Nat):Int):=by
 have e1:IntKind.u8.bits=8:=rfl
 have hx:=c.toNat_lt
 rw[e1]
 have:(BitVec.ofInt 8 (c.toNat:Int)&&&BitVec.ofInt 8 15).toNat=c.toNat%16:=by
  rw[BitVec.toNat_and,BitVec.ofInt_natCast,BitVec.toNat_ofNat,Nat.mod_eq_of_lt (by omega)]
  show c.toNat&&&15=_
  exact Nat.and_two_pow_sub_one_eq_mod c.toNat 4
 rw[this,eZ];omega
theorem Wz (c:UInt8):(((BitVec.ofInt IntKind.u8.bits (c.toNat:Int)&&&BitVec.ofInt IntKind.u8.bits 15).toNat:Nat):Int)%256=((c.toNat%16:Nat):Int):=by
 rw[<-eZ];exact U9 c
theorem Qz {P:Program}{t:TypeId}(hu:P.underlying t=some .string){k:IntKind}(b:ByteArray){n:Nat}(h:n<b.data.toList.length):qZ P t (.string b) (.int k n)=some (.int .u8 ((b.data.toList.getD n 0).toNat:Int)):=by
 show qZ P t (.string b) (.int k (Int.ofNat n))=_
 unfold qZ
 rw[hu]
 simp only
 rw[List.drop_eq_getElem_cons h]
 simp[List.getD,List.getElem?_eq_getElem h]
end Go.Cl.Hx
namespace Go.Cl.B85
def val (l:List UInt8):Nat->Nat
 |0=>0
 |i+1=>val l i*256+(if i<min 4 l.length then(l.getD i 0).toNat else 0)
theorem QA (l:List UInt8):∀i,val l i<256^i:=by
 intro i
 induction i with
 |zero=>simp[val]
 |succ i ih=>
  have hb:=(l.getD i 0).toNat_lt
  simp only[val,Nat.pow_succ]
  split<;>omega
theorem L5 (l:List UInt8){i:Nat}(h:i<4):val l i<16777216:=by
 have h1:=QA l i
 have h2:256^i<=256^3:=Nat.pow_le_pow_right (by omega) (by omega)
 have h3:(256:Nat)^3=16777216:=by decide
 omega
theorem L6 (l:List UInt8):val l 4<4294967296:=by
 have:=QA l 4
 have h3:(256:Nat)^4=4294967296:=by decide
 omega
def TD (x k:Nat):UInt8:=UInt8.ofNat (33+x/85^(4-k)%85)
def py (x:Nat):List UInt8:=[TD x 0,TD x 1,TD x 2,TD x 3,TD x 4]
def laid (x j:Nat):List UInt8:=(List.range 5).map fun k=>if 5<=k+j then TD x k else 0
theorem tk (x:Nat):laid x 0=[0,0,0,0,0]:=by simp[laid,List.range_succ]
theorem tl (x:Nat):laid x 5=py x:=by simp[laid,py,List.range_succ]
theorem wh (x:Nat){j:Nat}(h:j<5):(laid x j).set (4-j) (TD x (4-j))=laid x (j+1):=by
 obtain rfl|rfl|rfl|rfl|rfl:j=0\/j=1\/j=2\/j=3\/j=4:=by omega
 all_goals simp[laid,List.range_succ]
theorem iG (l:List UInt8)(k:Nat)(c:UInt8):(ofBytes l).set k (.int .u8 (c.toNat:Int))=ofBytes (l.set k c):=by
 simp[ofBytes,List.map_set]
theorem zN (x j:Nat)(h:j<5):((33+(x/85^j%85:Nat):Int))%256=((TD x (4-j)).toNat:Int):=by
 have:4-(4-j)=j:=by omega
 simp only[TD,this,UInt8.toNat_ofNat']
 omega
def GD (l:List UInt8):List UInt8:=
 if _h:l=[] then [126,62]
 else if min 4 l.length=4/\val l 4=0 then 122::GD (l.drop (min 4 l.length))
 else(py (val l 4)).take (min 4 l.length+1)++GD (l.drop (min 4 l.length))
termination_by l.length
decreasing_by
 ·have:0<l.length:=List.length_pos_iff.mpr _h
  rw[List.length_drop];omega
 ·have:0<l.length:=List.length_pos_iff.mpr _h
  rw[List.length_drop];omega
theorem zP:GD []=[126,62]:=by rw[GD];simp
theorem QB {l:List UInt8}(h:l≠[])(h2:min 4 l.length=4/\val l 4=0):GD l=122::GD (l.drop (min 4 l.length)):=by rw[GD,dif_neg h,if_pos h2]
theorem sk {l:List UInt8}(h:l≠[])(h2:¬(min 4 l.length=4/\val l 4=0)):GD l=(py (val l 4)).take (min 4 l.length+1)++GD (l.drop (min 4 l.length)):=by rw[GD,dif_neg h,if_neg h2]
theorem jw {x:Int}:IntKind.u32.wrap x=x%4294967296:=by
 have e1:IntKind.u32.bits=32:=rfl
 have e2:IntKind.u32.signed=false:=rfl
 simp only[IntKind.wrap,e1,e2,Bool.false_and]
 simp
theorem L7 (P:Program)(t:TypeId)(k' :IntKind)(a:Int):du P .shl t (.int .u32 a) (.int k' 8)=some (.int .u32 (IntKind.u32.wrap (a*256))):=by
 rw[sM P t .u32 a 8 k' (by decide)];rfl
theorem QC {n:Nat}{x:UInt8}(h:n<16777216):(((BitVec.ofInt IntKind.u32.bits (((n:Int)*256))|||BitVec.ofInt IntKind.u32.bits ((x.toNat:Int))).toNat:Nat):Int)%4294967296=((n*256+x.toNat:Nat):Int):=by
 have e1:IntKind.u32.bits=32:=rfl
 have hx:=x.toNat_lt
 rw[e1]
 have e2:((n:Int)*256)=((n*256:Nat):Int):=by omega
 have:(BitVec.ofInt 32 ((n:Int)*256)|||BitVec.ofInt 32 (x.toNat:Int)).toNat=n*256+x.toNat:=by
  rw[e2,BitVec.toNat_or,BitVec.ofInt_natCast,BitVec.ofInt_natCast,BitVec.toNat_ofNat,BitVec.toNat_ofNat,Nat.mod_eq_of_lt (by omega),Nat.mod_eq_of_lt (by omega)]
  have:=Nat.shiftLeft_add_eq_or_of_lt (i:=8) (b:=x.toNat) hx n
  rw[Nat.shiftLeft_eq] at this
  exact this.symm
 rw[this];omega
theorem L8 {n:Nat}(h:n<16777216):((n:Int)*256)%4294967296=(n:Int)*256:=by omega
theorem H0 (x:UInt8):((x.toNat:Int))%4294967296=(x.toNat:Int):=by have:=x.toNat_lt;omega
end Go.Cl.B85
namespace Go.Cl
inductive O where
 |mk (kind n:Int) (b:List UInt8) (l:List O) (d:List (List UInt8×O))
namespace O
def kind:O->Int
 | .mk k _ _ _ _=>k
def num:O->Int
 | .mk _ n _ _ _=>n
def bytes:O->List UInt8
 | .mk _ _ b _ _=>b
def items:O->List O
 | .mk _ _ _ l _=>l
def xP:O->List (List UInt8×O)
 | .mk _ _ _ _ d=>d
def none:O:= .mk 0 0 [] [] []
theorem wi {k n:Int}{b:List UInt8}{l:List O}{d:List (List UInt8×O)}{x:O}(h:x∈l):SizeOf.sizeOf x<SizeOf.sizeOf (O.mk k n b l d):=by
 have:=List.sizeOf_lt_of_mem h
 simp only[O.mk.sizeOf_spec];omega
theorem wj {k n:Int}{b:List UInt8}{l:List O}{d:List (List UInt8×O)}{e:List UInt8×O}(h:e∈d):SizeOf.sizeOf e.2<SizeOf.sizeOf (O.mk k n b l d):=by
 have h1:=List.sizeOf_lt_of_mem h
 obtain⟨a,x⟩:=e
 simp only[Prod.mk.sizeOf_spec] at h1
 simp only[O.mk.sizeOf_spec];omega
end O
def dO (F:Nat->Prop):Value->Prop
 | .slice (some a) _ c=>c≠0->F a.block
 |_=>True
theorem dO.mono {F G:Nat->Prop}{v:Value}(h:dO F v)(k:∀j,F j->G j):dO G v:=by
 unfold dO at*
 split
 ·exact fun hc=>k _ (h hc)
 ·trivial
theorem dO.wk {F:Nat->Prop}{v:Value}(h:∀j,aJ v=some j->F j):dO F v:=by
 unfold dO
 split
 ·exact fun _=>h _ rfl
 ·trivial
theorem dO.fresh {base:Nat}{v:Value}(h:aN base v):dO (fun j=>base<=j) v:=dO.wk h
theorem dO.nil (F:Nat->Prop):dO F (.slice none 0 0):=trivial
theorem aM.oK {F:Nat->Prop}{s s' :aq}{z:Nat}{v u:Value}{n:Nat}{l:List Value}(h:aM s z v n l)(hf:dO F v)(k:bm u s s')(cD:∀j,F j->aJ u≠some j):aM s' z v n l:=by
 cases h with
 |nil=>exact .nil
 |bare i off=>exact .bare i off
 |of i off n c b l hi hb hz hl hc hlen fL ht=>
  have hF:F i:=hf (by omega)
  refine .of i off n c b l (Nat.lt_of_lt_of_le hi k.next) ?_ hz hl hc hlen fL ht
  simp only[aq.bK,k.get i hi (cD i hF)];exact hb
inductive dr (F:Nat->Prop) (s:aq):List Value->O->Prop
 |mk (kind n:Int) (b:List UInt8) (l:List O) (d:List (List UInt8×O)) (bv lv dv:Value) (lc dc:List Value)
  (hb:aM s 1 bv b.length (ofBytes b)) (hl:aM s 5 lv l.length lc) (hd:aM s 6 dv d.length dc)
  (fb:dO F bv) (fl:dO F lv) (fd:dO F dv)
  (hL:∀i (h:i<l.length),dr F s ((lc.drop (i*5)).take 5) l[i])
  (hK:∀i (h:i<d.length),dc.getD (i*6) undef= .string ⟨(d[i].1).toArray⟩)
  (hD:∀i (h:i<d.length),dr F s ((dc.drop (i*6+1)).take 5) d[i].2)
  (hM:∀i (h:i<d.length),(d[i].1).length<=9223372036854775807):
  dr F s [.int .i64 kind,.int .i64 n,bv,lv,dv] (.mk kind n b l d)
variable {F G:Nat->Prop} {s s' :aq} {cs:List Value} {o:O}
theorem dr.keeps (h:dr F s cs o)(k:ar s.next s s'):dr F s' cs o:=by
 induction h with
 |mk kind n b l d bv lv dv lc dc hb hl hd fb fl fd _ hK _ hM hL hD=>exact .mk kind n b l d bv lv dv lc dc (hb.keeps k) (hl.keeps k) (hd.keeps k) fb fl fd hL hK hD hM
theorem dr.mono (h:dr F s cs o)(k:∀j,F j->G j):dr G s cs o:=by
 induction h with
 |mk kind n b l d bv lv dv lc dc hb hl hd fb fl fd _ hK _ hM hL hD=>exact .mk kind n b l d bv lv dv lc dc hb hl hd (fb.mono k) (fl.mono k) (fd.mono k) hL hK hD hM
theorem dr.turns {u:Value}(h:dr F s cs o)(k:bm u s s')(cD:∀j,F j->aJ u≠some j):dr F s' cs o:=by
 induction h with
 |mk kind n b l d bv lv dv lc dc hb hl hd fb fl fd _ hK _ hM hL hD=>exact .mk kind n b l d bv lv dv lc dc (hb.oK fb k cD) (hl.oK fl k cD) (hd.oK fd k cD) fb fl fd hL hK hD hM
theorem dr.len (h:dr F s cs o):cs.length=5:=by cases h;rfl
theorem dr.ok (h:dr F s cs o):cs.all aO=true:=by
 cases h with
 |mk kind n b l d bv lv dv lc dc hb hl hd fb fl fd hL hK hD hM=>
  have h1:=hb.aO
  have h2:=hl.aO
  have h3:=hd.aO
  simp only[List.all_cons,List.all_nil,h1,h2,h3];rfl
theorem uI {a b c d e:Value}(h1:cW a a=true)(h2:cW b b=true)(h3:cW c c=true)(h4:cW d d=true)(h5:cW e e=true):bX (.agg #[a,b,c,d,e]) (.agg #[a,b,c,d,e])=true:=by
 simp[bX,gp,h1,h2,h3,h4,h5]
theorem aM.H2 {s:aq}{z:Nat}{v:Value}{n:Nat}{l:List Value}(h:aM s z v n l):cW v v=true:=by
 cases h<;>simp[cW,Nat.beq_refl]
theorem dr.self (h:dr F s cs o):bX (.agg cs.toArray) (.agg cs.toArray)=true:=by
 cases h with
 |mk kind n b l d bv lv dv lc dc hb hl hd fb fl fd hL hK hD hM=>
  exact uI (by simp[cW]) (by simp[cW]) hb.H2 hl.H2 hd.H2
theorem dr.inv {kind n:Int}{b:List UInt8}{l:List O}{d:List (List UInt8×O)}(h:dr F s cs (.mk kind n b l d)):∃bv lv dv lc dc,cs=[.int .i64 kind,.int .i64 n,bv,lv,dv]/\aM s 1 bv b.length (ofBytes b)/\aM s 5 lv l.length lc/\aM s 6 dv d.length dc/\dO F bv/\dO F lv/\dO F dv/\
  (∀i (h:i<l.length),dr F s ((lc.drop (i*5)).take 5) l[i])/\(∀i (h:i<d.length),dc.getD (i*6) undef= .string ⟨(d[i].1).toArray⟩)/\(∀i (h:i<d.length),dr F s ((dc.drop (i*6+1)).take 5) d[i].2)/\(∀i (h:i<d.length),(d[i].1).length<=9223372036854775807):=by
 cases h with
 |mk _ _ _ _ _ bv lv dv lc dc hb hl hd fb fl fd hL hK hD hM=>exact⟨bv,lv,dv,lc,dc,rfl,hb,hl,hd,fb,fl,fd,hL,hK,hD,hM⟩
def cr:List Value:=[.int .i64 0,.int .i64 0,.slice Option.none 0 0,.slice Option.none 0 0,.slice Option.none 0 0]
theorem dr.none (F:Nat->Prop)(s:aq):dr F s cr O.none:=
 .mk 0 0 [] [] [] _ _ _ [] [] .nil .nil .nil trivial trivial trivial (fun i h=>absurd h (Nat.not_lt_zero i)) (fun i h=>absurd h (Nat.not_lt_zero i)) (fun i h=>absurd h (Nat.not_lt_zero i)) (fun i h=>absurd h (Nat.not_lt_zero i))
theorem dO.below {z:Nat}{v:Value}{n:Nat}{l:List Value}(h:aM s z v n l)(hf:dO F v):dO (fun j=>F j/\j<s.next) v:=by
 cases h with
 |nil=>trivial
 |bare i off=>exact fun hc=>absurd rfl hc
 |of i off n c b l hi hb hz hl hc hlen fL ht=>exact fun X4=>⟨hf X4,hi⟩
theorem dr.NU (h:dr F s cs o):dr (fun j=>F j/\j<s.next) s cs o:=by
 induction h with
 |mk kind n b l d bv lv dv lc dc hb hl hd fb fl fd _ hK _ hM hL hD=>exact .mk kind n b l d bv lv dv lc dc hb hl hd (dO.below hb fb) (dO.below hl fl) (dO.below hd fd) hL hK hD hM
structure tZ {α:Type} (Q:(Nat->Prop)->aq->List Value->α->Prop):Prop where
 keeps:∀{F s s' cs d},Q F s cs d->ar s.next s s' ->Q F s' cs d
 mono:∀{F G:Nat->Prop} {s cs d},Q F s cs d->(∀j,F j->G j)->Q G s cs d
 turns:∀{F:Nat->Prop} {s s' cs d u},Q F s cs d->bm u s s' ->(∀j,F j->aJ u≠some j)->Q F s' cs d
 below:∀{F:Nat->Prop} {s cs d},Q F s cs d->Q (fun j=>F j/\j<s.next) s cs d
theorem bH:tZ dr:=⟨fun h k=>h.keeps k,fun h k=>h.mono k,fun h k n=>h.turns k n,fun h=>h.NU⟩
def cu (F:Nat->Prop)(s:aq)(cs:List Value)(e:List UInt8×O):Prop:=∃r,cs= .string ⟨e.1.toArray⟩::r/\dr F s r e.2/\e.1.length<=9223372036854775807
theorem cu.keeps {e:List UInt8×O}(h:cu F s cs e)(k:ar s.next s s'):cu F s' cs e:=by
 obtain⟨r,h1,h2,h3⟩:=h;exact⟨r,h1,h2.keeps k,h3⟩
theorem cu.mono {e:List UInt8×O}(h:cu F s cs e)(k:∀j,F j->G j):cu G s cs e:=by
 obtain⟨r,h1,h2,h3⟩:=h;exact⟨r,h1,h2.mono k,h3⟩
theorem bV:tZ cu:=⟨fun h k=>h.keeps k,fun h k=>h.mono k,fun⟨r,h1,h2,h3⟩ k n=>⟨r,h1,h2.turns k n,h3⟩,fun⟨r,h1,h2,h3⟩=>⟨r,h1,h2.NU,h3⟩⟩
structure aL {α:Type} (Q:(Nat->Prop)->aq->List Value->α->Prop) (z:Nat) (F:Nat->Prop) (s:aq) (D:List α) (lc:List Value):Prop where
 len:lc.length=D.length*z
 row:∀i (h:i<D.length),Q F s ((lc.drop (i*z)).take z) D[i]
section
variable {α:Type} {Q:(Nat->Prop)->aq->List Value->α->Prop} {z:Nat} {D:List α} {lc:List Value}
theorem aL.nil:aL Q z F s [] []:=⟨by simp,fun i h=>absurd h (Nat.not_lt_zero i)⟩
theorem aL.keeps (hQ:tZ Q)(h:aL Q z F s D lc)(k:ar s.next s s'):aL Q z F s' D lc:=⟨h.len,fun i hi=>hQ.keeps (h.row i hi) k⟩
theorem aL.mono (hQ:tZ Q)(h:aL Q z F s D lc)(k:∀j,F j->G j):aL Q z G s D lc:=⟨h.len,fun i hi=>hQ.mono (h.row i hi) k⟩
theorem aL.turns {u:Value}(hQ:tZ Q)(h:aL Q z F s D lc)(k:bm u s s')(cD:∀j,F j->aJ u≠some j):aL Q z F s' D lc:=⟨h.len,fun i hi=>hQ.turns (h.row i hi) k cD⟩
theorem aL.below (hQ:tZ Q)(h:aL Q z F s D lc):aL Q z (fun j=>F j/\j<s.next) s D lc:=⟨h.len,fun i hi=>hQ.below (h.row i hi)⟩
theorem aL.snoc (h:aL Q z F s D lc){d:α}{cs:List Value}(hc:cs.length=z)(hd:Q F s cs d):aL Q z F s (D++[d]) (lc++cs):=by
 refine⟨by rw[List.length_append,List.length_append,h.len,hc,List.length_singleton,Nat.succ_mul],fun i hi=> ?_⟩
 have u9:i<D.length+1:=by simpa using hi
 by_cases hik:i<D.length
 ·have e:((lc++cs).drop (i*z)).take z=(lc.drop (i*z)).take z:=by
   have:(i+1)*z<=lc.length:=by rw[h.len];exact Nat.mul_le_mul_right z hik
   rw[Nat.succ_mul] at this
   rw[List.drop_append_of_le_length (by omega),List.take_append_of_le_length (by rw[List.length_drop];omega)]
  rw[e,List.getElem_append_left hik]
  exact h.row i hik
 ·obtain rfl:i=D.length:=by omega
  have e:((lc++cs).drop (D.length*z)).take z=cs:=by rw[<-h.len,List.drop_left,List.take_of_length_le (by omega)]
  rw[e,List.getElem_append_right (by omega)]
  simp only[Nat.sub_self,List.getElem_cons_zero]
  exact hd
theorem aL.grow (hQ:tZ Q){base:Nat}{X:Nat->Prop}{T T' :aq}{v x' :Value}(h:aL Q z (fun j=>base<=j/\¬X j/\aJ v≠some j) T D lc){d:α}{cs:List Value}(hc:cs.length=z)(hd:Q (fun j=>base<=j/\¬X j/\aJ v≠some j) T cs d)
  (ht:bm v T T') (nJ:aJ x' =aJ v\/∃i,aJ x' =some i/\T.next<=i):aL Q z (fun j=>base<=j/\¬X j/\aJ x' ≠some j) T' (D++[d]) (lc++cs):=by
 refine aL.mono hQ (aL.turns hQ (aL.below hQ (h.snoc hc hd)) ht (fun j hj=>hj.1.2.2)) (fun j hj=>⟨hj.1.1,hj.1.2.1,fun e=> ?_⟩)
 rcases nJ with h1|⟨i,h1,h2⟩
 ·exact hj.1.2.2 (by rw[<-h1];exact e)
 ·rw[h1] at e;injection e with e;have:=hj.2;omega
end
theorem dr.parts {kind n:Int}{b:List UInt8}{l:List O}{d:List (List UInt8×O)}(h:dr F s cs (.mk kind n b l d)):∃bv lv dv lc dc,cs=[.int .i64 kind,.int .i64 n,bv,lv,dv]/\aM s 1 bv b.length (ofBytes b)/\aM s 5 lv l.length lc/\aM s 6 dv d.length dc/\dO F bv/\dO F lv/\dO F dv/\aL dr 5 F s l lc/\aL cu 6 F s d dc:=by
 obtain⟨bv,lv,dv,lc,dc,h1,h2,h3,h4,h5,h6,h7,hL,hK,hD,hM⟩:=h.inv
 refine⟨bv,lv,dv,lc,dc,h1,h2,h3,h4,h5,h6,h7,⟨h3.length,hL⟩,⟨h4.length,fun i hi=>⟨_,?_,hD i hi,hM i hi⟩⟩⟩
 have hk:=hK i hi
 have aP:i*6<dc.length:=by rw[h4.length];omega
 rw[List.getD_eq_getElem?_getD,List.getElem?_eq_getElem aP] at hk
 have hk:dc[i*6]= .string ⟨(d[i].1).toArray⟩:=hk
 rw[List.drop_eq_getElem_cons aP,List.take_succ_cons,hk]
theorem dr.whole {kind n:Int}{b:List UInt8}{l:List O}{d:List (List UInt8×O)}{bv lv dv:Value}{lc dc:List Value}(hb:aM s 1 bv b.length (ofBytes b))(hl:aM s 5 lv l.length lc)(hd:aM s 6 dv d.length dc)(fb:dO F bv)(fl:dO F lv)(fd:dO F dv)(hL:aL dr 5 F s l lc)(hD:aL cu 6 F s d dc):
  dr F s [.int .i64 kind,.int .i64 n,bv,lv,dv] (.mk kind n b l d):=by
 refine .mk kind n b l d bv lv dv lc dc hb hl hd fb fl fd hL.row (fun i hi=> ?_) (fun i hi=> ?_) (fun i hi=> ?_)
 ·obtain⟨r,h1,_,_⟩:=hD.row i hi
  have h0:((dc.drop (i*6)).take 6)[0]?=some (.string ⟨(d[i].1).toArray⟩):=by rw[h1];rfl
  rw[List.getElem?_take_of_lt (by omega),List.getElem?_drop,Nat.add_zero] at h0
  rw[List.getD_eq_getElem?_getD,h0];rfl
 ·obtain⟨r,h1,h2,_⟩:=hD.row i hi
  have h0:((dc.drop (i*6)).take 6).drop 1=r:=by rw[h1];rfl
  rw[List.drop_take,List.drop_drop] at h0
  rw[show(dc.drop (i*6+1)).take 5=r from h0];exact h2
 ·obtain⟨_,_,_,h3⟩:=hD.row i hi
  exact h3
theorem aM.kz {P:Program}{e:TypeId}{m:Nat}(ow:cw P e=some true)(cJ:bq P e=some m){z:Nat}{v:Value}{n:Nat}{l:List Value}(h:aM s z v n l){k j:Nat}(hk:k<n)(hj:j+m<=z):aG P s e (bR (aT z v k) j)=some (.agg ((l.drop (k*z+j)).take m).toArray):=by
 cases h with
 |nil=>omega
 |bare=>omega
 |of i off n c b l hi hb hz hl hc hlen fL ht=>
  have YX:k*z+z<=n*z:=by
   have:(k+1)*z<=n*z:=Nat.mul_le_mul_right z hk
   rwa [Nat.succ_mul] at this
  show aG P s e (.pointer (some ⟨i,off+k*z+j,some c⟩))=_
  unfold aG
  simp only[ow,cJ]
  rw[iz hb hl hc (by omega),<-ht,List.drop_take,List.drop_drop,List.take_take,Nat.min_eq_left (by omega),Nat.add_assoc]
inductive Small:O->Prop
 |mk {k n:Int} {b:List UInt8} {l:List O} {d:List (List UInt8×O)} (hb:b.length<=100000000) (hl:l.length<=100000) (hd:d.length<=100000) (hK:∀e∈d,e.1.length<=100000) (hL:∀x∈l,Small x) (hD:∀e∈d,Small e.2):Small (.mk k n b l d)
inductive Fit:O->Prop
 |mk {k n:Int} {b:List UInt8} {l:List O} {d:List (List UInt8×O)} (hb:b.length<=140737488351232) (hl:l.length*88<=140737488351232) (hd:d.length*104<=140737488351232) (hK:∀e∈d,e.1.length<=140737488351232) (hL:∀x∈l,Fit x) (hD:∀e∈d,Fit e.2):Fit (.mk k n b l d)
theorem Small.fit {o:O}(h:Small o):Fit o:=by
 induction h with
 |mk hb hl hd hK _ _ Dc ihD=>exact .mk (by omega) (by omega) (by omega) (fun e he=>Nat.le_trans (hK e he) (by decide)) Dc ihD
end Go.Cl
namespace Go.Cl
open Go.RowKit Go.ChangeShapes Go.WideShapes
structure NV (W:World) (S S' :St):Prop where
 begun:mh W S'
 ext:Ext S S'
 stay:ar S.s.next S.s S'.s
theorem NV.refl {W:World}{S:St}(h:mh W S):NV W S S:=⟨h,Ext.refl S,ar.refl _ _⟩
theorem NV.trans {W:World}{S S' S'' :St}(h:NV W S S')(k:NV W S' S''):NV W S S'' :=⟨k.begun,h.ext.trans k.ext,h.stay.trans (k.stay.weaken h.stay.next)⟩
variable {H:Type} {enc:TypeId×Value->H} {P:Program}
def Wt (P:Program)(t:TypeId)(d:DataW H):Prop:=∀n∈d.weights P t,n<=reachBytes
theorem sl {e:TypeId}:∀{ds:List (DataW H)} {d:DataW H},d∈ds->∀n∈d.weights P e,n∈DataW.weightsAll P e ds
 |_::_,d,hd,n,hn=>by
  rw[DataW.weightsAll,List.mem_append]
  rcases List.mem_cons.1 hd with h|h
  ·subst h;exact .inl hn
  ·exact .inr (sl h n hn)
theorem Wt.slice {t e:TypeId}(ht:P.underlying t=some (.slice e)){E R:List (DataW H)}(h:Wt P t (.slice E R)):(E.length+R.length)*P.bytesOf e<=reachBytes/\∀d∈E,Wt P e d:=by
 refine⟨h _ (by simp[DataW.weights,ht]),fun d hd n hn=>h n ?_⟩
 simp only[DataW.weights,ht,List.mem_cons,List.mem_append]
 exact .inr (.inl (sl hd n hn))
theorem Wt.struct {t:TypeId}{fs:Array Field}(ht:P.underlying t=some (.struct fs)){xs:List (DataW H)}(h:Wt P t (.agg xs)){i:Nat}{u:TypeId}{d:DataW H}(hu:(fs.toList.map (·.type))[i]?=some u)(hd:xs[i]?=some d):Wt P u d:=by
 intro n hn
 refine h n ?_
 simp only[DataW.weights,ht]
 exact DataW.weights_mem_each hu hd n hn
end Go.Cl
set_option linter.unusedSimpArgs false
set_option linter.unusedVariables false
set_option maxRecDepth 100000
namespace Go.Cl
theorem xT {lc r:List Value}{i:Nat}{a:Value}(h:(lc.drop (i*6)).take 6=a::r):lc.getD (i*6) undef=a/\(lc.drop (i*6+1)).take 5=r:=by
 constructor
 ·have h0:((lc.drop (i*6)).take 6)[0]?=some a:=by rw[h];rfl
  rw[List.getElem?_take_of_lt (by omega),List.getElem?_drop,Nat.add_zero] at h0
  rw[List.getD_eq_getElem?_getD,h0];rfl
 ·have h1:((lc.drop (i*6)).take 6).drop 1=r:=by rw[h];rfl
  rw[List.drop_take,List.drop_drop] at h1
  exact h1
end Go.Cl
namespace Go.Proofs.YtdfjfncifneocaaGreat
open Go.Cl
variable {H:Type} {enc:TypeId×Value->H} {W:World}
end Go.Proofs.YtdfjfncifneocaaGreat
