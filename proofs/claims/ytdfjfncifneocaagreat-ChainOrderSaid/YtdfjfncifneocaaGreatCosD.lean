/-
 Five digits for four bytes: the plain law of the writing.
-/
import Derived.Test.YtdfjfncifneocaaGreatHexP
import Derived.Lib.Bytealg
open Nat renaming reduceLT->QS,reduceEqDiff->Qx
set_option linter.unusedSimpArgs false
set_option linter.unusedVariables false
set_option maxRecDepth 100000
namespace Go.Cl.B85
def val (l:List UInt8):Nat->Nat
 |0=>0
 |i+1=>val l i*256+(if i<min 4 l.length then(l.getD i 0).toNat else 0)
theorem Wo (l:List UInt8):∀i,val l i<256^i:=by
 intro i
 induction i with
 |zero=>simp[val]
 |succ i ih=>
  have hb:=(l.getD i 0).toNat_lt
  simp only[val,Nat.pow_succ]
  split<;>omega
theorem aad (l:List UInt8){i:Nat}(h:i<4):val l i<16777216:=by
 have h1:=Wo l i
 have h2:256^i<=256^3:=Nat.pow_le_pow_right (by omega) (by omega)
 have h3:(256:Nat)^3=16777216:=by decide
 omega
theorem aae (l:List UInt8):val l 4<4294967296:=by
 have:=Wo l 4
 have h3:(256:Nat)^4=4294967296:=by decide
 omega
def YT (x k:Nat):UInt8:=UInt8.ofNat (33+x/85^(4-k)%85)
def xT (x:Nat):List UInt8:=[YT x 0,YT x 1,YT x 2,YT x 3,YT x 4]
def laid (x j:Nat):List UInt8:=(List.range 5).map fun k=>if 5<=k+j then YT x k else 0
theorem Ht (x:Nat):laid x 0=[0,0,0,0,0]:=by simp[laid,List.range_succ]
theorem Hu (x:Nat):laid x 5=xT x:=by simp[laid,xT,List.range_succ]
theorem LG (x:Nat){j:Nat}(h:j<5):(laid x j).set (4-j) (YT x (4-j))=laid x (j+1):=by
 obtain rfl|rfl|rfl|rfl|rfl:j=0\/j=1\/j=2\/j=3\/j=4:=by omega
 all_goals simp[laid,List.range_succ]
theorem qi (l:List UInt8)(k:Nat)(c:UInt8):(ofBytes l).set k (.int .u8 (c.toNat:Int))=ofBytes (l.set k c):=by
 simp[ofBytes,List.map_set]
theorem QY (x j:Nat)(h:j<5):((33+(x/85^j%85:Nat):Int))%256=((YT x (4-j)).toNat:Int):=by
 have:4-(4-j)=j:=by omega
 simp only[YT,this,UInt8.toNat_ofNat']
 omega
def F1 (l:List UInt8):List UInt8:=
 if _h:l=[] then [126,62]
 else if min 4 l.length=4/\val l 4=0 then 122::F1 (l.drop (min 4 l.length))
 else(xT (val l 4)).take (min 4 l.length+1)++F1 (l.drop (min 4 l.length))
termination_by l.length
decreasing_by
 ·have:0<l.length:=List.length_pos_iff.mpr _h
  rw[List.length_drop];omega
 ·have:0<l.length:=List.length_pos_iff.mpr _h
  rw[List.length_drop];omega
theorem oX:F1 []=[126,62]:=by rw[F1];simp
theorem Wp {l:List UInt8}(h:l≠[])(h2:min 4 l.length=4/\val l 4=0):F1 l=122::F1 (l.drop (min 4 l.length)):=by rw[F1,dif_neg h,if_pos h2]
theorem nX {l:List UInt8}(h:l≠[])(h2:¬(min 4 l.length=4/\val l 4=0)):F1 l=(xT (val l 4)).take (min 4 l.length+1)++F1 (l.drop (min 4 l.length)):=by rw[F1,dif_neg h,if_neg h2]
theorem ui {x:Int}:IntKind.u32.wrap x=x%4294967296:=by
 have e1:IntKind.u32.bits=32:=rfl
 have e2:IntKind.u32.signed=false:=rfl
 simp only[IntKind.wrap,e1,e2,Bool.false_and]
 simp
theorem aca (P:Program)(t:TypeId)(k' :IntKind)(a:Int):cQ P .shl t (.int .u32 a) (.int k' 8)=some (.int .u32 (IntKind.u32.wrap (a*256))):=by
 rw[mW P t .u32 a 8 k' (by decide)];rfl
theorem adY {n:Nat}{x:UInt8}(h:n<16777216):(((BitVec.ofInt IntKind.u32.bits (((n:Int)*256))|||BitVec.ofInt IntKind.u32.bits ((x.toNat:Int))).toNat:Nat):Int)%4294967296=((n*256+x.toNat:Nat):Int):=by
 have e1:IntKind.u32.bits=32:=rfl
 have hx:=x.toNat_lt
 rw[e1]
 have e2:((n:Int)*256)=((n*256:Nat):Int):=by omega
 have:(BitVec.ofInt 32 ((n:Int)*256)|||BitVec.ofInt 32 (x.toNat:Int)).toNat=n*256+x.toNat:=by
  rw[e2,BitVec.toNat_or,BitVec.ofInt_natCast,BitVec.ofInt_natCast,BitVec.toNat_ofNat,BitVec.toNat_ofNat,Nat.mod_eq_of_lt (by omega),Nat.mod_eq_of_lt (by omega)]
  have:=Nat.shiftLeft_add_eq_or_of_lt (i:=8) (b:=x.toNat) hx n
  rw[Nat.shiftLeft_eq] at this
  exact this.symm
 rw[this];omega
theorem aaf {n:Nat}(h:n<16777216):((n:Int)*256)%4294967296=(n:Int)*256:=by omega
theorem Wq (x:UInt8):((x.toNat:Int))%4294967296=(x.toNat:Int):=by have:=x.toNat_lt;omega
end Go.Cl.B85
namespace Go.Cl
inductive O where
 |mk (kind n:Int) (b:List UInt8) (l:List O) (d:List (List UInt8×O))
namespace O
def kind:O->Int
 | .mk k _ _ _ _=>k
def num:O->Int
 | .mk _ n _ _ _=>n
def bytes:O->List UInt8
 | .mk _ _ b _ _=>b
def items:O->List O
 | .mk _ _ _ l _=>l
def xO:O->List (List UInt8×O)
 | .mk _ _ _ _ d=>d
def none:O:= .mk 0 0 [] [] []
theorem Ws {k n:Int}{b:List UInt8}{l:List O}{d:List (List UInt8×O)}{x:O}(h:x∈l):SizeOf.sizeOf x<SizeOf.sizeOf (O.mk k n b l d):=by
 have:=List.sizeOf_lt_of_mem h
 simp only[O.mk.sizeOf_spec];omega
theorem aah {k n:Int}{b:List UInt8}{l:List O}{d:List (List UInt8×O)}{e:List UInt8×O}(h:e∈d):SizeOf.sizeOf e.2<SizeOf.sizeOf (O.mk k n b l d):=by
 have h1:=List.sizeOf_lt_of_mem h
 obtain⟨a,x⟩:=e
 simp only[Prod.mk.sizeOf_spec] at h1
 simp only[O.mk.sizeOf_spec];omega
end O
def gu (F:Nat->Prop):Value->Prop
 | .slice (some a) _ c=>c≠0->F a.block
 |_=>True
theorem gu.mono {F G:Nat->Prop}{v:Value}(h:gu F v)(k:∀j,F j->G j):gu G v:=by
 unfold gu at*
 split
 ·exact fun hc=>k _ (h hc)
 ·trivial
theorem gu.Wu {F:Nat->Prop}{v:Value}(h:∀j,aI v=some j->F j):gu F v:=by
 unfold gu
 split
 ·exact fun _=>h _ rfl
 ·trivial
theorem gu.fresh {base:Nat}{v:Value}(h:aF base v):gu (fun j=>base<=j) v:=gu.Wu h
theorem aN.OJ {F:Nat->Prop}{s s' :aq}{z:Nat}{v u:Value}{n:Nat}{l:List Value}(h:aN s z v n l)(hf:gu F v)(k:bt u s s')(cH:∀j,F j->aI u≠some j):aN s' z v n l:=by
 cases h with
 |nil=>exact .nil
 |bare i off=>exact .bare i off
 |of i off n c b l hi hb hz hl hc hlen fy ht=>
  have hF:F i:=hf (by omega)
  refine .of i off n c b l (Nat.lt_of_lt_of_le hi k.next) ?_ hz hl hc hlen fy ht
  simp only[aq.bR,k.get i hi (cH i hF)];exact hb
inductive dy (F:Nat->Prop) (s:aq):List Value->O->Prop
 |mk (kind n:Int) (b:List UInt8) (l:List O) (d:List (List UInt8×O)) (bv lv dv:Value) (lc dc:List Value)
  (hb:aN s 1 bv b.length (ofBytes b)) (hl:aN s 5 lv l.length lc) (hd:aN s 6 dv d.length dc)
  (fb:gu F bv) (fl:gu F lv) (fd:gu F dv)
  (hL:∀i (h:i<l.length),dy F s ((lc.drop (i*5)).take 5) l[i])
  (hK:∀i (h:i<d.length),dc.getD (i*6) undef= .string ⟨(d[i].1).toArray⟩)
  (hD:∀i (h:i<d.length),dy F s ((dc.drop (i*6+1)).take 5) d[i].2)
  (hM:∀i (h:i<d.length),(d[i].1).length<=9223372036854775807):
  dy F s [.int .i64 kind,.int .i64 n,bv,lv,dv] (.mk kind n b l d)
variable {F G:Nat->Prop} {s s' :aq} {cs:List Value} {o:O}
theorem dy.keeps (h:dy F s cs o)(k:ar s.next s s'):dy F s' cs o:=by
 induction h with
 |mk kind n b l d bv lv dv lc dc hb hl hd fb fl fd _ hK _ hM hL hD=>exact .mk kind n b l d bv lv dv lc dc (hb.keeps k) (hl.keeps k) (hd.keeps k) fb fl fd hL hK hD hM
theorem dy.mono (h:dy F s cs o)(k:∀j,F j->G j):dy G s cs o:=by
 induction h with
 |mk kind n b l d bv lv dv lc dc hb hl hd fb fl fd _ hK _ hM hL hD=>exact .mk kind n b l d bv lv dv lc dc hb hl hd (fb.mono k) (fl.mono k) (fd.mono k) hL hK hD hM
theorem dy.turns {u:Value}(h:dy F s cs o)(k:bt u s s')(cH:∀j,F j->aI u≠some j):dy F s' cs o:=by
 induction h with
 |mk kind n b l d bv lv dv lc dc hb hl hd fb fl fd _ hK _ hM hL hD=>exact .mk kind n b l d bv lv dv lc dc (hb.OJ fb k cH) (hl.OJ fl k cH) (hd.OJ fd k cH) fb fl fd hL hK hD hM
theorem dy.len (h:dy F s cs o):cs.length=5:=by cases h;rfl
theorem dy.ok (h:dy F s cs o):cs.all aL=true:=by
 cases h with
 |mk kind n b l d bv lv dv lc dc hb hl hd fb fl fd hL hK hD hM=>
  have h1:=hb.aL
  have h2:=hl.aL
  have h3:=hd.aL
  simp only[List.all_cons,List.all_nil,h1,h2,h3];rfl
theorem DJ {a b c d e:Value}(h1:cN a a=true)(h2:cN b b=true)(h3:cN c c=true)(h4:cN d d=true)(h5:cN e e=true):bZ (.agg #[a,b,c,d,e]) (.agg #[a,b,c,d,e])=true:=by
 simp[bZ,fp,h1,h2,h3,h4,h5]
theorem aN.QZ {s:aq}{z:Nat}{v:Value}{n:Nat}{l:List Value}(h:aN s z v n l):cN v v=true:=by
 cases h<;>simp[cN,Nat.beq_refl]
theorem dy.self (h:dy F s cs o):bZ (.agg cs.toArray) (.agg cs.toArray)=true:=by
 cases h with
 |mk kind n b l d bv lv dv lc dc hb hl hd fb fl fd hL hK hD hM=>
  exact DJ (by simp[cN]) (by simp[cN]) hb.QZ hl.QZ hd.QZ
theorem dy.inv {kind n:Int}{b:List UInt8}{l:List O}{d:List (List UInt8×O)}(h:dy F s cs (.mk kind n b l d)):∃bv lv dv lc dc,cs=[.int .i64 kind,.int .i64 n,bv,lv,dv]/\aN s 1 bv b.length (ofBytes b)/\aN s 5 lv l.length lc/\aN s 6 dv d.length dc/\gu F bv/\gu F lv/\gu F dv/\
  (∀i (h:i<l.length),dy F s ((lc.drop (i*5)).take 5) l[i])/\(∀i (h:i<d.length),dc.getD (i*6) undef= .string ⟨(d[i].1).toArray⟩)/\(∀i (h:i<d.length),dy F s ((dc.drop (i*6+1)).take 5) d[i].2)/\(∀i (h:i<d.length),(d[i].1).length<=9223372036854775807):=by
 cases h with
 |mk _ _ _ _ _ bv lv dv lc dc hb hl hd fb fl fd hL hK hD hM=>exact⟨bv,lv,dv,lc,dc,rfl,hb,hl,hd,fb,fl,fd,hL,hK,hD,hM⟩
def de:List Value:=[.int .i64 0,.int .i64 0,.slice Option.none 0 0,.slice Option.none 0 0,.slice Option.none 0 0]
theorem dy.none (F:Nat->Prop)(s:aq):dy F s de O.none:=
 .mk 0 0 [] [] [] _ _ _ [] [] .nil .nil .nil trivial trivial trivial (fun i h=>absurd h (Nat.not_lt_zero i)) (fun i h=>absurd h (Nat.not_lt_zero i)) (fun i h=>absurd h (Nat.not_lt_zero i)) (fun i h=>absurd h (Nat.not_lt_zero i))
theorem gu.below {z:Nat}{v:Value}{n:Nat}{l:List Value}(h:aN s z v n l)(hf:gu F v):gu (fun j=>F j/\j<s.next) v:=by
 cases h with
 |nil=>trivial
 |bare i off=>exact fun hc=>absurd rfl hc
 |of i off n c b l hi hb hz hl hc hlen fy ht=>exact fun Je=>⟨hf Je,hi⟩
theorem dy.aai (h:dy F s cs o):dy (fun j=>F j/\j<s.next) s cs o:=by
 induction h with
 |mk kind n b l d bv lv dv lc dc hb hl hd fb fl fd _ hK _ hM hL hD=>exact .mk kind n b l d bv lv dv lc dc hb hl hd (gu.below hb fb) (gu.below hl fl) (gu.below hd fd) hL hK hD hM
structure vc {α:Type} (Q:(Nat->Prop)->aq->List Value->α->Prop):Prop where
 keeps:∀{F s s' cs d},Q F s cs d->ar s.next s s' ->Q F s' cs d
 mono:∀{F G:Nat->Prop} {s cs d},Q F s cs d->(∀j,F j->G j)->Q G s cs d
 turns:∀{F:Nat->Prop} {s s' cs d u},Q F s cs d->bt u s s' ->(∀j,F j->aI u≠some j)->Q F s' cs d
 below:∀{F:Nat->Prop} {s cs d},Q F s cs d->Q (fun j=>F j/\j<s.next) s cs d
theorem cK:vc dy:=⟨fun h k=>h.keeps k,fun h k=>h.mono k,fun h k n=>h.turns k n,fun h=>h.aai⟩
def dz (F:Nat->Prop)(s:aq)(cs:List Value)(e:List UInt8×O):Prop:=∃r,cs= .string ⟨e.1.toArray⟩::r/\dy F s r e.2/\e.1.length<=9223372036854775807
theorem dz.keeps {e:List UInt8×O}(h:dz F s cs e)(k:ar s.next s s'):dz F s' cs e:=by
 obtain⟨r,h1,h2,h3⟩:=h;exact⟨r,h1,h2.keeps k,h3⟩
theorem dz.mono {e:List UInt8×O}(h:dz F s cs e)(k:∀j,F j->G j):dz G s cs e:=by
 obtain⟨r,h1,h2,h3⟩:=h;exact⟨r,h1,h2.mono k,h3⟩
theorem fa:vc dz:=⟨fun h k=>h.keeps k,fun h k=>h.mono k,fun⟨r,h1,h2,h3⟩ k n=>⟨r,h1,h2.turns k n,h3⟩,fun⟨r,h1,h2,h3⟩=>⟨r,h1,h2.aai,h3⟩⟩
structure aU {α:Type} (Q:(Nat->Prop)->aq->List Value->α->Prop) (z:Nat) (F:Nat->Prop) (s:aq) (D:List α) (lc:List Value):Prop where
 len:lc.length=D.length*z
 row:∀i (h:i<D.length),Q F s ((lc.drop (i*z)).take z) D[i]
section
variable {α:Type} {Q:(Nat->Prop)->aq->List Value->α->Prop} {z:Nat} {D:List α} {lc:List Value}
theorem aU.nil:aU Q z F s [] []:=⟨by simp,fun i h=>absurd h (Nat.not_lt_zero i)⟩
theorem aU.keeps (hQ:vc Q)(h:aU Q z F s D lc)(k:ar s.next s s'):aU Q z F s' D lc:=⟨h.len,fun i hi=>hQ.keeps (h.row i hi) k⟩
theorem aU.mono (hQ:vc Q)(h:aU Q z F s D lc)(k:∀j,F j->G j):aU Q z G s D lc:=⟨h.len,fun i hi=>hQ.mono (h.row i hi) k⟩
theorem aU.turns {u:Value}(hQ:vc Q)(h:aU Q z F s D lc)(k:bt u s s')(cH:∀j,F j->aI u≠some j):aU Q z F s' D lc:=⟨h.len,fun i hi=>hQ.turns (h.row i hi) k cH⟩
theorem aU.below (hQ:vc Q)(h:aU Q z F s D lc):aU Q z (fun j=>F j/\j<s.next) s D lc:=⟨h.len,fun i hi=>hQ.below (h.row i hi)⟩
theorem aU.snoc (h:aU Q z F s D lc){d:α}{cs:List Value}(hc:cs.length=z)(hd:Q F s cs d):aU Q z F s (D++[d]) (lc++cs):=by
 refine⟨by rw[List.length_append,List.length_append,h.len,hc,List.length_singleton,Nat.succ_mul],fun i hi=> ?_⟩
 have wB:i<D.length+1:=by simpa using hi
 by_cases hik:i<D.length
 ·have e:((lc++cs).drop (i*z)).take z=(lc.drop (i*z)).take z:=by
   have:(i+1)*z<=lc.length:=by rw[h.len];exact Nat.mul_le_mul_right z hik
   rw[Nat.succ_mul] at this
   rw[List.drop_append_of_le_length (by omega),List.take_append_of_le_length (by rw[List.length_drop];omega)]
  rw[e,List.getElem_append_left hik]
  exact h.row i hik
 ·obtain rfl:i=D.length:=by omega
  have e:((lc++cs).drop (D.length*z)).take z=cs:=by rw[<-h.len,List.drop_left,List.take_of_length_le (by omega)]
  rw[e,List.getElem_append_right (by omega)]
  simp only[Nat.sub_self,List.getElem_cons_zero]
  exact hd
theorem aU.grow (hQ:vc Q){base:Nat}{X:Nat->Prop}{T T' :aq}{v x' :Value}(h:aU Q z (fun j=>base<=j/\¬X j/\aI v≠some j) T D lc){d:α}{cs:List Value}(hc:cs.length=z)(hd:Q (fun j=>base<=j/\¬X j/\aI v≠some j) T cs d)
  (ht:bt v T T') (ra:aI x' =aI v\/∃i,aI x' =some i/\T.next<=i):aU Q z (fun j=>base<=j/\¬X j/\aI x' ≠some j) T' (D++[d]) (lc++cs):=by
 refine aU.mono hQ (aU.turns hQ (aU.below hQ (h.snoc hc hd)) ht (fun j hj=>hj.1.2.2)) (fun j hj=>⟨hj.1.1,hj.1.2.1,fun e=> ?_⟩)
 rcases ra with h1|⟨i,h1,h2⟩
 ·exact hj.1.2.2 (by rw[<-h1];exact e)
 ·rw[h1] at e;injection e with e;have:=hj.2;omega
end
theorem dy.parts {kind n:Int}{b:List UInt8}{l:List O}{d:List (List UInt8×O)}(h:dy F s cs (.mk kind n b l d)):∃bv lv dv lc dc,cs=[.int .i64 kind,.int .i64 n,bv,lv,dv]/\aN s 1 bv b.length (ofBytes b)/\aN s 5 lv l.length lc/\aN s 6 dv d.length dc/\gu F bv/\gu F lv/\gu F dv/\aU dy 5 F s l lc/\aU dz 6 F s d dc:=by
 obtain⟨bv,lv,dv,lc,dc,h1,h2,h3,h4,h5,h6,h7,hL,hK,hD,hM⟩:=h.inv
 refine⟨bv,lv,dv,lc,dc,h1,h2,h3,h4,h5,h6,h7,⟨h3.length,hL⟩,⟨h4.length,fun i hi=>⟨_,?_,hD i hi,hM i hi⟩⟩⟩
 have hk:=hK i hi
 have bd:i*6<dc.length:=by rw[h4.length];omega
 rw[List.getD_eq_getElem?_getD,List.getElem?_eq_getElem bd] at hk
 have hk:dc[i*6]= .string ⟨(d[i].1).toArray⟩:=hk
 rw[List.drop_eq_getElem_cons bd,List.take_succ_cons,hk]
theorem dy.whole {kind n:Int}{b:List UInt8}{l:List O}{d:List (List UInt8×O)}{bv lv dv:Value}{lc dc:List Value}(hb:aN s 1 bv b.length (ofBytes b))(hl:aN s 5 lv l.length lc)(hd:aN s 6 dv d.length dc)(fb:gu F bv)(fl:gu F lv)(fd:gu F dv)(hL:aU dy 5 F s l lc)(hD:aU dz 6 F s d dc):
  dy F s [.int .i64 kind,.int .i64 n,bv,lv,dv] (.mk kind n b l d):=by
 refine .mk kind n b l d bv lv dv lc dc hb hl hd fb fl fd hL.row (fun i hi=> ?_) (fun i hi=> ?_) (fun i hi=> ?_)
 ·obtain⟨r,h1,_,_⟩:=hD.row i hi
  have h0:((dc.drop (i*6)).take 6)[0]?=some (.string ⟨(d[i].1).toArray⟩):=by rw[h1];rfl
  rw[List.getElem?_take_of_lt (by omega),List.getElem?_drop,Nat.add_zero] at h0
  rw[List.getD_eq_getElem?_getD,h0];rfl
 ·obtain⟨r,h1,h2,_⟩:=hD.row i hi
  have h0:((dc.drop (i*6)).take 6).drop 1=r:=by rw[h1];rfl
  rw[List.drop_take,List.drop_drop] at h0
  rw[show(dc.drop (i*6+1)).take 5=r from h0];exact h2
 ·obtain⟨_,_,_,h3⟩:=hD.row i hi
  exact h3
theorem aN.xU {P:Program}{e:TypeId}{m:Nat}(ow:bX P e=some true)(cf:aX P e=some m){z:Nat}{v:Value}{n:Nat}{l:List Value}(h:aN s z v n l){k j:Nat}(hk:k<n)(hj:j+m<=z):aJ P s e (b6 (bc z v k) j)=some (.agg ((l.drop (k*z+j)).take m).toArray):=by
 cases h with
 |nil=>omega
 |bare=>omega
 |of i off n c b l hi hb hz hl hc hlen fy ht=>
  have hkz:k*z+z<=n*z:=by
   have:(k+1)*z<=n*z:=Nat.mul_le_mul_right z hk
   rwa [Nat.succ_mul] at this
  show aJ P s e (.pointer (some ⟨i,off+k*z+j,some c⟩))=_
  unfold aJ
  simp only[ow,cf]
  rw[gF hb hl hc (by omega),<-ht,List.drop_take,List.drop_drop,List.take_take,Nat.min_eq_left (by omega),Nat.add_assoc]
inductive Small:O->Prop
 |mk {k n:Int} {b:List UInt8} {l:List O} {d:List (List UInt8×O)} (hb:b.length<=100000000) (hl:l.length<=100000) (hd:d.length<=100000) (hK:∀e∈d,e.1.length<=100000) (hL:∀x∈l,Small x) (hD:∀e∈d,Small e.2):Small (.mk k n b l d)
inductive Fit:O->Prop
 |mk {k n:Int} {b:List UInt8} {l:List O} {d:List (List UInt8×O)} (hb:b.length<=140737488351232) (hl:l.length*88<=140737488351232) (hd:d.length*104<=140737488351232) (hK:∀e∈d,e.1.length<=140737488351232) (hL:∀x∈l,Fit x) (hD:∀e∈d,Fit e.2):Fit (.mk k n b l d)
theorem Small.fit {o:O}(h:Small o):Fit o:=by
 induction h with
 |mk hb hl hd hK _ _ So ihD=>exact .mk (by omega) (by omega) (by omega) (fun e he=>Nat.le_trans (hK e he) (by decide)) So ihD
end Go.Cl
namespace Go.Cl
open Go.RowKit Go.ChangeShapes Go.WideShapes
structure arF (W:World) (S S' :St):Prop where
 begun:nN W S'
 ext:Ext S S'
 stay:ar S.s.next S.s S'.s
variable {H:Type} {enc:TypeId×Value->H} {P:Program}
end Go.Cl
namespace Go.Proofs.YtdfjfncifneocaaGreat
open Go.Cl
variable {H:Type} {enc:TypeId×Value->H} {W:World}
end Go.Proofs.YtdfjfncifneocaaGreat
namespace Go.Proofs.YtdfjfncifneocaaGreat
open Go.Cl
theorem iL:aX Tryz.prog 26=some 5:=by kernel_rfl
theorem Hv:bX Tryz.prog 26=some true:=by kernel_rfl
theorem zO:bV Tryz.prog 26=some (.agg de.toArray):=by kernel_rfl
theorem wD:bN (.agg de.toArray)=true:=by kernel_rfl
theorem byO:eY Tryz.prog 26=some 88:=by kernel_rfl
theorem qq:aX Tryz.prog 63=some 6:=by kernel_rfl
theorem Tc:bX Tryz.prog 63=some true:=by kernel_rfl
theorem byE:eY Tryz.prog 63=some 104:=by kernel_rfl
def xV:List Value:= .string ⟨#[]⟩::de
theorem zE:bV Tryz.prog 63=some (.agg xV.toArray):=by kernel_rfl
theorem Td:bN (.agg xV.toArray)=true:=by kernel_rfl
theorem xW:aX Tryz.prog 2=some 1:=by kernel_rfl
theorem acb:bX Tryz.prog 2=some false:=by kernel_rfl
theorem Wv:aX Tryz.prog 9=some 1:=by kernel_rfl
theorem LH:bX Tryz.prog 9=some false:=by kernel_rfl
theorem DL:aX Tryz.prog 23=some 1:=by kernel_rfl
theorem Ww:bX Tryz.prog 23=some false:=by kernel_rfl
theorem DM:aX Tryz.prog 24=some 1:=by kernel_rfl
theorem aaj:bX Tryz.prog 24=some false:=by kernel_rfl
theorem F2 (i o c:Nat):au Tryz.prog 26 (.pointer (some ⟨i,o,some c⟩)) 0=some (.pointer (some ⟨i,o+0,some c⟩)):=by
 unfold au;rw[Tryz.underlying26];simp[bA]
theorem of1 (i o c:Nat):au Tryz.prog 26 (.pointer (some ⟨i,o,some c⟩)) 1=some (.pointer (some ⟨i,o+1,some c⟩)):=by
 unfold au;rw[Tryz.underlying26];simp[xW]
theorem of2 (i o c:Nat):au Tryz.prog 26 (.pointer (some ⟨i,o,some c⟩)) 2=some (.pointer (some ⟨i,o+2,some c⟩)):=by
 unfold au;rw[Tryz.underlying26];simp[fT]
theorem of3 (i o c:Nat):au Tryz.prog 26 (.pointer (some ⟨i,o,some c⟩)) 3=some (.pointer (some ⟨i,o+3,some c⟩)):=by
 unfold au;rw[Tryz.underlying26];simp[DL]
theorem of4 (i o c:Nat):au Tryz.prog 26 (.pointer (some ⟨i,o,some c⟩)) 4=some (.pointer (some ⟨i,o+4,some c⟩)):=by
 unfold au;rw[Tryz.underlying26];simp[DM]
theorem bO3 (k n:Int){b:Value}(hb:b.cells.toList=[b]):cC Tryz.prog 26 [(0,.int .i64 k),(1,.int .i64 n),(2,b)]=some (.agg #[.int .i64 k,.int .i64 n,b,.slice none 0 0,.slice none 0 0]):=by
 unfold cC;rw[Tryz.underlying26]
 have hz:bV Tryz.prog 26=some (.agg #[.int .i64 0,.int .i64 0,.slice none 0 0,.slice none 0 0,.slice none 0 0]):=by kernel_rfl
 rw[hz]
 have ci:∀k n,(Value.int k n).cells= #[.int k n]:=fun _ _=>rfl
 simp[bA,xW,fT,DL,DM,bN,gQ,fG,placeOf,bS,setAt,ci,hb]
theorem bE (a:List UInt8){cs:List Value}(hc:cs.length=5):cC Tryz.prog 63 [(0,.string ⟨a.toArray⟩),(1,.agg cs.toArray)]=some (.agg (.string ⟨a.toArray⟩::cs).toArray):=by
 unfold cC;rw[Tryz.underlying63]
 have hz:bV Tryz.prog 63=some (.agg #[.string ⟨#[]⟩,.int .i64 0,.int .i64 0,.slice none 0 0,.slice none 0 0,.slice none 0 0]):=by kernel_rfl
 rw[hz]
 have ji:∀b,(Value.string b).cells= #[.string b]:=fun _=>rfl
 match cs,hc with
 |[a,b,c,d,e],_=>simp[Wv,iL,bN,gQ,fG,placeOf,bS,setAt,ji]
def lK (s:aq)(o:O)(v:Value)(s' :aq):Prop:=∃cs,v= .agg cs.toArray/\dy (fun j=>s.next<=j) s' cs o/\ar s.next s s'
end Go.Proofs.YtdfjfncifneocaaGreat
namespace Go.Cl
inductive Wx:O->O->Prop
 |mk {k n n' :Int} {b b' :List UInt8} {l l' :List O} {d d' :List (List UInt8×O)} (hn:(k=1\/k=2\/k=3\/k=9)->n=n') (hb:(k=4\/k=5\/k=8)->b=b')
  (hl:k=6->l.length=l'.length) (hL:k=6->∀i (h:i<l.length) (h' :i<l'.length),Wx l[i] l'[i])
  (hd:(k=7\/k=8)->d.length=d'.length) (hK:(k=7\/k=8)->∀i (h:i<d.length) (h' :i<d'.length),d[i].1=d'[i].1) (hD:(k=7\/k=8)->∀i (h:i<d.length) (h' :i<d'.length),Wx d[i].2 d'[i].2):Wx (.mk k n b l d) (.mk k n' b' l' d')
theorem Te {p:Nat->Prop}{i:Nat}(h:∀j,j<i->p j)(hi:p i):∀j,j<i+1->p j:=by
 intro j hj
 rcases Nat.lt_succ_iff_lt_or_eq.mp hj with h1|h1
 ·exact h j h1
 ·rw[h1];exact hi
theorem ax.uj {P:Program}{e:TypeId}{n:Nat}(ow:bX P e=some true)(cf:aX P e=some n){s:aq}{i:Nat}{cs:List Value}(h:ax s i cs){off c:Nat}(hc:c=cs.length+1)(ho:off+n<=cs.length):
  aJ P s e (.pointer (some ⟨i,off,some c⟩))=some (.agg ((cs.drop off).take n).toArray):=by
 obtain⟨low,z,h1,h2⟩:=h.dZ
 subst hc
 unfold aJ
 simp only[ow,cf]
 rw[gF h1 h2 (Nat.le_refl _) (by omega)]
end Go.Cl
namespace Go.Cl
def ace (b:List UInt8):Prop:=b.length<=127/\∀i (h:i<b.length),b[i].toNat≠0
def ahB (x y:List UInt8):Prop:=¬(Op.bytesLess y x||y==x)=true
inductive ad0:Int->O->Prop
 |mk {p k n:Int} {b:List UInt8} {l:List O} {d:List (List UInt8×O)} (h1:l≠[]->k=6) (h2:d≠[]->k=7\/k=8) (h3:b≠[]->k=4\/k=5\/k=8) (hk:0<=k/\k<=9)
  (n1:k=1->n=0\/n=1) (n2:k=2-> -2147483647<=n/\n<=2147483647) (n3:k=3-> -214748364799999<=n/\n<=214748364799999) (n9:k=9->1<=n/\n<=8388607) (n0:k≠1->k≠2->k≠3->k≠9->n=0)
  (b4:k=4->b.length<=32767) (b5:k=5->ace b) (p6:k=6->1<=p) (l6:k=6->∀i (h:i<l.length),l[i].kind≠8) (m6:k=6->∀i (h:i<l.length),ad0 (p-1) l[i])
  (p7:k=7\/k=8->1<=p) (b7:k=7\/k=8->b.length<=16777216) (e7:k=7\/k=8->∀i (h:i<d.length),ace d[i].1/\d[i].2.kind≠8/\d[i].2.kind≠0) (m7:k=7\/k=8->∀i (h:i<d.length),ad0 (p-1) d[i].2)
  (r7:k=7\/k=8->∀i (h:i+1<d.length),ahB d[i].1 d[i+1].1):ad0 p (.mk k n b l d)
section
variable {p k n:Int} {b:List UInt8} {l:List O} {d:List (List UInt8×O)} (g1:l≠[]->k=6) (g2:d≠[]->k=7\/k=8) (g3:b≠[]->k=4\/k=5\/k=8)
include g1 g2 g3
omit g1 g2 g3 in
omit g1 g2 g3 in
end
section
variable {P:Program} {t:TypeId}
end
end Go.Cl
namespace Go.Cl
open Go.Lib
abbrev mR (a b:List UInt8):Bool:=Op.bytesLess a b
theorem AE:∀(a b:List UInt8),(mR a b||a==b)= !(mR b a)
 |[],[]=>rfl
 |[],_::_=>rfl
 |_::_,[]=>rfl
 |x::a,y::b=>by
  have ih:=AE a b
  simp only[mR] at ih|-
  simp only[Op.bytesLess,List.cons_beq_cons]
  by_cases h:x=y
  ·subst h
   have hx:¬x<x:=UInt8.lt_irrefl x
   simp only[decide_eq_false hx,Bool.false_or,beq_self_eq_true,Bool.true_and]
   exact ih
  ·have h1:(x==y)=false:=by simpa using h
   have h2:(y==x)=false:=by simpa using Ne.symm h
   simp only[h1,h2,Bool.false_and,Bool.or_false]
   by_cases hl:x<y
   ·have:¬y<x:=UInt8.not_lt.2 (UInt8.le_of_lt hl)
    simp[hl,this]
   ·have:y<x:=UInt8.lt_of_le_of_ne (UInt8.not_lt.1 hl) (Ne.symm h)
    simp[hl,this]
theorem mH:∀(a b:List UInt8),0<=compareBytes a b↔mR a b=false
 |[],[]=>by simp[compareBytes,mR,Op.bytesLess]
 |[],_::_=>by simp[compareBytes,mR,Op.bytesLess]
 |_::_,[]=>by simp[compareBytes,mR,Op.bytesLess]
 |x::a,y::b=>by
  have ih:=mH a b
  simp only[mR] at ih|-
  unfold compareBytes
  simp only[Op.bytesLess]
  by_cases h1:x<y
  ·simp[h1]
  ·rw[if_neg h1]
   by_cases h2:y<x
   ·have cH:(x==y)=false:=by
     have:x≠y:=fun e=>by subst e;exact UInt8.lt_irrefl x h2
     simpa using this
    rw[if_pos h2];simp[h1,cH]
   ·rw[if_neg h2]
    have:x=y:=UInt8.le_antisymm (UInt8.not_lt.1 h2) (UInt8.not_lt.1 h1)
    subst this
    simp only[decide_eq_false h1,Bool.false_or,beq_self_eq_true,Bool.true_and]
    exact ih
theorem mI:∀(a b:List UInt8),compareBytes a b=0↔a=b
 |[],[]=>by simp[compareBytes]
 |[],_::_=>by simp[compareBytes]
 |_::_,[]=>by simp[compareBytes]
 |x::a,y::b=>by
  have ih:=mI a b
  unfold compareBytes
  by_cases h1:x<y
  ·have:x≠y:=fun e=>by subst e;exact UInt8.lt_irrefl x h1
   simp[h1,this]
  ·rw[if_neg h1]
   by_cases h2:y<x
   ·have:x≠y:=fun e=>by subst e;exact UInt8.lt_irrefl x h2
    simp[h2,this]
   ·rw[if_neg h2,ih]
    have:x=y:=UInt8.le_antisymm (UInt8.not_lt.1 h2) (UInt8.not_lt.1 h1)
    subst this
    simp
def Ka (d:List (List UInt8×O))(k:List UInt8):Nat:=d.findIdx (fun y=> !(mR y.1 k))
def others (k:List UInt8)(d:List (List UInt8×O)):List (List UInt8×O):=d.filter (fun y=> !(y.1==k))
def iW (d:List (List UInt8×O))(e:List UInt8×O):List (List UInt8×O):=
 others e.1 (d.take (Ka d e.1))++(if e.2.kind=0 then [] else [e])++others e.1 (d.drop (Ka d e.1))
def cV (d l:List (List UInt8×O)):List (List UInt8×O):=l.foldl iW d
end Go.Cl
namespace Go.Cl
def dn (p:Nat->Bool):Nat->Nat
 |0=>0
 |j+1=>dn p j+(if p j then 0 else 1)
def jg (l:List Value)(z:Nat)(p:Nat->Bool):Nat->List Value
 |0=>[]
 |j+1=>jg l z p j++(if p j then [] else(l.drop (j*z)).take z)
theorem tF (p:Nat->Bool):∀j,dn p j<=j
 |0=>Nat.le_refl _
 |j+1=>by have:=tF p j;unfold dn;split<;>omega
theorem uk {l:List Value}{z n:Nat}(p:Nat->Bool)(hl:l.length=n*z):∀j,j<=n->(jg l z p j).length=dn p j*z
 |0,_=>by simp[jg,dn]
 |j+1,h=>by
  have ih:=uk p hl j (by omega)
  have hz:(j+1)*z<=n*z:=Nat.mul_le_mul_right z h
  rw[Nat.succ_mul] at hz
  unfold jg dn
  split
  ·simp[ih]
  ·rw[List.length_append,ih,List.length_take,List.length_drop,Nat.add_mul,Nat.one_mul];omega
theorem DN {l:List Value}{z:Nat}{p:Nat->Bool}:∀k,(∀i,i<k->p i=false)->dn p k=k/\jg l z p k=l.take (k*z)
 |0,_=>by simp[jg,dn]
 |k+1,h=>by
  obtain⟨h1,h2⟩:=DN (l:=l) (z:=z) k (fun i hi=>h i (by omega))
  have h3:=h k (by omega)
  unfold jg dn
  rw[h1,h2,h3]
  refine⟨rfl,?_⟩
  rw[Nat.succ_mul,List.take_add];rfl
theorem Tf {l L:List Value}{z n j:Nat}{p:Nat->Bool}(hL:L.length=n*z)(hl:l.length=n*z)(hj:j<n)(h1:L.take (dn p j*z)=jg l z p j)(h2:L.drop (j*z)=l.drop (j*z))(hp:p j=false):
  (over L (dn p j*z) ((l.drop (j*z)).take z)).take (dn p (j+1)*z)=jg l z p (j+1)/\(over L (dn p j*z) ((l.drop (j*z)).take z)).drop ((j+1)*z)=l.drop ((j+1)*z):=by
 have hz:(j+1)*z<=n*z:=Nat.mul_le_mul_right z hj
 have hk:dn p j*z<=j*z:=Nat.mul_le_mul_right z (tF p j)
 have hr:((l.drop (j*z)).take z).length=z:=by rw[Nat.succ_mul] at hz;rw[List.length_take,List.length_drop];omega
 rw[Nat.succ_mul] at hz
 have UC:=uk p hl j (by omega)
 unfold over
 rw[h1,hr]
 have e1:dn p (j+1)*z=dn p j*z+z:=by simp[dn,hp,Nat.succ_mul]
 constructor
 ·rw[e1,List.take_append_of_le_length (by rw[List.length_append,UC,hr];omega),List.take_of_length_le (by rw[List.length_append,UC,hr];omega)]
  simp[jg,hp]
 ·have e2:L.drop ((j+1)*z)=l.drop ((j+1)*z):=by
   have:=congrArg (List.drop z) h2
   rwa [List.drop_drop,List.drop_drop,<-Nat.succ_mul] at this
  have hlen:(jg l z p j++(l.drop (j*z)).take z).length=dn p j*z+z:=by rw[List.length_append,UC,hr]
  rw[List.drop_append,List.drop_eq_nil_of_le (by rw[hlen,Nat.succ_mul];omega),List.nil_append,hlen,List.drop_drop,<-e2]
  congr 1
  rw[Nat.succ_mul];omega
theorem Hw {l L:List Value}{z j:Nat}{p:Nat->Bool}(h1:L.take (dn p j*z)=jg l z p j)(h2:L.drop (j*z)=l.drop (j*z))(hp:p j=true):L.take (dn p (j+1)*z)=jg l z p (j+1)/\L.drop ((j+1)*z)=l.drop ((j+1)*z):=by
 constructor
 ·simp[dn,jg,hp,h1]
 ·have:=congrArg (List.drop z) h2
  rwa [List.drop_drop,List.drop_drop,<-Nat.succ_mul] at this
end Go.Cl
namespace Go.Cl
section
variable {α:Type} {Q:(Nat->Prop)->aq->List Value->α->Prop} {z:Nat} {F:Nat->Prop} {s:aq} {D E:List α} {l m:List Value}
def AF (D:List α)(p:Nat->Bool):Nat->List α
 |0=>[]
 |j+1=>AF D p j++(if p j then [] else D[j]?.toList)
theorem aU.ad1 (h:aU Q z F s D l){i:Nat}(hi:i<D.length):((l.drop (i*z)).take z).length=z:=by
 have e:=h.len
 have:(i+1)*z<=D.length*z:=Nat.mul_le_mul_right z hi
 rw[Nat.succ_mul] at this
 rw[List.length_take,List.length_drop];omega
theorem aU.kept (h:aU Q z F s D l)(p:Nat->Bool):∀j,j<=D.length->aU Q z F s (AF D p j) (jg l z p j)
 |0,_=>aU.nil
 |j+1,hj=>by
  have ih:=h.kept p j (by omega)
  unfold AF jg
  split
  ·simpa using ih
  ·rw[List.getElem?_eq_getElem (by omega)]
   exact ih.snoc (h.ad1 (by omega)) (h.row j (by omega))
theorem aU.take (h:aU Q z F s D l)(k:Nat)(hk:k<=D.length):aU Q z F s (D.take k) (l.take (k*z)):=by
 have hz:k*z<=D.length*z:=Nat.mul_le_mul_right z hk
 have e:=h.len
 refine⟨by rw[List.length_take,List.length_take,Nat.min_eq_left hk];omega,fun i hi=> ?_⟩
 have wB:i<k:=by rw[List.length_take] at hi;omega
 have Uw:(i+1)*z<=k*z:=Nat.mul_le_mul_right z wB
 rw[Nat.succ_mul] at Uw
 have:=h.row i (by omega)
 rw[List.getElem_take,List.drop_take,List.take_take,Nat.min_eq_left (by omega)]
 exact this
theorem aU.drop (h:aU Q z F s D l)(k:Nat)(hk:k<=D.length):aU Q z F s (D.drop k) (l.drop (k*z)):=by
 have e:=h.len
 refine⟨by rw[List.length_drop,List.length_drop,e,Nat.sub_mul],fun i hi=> ?_⟩
 have wB:k+i<D.length:=by rw[List.length_drop] at hi;omega
 have:=h.row (k+i) wB
 rw[List.getElem_drop,List.drop_drop,<-Nat.add_mul]
 exact this
theorem aU.append (h:aU Q z F s D l)(k:aU Q z F s E m):aU Q z F s (D++E) (l++m):=by
 have e:=h.len
 refine⟨by rw[List.length_append,List.length_append,e,k.len,Nat.add_mul],fun i hi=> ?_⟩
 by_cases bd:i<D.length
 ·have hz:(i+1)*z<=D.length*z:=Nat.mul_le_mul_right z bd
  rw[Nat.succ_mul] at hz
  rw[List.getElem_append_left bd,List.drop_append_of_le_length (by omega),List.take_append_of_le_length (by rw[List.length_drop];omega)]
  exact h.row i bd
 ·have wB:i-D.length<E.length:=by rw[List.length_append] at hi;omega
  have hz:D.length*z<=i*z:=Nat.mul_le_mul_right z (by omega)
  rw[List.getElem_append_right (by omega),List.drop_append,List.drop_eq_nil_of_le (by omega),List.nil_append,e,<-Nat.sub_mul]
  exact k.row _ wB
theorem xX {p:Nat->Bool}{q:α->Bool}:∀j,j<=D.length->(∀i (h:i<D.length),p i=q D[i])->AF D p j=(D.take j).filter (fun y=> !(q y))
 |0,_,_=>by simp[AF]
 |j+1,hj,h=>by
  have bd:j<D.length:=by omega
  have ih:=xX (p:=p) (q:=q) j (by omega) h
  unfold AF
  rw[ih,h j bd,List.take_add_one,List.getElem?_eq_getElem bd,List.filter_append]
  cases hq:q D[j]<;>simp[hq]
end
end Go.Cl
namespace Go.Cl
open Go.Lib
def onE (D:List (List UInt8×O))(q:List UInt8×O->Bool)(i:Nat):Bool:=match D[i]? with
 |some y=>q y
 |none=>false
theorem zp {D:List (List UInt8×O)}{q:List UInt8×O->Bool}{i:Nat}(h:i<D.length):onE D q i=q D[i]:=by
 unfold onE;rw[List.getElem?_eq_getElem h]
theorem Wy (D:List (List UInt8×O))(k:List UInt8):Ka D k<=D.length:=List.findIdx_le_length
theorem Wz {D:List (List UInt8×O)}{k:List UInt8}(h:∀i,i<D.length->onE D (fun y=> !(mR y.1 k)) i=false):Ka D k=D.length:=by
 unfold Ka
 rw[List.findIdx_eq_length]
 intro y hy
 obtain⟨i,hi,rfl⟩:=List.mem_iff_getElem.1 hy
 have:=h i hi
 rwa [zp hi] at this
theorem WA {D:List (List UInt8×O)}{k:List UInt8}{r:Nat}(hr:r<D.length)(h1:onE D (fun y=> !(mR y.1 k)) r=true)(h:∀i,i<r->onE D (fun y=> !(mR y.1 k)) i=false):Ka D k=r:=by
 unfold Ka
 rw[List.findIdx_eq hr]
 refine⟨by rwa [zp hr] at h1,fun j hj=> ?_⟩
 have:=h j hj
 rwa [zp (by omega)] at this
theorem LI {D:List (List UInt8×O)}{k:List UInt8}{i:Nat}(hi:i<Ka D k)(h:i<D.length):mR D[i].1 k=true:=by
 have:=List.not_of_lt_findIdx hi
 simpa using this
theorem xY (a:List UInt8):mR a a=false:=by
 have:=AE a a
 simp at this;exact this
theorem Ji (D:List (List UInt8×O))(k:List UInt8):others k (D.take (Ka D k))=D.take (Ka D k):=by
 unfold others
 rw[List.filter_eq_self]
 intro y hy
 obtain⟨i,hi,rfl⟩:=List.mem_iff_getElem.1 hy
 rw[List.length_take] at hi
 rw[List.getElem_take]
 have h1:=LI (D:=D) (k:=k) (i:=i) (by omega) (by omega)
 by_cases e:D[i].1=k
 ·rw[e,xY] at h1;cases h1
 ·simpa using e
end Go.Cl
namespace Go.Cl
def OK (D:List (List UInt8×O))(e:List UInt8×O)(uz:Bool):List (List UInt8×O):=others e.1 (D.take (Ka D e.1))++(if uz then [e] else [])++others e.1 (D.drop (Ka D e.1))
theorem aak (D:List (List UInt8×O))(e:List UInt8×O):iW D e=OK D e (decide (e.2.kind≠0)):=by
 unfold iW OK
 by_cases h:e.2.kind=0<;>simp[h]
def O.has (o:O):Bool:=decide (o.kind=7)||decide (o.kind=8)
def O.ahC:O->List (List UInt8×O)->O
 | .mk k n b l _,d=> .mk k n b l d
def Tg (o:O)(L:List (List UInt8×O)):O:=if o.has then o.ahC (cV o.xO L) else o
theorem DO {k:List UInt8}{d:List (List UInt8×O)}{y:List UInt8×O}(h:y∈others k d):y∈d:=(List.mem_filter.1 h).1
theorem WB {D:List (List UInt8×O)}{e y:List UInt8×O}(h:y∈iW D e):y∈D\/y=e:=by
 unfold iW at h
 rw[List.mem_append,List.mem_append] at h
 rcases h with (h|h)|h
 ·exact .inl (List.mem_of_mem_take (DO h))
 ·split at h
  ·cases h
  ·exact .inr (by simpa using h)
 ·exact .inl (List.mem_of_mem_drop (DO h))
theorem DP (k:List UInt8)(d:List (List UInt8×O)):(others k d).length<=d.length:=List.length_filter_le _ _
theorem WC (D:List (List UInt8×O))(e:List UInt8×O):(iW D e).length<=D.length+1:=by
 unfold iW
 have h1:=DP e.1 (D.take (Ka D e.1))
 have h2:=DP e.1 (D.drop (Ka D e.1))
 have h3:=Wy D e.1
 rw[List.length_take] at h1
 rw[List.length_drop] at h2
 rw[List.length_append,List.length_append]
 split<;>simp<;>omega
theorem LJ (d l:List (List UInt8×O))(e:List UInt8×O):cV d (l++[e])=iW (cV d l) e:=by
 unfold cV;rw[List.foldl_append];rfl
theorem LK {d l:List (List UInt8×O)}{i:Nat}(h:i<l.length):cV d (l.take (i+1))=iW (cV d (l.take i)) l[i]:=by
 rw[List.take_add_one,List.getElem?_eq_getElem h];exact LJ _ _ _
theorem DQ (d:List (List UInt8×O)):∀l:List (List UInt8×O),(cV d l).length<=d.length+l.length:=by
 intro l
 induction l generalizing d with
 |nil=>exact Nat.le_refl _
 |cons e l ih=>
  have h1:=ih (iW d e)
  have h2:=WC d e
  have h3:cV d (e::l)=cV (iW d e) l:=rfl
  rw[h3,List.length_cons];omega
theorem OL {y:List UInt8×O}:∀(l d:List (List UInt8×O)),y∈cV d l->y∈d\/y∈l:=by
 intro l
 induction l with
 |nil=>intro d h;exact .inl h
 |cons e l ih=>
  intro d h
  rcases ih (iW d e) h with h|h
  ·rcases WB h with h|h
   ·exact .inl h
   ·rw[h];exact .inr (List.mem_cons_self ..)
  ·exact .inr (List.mem_cons_of_mem _ h)
end Go.Cl
namespace Go.Proofs.YtdfjfncifneocaaGreat
open Go.Cl
theorem Hy {lib:aA}(hl:lib.at 36=none)(s:aq)(x:Value)(l:List UInt8)(hx:aN s 1 x l.length (ofBytes l))(hlen:l.length<=140737488355328):
  Runs Tryz.prog lib 36 [x] s fun v s' =>cM s v s' l:=by
 refine Runs.enter 8 Tryz.func36 rfl hl rfl rfl ?_
 intro f hn hf
 have h0:f.get 0=x:=hf 0
 clear hf
 simp only[aj,QS,Qx,↓reduceIte,hn,h0,hx.oP Tryz.underlying22]
 refine iN (fun h=> ?_) (fun h=> ?_)
 ·obtain⟨h1,_,_⟩:=hx.isNil h
  have:l=[]:=List.eq_nil_of_length_eq_zero h1
  subst this
  simp only[aj,al,oneOf,QS,↓reduceIte,hn,Tryz.results36]
  exact⟨.nil,aF.nil _,ar.refl _ _⟩
 ·simp only[aj,ae,y9 Tryz.underlying22 bK ks rfl rfl]
  refine aQ (by rfl) ?_
  intro b s1 hb hF aE
  simp only[aj,aa,QS,Qx,↓reduceIte,hn,h0]
  refine bY Tryz.underlying22 Tryz.underlying22 (.inl ⟨_,rfl⟩) bK jW ks rfl hb (hx.keeps aE).src (by simp[bM]) (by decide) (dh _) (by omega) (by omega) hF aE.next ?_
  intro b' s2 pL ze dO _ _
  simp only[aj,al,oneOf,QS,↓reduceIte,hn,Tryz.results36]
  exact⟨by simpa using pL,ze,aE.trans dO⟩
end Go.Proofs.YtdfjfncifneocaaGreat
namespace Go.Proofs.YtdfjfncifneocaaGreat
open Go.Cl
theorem WD (i o c:Nat):au Tryz.prog 63 (.pointer (some ⟨i,o,some c⟩)) 0=some (.pointer (some ⟨i,o+0,some c⟩)):=by
 unfold au;rw[Tryz.underlying63];simp[Wv]
theorem aal (i o c:Nat):au Tryz.prog 63 (.pointer (some ⟨i,o,some c⟩)) 1=some (.pointer (some ⟨i,o+1,some c⟩)):=by
 unfold au;rw[Tryz.underlying63];simp[iL]
def Else (base:Nat)(a b c:Value)(j:Nat):Prop:=base<=j/\aI a≠some j/\aI b≠some j/\aI c≠some j
def Q0 (s:aq)(o:O)(v:Value)(s' :aq):Prop:=∃(bv lv dv:Value) (LC DC:List Value),v= .agg #[.int .i64 o.kind,.int .i64 o.num,bv,lv,dv]/\Own s' 1 bv o.bytes.length (ofBytes o.bytes)/\Own s' 5 lv o.items.length LC/\Own s' 6 dv o.xO.length DC/\aF s.next bv/\aF s.next lv/\aF s.next dv/\
 (∀j,aI bv=some j->aI lv≠some j)/\(∀j,aI bv=some j->aI dv≠some j)/\(∀j,aI lv=some j->aI dv≠some j)/\aU dy 5 (Else s.next bv lv dv) s' o.items LC/\aU dz 6 (Else s.next bv lv dv) s' o.xO DC/\ar s.next s s'
theorem Q0.is {s s' :aq}{o:O}{v:Value}(h:Q0 s o v s'):lK s o v s' :=by
 obtain⟨bv,lv,dv,LC,DC,rfl,h1,h2,h3,f1,f2,f3,-,-,-,r1,r2,hs⟩:=h
 cases o with
 |mk k n b l d=>exact⟨[.int .i64 k,.int .i64 n,bv,lv,dv],rfl,dy.whole h1.aG h2.aG h3.aG (gu.fresh f1) (gu.fresh f2) (gu.fresh f3) (r1.mono cK fun j h=>h.1) (r2.mono fa fun j h=>h.1),hs⟩
set_option maxHeartbeats 8000000 in
theorem ahD {lib:aA}(hl:lib.at 98=none)(jn:lib.at 36=none):∀(N:Nat) (o:O),SizeOf.sizeOf o<=N->∀(F:Nat->Prop) (s:aq) (cs:List Value),dy F s cs o->Fit o->
  Runs Tryz.prog lib 98 [.agg cs.toArray] s (Q0 s o):=by
 intro N
 induction N with
 |zero=>intro o h;cases o;simp at h
 |succ N ih=>
 intro o hN F s cs ho nM
 cases o with
 |mk kind num b l d=>
 obtain⟨bv,lv,dv,lc,dc,rfl,hb,hL,hD,fb,fl,fd,rl,rd⟩:=ho.parts
 cases nM with
 |mk gL g7 uR hK1 hL1 hD1=>
 refine Runs.enter 51 Tryz.func98 rfl hl rfl rfl ?_
 intro f hn hf
 have h0:f.get 0= .agg #[.int .i64 kind,.int .i64 num,bv,lv,dv]:=hf 0
 clear hf
 simp only[aj,QS,↓reduceIte,hn,h0]
 refine aw ?_
 intro s1 eK bn iV
 have mh:de.length+1=6:=rfl
 simp only[aj,QS,Nat.reduceAdd,↓reduceIte,hn,List.length_cons,List.length_nil,zO,wD]
 refine aw ?_
 intro s2 dD aR m8
 have vV:=eK.keeps aR
 have cR:ar s.next s s2:=bn.trans (aR.weaken (by omega))
 have dI:=hb.keeps cR
 simp only[aj,QS,↓reduceIte,hn,mh]
 obtain⟨A,hA⟩:∃A:Nat->Bool,A=fun j=>decide (j<s2.next):=⟨_,rfl⟩
 have iU:∀j,A j=true->j<s2.next:=by
  intro j h
  rw[hA] at h
  exact of_decide_eq_true h
 have vM:∀j,j<s2.next->A j=true:=fun j h=>by rw[hA];exact decide_eq_true h
 refine LB.cX.fi A iU 1 1 (by kernel_rfl) (by kernel_rfl) ?_
 have dC:=ar.spare s2 1
 have UD:(spare s2 1).next=s2.next+1:=bU _ _
 have LL:=vV.keeps dC
 have jw:∀k,LA.ej A (some (.pointer (some ⟨s.next,k,some 6⟩)))=true:=fun k=>LA.cr (A:=A) (i:=s.next) (vM _ vV.lt)
 have l0:aJ Tryz.prog (spare s2 1) 3 (.pointer (some ⟨s.next,0,some 6⟩))=some (.int .i64 kind):=LL.load bu (off:=0) (c:=6) rfl (by simp)
 have l1:aJ Tryz.prog (spare s2 1) 2 (.pointer (some ⟨s.next,1,some 6⟩))=some (.int .i64 num):=LL.load acb (off:=1) (c:=6) rfl (by simp)
 have l2:aJ Tryz.prog (spare s2 1) 22 (.pointer (some ⟨s.next,2,some 6⟩))=some bv:=LL.load fU (off:=2) (c:=6) rfl (by simp)
 simp only[aj,ak,bH,bI,Nat.sub_self,aa,ae,QS,Qx,↓reduceIte,hn,F2,of1,of2,jw,l0,l1,l2,dI.self]
 refine(Hy jn (spare s2 1) bv b (dI.keeps dC) (by omega)).mono ?_
 rintro ny s3 ⟨Nh,Oo,bC⟩
 have mQ:=bC.next
 refine⟨fun _=>LA.ar.yC iU (bC.weaken (by omega)),?_⟩
 have DR:bZ (.agg #[.int .i64 kind,.int .i64 num,ny,.slice none 0 0,.slice none 0 0]) (.agg #[.int .i64 kind,.int .i64 num,ny,.slice none 0 0,.slice none 0 0])=true:=DJ (by simp[cN]) (by simp[cN]) Nh.aG.QZ (by simp[cN]) (by simp[cN])
 simp only[aj,bI,QS,↓reduceIte,hn,bO3 kind num Nh.aG.tk,DR,zO,wD]
 refine LB.kK (by omega) ?_
 intro s4 gv sl oD
 simp only[aj,bI,QS,Qx,↓reduceIte,hn,mh]
 have al5:=Nh.aG.aL
 refine LB.ct iL (by decide) gv rfl rfl rfl (by simp only[List.all_cons,List.all_nil,al5];rfl) (fun h=>absurd rfl h) ?_
 intro s5 wE OM Bi
 have wE:ax s5 s2.next [.int .i64 kind,.int .i64 num,ny,.slice none 0 0,.slice none 0 0]:=wE
 have xZ:ar s2.next s2 s5:=((dC.trans (bC.weaken (by omega))).trans ⟨by omega,fun j hj=>oD j (by omega)⟩).trans ⟨by omega,fun j hj=>Bi j (by omega)⟩
 have Nv:ar s.next s s5:=cR.trans (xZ.weaken (by omega))
 have aam:Own s5 1 ny b.length (ofBytes b):=(Nh.aK sl oD (fun e=>by have:=Oo _ e;omega)).aK OM Bi (fun e=>by have:=Oo _ e;omega)
 have Nu:∀j,aI ny=some j->s2.next+1<=j/\j<s5.next:=fun j hj=>⟨by have:=Oo j hj;omega,aam.iD j hj⟩
 have aan:=vV.keeps xZ
 have ad2:=dD.keeps xZ
 have hL5:=hL.keeps Nv
 have l6:aJ Tryz.prog s5 23 (.pointer (some ⟨s.next,3,some 6⟩))=some lv:=aan.load Ww (off:=3) (c:=6) rfl (by simp)
 simp only[aj,bI,Nat.reduceSub,aa,QS,Qx,↓reduceIte,hn,of3,l6,hL5.bm Tryz.underlying23]
 obtain⟨FF,UE⟩:∃FF:Value->Nat->Prop,FF=fun v j=>s5.next<=j/\¬(fun _=>False) j/\aI v≠some j:=⟨_,rfl⟩
 have g9:=aR.next
 have arJ:=xZ.next
 have aps:s2.next<s5.next:=wE.lt
 refine Comes.bQ (fun z f s6=>∃(i:Nat) (y:Value) (LC:List Value),z=l.length-i/\i<=l.length/\Own s6 5 y i LC/\aU dy 5 (FF y) s6 (l.take i) LC/\aF s5.next y/\Own s6 1 ny b.length (ofBytes b)/\ax s6 s.next [.int .i64 kind,.int .i64 num,bv,lv,dv]/\ax s6 s1.next de/\ax s6 s2.next [.int .i64 kind,.int .i64 num,ny,y,.slice none 0 0]/\ar s.next s s6/\s5.next<=s6.next/\f.n=51/\f.get 1= .pointer (some ⟨s.next,0,some 6⟩)/\f.get 2= .pointer (some ⟨s1.next,0,some 6⟩)/\f.get 3= .pointer (some ⟨s2.next,0,some 6⟩)/\f.get 17=lv/\f.get 18= .int .i64 (l.length:Nat)/\f.get 19= .int .i64 (i:Nat))
  (fun z f s6=>z= .exit 0/\∃(y:Value) (LC:List Value),Own s6 5 y l.length LC/\aU dy 5 (FF y) s6 l LC/\aF s5.next y/\Own s6 1 ny b.length (ofBytes b)/\ax s6 s.next [.int .i64 kind,.int .i64 num,bv,lv,dv]/\ax s6 s1.next de/\ax s6 s2.next [.int .i64 kind,.int .i64 num,ny,y,.slice none 0 0]/\ar s.next s s6/\s5.next<=s6.next/\f.n=51/\f.get 1= .pointer (some ⟨s.next,0,some 6⟩)/\f.get 2= .pointer (some ⟨s1.next,0,some 6⟩)/\f.get 3= .pointer (some ⟨s2.next,0,some 6⟩))
  ⟨0,.slice none 0 0,[],rfl,by omega,.nil,by rw[List.take_zero];exact aU.nil,aF.nil _,aam,aan,ad2,wE,Nv,Nat.le_refl _,by simp only[ad,ag,↓reduceIte,Qx,hn,true_and];rfl⟩ ?_ ?_
 ·clear hn h0 f DR gv wE oD Bi Nh aam aan ad2 l0 l1 l2 l6 jw LL iU vM hA A
  rintro Q hQ z f s6 ⟨i,y,LC,rfl,hi,hy,hR,kN,zq,LM,ri,kZ,dY,YU,hn,h1,h2,h3,Be,zh,LN⟩
  have WE:=hL.keeps dY
  by_cases bd:i<l.length
  rotate_left
  ·obtain rfl:i=l.length:=by omega
   rw[List.take_length] at hR
   have d1:¬((l.length:Nat):Int)<((l.length:Nat):Int):=by omega
   simp only[aj,QS,↓reduceIte,hn,zh,LN,eq_false d1]
   exact hQ _ _ _ ⟨rfl,y,LC,hy,hR,kN,zq,LM,ri,kZ,dY,YU,by simp only[ad,ag,↓reduceIte,Qx,hn,h1,h2,h3,and_self]⟩
  have wQ:aI y≠some s2.next:=fun e=>by have:=kN _ e;omega
  have d1:(i:Int)<(l.length:Int):=by omega
  have gB:=WE.indexAddr (P:=Tryz.prog) (k:= .i64) (x:=(i:Int)) Tryz.underlying23 iL (by omega) (by omega)
  rw[Int.toNat_natCast] at gB
  have fz:=WE.fJ (P:=Tryz.prog) Hv iL bd
  have vW:=(rl.row i bd).keeps dY
  obtain⟨xs,wA⟩:∃xs,xs=(lc.drop (i*5)).take 5:=⟨_,rfl⟩
  rw[<-wA] at fz vW
  have uM:=vW.len
  simp only[aj,QS,Qx,↓reduceIte,hn,Be,zh,LN,eq_true d1,gB,fz,zO,wD]
  refine aw ?_
  intro s7 uD jX rp
  simp only[aj,QS,Qx,↓reduceIte,hn,mh]
  refine aB iL (by decide) uD rfl rfl uM vW.ok ?_
  intro s8 vd WG Jj
  have vd:ax s8 s6.next xs:=vd
  have iY:ar s6.next s6 s8:=jX.trans ⟨by omega,fun j hj=>Jj j (by omega)⟩
  have LM:=LM.keeps iY
  have ri:=ri.keeps iY
  have kZ:=kZ.keeps iY
  have hy:=hy.keeps iY
  have hR:=hR.keeps cK iY
  have zq:=zq.keeps iY
  have vW:=vW.keeps iY
  simp only[aj]
  obtain⟨A,hA⟩:∃A:Nat->Bool,A=fun j=>decide (j<s8.next):=⟨_,rfl⟩
  have iU:∀j,A j=true->j<s8.next:=by
   intro j h
   rw[hA] at h
   exact of_decide_eq_true h
  have vM:∀j,j<s8.next->A j=true:=fun j h=>by rw[hA];exact decide_eq_true h
  refine LB.cX.fi A iU 1 1 (by kernel_rfl) (by kernel_rfl) ?_
  have dC:=ar.spare s8 1
  have UD:(spare s8 1).next=s8.next+1:=bU _ _
  have AG:∀k,LA.ej A (some (.pointer (some ⟨s2.next,k,some 6⟩)))=true:=fun k=>LA.cr (A:=A) (i:=s2.next) (vM _ kZ.lt)
  have Hz:∀k,LA.ej A (some (.pointer (some ⟨s6.next,k,some 6⟩)))=true:=fun k=>LA.cr (A:=A) (i:=s6.next) (vM _ vd.lt)
  have l8:aJ Tryz.prog (spare s8 1) 23 (.pointer (some ⟨s2.next,3,some 6⟩))=some y:=(kZ.keeps dC).load Ww (off:=3) (c:=6) rfl (by simp)
  have l9:aJ Tryz.prog (spare s8 1) 26 (.pointer (some ⟨s6.next,0,some 6⟩))=some (.agg xs.toArray):=ax.bF Hv (by rw[uM];exact iL) (vd.keeps dC) (by rw[uM])
  have vW:=vW.keeps dC
  simp only[aj,ak,bH,bI,Nat.sub_self,aa,ae,QS,Qx,↓reduceIte,hn,h3,of3,AG,Hz,l8,l9,hy.self,vW.self]
  refine(ih l[i] (by have:=O.Ws (k:=kind) (n:=num) (b:=b) (l:=l) (d:=d) (List.getElem_mem bd);omega) F (spare s8 1) _ vW (hL1 _ (List.getElem_mem bd))).mono ?_
  intro v9 s9 h9
  obtain⟨WH,rfl,Bj,rq⟩:=h9.is
  have hn9:=rq.next
  refine⟨fun _=>LA.ar.yC iU (rq.weaken (by omega)),?_⟩
  have zt:=Bj.len
  simp only[gi (cs:=WH.toArray) Tryz.underlying23 iL zO wD rfl zt (by decide)]
  refine LB.cZ (base:=s8.next) zt (by omega) (Nat.le_refl _) ?_
  intro bs sa oA gz ON Th WI
  have ie:ar s8.next s8 sa:=(dC.trans (rq.weaken (by omega))).trans ON
  have N1:=ie.next
  have YV:dy (FF y) sa WH l[i]:=by
   refine(Bj.turns (u:= .pointer (some ⟨s8.next,0,none⟩)) (bt.aK Th WI) (fun j hj e=> ?_)).mono (fun j hj=> ?_)
   ·have e:some s8.next=some j:=e
    injection e with e;omega
   ·rw[UE];exact⟨by omega,fun h=>h,fun e=>by have:=hy.iD _ e;omega⟩
  simp only[aj,bI,aa,QS,Qx,↓reduceIte,hn]
  refine LB.iT Tryz.underlying23 Tryz.underlying23 (.inl ⟨_,rfl⟩) iL byO zO rfl (hy.keeps ie) oA.aG.src zt (by decide) YV.ok (by omega) (by omega) (base:=s5.next) kN (by omega) (fun h=>absurd rfl h) (fun j hj=>by have:=iU j hj;omega) ?_
  intro y' sb YW hFb pF ra
  have Fz:=pF.next
  have hR8:=hR.keeps cK ie
  rw[UE] at hR8 YV
  have hR9:=hR8.grow cK zt YV pF ra
  rw[show(fun j=>s5.next<=j/\¬(fun _=>False) j/\aI y' ≠some j)=FF y' by rw[UE]] at hR9
  have Iv:∀j,aI y=some j->s5.next<=j:=kN
  have ad3:Own sb 1 ny b.length (ofBytes b):=(zq.keeps ie).turns pF (fun j hj e=>by have:=(Nu j hj).2;have:=Iv _ e;omega)
  have ad4:aI y' ≠some s2.next:=fun e=>by have:=hFb _ e;omega
  simp only[aj,bH,bI,Nat.reduceSub,QS,Qx,↓reduceIte,hn,h3,of3]
  refine LB.fj DL (by decide) ((kZ.keeps ie).turns pF wQ) (off:=3) (c:=6) rfl (vs:=[y']) YW.aG.tk rfl (by simp) (by simp[YW.aG.aL]) (fun h=>absurd rfl h) ?_
  intro sc EY x4 tG
  have EY:ax sc s2.next [.int .i64 kind,.int .i64 num,ny,y',.slice none 0 0]:=EY
  have huc:bt (.pointer (some ⟨s2.next,0,none⟩)) sb sc:=bt.aK x4 tG
  have Ti:∀j,FF y' j->aI (.pointer (some ⟨s2.next,0,none⟩))≠some j:=fun j hj e=>by
   have e:some s2.next=some j:=e
   injection e with e
   rw[UE] at hj;have:=hj.1;omega
  simp(disch:=omega)only[aj,bI,Nat.reduceSub,QS,Qx,↓reduceIte,hn,LN,aD]
  refine ay (l.length-(i+1)) (by omega) ⟨i+1,y',LC++WH,rfl,by omega,YW.aK x4 tG ad4,?_,hFb,ad3.aK x4 tG (fun e=>by have:=(Nu _ e).1;omega),((LM.keeps ie).turns pF (fun e=>by have:=Iv _ e;omega)).aK x4 tG (by omega),((ri.keeps ie).turns pF (fun e=>by have:=Iv _ e;omega)).aK x4 tG (by omega),EY,?_,by omega,by simp only[ag,hn],by simp only[ad,↓reduceIte,Qx,h1],by simp only[ad,↓reduceIte,Qx,h2],by simp only[ad,↓reduceIte,Qx,h3],by simp only[ad,↓reduceIte,Qx,Be],by simp only[ad,↓reduceIte,Qx,zh],by simp only[ad,↓reduceIte];rfl⟩
  ·rw[List.take_add_one,List.getElem?_eq_getElem bd]
   exact hR9.turns cK huc Ti
  ·exact(((dY.trans (iY.weaken dY.next)).trans (ie.weaken (by have:=dY.next;have:=iY.next;omega))).trans ((pF.keeps kN (by omega)).weaken Nv.next)).trans ⟨by omega,fun j hj=>tG j (by omega)⟩
 clear hn h0 f DR gv wE oD Bi Nh aam aan ad2 l0 l1 l2 l6 jw LL iU vM hA A
 rintro z f s6 ⟨rfl,y,LC,Nw,hR,kN,zq,LM,ri,kZ,dY,YU,hn,h1,h2,h3⟩
 have hD6:=hD.keeps dY
 have l6:aJ Tryz.prog s6 24 (.pointer (some ⟨s.next,4,some 6⟩))=some dv:=LM.load aaj (off:=4) (c:=6) rfl (by simp)
 simp only[aj,aa,QS,↓reduceIte,hn,h1,of4,l6,hD6.bm Tryz.underlying24]
 have It:∀j,aI y=some j->s5.next<=j/\j<s6.next:=fun j hj=>⟨kN j hj,Nw.iD j hj⟩
 have WJ:=hR.below cK
 obtain⟨FI,hFI⟩:∃FI:Nat->Prop,FI=fun j=>FF y j/\j<s6.next:=⟨_,rfl⟩
 rw[<-hFI] at WJ
 have OO:∀j,FI j->s5.next<=j/\j<s6.next/\aI y≠some j:=fun j hj=>by rw[hFI,UE] at hj;exact⟨hj.1.1,hj.2,hj.1.2.2⟩
 obtain⟨FE,hFE⟩:∃FE:Value->Nat->Prop,FE=fun v j=>s6.next<=j/\¬(fun _=>False) j/\aI v≠some j:=⟨_,rfl⟩
 clear hFI hR l6
 clear UE FF
 refine Comes.bQ (fun z f t6=>∃(i:Nat) (w:Value) (DC:List Value),z=d.length-i/\i<=d.length/\Own t6 6 w i DC/\aU dz 6 (FE w) t6 (d.take i) DC/\aF s6.next w/\Own t6 1 ny b.length (ofBytes b)/\Own t6 5 y l.length LC/\aU dy 5 FI t6 l LC/\ax t6 s1.next de/\ax t6 s2.next [.int .i64 kind,.int .i64 num,ny,y,w]/\ar s.next s t6/\s6.next<=t6.next/\f.n=51/\f.get 2= .pointer (some ⟨s1.next,0,some 6⟩)/\f.get 3= .pointer (some ⟨s2.next,0,some 6⟩)/\f.get 32=dv/\f.get 33= .int .i64 (d.length:Nat)/\f.get 34= .int .i64 (i:Nat))
  (fun z f t6=>z= .exit 2/\∃(w:Value) (DC:List Value),Own t6 6 w d.length DC/\aU dz 6 (FE w) t6 d DC/\aF s6.next w/\Own t6 1 ny b.length (ofBytes b)/\Own t6 5 y l.length LC/\aU dy 5 FI t6 l LC/\ax t6 s1.next de/\ax t6 s2.next [.int .i64 kind,.int .i64 num,ny,y,w]/\ar s.next s t6/\s6.next<=t6.next/\f.n=51/\f.get 2= .pointer (some ⟨s1.next,0,some 6⟩)/\f.get 3= .pointer (some ⟨s2.next,0,some 6⟩))
  ⟨0,.slice none 0 0,[],rfl,by omega,.nil,by rw[List.take_zero];exact aU.nil,aF.nil _,zq,Nw,WJ,ri,kZ,dY,Nat.le_refl _,by simp only[ad,ag,↓reduceIte,Qx,hn,h2,h3,true_and];rfl⟩ ?_ ?_
 ·clear hn h1 h2 h3 f LM ri kZ zq Nw WJ kN
  rintro Q hQ z f t6 ⟨i,w,DC,rfl,hi,hw,hRE,yD,zq,Nw,WJ,ri,kZ,dY,hn7,hn,h2,h3,YX,AH,wG⟩
  have hD6:=hD.keeps dY
  by_cases bd:i<d.length
  rotate_left
  ·obtain rfl:i=d.length:=by omega
   rw[List.take_length] at hRE
   have d1:¬((d.length:Nat):Int)<((d.length:Nat):Int):=by omega
   simp only[aj,QS,↓reduceIte,hn,AH,wG,eq_false d1]
   exact hQ _ _ _ ⟨rfl,w,DC,hw,hRE,yD,zq,Nw,WJ,ri,kZ,dY,hn7,by simp only[ad,ag,↓reduceIte,Qx,hn,h2,h3,and_self]⟩
  have Tj:aI w≠some s2.next:=fun e=>by have:=yD _ e;omega
  have d1:(i:Int)<(d.length:Int):=by omega
  have gB:=hD6.indexAddr (P:=Tryz.prog) (k:= .i64) (x:=(i:Int)) Tryz.underlying24 qq (by omega) (by omega)
  rw[Int.toNat_natCast] at gB
  have fz:=hD6.fJ (P:=Tryz.prog) Tc qq bd
  obtain⟨r,pd,gx,A8⟩:=rd.row i bd
  have mO:=gx.len
  have vW:=gx.keeps dY
  rw[pd] at fz
  obtain⟨xs,wA⟩:∃xs,xs=Value.string ⟨(d[i].1).toArray⟩::r:=⟨_,rfl⟩
  rw[<-wA] at fz
  have uM:xs.length=6:=by rw[wA];simp[mO]
  have WK:xs.all aL=true:=by rw[wA,List.all_cons,gx.ok];rfl
  have ad7:bZ (.agg xs.toArray) (.agg xs.toArray)=true:=by
   have:=gx.self
   rw[wA]
   match r,mO,this with
   |[a,b,c,d,e],_,this=>
    simp[bZ,fp] at this|-
    exact⟨by simp[cN],this⟩
  simp only[aj,QS,Qx,↓reduceIte,hn,YX,AH,wG,eq_true d1,gB,fz,zE,Td]
  refine aw ?_
  intro s7 uD jX rp
  have hd7:xV.length+1=7:=rfl
  simp only[aj,QS,Qx,↓reduceIte,hn,hd7]
  refine aB qq (by decide) uD rfl rfl uM WK ?_
  intro s8 vd WG Jj
  have vd:ax s8 t6.next xs:=vd
  have iY:ar t6.next t6 s8:=jX.trans ⟨by omega,fun j hj=>Jj j (by omega)⟩
  have ri:=ri.keeps iY
  have kZ:=kZ.keeps iY
  have hw:=hw.keeps iY
  have hRE:=hRE.keeps fa iY
  have WJ:=WJ.keeps cK iY
  have zq:=zq.keeps iY
  have Nw:=Nw.keeps iY
  have vW:=vW.keeps iY
  have arK:=iY.next
  simp only[aj]
  obtain⟨A,hA⟩:∃A:Nat->Bool,A=fun j=>decide (j<s8.next):=⟨_,rfl⟩
  have iU:∀j,A j=true->j<s8.next:=by
   intro j h
   rw[hA] at h
   exact of_decide_eq_true h
  have vM:∀j,j<s8.next->A j=true:=fun j h=>by rw[hA];exact decide_eq_true h
  refine LB.cX.fi A iU 1 1 (by kernel_rfl) (by kernel_rfl) ?_
  have dC:=ar.spare s8 1
  have UD:(spare s8 1).next=s8.next+1:=bU _ _
  have AG:∀k,LA.ej A (some (.pointer (some ⟨s2.next,k,some 6⟩)))=true:=fun k=>LA.cr (A:=A) (i:=s2.next) (vM _ kZ.lt)
  have Q1:∀k,LA.ej A (some (.pointer (some ⟨t6.next,k,some 7⟩)))=true:=fun k=>LA.cr (A:=A) (i:=t6.next) (vM _ vd.lt)
  have l8:aJ Tryz.prog (spare s8 1) 24 (.pointer (some ⟨s2.next,4,some 6⟩))=some w:=(kZ.keeps dC).load aaj (off:=4) (c:=6) rfl (by simp)
  have l9:aJ Tryz.prog (spare s8 1) 9 (.pointer (some ⟨t6.next,0,some 7⟩))=some (.string ⟨(d[i].1).toArray⟩):=by
   have:=(vd.keeps dC).load (P:=Tryz.prog) LH (off:=0) (c:=7) (by rw[uM]) (by omega)
   rw[this,wA];rfl
  have l10:aJ Tryz.prog (spare s8 1) 26 (.pointer (some ⟨t6.next,1,some 7⟩))=some (.agg r.toArray):=by
   have:=ax.uj (P:=Tryz.prog) Hv iL (vd.keeps dC) (off:=1) (c:=7) (by rw[uM]) (by omega)
   rw[this,wA,List.drop_succ_cons,List.drop_zero,List.take_of_length_le (by omega)]
  have vW:=vW.keeps dC
  simp only[aj,ak,bH,bI,Nat.sub_self,aa,ae,QS,Qx,↓reduceIte,hn,h3,of4,WD,aal,AG,Q1,l8,l9,l10,hw.self,vW.self]
  refine(ih d[i].2 (by have:=O.aah (k:=kind) (n:=num) (b:=b) (l:=l) (d:=d) (List.getElem_mem bd);omega) F (spare s8 1) _ vW (hD1 _ (List.getElem_mem bd))).mono ?_
  intro v9 s9 h9
  obtain⟨WH,rfl,Bj,rq⟩:=h9.is
  have hn9:=rq.next
  refine⟨fun _=>LA.ar.yC iU (rq.weaken (by omega)),?_⟩
  have zt:=Bj.len
  obtain⟨es,zN⟩:∃es,es=Value.string ⟨(d[i].1).toArray⟩::WH:=⟨_,rfl⟩
  have za:es.length=6:=by rw[zN];simp[zt]
  have ad8:bZ (.agg es.toArray) (.agg es.toArray)=true:=by
   have:=Bj.self
   rw[zN]
   match WH,zt,this with
   |[a,b,c,d,e],_,this=>
    simp[bZ,fp] at this|-
    exact⟨by simp[cN],this⟩
  have hbE:=bE d[i].1 zt
  rw[<-zN] at hbE
  simp only[aj,bI,ae,QS,↓reduceIte,hn,hbE,ad8,gi (cs:=es.toArray) Tryz.underlying24 qq zE Td rfl za (by decide)]
  refine LB.cZ (base:=s8.next) za (by omega) (Nat.le_refl _) ?_
  intro bs sa oA gz ON Th WI
  have ie:ar s8.next s8 sa:=(dC.trans (rq.weaken (by omega))).trans ON
  have N1:=ie.next
  have YV:dz (FE w) sa es d[i]:=by
   refine⟨WH,zN,(Bj.turns (u:= .pointer (some ⟨s8.next,0,none⟩)) (bt.aK Th WI) (fun j hj e=> ?_)).mono (fun j hj=> ?_),A8⟩
   ·have e:some s8.next=some j:=e
    injection e with e;omega
   ·rw[hFE];exact⟨by omega,fun h=>h,fun e=>by have:=hw.iD _ e;omega⟩
  have LO:es.all aL=true:=by rw[zN,List.all_cons,Bj.ok];rfl
  simp only[aj,bI,aa,QS,Qx,↓reduceIte,hn]
  refine LB.iT Tryz.underlying24 Tryz.underlying24 (.inl ⟨_,rfl⟩) qq byE zE rfl (hw.keeps ie) oA.aG.src za (by decide) LO (by omega) (by omega) (base:=s6.next) yD (by omega) (fun h=>absurd rfl h) (fun j hj=>by have:=iU j hj;omega) ?_
  intro w' sb hwb hFb pF ra
  have Fz:=pF.next
  have ahI:=hRE.keeps fa ie
  rw[hFE] at ahI YV
  have ahJ:=ahI.grow fa za YV pF ra
  rw[show(fun j=>s6.next<=j/\¬(fun _=>False) j/\aI w' ≠some j)=FE w' by rw[hFE]] at ahJ
  have hwl:∀j,aI w=some j->s6.next<=j:=yD
  have ad3:Own sb 1 ny b.length (ofBytes b):=(zq.keeps ie).turns pF (fun j hj e=>by have:=(Nu j hj).2;have:=hwl _ e;omega)
  have al8:Own sb 5 y l.length LC:=(Nw.keeps ie).turns pF (fun j hj e=>by have:=(It j hj).2;have:=hwl _ e;omega)
  have al9:=(WJ.keeps cK ie).turns cK pF (fun j hj e=>by have:=(OO j hj).2.1;have:=hwl _ e;omega)
  have ama:aI w' ≠some s2.next:=fun e=>by have:=hFb _ e;omega
  simp only[aj,bH,bI,Nat.reduceSub,QS,Qx,↓reduceIte,hn,h3,of4]
  refine LB.fj DM (by decide) ((kZ.keeps ie).turns pF Tj) (off:=4) (c:=6) rfl (vs:=[w']) hwb.aG.tk rfl (by simp) (by simp[hwb.aG.aL]) (fun h=>absurd rfl h) ?_
  intro sc EY x4 tG
  have EY:ax sc s2.next [.int .i64 kind,.int .i64 num,ny,y,w']:=EY
  have huc:bt (.pointer (some ⟨s2.next,0,none⟩)) sb sc:=bt.aK x4 tG
  have Ti:∀j,s5.next<=j->aI (.pointer (some ⟨s2.next,0,none⟩))≠some j:=fun j hj e=>by
   have e:some s2.next=some j:=e
   injection e with e
   omega
  simp(disch:=omega)only[aj,bI,Nat.reduceSub,QS,Qx,↓reduceIte,hn,wG,aD]
  refine ay (d.length-(i+1)) (by omega) ⟨i+1,w',DC++es,rfl,by omega,hwb.aK x4 tG ama,?_,hFb,ad3.aK x4 tG (fun e=>by have:=(Nu _ e).1;omega),al8.aK x4 tG (fun e=>by have:=(It _ e).1;omega),al9.turns cK huc (fun j hj=>Ti j (OO j hj).1),((ri.keeps ie).turns pF (fun e=>by have:=hwl _ e;omega)).aK x4 tG (by omega),EY,?_,by omega,by simp only[ag,hn],by simp only[ad,↓reduceIte,Qx,h2],by simp only[ad,↓reduceIte,Qx,h3],by simp only[ad,↓reduceIte,Qx,YX],by simp only[ad,↓reduceIte,Qx,AH],by simp only[ad,↓reduceIte];rfl⟩
  ·rw[List.take_add_one,List.getElem?_eq_getElem bd]
   exact ahJ.turns fa huc (fun j hj=>Ti j (by rw[hFE] at hj;have:=hj.1;omega))
  ·exact(((dY.trans (iY.weaken dY.next)).trans (ie.weaken (by have:=dY.next;omega))).trans ((pF.keeps yD (by omega)).weaken (by have:=Nv.next;omega))).trans ⟨by omega,fun j hj=>tG j (by omega)⟩
 clear hn h1 h2 h3 f LM ri kZ zq Nw WJ
 rintro z f t6 ⟨rfl,w,DC,hw,hRE,yD,zq,Nw,WJ,ri,kZ,jX,hn7,hn,h2,h3⟩
 have la:=ax.bF (P:=Tryz.prog) (cs:=[.int .i64 kind,.int .i64 num,ny,y,w]) Hv iL kZ (c:=6) rfl
 have ok1:=zq.aG.aL
 have ok2:=Nw.aG.aL
 have ok3:=hw.aG.aL
 simp only[aj,QS,Qx,↓reduceIte,hn,h2,h3,la]
 refine aB iL (by decide) ri rfl rfl rfl (by simp only[List.all_cons,List.all_nil,ok1,ok2,ok3];rfl) ?_
 intro s7 uD rp vX
 have l7:=ax.bF (P:=Tryz.prog) (cs:=[.int .i64 kind,.int .i64 num,ny,y,w]) Hv iL uD (c:=6) rfl
 simp only[aj,al,oneOf,QS,Qx,↓reduceIte,hn,h2,l7,aV,Tryz.results98]
 have hu7:bt (.pointer (some ⟨s1.next,0,none⟩)) t6 s7:=bt.aK rp vX
 have ahK:∀j,s5.next<=j->aI (.pointer (some ⟨s1.next,0,none⟩))≠some j:=fun j hj e=>by
  have e:some s1.next=some j:=e
  injection e with e
  omega
 have pE:=Nv.next
 refine⟨ny,y,w,LC,DC,rfl,zq.aK rp vX (fun e=>by have:=(Nu _ e).1;omega),Nw.aK rp vX (fun e=>by have:=(It _ e).1;omega),hw.aK rp vX (fun e=>by have:=yD _ e;omega),fun j hj=>by have:=(Nu j hj).1;have:=cR.next;omega,fun j hj=>by have:=(It j hj).1;omega,fun j hj=>by have:=yD j hj;omega,fun j h1 h2=>by have:=(Nu j h1).2;have:=(It j h2).1;omega,fun j h1 h2=>by have:=(Nu j h1).2;have:=yD j h2;omega,fun j h1 h2=>by have:=(It j h1).2;have:=yD j h2;omega,?_,?_,jX.trans ⟨by omega,fun j hj=>vX j (by have:=bn.next;omega)⟩⟩
 ·exact(WJ.turns cK hu7 (fun j hj=>ahK j (OO j hj).1)).mono cK (fun j hj=>⟨by have:=(OO j hj).1;omega,fun e=>by have:=(Nu j e).2;have:=(OO j hj).1;omega,(OO j hj).2.2,fun e=>by have:=yD j e;have:=(OO j hj).2.1;omega⟩)
 ·exact(hRE.turns fa hu7 (fun j hj=>ahK j (by rw[hFE] at hj;have:=hj.1;omega))).mono fa (fun j hj=>by rw[hFE] at hj;exact⟨by have:=hj.1;omega,fun e=>by have:=(Nu j e).2;have:=hj.1;omega,fun e=>by have:=(It j e).2;have:=hj.1;omega,hj.2.2⟩)
theorem Q3 {lib:aA}(hl:lib.at 98=none)(jn:lib.at 36=none)(N:Nat)(o:O)(hN:SizeOf.sizeOf o<=N)(F:Nat->Prop)(s:aq)(cs:List Value)(ho:dy F s cs o)(nM:Small o):
  Runs Tryz.prog lib 98 [.agg cs.toArray] s (Q0 s o):=ahD hl jn N o hN F s cs ho nM.fit
end Go.Proofs.YtdfjfncifneocaaGreat
