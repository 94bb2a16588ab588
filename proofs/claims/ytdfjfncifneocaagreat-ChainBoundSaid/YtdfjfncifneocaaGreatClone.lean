/-
 Objects: what they are, and how they stand in memory.
-/
import Derived.Test.YtdfjfncifneocaaGreatPrim
import Derived.Test.YtdfjfncifneocaaGreatLooseA
import Derived.Test.YtdfjfncifneocaaGreatNum
import Derived.Test.YtdfjfncifneocaaGreatB85P
import Derived.Lib.Bytealg
namespace Go.Cl
inductive O where
 |mk (kind n:Int) (b:List UInt8) (l:List O) (d:List (List UInt8×O))
namespace O
def kind:O->Int
 | .mk k _ _ _ _=>k
def num:O->Int
 | .mk _ n _ _ _=>n
def bytes:O->List UInt8
 | .mk _ _ b _ _=>b
def items:O->List O
 | .mk _ _ _ l _=>l
def wG:O->List (List UInt8×O)
 | .mk _ _ _ _ d=>d
def none:O:= .mk 0 0 [] [] []
theorem J9 {k n:Int}{b:List UInt8}{l:List O}{d:List (List UInt8×O)}{x:O}(h:x∈l):SizeOf.sizeOf x<SizeOf.sizeOf (O.mk k n b l d):=by
 have:=List.sizeOf_lt_of_mem h
 simp only[O.mk.sizeOf_spec];omega
theorem Pm {k n:Int}{b:List UInt8}{l:List O}{d:List (List UInt8×O)}{e:List UInt8×O}(h:e∈d):SizeOf.sizeOf e.2<SizeOf.sizeOf (O.mk k n b l d):=by
 have h1:=List.sizeOf_lt_of_mem h
 obtain⟨a,x⟩:=e
 simp only[Prod.mk.sizeOf_spec] at h1
 simp only[O.mk.sizeOf_spec];omega
end O
def fu (F:Nat->Prop):Value->Prop
 | .slice (some a) _ c=>c≠0->F a.block
 |_=>True
theorem fu.mono {F G:Nat->Prop}{v:Value}(h:fu F v)(k:∀j,F j->G j):fu G v:=by
 unfold fu at*
 split
 ·exact fun hc=>k _ (h hc)
 ·trivial
theorem fu.Pn {F:Nat->Prop}{v:Value}(h:∀j,aE v=some j->F j):fu F v:=by
 unfold fu
 split
 ·exact fun _=>h _ rfl
 ·trivial
theorem fu.fresh {base:Nat}{v:Value}(h:aH base v):fu (fun j=>base<=j) v:=fu.Pn h
theorem fu.nil (F:Nat->Prop):fu F (.slice none 0 0):=trivial
theorem aN.H2 {F:Nat->Prop}{s s' :aq}{z:Nat}{v u:Value}{n:Nat}{l:List Value}(h:aN s z v n l)(hf:fu F v)(k:aY u s s')(ck:∀j,F j->aE u≠some j):aN s' z v n l:=by
 cases h with
 |nil=>exact .nil
 |bare i off=>exact .bare i off
 |of i off n c b l hi hb hz hl hc hlen eZ ht=>
  have hF:F i:=hf (by omega)
  refine .of i off n c b l (Nat.lt_of_lt_of_le hi k.next) ?_ hz hl hc hlen eZ ht
  simp only[aq.bA,k.get i hi (ck i hF)];exact hb
inductive dk (F:Nat->Prop) (s:aq):List Value->O->Prop
 |mk (kind n:Int) (b:List UInt8) (l:List O) (d:List (List UInt8×O)) (bv lv dv:Value) (lc dc:List Value)
  (hb:aN s 1 bv b.length (ofBytes b)) (hl:aN s 5 lv l.length lc) (hd:aN s 6 dv d.length dc)
  (fb:fu F bv) (fl:fu F lv) (fd:fu F dv)
  (hL:∀i (h:i<l.length),dk F s ((lc.drop (i*5)).take 5) l[i])
  (hK:∀i (h:i<d.length),dc.getD (i*6) undef= .string ⟨(d[i].1).toArray⟩)
  (hD:∀i (h:i<d.length),dk F s ((dc.drop (i*6+1)).take 5) d[i].2)
  (hM:∀i (h:i<d.length),(d[i].1).length<=9223372036854775807):
  dk F s [.int .i64 kind,.int .i64 n,bv,lv,dv] (.mk kind n b l d)
variable {F G:Nat->Prop} {s s' :aq} {cs:List Value} {o:O}
theorem dk.keeps (h:dk F s cs o)(k:ar s.next s s'):dk F s' cs o:=by
 induction h with
 |mk kind n b l d bv lv dv lc dc hb hl hd fb fl fd _ hK _ hM hL hD=>exact .mk kind n b l d bv lv dv lc dc (hb.keeps k) (hl.keeps k) (hd.keeps k) fb fl fd hL hK hD hM
theorem dk.mono (h:dk F s cs o)(k:∀j,F j->G j):dk G s cs o:=by
 induction h with
 |mk kind n b l d bv lv dv lc dc hb hl hd fb fl fd _ hK _ hM hL hD=>exact .mk kind n b l d bv lv dv lc dc hb hl hd (fb.mono k) (fl.mono k) (fd.mono k) hL hK hD hM
theorem dk.turns {u:Value}(h:dk F s cs o)(k:aY u s s')(ck:∀j,F j->aE u≠some j):dk F s' cs o:=by
 induction h with
 |mk kind n b l d bv lv dv lc dc hb hl hd fb fl fd _ hK _ hM hL hD=>exact .mk kind n b l d bv lv dv lc dc (hb.H2 fb k ck) (hl.H2 fl k ck) (hd.H2 fd k ck) fb fl fd hL hK hD hM
theorem dk.len (h:dk F s cs o):cs.length=5:=by cases h;rfl
theorem dk.ok (h:dk F s cs o):cs.all aJ=true:=by
 cases h with
 |mk kind n b l d bv lv dv lc dc hb hl hd fb fl fd hL hK hD hM=>
  have h1:=hb.aJ
  have h2:=hl.aJ
  have h3:=hd.aJ
  simp only[List.all_cons,List.all_nil,h1,h2,h3];rfl
theorem CQ {a b c d e:Value}(h1:cN a a=true)(h2:cN b b=true)(h3:cN c c=true)(h4:cN d d=true)(h5:cN e e=true):cf (.agg #[a,b,c,d,e]) (.agg #[a,b,c,d,e])=true:=by
 simp[cf,fK,h1,h2,h3,h4,h5]
theorem aN.Po {s:aq}{z:Nat}{v:Value}{n:Nat}{l:List Value}(h:aN s z v n l):cN v v=true:=by
 cases h<;>simp[cN,Nat.beq_refl]
theorem dk.self (h:dk F s cs o):cf (.agg cs.toArray) (.agg cs.toArray)=true:=by
 cases h with
 |mk kind n b l d bv lv dv lc dc hb hl hd fb fl fd hL hK hD hM=>
  exact CQ (by simp[cN]) (by simp[cN]) hb.Po hl.Po hd.Po
theorem dk.inv {kind n:Int}{b:List UInt8}{l:List O}{d:List (List UInt8×O)}(h:dk F s cs (.mk kind n b l d)):∃bv lv dv lc dc,cs=[.int .i64 kind,.int .i64 n,bv,lv,dv]/\aN s 1 bv b.length (ofBytes b)/\aN s 5 lv l.length lc/\aN s 6 dv d.length dc/\fu F bv/\fu F lv/\fu F dv/\
  (∀i (h:i<l.length),dk F s ((lc.drop (i*5)).take 5) l[i])/\(∀i (h:i<d.length),dc.getD (i*6) undef= .string ⟨(d[i].1).toArray⟩)/\(∀i (h:i<d.length),dk F s ((dc.drop (i*6+1)).take 5) d[i].2)/\(∀i (h:i<d.length),(d[i].1).length<=9223372036854775807):=by
 cases h with
 |mk _ _ _ _ _ bv lv dv lc dc hb hl hd fb fl fd hL hK hD hM=>exact⟨bv,lv,dv,lc,dc,rfl,hb,hl,hd,fb,fl,fd,hL,hK,hD,hM⟩
def cU:List Value:=[.int .i64 0,.int .i64 0,.slice Option.none 0 0,.slice Option.none 0 0,.slice Option.none 0 0]
theorem dk.none (F:Nat->Prop)(s:aq):dk F s cU O.none:=
 .mk 0 0 [] [] [] _ _ _ [] [] .nil .nil .nil trivial trivial trivial (fun i h=>absurd h (Nat.not_lt_zero i)) (fun i h=>absurd h (Nat.not_lt_zero i)) (fun i h=>absurd h (Nat.not_lt_zero i)) (fun i h=>absurd h (Nat.not_lt_zero i))
theorem fu.below {z:Nat}{v:Value}{n:Nat}{l:List Value}(h:aN s z v n l)(hf:fu F v):fu (fun j=>F j/\j<s.next) v:=by
 cases h with
 |nil=>trivial
 |bare i off=>exact fun hc=>absurd rfl hc
 |of i off n c b l hi hb hz hl hc hlen eZ ht=>exact fun J4=>⟨hf J4,hi⟩
theorem dk.XZ (h:dk F s cs o):dk (fun j=>F j/\j<s.next) s cs o:=by
 induction h with
 |mk kind n b l d bv lv dv lc dc hb hl hd fb fl fd _ hK _ hM hL hD=>exact .mk kind n b l d bv lv dv lc dc hb hl hd (fu.below hb fb) (fu.below hl fl) (fu.below hd fd) hL hK hD hM
structure zA {α:Type} (Q:(Nat->Prop)->aq->List Value->α->Prop):Prop where
 keeps:∀{F s s' cs d},Q F s cs d->ar s.next s s' ->Q F s' cs d
 mono:∀{F G:Nat->Prop} {s cs d},Q F s cs d->(∀j,F j->G j)->Q G s cs d
 turns:∀{F:Nat->Prop} {s s' cs d u},Q F s cs d->aY u s s' ->(∀j,F j->aE u≠some j)->Q F s' cs d
 below:∀{F:Nat->Prop} {s cs d},Q F s cs d->Q (fun j=>F j/\j<s.next) s cs d
theorem cw:zA dk:=⟨fun h k=>h.keeps k,fun h k=>h.mono k,fun h k n=>h.turns k n,fun h=>h.XZ⟩
def dU (F:Nat->Prop)(s:aq)(cs:List Value)(e:List UInt8×O):Prop:=∃r,cs= .string ⟨e.1.toArray⟩::r/\dk F s r e.2/\e.1.length<=9223372036854775807
theorem dU.keeps {e:List UInt8×O}(h:dU F s cs e)(k:ar s.next s s'):dU F s' cs e:=by
 obtain⟨r,h1,h2,h3⟩:=h;exact⟨r,h1,h2.keeps k,h3⟩
theorem dU.mono {e:List UInt8×O}(h:dU F s cs e)(k:∀j,F j->G j):dU G s cs e:=by
 obtain⟨r,h1,h2,h3⟩:=h;exact⟨r,h1,h2.mono k,h3⟩
theorem dV:zA dU:=⟨fun h k=>h.keeps k,fun h k=>h.mono k,fun⟨r,h1,h2,h3⟩ k n=>⟨r,h1,h2.turns k n,h3⟩,fun⟨r,h1,h2,h3⟩=>⟨r,h1,h2.XZ,h3⟩⟩
structure aS {α:Type} (Q:(Nat->Prop)->aq->List Value->α->Prop) (z:Nat) (F:Nat->Prop) (s:aq) (D:List α) (lc:List Value):Prop where
 len:lc.length=D.length*z
 row:∀i (h:i<D.length),Q F s ((lc.drop (i*z)).take z) D[i]
section
variable {α:Type} {Q:(Nat->Prop)->aq->List Value->α->Prop} {z:Nat} {D:List α} {lc:List Value}
theorem aS.nil:aS Q z F s [] []:=⟨by simp,fun i h=>absurd h (Nat.not_lt_zero i)⟩
theorem aS.keeps (hQ:zA Q)(h:aS Q z F s D lc)(k:ar s.next s s'):aS Q z F s' D lc:=⟨h.len,fun i hi=>hQ.keeps (h.row i hi) k⟩
theorem aS.mono (hQ:zA Q)(h:aS Q z F s D lc)(k:∀j,F j->G j):aS Q z G s D lc:=⟨h.len,fun i hi=>hQ.mono (h.row i hi) k⟩
theorem aS.turns {u:Value}(hQ:zA Q)(h:aS Q z F s D lc)(k:aY u s s')(ck:∀j,F j->aE u≠some j):aS Q z F s' D lc:=⟨h.len,fun i hi=>hQ.turns (h.row i hi) k ck⟩
theorem aS.below (hQ:zA Q)(h:aS Q z F s D lc):aS Q z (fun j=>F j/\j<s.next) s D lc:=⟨h.len,fun i hi=>hQ.below (h.row i hi)⟩
theorem aS.snoc (h:aS Q z F s D lc){d:α}{cs:List Value}(hc:cs.length=z)(hd:Q F s cs d):aS Q z F s (D++[d]) (lc++cs):=by
 refine⟨by rw[List.length_append,List.length_append,h.len,hc,List.length_singleton,Nat.succ_mul],fun i hi=> ?_⟩
 have vF:i<D.length+1:=by simpa using hi
 by_cases hik:i<D.length
 ·have e:((lc++cs).drop (i*z)).take z=(lc.drop (i*z)).take z:=by
   have:(i+1)*z<=lc.length:=by rw[h.len];exact Nat.mul_le_mul_right z hik
   rw[Nat.succ_mul] at this
   rw[List.drop_append_of_le_length (by omega),List.take_append_of_le_length (by rw[List.length_drop];omega)]
  rw[e,List.getElem_append_left hik]
  exact h.row i hik
 ·obtain rfl:i=D.length:=by omega
  have e:((lc++cs).drop (D.length*z)).take z=cs:=by rw[<-h.len,List.drop_left,List.take_of_length_le (by omega)]
  rw[e,List.getElem_append_right (by omega)]
  simp only[Nat.sub_self,List.getElem_cons_zero]
  exact hd
theorem aS.grow (hQ:zA Q){base:Nat}{X:Nat->Prop}{T T' :aq}{v x' :Value}(h:aS Q z (fun j=>base<=j/\¬X j/\aE v≠some j) T D lc){d:α}{cs:List Value}(hc:cs.length=z)(hd:Q (fun j=>base<=j/\¬X j/\aE v≠some j) T cs d)
  (ht:aY v T T') (qU:aE x' =aE v\/∃i,aE x' =some i/\T.next<=i):aS Q z (fun j=>base<=j/\¬X j/\aE x' ≠some j) T' (D++[d]) (lc++cs):=by
 refine aS.mono hQ (aS.turns hQ (aS.below hQ (h.snoc hc hd)) ht (fun j hj=>hj.1.2.2)) (fun j hj=>⟨hj.1.1,hj.1.2.1,fun e=> ?_⟩)
 rcases qU with h1|⟨i,h1,h2⟩
 ·exact hj.1.2.2 (by rw[<-h1];exact e)
 ·rw[h1] at e;injection e with e;have:=hj.2;omega
end
theorem dk.parts {kind n:Int}{b:List UInt8}{l:List O}{d:List (List UInt8×O)}(h:dk F s cs (.mk kind n b l d)):∃bv lv dv lc dc,cs=[.int .i64 kind,.int .i64 n,bv,lv,dv]/\aN s 1 bv b.length (ofBytes b)/\aN s 5 lv l.length lc/\aN s 6 dv d.length dc/\fu F bv/\fu F lv/\fu F dv/\aS dk 5 F s l lc/\aS dU 6 F s d dc:=by
 obtain⟨bv,lv,dv,lc,dc,h1,h2,h3,h4,h5,h6,h7,hL,hK,hD,hM⟩:=h.inv
 refine⟨bv,lv,dv,lc,dc,h1,h2,h3,h4,h5,h6,h7,⟨h3.length,hL⟩,⟨h4.length,fun i hi=>⟨_,?_,hD i hi,hM i hi⟩⟩⟩
 have hk:=hK i hi
 have bc:i*6<dc.length:=by rw[h4.length];omega
 rw[List.getD_eq_getElem?_getD,List.getElem?_eq_getElem bc] at hk
 have hk:dc[i*6]= .string ⟨(d[i].1).toArray⟩:=hk
 rw[List.drop_eq_getElem_cons bc,List.take_succ_cons,hk]
theorem dk.whole {kind n:Int}{b:List UInt8}{l:List O}{d:List (List UInt8×O)}{bv lv dv:Value}{lc dc:List Value}(hb:aN s 1 bv b.length (ofBytes b))(hl:aN s 5 lv l.length lc)(hd:aN s 6 dv d.length dc)(fb:fu F bv)(fl:fu F lv)(fd:fu F dv)(hL:aS dk 5 F s l lc)(hD:aS dU 6 F s d dc):
  dk F s [.int .i64 kind,.int .i64 n,bv,lv,dv] (.mk kind n b l d):=by
 refine .mk kind n b l d bv lv dv lc dc hb hl hd fb fl fd hL.row (fun i hi=> ?_) (fun i hi=> ?_) (fun i hi=> ?_)
 ·obtain⟨r,h1,_,_⟩:=hD.row i hi
  have h0:((dc.drop (i*6)).take 6)[0]?=some (.string ⟨(d[i].1).toArray⟩):=by rw[h1];rfl
  rw[List.getElem?_take_of_lt (by omega),List.getElem?_drop,Nat.add_zero] at h0
  rw[List.getD_eq_getElem?_getD,h0];rfl
 ·obtain⟨r,h1,h2,_⟩:=hD.row i hi
  have h0:((dc.drop (i*6)).take 6).drop 1=r:=by rw[h1];rfl
  rw[List.drop_take,List.drop_drop] at h0
  rw[show(dc.drop (i*6+1)).take 5=r from h0];exact h2
 ·obtain⟨_,_,_,h3⟩:=hD.row i hi
  exact h3
theorem aN.wM {P:Program}{e:TypeId}{m:Nat}(nK:bY P e=some true)(b6:aW P e=some m){z:Nat}{v:Value}{n:Nat}{l:List Value}(h:aN s z v n l){k j:Nat}(hk:k<n)(hj:j+m<=z):aR P s e (ft (bJ z v k) j)=some (.agg ((l.drop (k*z+j)).take m).toArray):=by
 cases h with
 |nil=>omega
 |bare=>omega
 |of i off n c b l hi hb hz hl hc hlen eZ ht=>
  have hkz:k*z+z<=n*z:=by
   have:(k+1)*z<=n*z:=Nat.mul_le_mul_right z hk
   rwa [Nat.succ_mul] at this
  show aR P s e (.pointer (some ⟨i,off+k*z+j,some c⟩))=_
  unfold aR
  simp only[nK,b6]
  rw[gi hb hl hc (by omega),<-ht,List.drop_take,List.drop_drop,List.take_take,Nat.min_eq_left (by omega),Nat.add_assoc]
inductive Small:O->Prop
 |mk {k n:Int} {b:List UInt8} {l:List O} {d:List (List UInt8×O)} (hb:b.length<=100000000) (hl:l.length<=100000) (hd:d.length<=100000) (hK:∀e∈d,e.1.length<=100000) (hL:∀x∈l,Small x) (hD:∀e∈d,Small e.2):Small (.mk k n b l d)
inductive Fit:O->Prop
 |mk {k n:Int} {b:List UInt8} {l:List O} {d:List (List UInt8×O)} (hb:b.length<=140737488351232) (hl:l.length*88<=140737488351232) (hd:d.length*104<=140737488351232) (hK:∀e∈d,e.1.length<=140737488351232) (hL:∀x∈l,Fit x) (hD:∀e∈d,Fit e.2):Fit (.mk k n b l d)
theorem Small.fit {o:O}(h:Small o):Fit o:=by
 induction h with
 |mk hb hl hd hK _ _ QM ihD=>exact .mk (by omega) (by omega) (by omega) (fun e he=>Nat.le_trans (hK e he) (by decide)) QM ihD
end Go.Cl
namespace Go.Cl
open Go.RowKit Go.ChangeShapes Go.WideShapes
structure Rt (W:World) (S S' :St):Prop where
 begun:mj W S'
 ext:Ext S S'
 stay:ar S.s.next S.s S'.s
theorem Rt.refl {W:World}{S:St}(h:mj W S):Rt W S S:=⟨h,Ext.refl S,ar.refl _ _⟩
theorem Rt.trans {W:World}{S S' S'' :St}(h:Rt W S S')(k:Rt W S' S''):Rt W S S'' :=⟨k.begun,h.ext.trans k.ext,h.stay.trans (k.stay.weaken h.stay.next)⟩
variable {H:Type} {enc:TypeId×Value->H} {P:Program}
def Wt (P:Program)(t:TypeId)(d:DataW H):Prop:=∀n∈d.weights P t,n<=reachBytes
theorem sI {e:TypeId}:∀{ds:List (DataW H)} {d:DataW H},d∈ds->∀n∈d.weights P e,n∈DataW.weightsAll P e ds
 |_::_,d,hd,n,hn=>by
  rw[DataW.weightsAll,List.mem_append]
  rcases List.mem_cons.1 hd with h|h
  ·subst h;exact .inl hn
  ·exact .inr (sI h n hn)
theorem Wt.slice {t e:TypeId}(ht:P.underlying t=some (.slice e)){E R:List (DataW H)}(h:Wt P t (.slice E R)):(E.length+R.length)*P.bytesOf e<=reachBytes/\∀d∈E,Wt P e d:=by
 refine⟨h _ (by simp[DataW.weights,ht]),fun d hd n hn=>h n ?_⟩
 simp only[DataW.weights,ht,List.mem_cons,List.mem_append]
 exact .inr (.inl (sI hd n hn))
theorem Wt.struct {t:TypeId}{fs:Array Field}(ht:P.underlying t=some (.struct fs)){xs:List (DataW H)}(h:Wt P t (.agg xs)){i:Nat}{u:TypeId}{d:DataW H}(hu:(fs.toList.map (·.type))[i]?=some u)(hd:xs[i]?=some d):Wt P u d:=by
 intro n hn
 refine h n ?_
 simp only[DataW.weights,ht]
 exact DataW.weights_mem_each hu hd n hn
end Go.Cl
set_option linter.unusedSimpArgs false
set_option linter.unusedVariables false
set_option maxRecDepth 100000
namespace Go.Cl
end Go.Cl
namespace Go.Proofs.YtdfjfncifneocaaGreat
open Go.Cl
variable {H:Type} {enc:TypeId×Value->H} {W:World}
end Go.Proofs.YtdfjfncifneocaaGreat
set_option linter.unusedSimpArgs false
set_option linter.unusedVariables false
set_option maxRecDepth 100000
namespace Go.Proofs.YtdfjfncifneocaaGreat
open Go.Cl
theorem iH:aW Tryz.prog 26=some 5:=by kernel_rfl
theorem Gm:bY Tryz.prog 26=some true:=by kernel_rfl
theorem zO:bW Tryz.prog 26=some (.agg cU.toArray):=by kernel_rfl
theorem xB:bP (.agg cU.toArray)=true:=by kernel_rfl
theorem byO:fe Tryz.prog 26=some 88:=by kernel_rfl
theorem qv:aW Tryz.prog 63=some 6:=by kernel_rfl
theorem Ru:bY Tryz.prog 63=some true:=by kernel_rfl
theorem byE:fe Tryz.prog 63=some 104:=by kernel_rfl
def wN:List Value:= .string ⟨#[]⟩::cU
theorem zE:bW Tryz.prog 63=some (.agg wN.toArray):=by kernel_rfl
theorem Uy:bP (.agg wN.toArray)=true:=by kernel_rfl
theorem zH:aW Tryz.prog 2=some 1:=by kernel_rfl
theorem ZN:bY Tryz.prog 2=some false:=by kernel_rfl
theorem Uz:aW Tryz.prog 9=some 1:=by kernel_rfl
theorem Ka:bY Tryz.prog 9=some false:=by kernel_rfl
theorem EA:aW Tryz.prog 23=some 1:=by kernel_rfl
theorem UA:bY Tryz.prog 23=some false:=by kernel_rfl
theorem EB:aW Tryz.prog 24=some 1:=by kernel_rfl
theorem X0:bY Tryz.prog 24=some false:=by kernel_rfl
theorem EC (i o c:Nat):ay Tryz.prog 26 (.pointer (some ⟨i,o,some c⟩)) 0=some (.pointer (some ⟨i,o+0,some c⟩)):=by
 unfold ay;rw[Tryz.underlying26];simp[bB]
theorem of1 (i o c:Nat):ay Tryz.prog 26 (.pointer (some ⟨i,o,some c⟩)) 1=some (.pointer (some ⟨i,o+1,some c⟩)):=by
 unfold ay;rw[Tryz.underlying26];simp[zH]
theorem of2 (i o c:Nat):ay Tryz.prog 26 (.pointer (some ⟨i,o,some c⟩)) 2=some (.pointer (some ⟨i,o+2,some c⟩)):=by
 unfold ay;rw[Tryz.underlying26];simp[gv]
theorem ZO (i o c:Nat):ay Tryz.prog 26 (.pointer (some ⟨i,o,some c⟩)) 3=some (.pointer (some ⟨i,o+3,some c⟩)):=by
 unfold ay;rw[Tryz.underlying26];simp[EA]
theorem of4 (i o c:Nat):ay Tryz.prog 26 (.pointer (some ⟨i,o,some c⟩)) 4=some (.pointer (some ⟨i,o+4,some c⟩)):=by
 unfold ay;rw[Tryz.underlying26];simp[EB]
theorem bO3 (k n:Int){b:Value}(hb:b.cells.toList=[b]):cE Tryz.prog 26 [(0,.int .i64 k),(1,.int .i64 n),(2,b)]=some (.agg #[.int .i64 k,.int .i64 n,b,.slice none 0 0,.slice none 0 0]):=by
 unfold cE;rw[Tryz.underlying26]
 have hz:bW Tryz.prog 26=some (.agg #[.int .i64 0,.int .i64 0,.slice none 0 0,.slice none 0 0,.slice none 0 0]):=by kernel_rfl
 rw[hz]
 have ci:∀k n,(Value.int k n).cells= #[.int k n]:=fun _ _=>rfl
 simp[bB,zH,gv,EA,EB,bP,gS,fI,placeOf,bO,setAt,ci,hb]
theorem bE (a:List UInt8){cs:List Value}(hc:cs.length=5):cE Tryz.prog 63 [(0,.string ⟨a.toArray⟩),(1,.agg cs.toArray)]=some (.agg (.string ⟨a.toArray⟩::cs).toArray):=by
 unfold cE;rw[Tryz.underlying63]
 have hz:bW Tryz.prog 63=some (.agg #[.string ⟨#[]⟩,.int .i64 0,.int .i64 0,.slice none 0 0,.slice none 0 0,.slice none 0 0]):=by kernel_rfl
 rw[hz]
 have iE:∀b,(Value.string b).cells= #[.string b]:=fun _=>rfl
 match cs,hc with
 |[a,b,c,d,e],_=>simp[Uz,iH,bP,gS,fI,placeOf,bO,setAt,iE]
def lW (s:aq)(o:O)(v:Value)(s' :aq):Prop:=∃cs,v= .agg cs.toArray/\dk (fun j=>s.next<=j) s' cs o/\ar s.next s s'
def afi (s:aq)(o:O)(v:Value)(s' :aq):Prop:=∃k n b l d bv lv dv lc dc,o= .mk k n b l d/\v= .agg #[.int .i64 k,.int .i64 n,bv,lv,dv]/\Own s' 5 lv l.length lc/\aH s.next lv/\aN s' 1 bv b.length (ofBytes b)/\aN s' 6 dv d.length dc/\fu (fun j=>s.next<=j/\aE lv≠some j) bv/\fu (fun j=>s.next<=j/\aE lv≠some j) dv/\aS dk 5 (fun j=>s.next<=j/\aE lv≠some j) s' l lc/\aS dU 6 (fun j=>s.next<=j/\aE lv≠some j) s' d dc/\ar s.next s s'
theorem afi.new {s s' :aq}{o:O}{v:Value}(h:afi s o v s'):lW s o v s' :=by
 obtain⟨k,n,b,l,d,bv,lv,dv,lc,dc,rfl,rfl,h1,h2,h3,h4,h5,h6,h7,h8,h9⟩:=h
 have hm:∀j,s.next<=j/\aE lv≠some j->s.next<=j:=fun j hj=>hj.1
 exact⟨_,rfl,dk.whole h3 h1.aG h4 (h5.mono hm) (fu.fresh h2) (h6.mono hm) (h7.mono cw hm) (h8.mono dV hm),h9⟩
end Go.Proofs.YtdfjfncifneocaaGreat
namespace Go.Cl
inductive ny:O->O->Prop
 |mk {k n n' :Int} {b b' :List UInt8} {l l' :List O} {d d' :List (List UInt8×O)} (hn:(k=1\/k=2\/k=3\/k=9)->n=n') (hb:(k=4\/k=5\/k=8)->b=b')
  (hl:k=6->l.length=l'.length) (hL:k=6->∀i (h:i<l.length) (h' :i<l'.length),ny l[i] l'[i])
  (hd:(k=7\/k=8)->d.length=d'.length) (hK:(k=7\/k=8)->∀i (h:i<d.length) (h' :i<d'.length),d[i].1=d'[i].1) (hD:(k=7\/k=8)->∀i (h:i<d.length) (h' :i<d'.length),ny d[i].2 d'[i].2):ny (.mk k n b l d) (.mk k n' b' l' d')
theorem ny.inv {k k' n n' :Int}{b b' :List UInt8}{l l' :List O}{d d' :List (List UInt8×O)}(h:ny (.mk k n b l d) (.mk k' n' b' l' d')):k=k' /\((k=1\/k=2\/k=3\/k=9)->n=n')/\((k=4\/k=5\/k=8)->b=b')/\(k=6->l.length=l'.length)/\(k=6->∀i (h:i<l.length) (h' :i<l'.length),ny l[i] l'[i])/\
  ((k=7\/k=8)->d.length=d'.length)/\((k=7\/k=8)->∀i (h:i<d.length) (h' :i<d'.length),d[i].1=d'[i].1)/\((k=7\/k=8)->∀i (h:i<d.length) (h' :i<d'.length),ny d[i].2 d'[i].2):=by
 cases h with
 |mk hn hb hl hL hd hK hD=>exact⟨rfl,hn,hb,hl,hL,hd,hK,hD⟩
theorem ny.refl:∀(N:Nat) (a:O),SizeOf.sizeOf a<=N->ny a a:=by
 intro N
 induction N with
 |zero=>intro a h;cases a;simp at h
 |succ N ih=>
  intro a h
  cases a with
  |mk k n b l d=>
   exact .mk (fun _=>rfl) (fun _=>rfl) (fun _=>rfl) (fun _ i h1 h2=>ih _ (by have:=O.J9 (k:=k) (n:=n) (b:=b) (l:=l) (d:=d) (List.getElem_mem h1);omega)) (fun _=>rfl) (fun _ i _ _=>rfl) (fun _ i h1 h2=>ih _ (by have:=O.Pm (k:=k) (n:=n) (b:=b) (l:=l) (d:=d) (List.getElem_mem h1);omega))
theorem ny.self (a:O):ny a a:=ny.refl _ a (Nat.le_refl _)
theorem ny.symm {a b:O}(h:ny a b):ny b a:=by
 induction h with
 |mk hn hb hl hL hd hK hD iL iD=>exact .mk (fun h=>(hn h).symm) (fun h=>(hb h).symm) (fun h=>(hl h).symm) (fun h i h1 h2=>iL h i h2 h1) (fun h=>(hd h).symm) (fun h i h1 h2=>(hK h i h2 h1).symm) (fun h i h1 h2=>iD h i h2 h1)
def Pp (p:Prop)(v:Value):Prop:=∃t:Bool,v= .bool t/\(t=true↔p)
theorem Pp.no {p:Prop}(h:¬p):Pp p (.bool false):=⟨false,rfl,⟨fun h=>by(cases h),fun k=>absurd k h⟩⟩
theorem Rv {p:Nat->Prop}{i:Nat}(h:∀j,j<i->p j)(hi:p i):∀j,j<i+1->p j:=by
 intro j hj
 rcases Nat.lt_succ_iff_lt_or_eq.mp hj with h1|h1
 ·exact h j h1
 ·rw[h1];exact hi
theorem av.tn {P:Program}{e:TypeId}{n:Nat}(nK:bY P e=some true)(b6:aW P e=some n){s:aq}{i:Nat}{cs:List Value}(h:av s i cs){off c:Nat}(hc:c=cs.length+1)(ho:off+n<=cs.length):
  aR P s e (.pointer (some ⟨i,off,some c⟩))=some (.agg ((cs.drop off).take n).toArray):=by
 obtain⟨low,z,h1,h2⟩:=h.dK
 subst hc
 unfold aR
 simp only[nK,b6]
 rw[gi h1 h2 (Nat.le_refl _) (by omega)]
end Go.Cl
namespace Go.Cl
def ZP (b:List UInt8):Prop:=b.length<=127/\∀i (h:i<b.length),b[i].toNat≠0
def afj (x y:List UInt8):Prop:=¬(Op.bytesLess y x||y==x)=true
inductive abE:Int->O->Prop
 |mk {p k n:Int} {b:List UInt8} {l:List O} {d:List (List UInt8×O)} (h1:l≠[]->k=6) (h2:d≠[]->k=7\/k=8) (h3:b≠[]->k=4\/k=5\/k=8) (hk:0<=k/\k<=9)
  (n1:k=1->n=0\/n=1) (n2:k=2-> -2147483647<=n/\n<=2147483647) (n3:k=3-> -214748364799999<=n/\n<=214748364799999) (n9:k=9->1<=n/\n<=8388607) (n0:k≠1->k≠2->k≠3->k≠9->n=0)
  (b4:k=4->b.length<=32767) (b5:k=5->ZP b) (p6:k=6->1<=p) (l6:k=6->∀i (h:i<l.length),l[i].kind≠8) (m6:k=6->∀i (h:i<l.length),abE (p-1) l[i])
  (p7:k=7\/k=8->1<=p) (b7:k=7\/k=8->b.length<=16777216) (e7:k=7\/k=8->∀i (h:i<d.length),ZP d[i].1/\d[i].2.kind≠8/\d[i].2.kind≠0) (m7:k=7\/k=8->∀i (h:i<d.length),abE (p-1) d[i].2)
  (r7:k=7\/k=8->∀i (h:i+1<d.length),afj d[i].1 d[i+1].1):abE p (.mk k n b l d)
section
variable {p k n:Int} {b:List UInt8} {l:List O} {d:List (List UInt8×O)} (g1:l≠[]->k=6) (g2:d≠[]->k=7\/k=8) (g3:b≠[]->k=4\/k=5\/k=8)
include g1 g2 g3
omit g1 g2 g3 in
omit g1 g2 g3 in
end
section
variable {P:Program} {t:TypeId}
end
end Go.Cl
namespace Go.Cl
open Go.Lib
abbrev mn (a b:List UInt8):Bool:=Op.bytesLess a b
theorem zI:∀(a b:List UInt8),(mn a b||a==b)= !(mn b a)
 |[],[]=>rfl
 |[],_::_=>rfl
 |_::_,[]=>rfl
 |x::a,y::b=>by
  have ih:=zI a b
  simp only[mn] at ih|-
  simp only[Op.bytesLess,List.cons_beq_cons]
  by_cases h:x=y
  ·subst h
   have hx:¬x<x:=UInt8.lt_irrefl x
   simp only[decide_eq_false hx,Bool.false_or,beq_self_eq_true,Bool.true_and]
   exact ih
  ·have h1:(x==y)=false:=by simpa using h
   have h2:(y==x)=false:=by simpa using Ne.symm h
   simp only[h1,h2,Bool.false_and,Bool.or_false]
   by_cases hl:x<y
   ·have:¬y<x:=UInt8.not_lt.2 (UInt8.le_of_lt hl)
    simp[hl,this]
   ·have:y<x:=UInt8.lt_of_le_of_ne (UInt8.not_lt.1 hl) (Ne.symm h)
    simp[hl,this]
theorem lX:∀(a b:List UInt8),0<=compareBytes a b↔mn a b=false
 |[],[]=>by simp[compareBytes,mn,Op.bytesLess]
 |[],_::_=>by simp[compareBytes,mn,Op.bytesLess]
 |_::_,[]=>by simp[compareBytes,mn,Op.bytesLess]
 |x::a,y::b=>by
  have ih:=lX a b
  simp only[mn] at ih|-
  unfold compareBytes
  simp only[Op.bytesLess]
  by_cases h1:x<y
  ·simp[h1]
  ·rw[if_neg h1]
   by_cases h2:y<x
   ·have ck:(x==y)=false:=by
     have:x≠y:=fun e=>by subst e;exact UInt8.lt_irrefl x h2
     simpa using this
    rw[if_pos h2];simp[h1,ck]
   ·rw[if_neg h2]
    have:x=y:=UInt8.le_antisymm (UInt8.not_lt.1 h2) (UInt8.not_lt.1 h1)
    subst this
    simp only[decide_eq_false h1,Bool.false_or,beq_self_eq_true,Bool.true_and]
    exact ih
theorem lY:∀(a b:List UInt8),compareBytes a b=0↔a=b
 |[],[]=>by simp[compareBytes]
 |[],_::_=>by simp[compareBytes]
 |_::_,[]=>by simp[compareBytes]
 |x::a,y::b=>by
  have ih:=lY a b
  unfold compareBytes
  by_cases h1:x<y
  ·have:x≠y:=fun e=>by subst e;exact UInt8.lt_irrefl x h1
   simp[h1,this]
  ·rw[if_neg h1]
   by_cases h2:y<x
   ·have:x≠y:=fun e=>by subst e;exact UInt8.lt_irrefl x h2
    simp[h2,this]
   ·rw[if_neg h2,ih]
    have:x=y:=UInt8.le_antisymm (UInt8.not_lt.1 h2) (UInt8.not_lt.1 h1)
    subst this
    simp
def IL (d:List (List UInt8×O))(k:List UInt8):Nat:=d.findIdx (fun y=> !(mn y.1 k))
def others (k:List UInt8)(d:List (List UInt8×O)):List (List UInt8×O):=d.filter (fun y=> !(y.1==k))
def iu (d:List (List UInt8×O))(e:List UInt8×O):List (List UInt8×O):=
 others e.1 (d.take (IL d e.1))++(if e.2.kind=0 then [] else [e])++others e.1 (d.drop (IL d e.1))
def cX (d l:List (List UInt8×O)):List (List UInt8×O):=l.foldl iu d
end Go.Cl
namespace Go.Cl
def db (p:Nat->Bool):Nat->Nat
 |0=>0
 |j+1=>db p j+(if p j then 0 else 1)
def iB (l:List Value)(z:Nat)(p:Nat->Bool):Nat->List Value
 |0=>[]
 |j+1=>iB l z p j++(if p j then [] else(l.drop (j*z)).take z)
theorem sJ (p:Nat->Bool):∀j,db p j<=j
 |0=>Nat.le_refl _
 |j+1=>by have:=sJ p j;unfold db;split<;>omega
theorem tp {l:List Value}{z n:Nat}(p:Nat->Bool)(hl:l.length=n*z):∀j,j<=n->(iB l z p j).length=db p j*z
 |0,_=>by simp[iB,db]
 |j+1,h=>by
  have ih:=tp p hl j (by omega)
  have hz:(j+1)*z<=n*z:=Nat.mul_le_mul_right z h
  rw[Nat.succ_mul] at hz
  unfold iB db
  split
  ·simp[ih]
  ·rw[List.length_append,ih,List.length_take,List.length_drop,Nat.add_mul,Nat.one_mul];omega
theorem CR {l:List Value}{z:Nat}{p:Nat->Bool}:∀k,(∀i,i<k->p i=false)->db p k=k/\iB l z p k=l.take (k*z)
 |0,_=>by simp[iB,db]
 |k+1,h=>by
  obtain⟨h1,h2⟩:=CR (l:=l) (z:=z) k (fun i hi=>h i (by omega))
  have h3:=h k (by omega)
  unfold iB db
  rw[h1,h2,h3]
  refine⟨rfl,?_⟩
  rw[Nat.succ_mul,List.take_add];rfl
theorem Rx {l L:List Value}{z n j:Nat}{p:Nat->Bool}(hL:L.length=n*z)(hl:l.length=n*z)(hj:j<n)(h1:L.take (db p j*z)=iB l z p j)(h2:L.drop (j*z)=l.drop (j*z))(hp:p j=false):
  (over L (db p j*z) ((l.drop (j*z)).take z)).take (db p (j+1)*z)=iB l z p (j+1)/\(over L (db p j*z) ((l.drop (j*z)).take z)).drop ((j+1)*z)=l.drop ((j+1)*z):=by
 have hz:(j+1)*z<=n*z:=Nat.mul_le_mul_right z hj
 have hk:db p j*z<=j*z:=Nat.mul_le_mul_right z (sJ p j)
 have hr:((l.drop (j*z)).take z).length=z:=by rw[Nat.succ_mul] at hz;rw[List.length_take,List.length_drop];omega
 rw[Nat.succ_mul] at hz
 have hkc:=tp p hl j (by omega)
 unfold over
 rw[h1,hr]
 have e1:db p (j+1)*z=db p j*z+z:=by simp[db,hp,Nat.succ_mul]
 constructor
 ·rw[e1,List.take_append_of_le_length (by rw[List.length_append,hkc,hr];omega),List.take_of_length_le (by rw[List.length_append,hkc,hr];omega)]
  simp[iB,hp]
 ·have e2:L.drop ((j+1)*z)=l.drop ((j+1)*z):=by
   have:=congrArg (List.drop z) h2
   rwa [List.drop_drop,List.drop_drop,<-Nat.succ_mul] at this
  have hlen:(iB l z p j++(l.drop (j*z)).take z).length=db p j*z+z:=by rw[List.length_append,hkc,hr]
  rw[List.drop_append,List.drop_eq_nil_of_le (by rw[hlen,Nat.succ_mul];omega),List.nil_append,hlen,List.drop_drop,<-e2]
  congr 1
  rw[Nat.succ_mul];omega
theorem Gn {l L:List Value}{z j:Nat}{p:Nat->Bool}(h1:L.take (db p j*z)=iB l z p j)(h2:L.drop (j*z)=l.drop (j*z))(hp:p j=true):L.take (db p (j+1)*z)=iB l z p (j+1)/\L.drop ((j+1)*z)=l.drop ((j+1)*z):=by
 constructor
 ·simp[db,iB,hp,h1]
 ·have:=congrArg (List.drop z) h2
  rwa [List.drop_drop,List.drop_drop,<-Nat.succ_mul] at this
end Go.Cl
namespace Go.Cl
section
variable {α:Type} {Q:(Nat->Prop)->aq->List Value->α->Prop} {z:Nat} {F:Nat->Prop} {s:aq} {D E:List α} {l m:List Value}
def zJ (D:List α)(p:Nat->Bool):Nat->List α
 |0=>[]
 |j+1=>zJ D p j++(if p j then [] else D[j]?.toList)
theorem aS.abF (h:aS Q z F s D l){i:Nat}(hi:i<D.length):((l.drop (i*z)).take z).length=z:=by
 have e:=h.len
 have:(i+1)*z<=D.length*z:=Nat.mul_le_mul_right z hi
 rw[Nat.succ_mul] at this
 rw[List.length_take,List.length_drop];omega
theorem aS.kept (h:aS Q z F s D l)(p:Nat->Bool):∀j,j<=D.length->aS Q z F s (zJ D p j) (iB l z p j)
 |0,_=>aS.nil
 |j+1,hj=>by
  have ih:=h.kept p j (by omega)
  unfold zJ iB
  split
  ·simpa using ih
  ·rw[List.getElem?_eq_getElem (by omega)]
   exact ih.snoc (h.abF (by omega)) (h.row j (by omega))
theorem aS.take (h:aS Q z F s D l)(k:Nat)(hk:k<=D.length):aS Q z F s (D.take k) (l.take (k*z)):=by
 have hz:k*z<=D.length*z:=Nat.mul_le_mul_right z hk
 have e:=h.len
 refine⟨by rw[List.length_take,List.length_take,Nat.min_eq_left hk];omega,fun i hi=> ?_⟩
 have vF:i<k:=by rw[List.length_take] at hi;omega
 have Wz:(i+1)*z<=k*z:=Nat.mul_le_mul_right z vF
 rw[Nat.succ_mul] at Wz
 have:=h.row i (by omega)
 rw[List.getElem_take,List.drop_take,List.take_take,Nat.min_eq_left (by omega)]
 exact this
theorem aS.drop (h:aS Q z F s D l)(k:Nat)(hk:k<=D.length):aS Q z F s (D.drop k) (l.drop (k*z)):=by
 have e:=h.len
 refine⟨by rw[List.length_drop,List.length_drop,e,Nat.sub_mul],fun i hi=> ?_⟩
 have vF:k+i<D.length:=by rw[List.length_drop] at hi;omega
 have:=h.row (k+i) vF
 rw[List.getElem_drop,List.drop_drop,<-Nat.add_mul]
 exact this
theorem aS.append (h:aS Q z F s D l)(k:aS Q z F s E m):aS Q z F s (D++E) (l++m):=by
 have e:=h.len
 refine⟨by rw[List.length_append,List.length_append,e,k.len,Nat.add_mul],fun i hi=> ?_⟩
 by_cases bc:i<D.length
 ·have hz:(i+1)*z<=D.length*z:=Nat.mul_le_mul_right z bc
  rw[Nat.succ_mul] at hz
  rw[List.getElem_append_left bc,List.drop_append_of_le_length (by omega),List.take_append_of_le_length (by rw[List.length_drop];omega)]
  exact h.row i bc
 ·have vF:i-D.length<E.length:=by rw[List.length_append] at hi;omega
  have hz:D.length*z<=i*z:=Nat.mul_le_mul_right z (by omega)
  rw[List.getElem_append_right (by omega),List.drop_append,List.drop_eq_nil_of_le (by omega),List.nil_append,e,<-Nat.sub_mul]
  exact k.row _ vF
theorem wO {p:Nat->Bool}{q:α->Bool}:∀j,j<=D.length->(∀i (h:i<D.length),p i=q D[i])->zJ D p j=(D.take j).filter (fun y=> !(q y))
 |0,_,_=>by simp[zJ]
 |j+1,hj,h=>by
  have bc:j<D.length:=by omega
  have ih:=wO (p:=p) (q:=q) j (by omega) h
  unfold zJ
  rw[ih,h j bc,List.take_add_one,List.getElem?_eq_getElem bc,List.filter_append]
  cases hq:q D[j]<;>simp[hq]
end
end Go.Cl
namespace Go.Cl
open Go.Lib
def ZQ (D:List (List UInt8×O))(q:List UInt8×O->Bool)(i:Nat):Bool:=match D[i]? with
 |some y=>q y
 |none=>false
theorem yo {D:List (List UInt8×O)}{q:List UInt8×O->Bool}{i:Nat}(h:i<D.length):ZQ D q i=q D[i]:=by
 unfold ZQ;rw[List.getElem?_eq_getElem h]
theorem UB (D:List (List UInt8×O))(k:List UInt8):IL D k<=D.length:=List.findIdx_le_length
theorem UC {D:List (List UInt8×O)}{k:List UInt8}(h:∀i,i<D.length->ZQ D (fun y=> !(mn y.1 k)) i=false):IL D k=D.length:=by
 unfold IL
 rw[List.findIdx_eq_length]
 intro y hy
 obtain⟨i,hi,rfl⟩:=List.mem_iff_getElem.1 hy
 have:=h i hi
 rwa [yo hi] at this
theorem UD {D:List (List UInt8×O)}{k:List UInt8}{r:Nat}(hr:r<D.length)(h1:ZQ D (fun y=> !(mn y.1 k)) r=true)(h:∀i,i<r->ZQ D (fun y=> !(mn y.1 k)) i=false):IL D k=r:=by
 unfold IL
 rw[List.findIdx_eq hr]
 refine⟨by rwa [yo hr] at h1,fun j hj=> ?_⟩
 have:=h j hj
 rwa [yo (by omega)] at this
theorem Kb {D:List (List UInt8×O)}{k:List UInt8}{i:Nat}(hi:i<IL D k)(h:i<D.length):mn D[i].1 k=true:=by
 have:=List.not_of_lt_findIdx hi
 simpa using this
theorem wQ (a:List UInt8):mn a a=false:=by
 have:=zI a a
 simp at this;exact this
theorem H3 (D:List (List UInt8×O))(k:List UInt8):others k (D.take (IL D k))=D.take (IL D k):=by
 unfold others
 rw[List.filter_eq_self]
 intro y hy
 obtain⟨i,hi,rfl⟩:=List.mem_iff_getElem.1 hy
 rw[List.length_take] at hi
 rw[List.getElem_take]
 have h1:=Kb (D:=D) (k:=k) (i:=i) (by omega) (by omega)
 by_cases e:D[i].1=k
 ·rw[e,wQ] at h1;cases h1
 ·simpa using e
end Go.Cl
namespace Go.Cl
def MU (D:List (List UInt8×O))(e:List UInt8×O)(tF:Bool):List (List UInt8×O):=others e.1 (D.take (IL D e.1))++(if tF then [e] else [])++others e.1 (D.drop (IL D e.1))
theorem X1 (D:List (List UInt8×O))(e:List UInt8×O):iu D e=MU D e (decide (e.2.kind≠0)):=by
 unfold iu MU
 by_cases h:e.2.kind=0<;>simp[h]
def O.has (o:O):Bool:=decide (o.kind=7)||decide (o.kind=8)
def O.afk:O->List (List UInt8×O)->O
 | .mk k n b l _,d=> .mk k n b l d
def Ry (o:O)(L:List (List UInt8×O)):O:=if o.has then o.afk (cX o.wG L) else o
theorem CS {k:List UInt8}{d:List (List UInt8×O)}{y:List UInt8×O}(h:y∈others k d):y∈d:=(List.mem_filter.1 h).1
theorem UE {D:List (List UInt8×O)}{e y:List UInt8×O}(h:y∈iu D e):y∈D\/y=e:=by
 unfold iu at h
 rw[List.mem_append,List.mem_append] at h
 rcases h with (h|h)|h
 ·exact .inl (List.mem_of_mem_take (CS h))
 ·split at h
  ·cases h
  ·exact .inr (by simpa using h)
 ·exact .inl (List.mem_of_mem_drop (CS h))
theorem CT (k:List UInt8)(d:List (List UInt8×O)):(others k d).length<=d.length:=List.length_filter_le _ _
theorem UF (D:List (List UInt8×O))(e:List UInt8×O):(iu D e).length<=D.length+1:=by
 unfold iu
 have h1:=CT e.1 (D.take (IL D e.1))
 have h2:=CT e.1 (D.drop (IL D e.1))
 have h3:=UB D e.1
 rw[List.length_take] at h1
 rw[List.length_drop] at h2
 rw[List.length_append,List.length_append]
 split<;>simp<;>omega
theorem Kc (d l:List (List UInt8×O))(e:List UInt8×O):cX d (l++[e])=iu (cX d l) e:=by
 unfold cX;rw[List.foldl_append];rfl
theorem Kd {d l:List (List UInt8×O)}{i:Nat}(h:i<l.length):cX d (l.take (i+1))=iu (cX d (l.take i)) l[i]:=by
 rw[List.take_add_one,List.getElem?_eq_getElem h];exact Kc _ _ _
theorem CU (d:List (List UInt8×O)):∀l:List (List UInt8×O),(cX d l).length<=d.length+l.length:=by
 intro l
 induction l generalizing d with
 |nil=>exact Nat.le_refl _
 |cons e l ih=>
  have h1:=ih (iu d e)
  have h2:=UF d e
  have h3:cX d (e::l)=cX (iu d e) l:=rfl
  rw[h3,List.length_cons];omega
theorem MV {y:List UInt8×O}:∀(l d:List (List UInt8×O)),y∈cX d l->y∈d\/y∈l:=by
 intro l
 induction l with
 |nil=>intro d h;exact .inl h
 |cons e l ih=>
  intro d h
  rcases ih (iu d e) h with h|h
  ·rcases UE h with h|h
   ·exact .inl h
   ·rw[h];exact .inr (List.mem_cons_self ..)
  ·exact .inr (List.mem_cons_of_mem _ h)
end Go.Cl
namespace Go.Cl
end Go.Cl
set_option linter.unusedSimpArgs false
set_option linter.unusedVariables false
set_option maxRecDepth 100000
namespace Go.Proofs.YtdfjfncifneocaaGreat
open Go.Cl
theorem Gp {lib:az}(hl:lib.at 36=none)(s:aq)(x:Value)(l:List UInt8)(hx:aN s 1 x l.length (ofBytes l))(hlen:l.length<=140737488355328):
  Runs Tryz.prog lib 36 [x] s fun v s' =>cC s v s' l:=by
 refine Runs.enter 8 Tryz.func36 rfl hl rfl rfl ?_
 intro f hn hf
 have h0:f.get 0=x:=hf 0
 clear hf
 simp-implicitDefEqProofs(disch:=omega)only[aj,Nat.reduceLT,Nat.reduceEqDiff,↓reduceIte,hn,h0,hx.nV Tryz.underlying22]
 refine iq (fun h=> ?_) (fun h=> ?_)
 ·obtain⟨h1,_,_⟩:=hx.isNil h
  have:l=[]:=List.eq_nil_of_length_eq_zero h1
  subst this
  simp-implicitDefEqProofs(disch:=omega)only[aj,al,oneOf,Nat.reduceLT,↓reduceIte,hn,Tryz.results36]
  exact⟨.nil,aH.nil _,ar.refl _ _⟩
 ·simp-implicitDefEqProofs(disch:=omega)only[aj,ae,uH Tryz.underlying22 bL lh rfl rfl]
  refine aQ (by rfl) ?_
  intro b s1 hb hF aD
  simp-implicitDefEqProofs(disch:=omega)only[aj,ad,Nat.reduceLT,Nat.reduceEqDiff,↓reduceIte,hn,h0]
  refine bV Tryz.underlying22 Tryz.underlying22 (.inl ⟨_,rfl⟩) bL kG lh rfl hb (hx.keeps aD).src (by simp[bF]) (by decide) (dj _) (by omega) (by omega) hF aD.next ?_
  intro b' s2 oT HO dC _ _
  simp-implicitDefEqProofs(disch:=omega)only[aj,al,oneOf,Nat.reduceLT,↓reduceIte,hn,Tryz.results36]
  exact⟨by simpa using oT,HO,aD.trans dC⟩
end Go.Proofs.YtdfjfncifneocaaGreat
