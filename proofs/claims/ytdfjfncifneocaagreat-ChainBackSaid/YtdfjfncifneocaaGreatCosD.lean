/-
 Five digits for four bytes: the plain law of the writing.
-/
import Derived.Test.YtdfjfncifneocaaGreatHexP
import Derived.Lib.Bytealg
open _root_ renaming List->ab,reduceIte->an,UInt8->ao,Nat->a5,of_decide_eq_true->cA,absurd->cB,Int->c3,Bool->c6,decide_eq_true->dE,decide_eq_false->eh,if_neg->ew
open Go.Proofs.Tryz renaming prog->af,underlying26->a8,underlying23->bb,underlying24->bg,underlying22->cb,underlying63->cz,results36->eu
open Go renaming Value->av,Program->eo,TypeId->ep
open Nat renaming mul_le_mul_right->a0,succ_mul->a4,not_lt_zero->bl,le_refl->bq,reduceSub->cg,sub_self->c5,min_eq_left->c9,mod_eq_of_lt->eb,add_mul->eg,sub_mul->ey
open List renaming length_append->a1,length_drop->a2,getElem?_eq_getElem->a3,length_take->a6,drop_drop->a7,take_append_of_le_length->a9,take_of_length_le->bz,take_add_one->ca,getElem_mem->cc,all_cons->cd,drop_append_of_le_length->cm,getD_eq_getElem?_getD->cv,getElem_append_right->cx,getElem_append_left->c0,drop_eq_nil_of_le->c7,range_succ->c8,sizeOf_lt_of_mem->dd,drop_take->dt,mem_iff_getElem->dx,length_pos_iff->dH,all_nil->dU,getElem_take->ea,drop_append->ec,length_cons->ed,take_length->ee,nil_append->ek,mem_append->en,take_take->et,take_zero->ev,drop->eA
open Go.Op renaming bytesLess->bk
open Go.IntKind renaming u32->bo
open UInt8 renaming not_lt->b8,lt_irrefl->cp,le_antisymm->dX
open BitVec renaming ofInt->c4,ofInt_natCast->ds,toNat_ofNat->dT
open Nat renaming reduceLT->QS,reduceEqDiff->Qx
set_option linter.unusedSimpArgs false
set_option linter.unusedVariables false
set_option maxRecDepth 100000
namespace Go.Cl.B85
def val (l:ab ao):a5->a5
 |0=>0
 |i+1=>val l i*256+(if i<min 4 l.length then(l.getD i 0).toNat else 0)
theorem Wo (l:ab ao):∀i,val l i<256^i:=by
 intro i
 induction i with
 |zero=>simp[val]
 |succ i ih=>
  have hb:=(l.getD i 0).toNat_lt
  simp only[val,Nat.pow_succ]
  split<;>omega
theorem aad (l:ab ao){i:a5}(h:i<4):val l i<16777216:=by
 have h1:=Wo l i
 have h2:256^i<=256^3:=Nat.pow_le_pow_right (by omega) (by omega)
 have h3:(256:a5)^3=16777216:=by decide
 omega
theorem aae (l:ab ao):val l 4<4294967296:=by
 have:=Wo l 4
 have h3:(256:a5)^4=4294967296:=by decide
 omega
def YT (x k:a5):ao:=UInt8.ofNat (33+x/85^(4-k)%85)
def xT (x:a5):ab ao:=[YT x 0,YT x 1,YT x 2,YT x 3,YT x 4]
def laid (x j:a5):ab ao:=(List.range 5).map fun k=>if 5<=k+j then YT x k else 0
theorem Ht (x:a5):laid x 0=[0,0,0,0,0]:=by simp[laid,c8]
theorem Hu (x:a5):laid x 5=xT x:=by simp[laid,xT,c8]
theorem LG (x:a5){j:a5}(h:j<5):(laid x j).set (4-j) (YT x (4-j))=laid x (j+1):=by
 obtain rfl|rfl|rfl|rfl|rfl:j=0\/j=1\/j=2\/j=3\/j=4:=by omega
 all_goals simp[laid,c8]
theorem qi (l:ab ao)(k:a5)(c:ao):(ofBytes l).set k (.int .u8 (c.toNat:c3))=ofBytes (l.set k c):=by
 simp[ofBytes,List.map_set]
theorem QY (x j:a5)(h:j<5):((33+(x/85^j%85:a5):c3))%256=((YT x (4-j)).toNat:c3):=by
 have:4-(4-j)=j:=by omega
 simp only[YT,this,UInt8.toNat_ofNat']
 omega
def F1 (l:ab ao):ab ao:=
 if _h:l=[] then [126,62]
 else if min 4 l.length=4/\val l 4=0 then 122::F1 (l.drop (min 4 l.length))
 else(xT (val l 4)).take (min 4 l.length+1)++F1 (l.drop (min 4 l.length))
termination_by l.length
decreasing_by
 ·have:0<l.length:=dH.mpr _h
  rw[a2];omega
 ·have:0<l.length:=dH.mpr _h
  rw[a2];omega
theorem oX:F1 []=[126,62]:=by rw[F1];simp
theorem Wp {l:ab ao}(h:l≠[])(h2:min 4 l.length=4/\val l 4=0):F1 l=122::F1 (l.drop (min 4 l.length)):=by rw[F1,dif_neg h,if_pos h2]
theorem nX {l:ab ao}(h:l≠[])(h2:¬(min 4 l.length=4/\val l 4=0)):F1 l=(xT (val l 4)).take (min 4 l.length+1)++F1 (l.drop (min 4 l.length)):=by rw[F1,dif_neg h,ew h2]
theorem ui {x:c3}:bo.wrap x=x%4294967296:=by
 have e1:bo.bits=32:=rfl
 have e2:bo.signed=false:=rfl
 simp only[IntKind.wrap,e1,e2,Bool.false_and]
 simp
theorem aca (P:eo)(t:ep)(k' :IntKind)(a:c3):cQ P .shl t (.int .u32 a) (.int k' 8)=some (.int .u32 (bo.wrap (a*256))):=by
 rw[mW P t .u32 a 8 k' (by decide)];rfl
theorem adY {n:a5}{x:ao}(h:n<16777216):(((c4 bo.bits (((n:c3)*256))|||c4 bo.bits ((x.toNat:c3))).toNat:a5):c3)%4294967296=((n*256+x.toNat:a5):c3):=by
 have e1:bo.bits=32:=rfl
 have hx:=x.toNat_lt
 rw[e1]
 have e2:((n:c3)*256)=((n*256:a5):c3):=by omega
 have:(c4 32 ((n:c3)*256)|||c4 32 (x.toNat:c3)).toNat=n*256+x.toNat:=by
  rw[e2,BitVec.toNat_or,ds,ds,dT,dT,eb (by omega),eb (by omega)]
  have:=Nat.shiftLeft_add_eq_or_of_lt (i:=8) (b:=x.toNat) hx n
  rw[Nat.shiftLeft_eq] at this
  exact this.symm
 rw[this];omega
theorem aaf {n:a5}(h:n<16777216):((n:c3)*256)%4294967296=(n:c3)*256:=by omega
theorem Wq (x:ao):((x.toNat:c3))%4294967296=(x.toNat:c3):=by have:=x.toNat_lt;omega
end Go.Cl.B85
namespace Go.Cl
inductive O where
 |mk (kind n:c3) (b:ab ao) (l:ab O) (d:ab (ab ao×O))
namespace O
def kind:O->c3
 | .mk k _ _ _ _=>k
def num:O->c3
 | .mk _ n _ _ _=>n
def bytes:O->ab ao
 | .mk _ _ b _ _=>b
def items:O->ab O
 | .mk _ _ _ l _=>l
def xO:O->ab (ab ao×O)
 | .mk _ _ _ _ d=>d
def none:O:= .mk 0 0 [] [] []
theorem Ws {k n:c3}{b:ab ao}{l:ab O}{d:ab (ab ao×O)}{x:O}(h:x∈l):SizeOf.sizeOf x<SizeOf.sizeOf (O.mk k n b l d):=by
 have:=dd h
 simp only[O.mk.sizeOf_spec];omega
theorem aah {k n:c3}{b:ab ao}{l:ab O}{d:ab (ab ao×O)}{e:ab ao×O}(h:e∈d):SizeOf.sizeOf e.2<SizeOf.sizeOf (O.mk k n b l d):=by
 have h1:=dd h
 obtain⟨a,x⟩:=e
 simp only[Prod.mk.sizeOf_spec] at h1
 simp only[O.mk.sizeOf_spec];omega
end O
def gu (F:a5->Prop):av->Prop
 | .slice (some a) _ c=>c≠0->F a.block
 |_=>True
theorem gu.mono {F G:a5->Prop}{v:av}(h:gu F v)(k:∀j,F j->G j):gu G v:=by
 unfold gu at*
 split
 ·exact fun hc=>k _ (h hc)
 ·trivial
theorem gu.Wu {F:a5->Prop}{v:av}(h:∀j,aI v=some j->F j):gu F v:=by
 unfold gu
 split
 ·exact fun _=>h _ rfl
 ·trivial
theorem gu.fresh {base:a5}{v:av}(h:aF base v):gu (fun j=>base<=j) v:=gu.Wu h
theorem aN.OJ {F:a5->Prop}{s s' :aq}{z:a5}{v u:av}{n:a5}{l:ab av}(h:aN s z v n l)(hf:gu F v)(k:bt u s s')(cH:∀j,F j->aI u≠some j):aN s' z v n l:=by
 cases h with
 |nil=>exact .nil
 |bare i off=>exact .bare i off
 |of i off n c b l hi hb hz hl hc hlen fy ht=>
  have hF:F i:=hf (by omega)
  refine .of i off n c b l (Nat.lt_of_lt_of_le hi k.next) ?_ hz hl hc hlen fy ht
  simp only[aq.bR,k.get i hi (cH i hF)];exact hb
inductive dy (F:a5->Prop) (s:aq):ab av->O->Prop
 |mk (kind n:c3) (b:ab ao) (l:ab O) (d:ab (ab ao×O)) (bv lv dv:av) (lc dc:ab av)
  (hb:aN s 1 bv b.length (ofBytes b)) (hl:aN s 5 lv l.length lc) (hd:aN s 6 dv d.length dc)
  (fb:gu F bv) (fl:gu F lv) (fd:gu F dv)
  (hL:∀i (h:i<l.length),dy F s ((lc.drop (i*5)).take 5) l[i])
  (hK:∀i (h:i<d.length),dc.getD (i*6) undef= .string ⟨(d[i].1).toArray⟩)
  (hD:∀i (h:i<d.length),dy F s ((dc.drop (i*6+1)).take 5) d[i].2)
  (hM:∀i (h:i<d.length),(d[i].1).length<=9223372036854775807):
  dy F s [.int .i64 kind,.int .i64 n,bv,lv,dv] (.mk kind n b l d)
variable {F G:a5->Prop} {s s' :aq} {cs:ab av} {o:O}
theorem dy.keeps (h:dy F s cs o)(k:ar s.next s s'):dy F s' cs o:=by
 induction h with
 |mk kind n b l d bv lv dv lc dc hb hl hd fb fl fd _ hK _ hM hL hD=>exact .mk kind n b l d bv lv dv lc dc (hb.keeps k) (hl.keeps k) (hd.keeps k) fb fl fd hL hK hD hM
theorem dy.mono (h:dy F s cs o)(k:∀j,F j->G j):dy G s cs o:=by
 induction h with
 |mk kind n b l d bv lv dv lc dc hb hl hd fb fl fd _ hK _ hM hL hD=>exact .mk kind n b l d bv lv dv lc dc hb hl hd (fb.mono k) (fl.mono k) (fd.mono k) hL hK hD hM
theorem dy.turns {u:av}(h:dy F s cs o)(k:bt u s s')(cH:∀j,F j->aI u≠some j):dy F s' cs o:=by
 induction h with
 |mk kind n b l d bv lv dv lc dc hb hl hd fb fl fd _ hK _ hM hL hD=>exact .mk kind n b l d bv lv dv lc dc (hb.OJ fb k cH) (hl.OJ fl k cH) (hd.OJ fd k cH) fb fl fd hL hK hD hM
theorem dy.len (h:dy F s cs o):cs.length=5:=by cases h;rfl
theorem dy.ok (h:dy F s cs o):cs.all aL=true:=by
 cases h with
 |mk kind n b l d bv lv dv lc dc hb hl hd fb fl fd hL hK hD hM=>
  have h1:=hb.aL
  have h2:=hl.aL
  have h3:=hd.aL
  simp only[cd,dU,h1,h2,h3];rfl
theorem DJ {a b c d e:av}(h1:cN a a=true)(h2:cN b b=true)(h3:cN c c=true)(h4:cN d d=true)(h5:cN e e=true):bZ (.agg #[a,b,c,d,e]) (.agg #[a,b,c,d,e])=true:=by
 simp[bZ,fp,h1,h2,h3,h4,h5]
theorem aN.QZ {s:aq}{z:a5}{v:av}{n:a5}{l:ab av}(h:aN s z v n l):cN v v=true:=by
 cases h<;>simp[cN,Nat.beq_refl]
theorem dy.self (h:dy F s cs o):bZ (.agg cs.toArray) (.agg cs.toArray)=true:=by
 cases h with
 |mk kind n b l d bv lv dv lc dc hb hl hd fb fl fd hL hK hD hM=>
  exact DJ (by simp[cN]) (by simp[cN]) hb.QZ hl.QZ hd.QZ
theorem dy.inv {kind n:c3}{b:ab ao}{l:ab O}{d:ab (ab ao×O)}(h:dy F s cs (.mk kind n b l d)):∃bv lv dv lc dc,cs=[.int .i64 kind,.int .i64 n,bv,lv,dv]/\aN s 1 bv b.length (ofBytes b)/\aN s 5 lv l.length lc/\aN s 6 dv d.length dc/\gu F bv/\gu F lv/\gu F dv/\
  (∀i (h:i<l.length),dy F s ((lc.drop (i*5)).take 5) l[i])/\(∀i (h:i<d.length),dc.getD (i*6) undef= .string ⟨(d[i].1).toArray⟩)/\(∀i (h:i<d.length),dy F s ((dc.drop (i*6+1)).take 5) d[i].2)/\(∀i (h:i<d.length),(d[i].1).length<=9223372036854775807):=by
 cases h with
 |mk _ _ _ _ _ bv lv dv lc dc hb hl hd fb fl fd hL hK hD hM=>exact⟨bv,lv,dv,lc,dc,rfl,hb,hl,hd,fb,fl,fd,hL,hK,hD,hM⟩
def de:ab av:=[.int .i64 0,.int .i64 0,.slice Option.none 0 0,.slice Option.none 0 0,.slice Option.none 0 0]
theorem dy.none (F:a5->Prop)(s:aq):dy F s de O.none:=
 .mk 0 0 [] [] [] _ _ _ [] [] .nil .nil .nil trivial trivial trivial (fun i h=>cB h (bl i)) (fun i h=>cB h (bl i)) (fun i h=>cB h (bl i)) (fun i h=>cB h (bl i))
theorem gu.below {z:a5}{v:av}{n:a5}{l:ab av}(h:aN s z v n l)(hf:gu F v):gu (fun j=>F j/\j<s.next) v:=by
 cases h with
 |nil=>trivial
 |bare i off=>exact fun hc=>cB rfl hc
 |of i off n c b l hi hb hz hl hc hlen fy ht=>exact fun Je=>⟨hf Je,hi⟩
theorem dy.aai (h:dy F s cs o):dy (fun j=>F j/\j<s.next) s cs o:=by
 induction h with
 |mk kind n b l d bv lv dv lc dc hb hl hd fb fl fd _ hK _ hM hL hD=>exact .mk kind n b l d bv lv dv lc dc hb hl hd (gu.below hb fb) (gu.below hl fl) (gu.below hd fd) hL hK hD hM
structure vc {α:Type} (Q:(a5->Prop)->aq->ab av->α->Prop):Prop where
 keeps:∀{F s s' cs d},Q F s cs d->ar s.next s s' ->Q F s' cs d
 mono:∀{F G:a5->Prop} {s cs d},Q F s cs d->(∀j,F j->G j)->Q G s cs d
 turns:∀{F:a5->Prop} {s s' cs d u},Q F s cs d->bt u s s' ->(∀j,F j->aI u≠some j)->Q F s' cs d
 below:∀{F:a5->Prop} {s cs d},Q F s cs d->Q (fun j=>F j/\j<s.next) s cs d
theorem cK:vc dy:=⟨fun h k=>h.keeps k,fun h k=>h.mono k,fun h k n=>h.turns k n,fun h=>h.aai⟩
def dz (F:a5->Prop)(s:aq)(cs:ab av)(e:ab ao×O):Prop:=∃r,cs= .string ⟨e.1.toArray⟩::r/\dy F s r e.2/\e.1.length<=9223372036854775807
theorem dz.keeps {e:ab ao×O}(h:dz F s cs e)(k:ar s.next s s'):dz F s' cs e:=by
 obtain⟨r,h1,h2,h3⟩:=h;exact⟨r,h1,h2.keeps k,h3⟩
theorem dz.mono {e:ab ao×O}(h:dz F s cs e)(k:∀j,F j->G j):dz G s cs e:=by
 obtain⟨r,h1,h2,h3⟩:=h;exact⟨r,h1,h2.mono k,h3⟩
theorem fa:vc dz:=⟨fun h k=>h.keeps k,fun h k=>h.mono k,fun⟨r,h1,h2,h3⟩ k n=>⟨r,h1,h2.turns k n,h3⟩,fun⟨r,h1,h2,h3⟩=>⟨r,h1,h2.aai,h3⟩⟩
structure aU {α:Type} (Q:(a5->Prop)->aq->ab av->α->Prop) (z:a5) (F:a5->Prop) (s:aq) (D:ab α) (lc:ab av):Prop where
 len:lc.length=D.length*z
 row:∀i (h:i<D.length),Q F s ((lc.drop (i*z)).take z) D[i]
section
variable {α:Type} {Q:(a5->Prop)->aq->ab av->α->Prop} {z:a5} {D:ab α} {lc:ab av}
theorem aU.nil:aU Q z F s [] []:=⟨by simp,fun i h=>cB h (bl i)⟩
theorem aU.keeps (hQ:vc Q)(h:aU Q z F s D lc)(k:ar s.next s s'):aU Q z F s' D lc:=⟨h.len,fun i hi=>hQ.keeps (h.row i hi) k⟩
theorem aU.mono (hQ:vc Q)(h:aU Q z F s D lc)(k:∀j,F j->G j):aU Q z G s D lc:=⟨h.len,fun i hi=>hQ.mono (h.row i hi) k⟩
theorem aU.turns {u:av}(hQ:vc Q)(h:aU Q z F s D lc)(k:bt u s s')(cH:∀j,F j->aI u≠some j):aU Q z F s' D lc:=⟨h.len,fun i hi=>hQ.turns (h.row i hi) k cH⟩
theorem aU.below (hQ:vc Q)(h:aU Q z F s D lc):aU Q z (fun j=>F j/\j<s.next) s D lc:=⟨h.len,fun i hi=>hQ.below (h.row i hi)⟩
theorem aU.snoc (h:aU Q z F s D lc){d:α}{cs:ab av}(hc:cs.length=z)(hd:Q F s cs d):aU Q z F s (D++[d]) (lc++cs):=by
 refine⟨by rw[a1,a1,h.len,hc,List.length_singleton,a4],fun i hi=> ?_⟩
 have wB:i<D.length+1:=by simpa using hi
 by_cases hik:i<D.length
 ·have e:((lc++cs).drop (i*z)).take z=(lc.drop (i*z)).take z:=by
   have:(i+1)*z<=lc.length:=by rw[h.len];exact a0 z hik
   rw[a4] at this
   rw[cm (by omega),a9 (by rw[a2];omega)]
  rw[e,c0 hik]
  exact h.row i hik
 ·obtain rfl:i=D.length:=by omega
  have e:((lc++cs).drop (D.length*z)).take z=cs:=by rw[<-h.len,List.drop_left,bz (by omega)]
  rw[e,cx (by omega)]
  simp only[c5,List.getElem_cons_zero]
  exact hd
theorem aU.grow (hQ:vc Q){base:a5}{X:a5->Prop}{T T' :aq}{v x' :av}(h:aU Q z (fun j=>base<=j/\¬X j/\aI v≠some j) T D lc){d:α}{cs:ab av}(hc:cs.length=z)(hd:Q (fun j=>base<=j/\¬X j/\aI v≠some j) T cs d)
  (ht:bt v T T') (ra:aI x' =aI v\/∃i,aI x' =some i/\T.next<=i):aU Q z (fun j=>base<=j/\¬X j/\aI x' ≠some j) T' (D++[d]) (lc++cs):=by
 refine aU.mono hQ (aU.turns hQ (aU.below hQ (h.snoc hc hd)) ht (fun j hj=>hj.1.2.2)) (fun j hj=>⟨hj.1.1,hj.1.2.1,fun e=> ?_⟩)
 rcases ra with h1|⟨i,h1,h2⟩
 ·exact hj.1.2.2 (by rw[<-h1];exact e)
 ·rw[h1] at e;injection e with e;have:=hj.2;omega
end
theorem dy.parts {kind n:c3}{b:ab ao}{l:ab O}{d:ab (ab ao×O)}(h:dy F s cs (.mk kind n b l d)):∃bv lv dv lc dc,cs=[.int .i64 kind,.int .i64 n,bv,lv,dv]/\aN s 1 bv b.length (ofBytes b)/\aN s 5 lv l.length lc/\aN s 6 dv d.length dc/\gu F bv/\gu F lv/\gu F dv/\aU dy 5 F s l lc/\aU dz 6 F s d dc:=by
 obtain⟨bv,lv,dv,lc,dc,h1,h2,h3,h4,h5,h6,h7,hL,hK,hD,hM⟩:=h.inv
 refine⟨bv,lv,dv,lc,dc,h1,h2,h3,h4,h5,h6,h7,⟨h3.length,hL⟩,⟨h4.length,fun i hi=>⟨_,?_,hD i hi,hM i hi⟩⟩⟩
 have hk:=hK i hi
 have bd:i*6<dc.length:=by rw[h4.length];omega
 rw[cv,a3 bd] at hk
 have hk:dc[i*6]= .string ⟨(d[i].1).toArray⟩:=hk
 rw[List.drop_eq_getElem_cons bd,List.take_succ_cons,hk]
theorem dy.whole {kind n:c3}{b:ab ao}{l:ab O}{d:ab (ab ao×O)}{bv lv dv:av}{lc dc:ab av}(hb:aN s 1 bv b.length (ofBytes b))(hl:aN s 5 lv l.length lc)(hd:aN s 6 dv d.length dc)(fb:gu F bv)(fl:gu F lv)(fd:gu F dv)(hL:aU dy 5 F s l lc)(hD:aU dz 6 F s d dc):
  dy F s [.int .i64 kind,.int .i64 n,bv,lv,dv] (.mk kind n b l d):=by
 refine .mk kind n b l d bv lv dv lc dc hb hl hd fb fl fd hL.row (fun i hi=> ?_) (fun i hi=> ?_) (fun i hi=> ?_)
 ·obtain⟨r,h1,_,_⟩:=hD.row i hi
  have h0:((dc.drop (i*6)).take 6)[0]?=some (.string ⟨(d[i].1).toArray⟩):=by rw[h1];rfl
  rw[List.getElem?_take_of_lt (by omega),List.getElem?_drop,Nat.add_zero] at h0
  rw[cv,h0];rfl
 ·obtain⟨r,h1,h2,_⟩:=hD.row i hi
  have h0:((dc.drop (i*6)).take 6).drop 1=r:=by rw[h1];rfl
  rw[dt,a7] at h0
  rw[show(dc.drop (i*6+1)).take 5=r from h0];exact h2
 ·obtain⟨_,_,_,h3⟩:=hD.row i hi
  exact h3
theorem aN.xU {P:eo}{e:ep}{m:a5}(ow:bX P e=some true)(cf:aX P e=some m){z:a5}{v:av}{n:a5}{l:ab av}(h:aN s z v n l){k j:a5}(hk:k<n)(hj:j+m<=z):aJ P s e (b6 (bc z v k) j)=some (.agg ((l.drop (k*z+j)).take m).toArray):=by
 cases h with
 |nil=>omega
 |bare=>omega
 |of i off n c b l hi hb hz hl hc hlen fy ht=>
  have hkz:k*z+z<=n*z:=by
   have:(k+1)*z<=n*z:=a0 z hk
   rwa [a4] at this
  show aJ P s e (.pointer (some ⟨i,off+k*z+j,some c⟩))=_
  unfold aJ
  simp only[ow,cf]
  rw[gF hb hl hc (by omega),<-ht,dt,a7,et,c9 (by omega),Nat.add_assoc]
inductive Small:O->Prop
 |mk {k n:c3} {b:ab ao} {l:ab O} {d:ab (ab ao×O)} (hb:b.length<=100000000) (hl:l.length<=100000) (hd:d.length<=100000) (hK:∀e∈d,e.1.length<=100000) (hL:∀x∈l,Small x) (hD:∀e∈d,Small e.2):Small (.mk k n b l d)
inductive Fit:O->Prop
 |mk {k n:c3} {b:ab ao} {l:ab O} {d:ab (ab ao×O)} (hb:b.length<=140737488351232) (hl:l.length*88<=140737488351232) (hd:d.length*104<=140737488351232) (hK:∀e∈d,e.1.length<=140737488351232) (hL:∀x∈l,Fit x) (hD:∀e∈d,Fit e.2):Fit (.mk k n b l d)
theorem Small.fit {o:O}(h:Small o):Fit o:=by
 induction h with
 |mk hb hl hd hK _ _ So ihD=>exact .mk (by omega) (by omega) (by omega) (fun e he=>Nat.le_trans (hK e he) (by decide)) So ihD
end Go.Cl
namespace Go.Cl
open Go.RowKit Go.ChangeShapes Go.WideShapes
structure arF (W:World) (S S' :St):Prop where
 begun:nN W S'
 ext:Ext S S'
 stay:ar S.s.next S.s S'.s
variable {H:Type} {enc:ep×av->H} {P:eo}
end Go.Cl
namespace Go.Proofs.YtdfjfncifneocaaGreat
open Go.Cl
variable {H:Type} {enc:ep×av->H} {W:World}
end Go.Proofs.YtdfjfncifneocaaGreat
namespace Go.Proofs.YtdfjfncifneocaaGreat
open Go.Cl
theorem iL:aX af 26=some 5:=by kernel_rfl
theorem Hv:bX af 26=some true:=by kernel_rfl
theorem zO:bV af 26=some (.agg de.toArray):=by kernel_rfl
theorem wD:bN (.agg de.toArray)=true:=by kernel_rfl
theorem byO:eY af 26=some 88:=by kernel_rfl
theorem qq:aX af 63=some 6:=by kernel_rfl
theorem Tc:bX af 63=some true:=by kernel_rfl
theorem byE:eY af 63=some 104:=by kernel_rfl
def xV:ab av:= .string ⟨#[]⟩::de
theorem zE:bV af 63=some (.agg xV.toArray):=by kernel_rfl
theorem Td:bN (.agg xV.toArray)=true:=by kernel_rfl
theorem xW:aX af 2=some 1:=by kernel_rfl
theorem acb:bX af 2=some false:=by kernel_rfl
theorem Wv:aX af 9=some 1:=by kernel_rfl
theorem LH:bX af 9=some false:=by kernel_rfl
theorem DL:aX af 23=some 1:=by kernel_rfl
theorem Ww:bX af 23=some false:=by kernel_rfl
theorem DM:aX af 24=some 1:=by kernel_rfl
theorem aaj:bX af 24=some false:=by kernel_rfl
theorem F2 (i o c:a5):au af 26 (.pointer (some ⟨i,o,some c⟩)) 0=some (.pointer (some ⟨i,o+0,some c⟩)):=by
 unfold au;rw[a8];simp[bA]
theorem of1 (i o c:a5):au af 26 (.pointer (some ⟨i,o,some c⟩)) 1=some (.pointer (some ⟨i,o+1,some c⟩)):=by
 unfold au;rw[a8];simp[xW]
theorem of2 (i o c:a5):au af 26 (.pointer (some ⟨i,o,some c⟩)) 2=some (.pointer (some ⟨i,o+2,some c⟩)):=by
 unfold au;rw[a8];simp[fT]
theorem of3 (i o c:a5):au af 26 (.pointer (some ⟨i,o,some c⟩)) 3=some (.pointer (some ⟨i,o+3,some c⟩)):=by
 unfold au;rw[a8];simp[DL]
theorem of4 (i o c:a5):au af 26 (.pointer (some ⟨i,o,some c⟩)) 4=some (.pointer (some ⟨i,o+4,some c⟩)):=by
 unfold au;rw[a8];simp[DM]
theorem bO3 (k n:c3){b:av}(hb:b.cells.toList=[b]):cC af 26 [(0,.int .i64 k),(1,.int .i64 n),(2,b)]=some (.agg #[.int .i64 k,.int .i64 n,b,.slice none 0 0,.slice none 0 0]):=by
 unfold cC;rw[a8]
 have hz:bV af 26=some (.agg #[.int .i64 0,.int .i64 0,.slice none 0 0,.slice none 0 0,.slice none 0 0]):=by kernel_rfl
 rw[hz]
 have ci:∀k n,(Value.int k n).cells= #[.int k n]:=fun _ _=>rfl
 simp[bA,xW,fT,DL,DM,bN,gQ,fG,placeOf,bS,setAt,ci,hb]
theorem bE (a:ab ao){cs:ab av}(hc:cs.length=5):cC af 63 [(0,.string ⟨a.toArray⟩),(1,.agg cs.toArray)]=some (.agg (.string ⟨a.toArray⟩::cs).toArray):=by
 unfold cC;rw[cz]
 have hz:bV af 63=some (.agg #[.string ⟨#[]⟩,.int .i64 0,.int .i64 0,.slice none 0 0,.slice none 0 0,.slice none 0 0]):=by kernel_rfl
 rw[hz]
 have ji:∀b,(Value.string b).cells= #[.string b]:=fun _=>rfl
 match cs,hc with
 |[a,b,c,d,e],_=>simp[Wv,iL,bN,gQ,fG,placeOf,bS,setAt,ji]
def lK (s:aq)(o:O)(v:av)(s' :aq):Prop:=∃cs,v= .agg cs.toArray/\dy (fun j=>s.next<=j) s' cs o/\ar s.next s s'
end Go.Proofs.YtdfjfncifneocaaGreat
namespace Go.Cl
inductive Wx:O->O->Prop
 |mk {k n n' :c3} {b b' :ab ao} {l l' :ab O} {d d' :ab (ab ao×O)} (hn:(k=1\/k=2\/k=3\/k=9)->n=n') (hb:(k=4\/k=5\/k=8)->b=b')
  (hl:k=6->l.length=l'.length) (hL:k=6->∀i (h:i<l.length) (h' :i<l'.length),Wx l[i] l'[i])
  (hd:(k=7\/k=8)->d.length=d'.length) (hK:(k=7\/k=8)->∀i (h:i<d.length) (h' :i<d'.length),d[i].1=d'[i].1) (hD:(k=7\/k=8)->∀i (h:i<d.length) (h' :i<d'.length),Wx d[i].2 d'[i].2):Wx (.mk k n b l d) (.mk k n' b' l' d')
theorem Te {p:a5->Prop}{i:a5}(h:∀j,j<i->p j)(hi:p i):∀j,j<i+1->p j:=by
 intro j hj
 rcases Nat.lt_succ_iff_lt_or_eq.mp hj with h1|h1
 ·exact h j h1
 ·rw[h1];exact hi
theorem ax.uj {P:eo}{e:ep}{n:a5}(ow:bX P e=some true)(cf:aX P e=some n){s:aq}{i:a5}{cs:ab av}(h:ax s i cs){off c:a5}(hc:c=cs.length+1)(ho:off+n<=cs.length):
  aJ P s e (.pointer (some ⟨i,off,some c⟩))=some (.agg ((cs.drop off).take n).toArray):=by
 obtain⟨low,z,h1,h2⟩:=h.dZ
 subst hc
 unfold aJ
 simp only[ow,cf]
 rw[gF h1 h2 (bq _) (by omega)]
end Go.Cl
namespace Go.Cl
def ace (b:ab ao):Prop:=b.length<=127/\∀i (h:i<b.length),b[i].toNat≠0
def ahB (x y:ab ao):Prop:=¬(bk y x||y==x)=true
inductive ad0:c3->O->Prop
 |mk {p k n:c3} {b:ab ao} {l:ab O} {d:ab (ab ao×O)} (h1:l≠[]->k=6) (h2:d≠[]->k=7\/k=8) (h3:b≠[]->k=4\/k=5\/k=8) (hk:0<=k/\k<=9)
  (n1:k=1->n=0\/n=1) (n2:k=2-> -2147483647<=n/\n<=2147483647) (n3:k=3-> -214748364799999<=n/\n<=214748364799999) (n9:k=9->1<=n/\n<=8388607) (n0:k≠1->k≠2->k≠3->k≠9->n=0)
  (b4:k=4->b.length<=32767) (b5:k=5->ace b) (p6:k=6->1<=p) (l6:k=6->∀i (h:i<l.length),l[i].kind≠8) (m6:k=6->∀i (h:i<l.length),ad0 (p-1) l[i])
  (p7:k=7\/k=8->1<=p) (b7:k=7\/k=8->b.length<=16777216) (e7:k=7\/k=8->∀i (h:i<d.length),ace d[i].1/\d[i].2.kind≠8/\d[i].2.kind≠0) (m7:k=7\/k=8->∀i (h:i<d.length),ad0 (p-1) d[i].2)
  (r7:k=7\/k=8->∀i (h:i+1<d.length),ahB d[i].1 d[i+1].1):ad0 p (.mk k n b l d)
section
variable {p k n:c3} {b:ab ao} {l:ab O} {d:ab (ab ao×O)} (g1:l≠[]->k=6) (g2:d≠[]->k=7\/k=8) (g3:b≠[]->k=4\/k=5\/k=8)
include g1 g2 g3
omit g1 g2 g3 in
omit g1 g2 g3 in
end
section
variable {P:eo} {t:ep}
end
end Go.Cl
namespace Go.Cl
open Go.Lib
abbrev mR (a b:ab ao):c6:=bk a b
theorem AE:∀(a b:ab ao),(mR a b||a==b)= !(mR b a)
 |[],[]=>rfl
 |[],_::_=>rfl
 |_::_,[]=>rfl
 |x::a,y::b=>by
  have ih:=AE a b
  simp only[mR] at ih|-
  simp only[bk,List.cons_beq_cons]
  by_cases h:x=y
  ·subst h
   have hx:¬x<x:=cp x
   simp only[eh hx,Bool.false_or,beq_self_eq_true,Bool.true_and]
   exact ih
  ·have h1:(x==y)=false:=by simpa using h
   have h2:(y==x)=false:=by simpa using Ne.symm h
   simp only[h1,h2,Bool.false_and,Bool.or_false]
   by_cases hl:x<y
   ·have:¬y<x:=b8.2 (UInt8.le_of_lt hl)
    simp[hl,this]
   ·have:y<x:=UInt8.lt_of_le_of_ne (b8.1 hl) (Ne.symm h)
    simp[hl,this]
theorem mH:∀(a b:ab ao),0<=compareBytes a b↔mR a b=false
 |[],[]=>by simp[compareBytes,mR,bk]
 |[],_::_=>by simp[compareBytes,mR,bk]
 |_::_,[]=>by simp[compareBytes,mR,bk]
 |x::a,y::b=>by
  have ih:=mH a b
  simp only[mR] at ih|-
  unfold compareBytes
  simp only[bk]
  by_cases h1:x<y
  ·simp[h1]
  ·rw[ew h1]
   by_cases h2:y<x
   ·have cH:(x==y)=false:=by
     have:x≠y:=fun e=>by subst e;exact cp x h2
     simpa using this
    rw[if_pos h2];simp[h1,cH]
   ·rw[ew h2]
    have:x=y:=dX (b8.1 h2) (b8.1 h1)
    subst this
    simp only[eh h1,Bool.false_or,beq_self_eq_true,Bool.true_and]
    exact ih
theorem mI:∀(a b:ab ao),compareBytes a b=0↔a=b
 |[],[]=>by simp[compareBytes]
 |[],_::_=>by simp[compareBytes]
 |_::_,[]=>by simp[compareBytes]
 |x::a,y::b=>by
  have ih:=mI a b
  unfold compareBytes
  by_cases h1:x<y
  ·have:x≠y:=fun e=>by subst e;exact cp x h1
   simp[h1,this]
  ·rw[ew h1]
   by_cases h2:y<x
   ·have:x≠y:=fun e=>by subst e;exact cp x h2
    simp[h2,this]
   ·rw[ew h2,ih]
    have:x=y:=dX (b8.1 h2) (b8.1 h1)
    subst this
    simp
def Ka (d:ab (ab ao×O))(k:ab ao):a5:=d.findIdx (fun y=> !(mR y.1 k))
def others (k:ab ao)(d:ab (ab ao×O)):ab (ab ao×O):=d.filter (fun y=> !(y.1==k))
def iW (d:ab (ab ao×O))(e:ab ao×O):ab (ab ao×O):=
 others e.1 (d.take (Ka d e.1))++(if e.2.kind=0 then [] else [e])++others e.1 (d.drop (Ka d e.1))
def cV (d l:ab (ab ao×O)):ab (ab ao×O):=l.foldl iW d
end Go.Cl
namespace Go.Cl
def dn (p:a5->c6):a5->a5
 |0=>0
 |j+1=>dn p j+(if p j then 0 else 1)
def jg (l:ab av)(z:a5)(p:a5->c6):a5->ab av
 |0=>[]
 |j+1=>jg l z p j++(if p j then [] else(l.drop (j*z)).take z)
theorem tF (p:a5->c6):∀j,dn p j<=j
 |0=>bq _
 |j+1=>by have:=tF p j;unfold dn;split<;>omega
theorem uk {l:ab av}{z n:a5}(p:a5->c6)(hl:l.length=n*z):∀j,j<=n->(jg l z p j).length=dn p j*z
 |0,_=>by simp[jg,dn]
 |j+1,h=>by
  have ih:=uk p hl j (by omega)
  have hz:(j+1)*z<=n*z:=a0 z h
  rw[a4] at hz
  unfold jg dn
  split
  ·simp[ih]
  ·rw[a1,ih,a6,a2,eg,Nat.one_mul];omega
theorem DN {l:ab av}{z:a5}{p:a5->c6}:∀k,(∀i,i<k->p i=false)->dn p k=k/\jg l z p k=l.take (k*z)
 |0,_=>by simp[jg,dn]
 |k+1,h=>by
  obtain⟨h1,h2⟩:=DN (l:=l) (z:=z) k (fun i hi=>h i (by omega))
  have h3:=h k (by omega)
  unfold jg dn
  rw[h1,h2,h3]
  refine⟨rfl,?_⟩
  rw[a4,List.take_add];rfl
theorem Tf {l L:ab av}{z n j:a5}{p:a5->c6}(hL:L.length=n*z)(hl:l.length=n*z)(hj:j<n)(h1:L.take (dn p j*z)=jg l z p j)(h2:L.drop (j*z)=l.drop (j*z))(hp:p j=false):
  (over L (dn p j*z) ((l.drop (j*z)).take z)).take (dn p (j+1)*z)=jg l z p (j+1)/\(over L (dn p j*z) ((l.drop (j*z)).take z)).drop ((j+1)*z)=l.drop ((j+1)*z):=by
 have hz:(j+1)*z<=n*z:=a0 z hj
 have hk:dn p j*z<=j*z:=a0 z (tF p j)
 have hr:((l.drop (j*z)).take z).length=z:=by rw[a4] at hz;rw[a6,a2];omega
 rw[a4] at hz
 have UC:=uk p hl j (by omega)
 unfold over
 rw[h1,hr]
 have e1:dn p (j+1)*z=dn p j*z+z:=by simp[dn,hp,a4]
 constructor
 ·rw[e1,a9 (by rw[a1,UC,hr];omega),bz (by rw[a1,UC,hr];omega)]
  simp[jg,hp]
 ·have e2:L.drop ((j+1)*z)=l.drop ((j+1)*z):=by
   have:=congrArg (eA z) h2
   rwa [a7,a7,<-a4] at this
  have hlen:(jg l z p j++(l.drop (j*z)).take z).length=dn p j*z+z:=by rw[a1,UC,hr]
  rw[ec,c7 (by rw[hlen,a4];omega),ek,hlen,a7,<-e2]
  congr 1
  rw[a4];omega
theorem Hw {l L:ab av}{z j:a5}{p:a5->c6}(h1:L.take (dn p j*z)=jg l z p j)(h2:L.drop (j*z)=l.drop (j*z))(hp:p j=true):L.take (dn p (j+1)*z)=jg l z p (j+1)/\L.drop ((j+1)*z)=l.drop ((j+1)*z):=by
 constructor
 ·simp[dn,jg,hp,h1]
 ·have:=congrArg (eA z) h2
  rwa [a7,a7,<-a4] at this
end Go.Cl
namespace Go.Cl
section
variable {α:Type} {Q:(a5->Prop)->aq->ab av->α->Prop} {z:a5} {F:a5->Prop} {s:aq} {D E:ab α} {l m:ab av}
def AF (D:ab α)(p:a5->c6):a5->ab α
 |0=>[]
 |j+1=>AF D p j++(if p j then [] else D[j]?.toList)
theorem aU.ad1 (h:aU Q z F s D l){i:a5}(hi:i<D.length):((l.drop (i*z)).take z).length=z:=by
 have e:=h.len
 have:(i+1)*z<=D.length*z:=a0 z hi
 rw[a4] at this
 rw[a6,a2];omega
theorem aU.kept (h:aU Q z F s D l)(p:a5->c6):∀j,j<=D.length->aU Q z F s (AF D p j) (jg l z p j)
 |0,_=>aU.nil
 |j+1,hj=>by
  have ih:=h.kept p j (by omega)
  unfold AF jg
  split
  ·simpa using ih
  ·rw[a3 (by omega)]
   exact ih.snoc (h.ad1 (by omega)) (h.row j (by omega))
theorem aU.take (h:aU Q z F s D l)(k:a5)(hk:k<=D.length):aU Q z F s (D.take k) (l.take (k*z)):=by
 have hz:k*z<=D.length*z:=a0 z hk
 have e:=h.len
 refine⟨by rw[a6,a6,c9 hk];omega,fun i hi=> ?_⟩
 have wB:i<k:=by rw[a6] at hi;omega
 have Uw:(i+1)*z<=k*z:=a0 z wB
 rw[a4] at Uw
 have:=h.row i (by omega)
 rw[ea,dt,et,c9 (by omega)]
 exact this
theorem aU.drop (h:aU Q z F s D l)(k:a5)(hk:k<=D.length):aU Q z F s (D.drop k) (l.drop (k*z)):=by
 have e:=h.len
 refine⟨by rw[a2,a2,e,ey],fun i hi=> ?_⟩
 have wB:k+i<D.length:=by rw[a2] at hi;omega
 have:=h.row (k+i) wB
 rw[List.getElem_drop,a7,<-eg]
 exact this
theorem aU.append (h:aU Q z F s D l)(k:aU Q z F s E m):aU Q z F s (D++E) (l++m):=by
 have e:=h.len
 refine⟨by rw[a1,a1,e,k.len,eg],fun i hi=> ?_⟩
 by_cases bd:i<D.length
 ·have hz:(i+1)*z<=D.length*z:=a0 z bd
  rw[a4] at hz
  rw[c0 bd,cm (by omega),a9 (by rw[a2];omega)]
  exact h.row i bd
 ·have wB:i-D.length<E.length:=by rw[a1] at hi;omega
  have hz:D.length*z<=i*z:=a0 z (by omega)
  rw[cx (by omega),ec,c7 (by omega),ek,e,<-ey]
  exact k.row _ wB
theorem xX {p:a5->c6}{q:α->c6}:∀j,j<=D.length->(∀i (h:i<D.length),p i=q D[i])->AF D p j=(D.take j).filter (fun y=> !(q y))
 |0,_,_=>by simp[AF]
 |j+1,hj,h=>by
  have bd:j<D.length:=by omega
  have ih:=xX (p:=p) (q:=q) j (by omega) h
  unfold AF
  rw[ih,h j bd,ca,a3 bd,List.filter_append]
  cases hq:q D[j]<;>simp[hq]
end
end Go.Cl
namespace Go.Cl
open Go.Lib
def onE (D:ab (ab ao×O))(q:ab ao×O->c6)(i:a5):c6:=match D[i]? with
 |some y=>q y
 |none=>false
theorem zp {D:ab (ab ao×O)}{q:ab ao×O->c6}{i:a5}(h:i<D.length):onE D q i=q D[i]:=by
 unfold onE;rw[a3 h]
theorem Wy (D:ab (ab ao×O))(k:ab ao):Ka D k<=D.length:=List.findIdx_le_length
theorem Wz {D:ab (ab ao×O)}{k:ab ao}(h:∀i,i<D.length->onE D (fun y=> !(mR y.1 k)) i=false):Ka D k=D.length:=by
 unfold Ka
 rw[List.findIdx_eq_length]
 intro y hy
 obtain⟨i,hi,rfl⟩:=dx.1 hy
 have:=h i hi
 rwa [zp hi] at this
theorem WA {D:ab (ab ao×O)}{k:ab ao}{r:a5}(hr:r<D.length)(h1:onE D (fun y=> !(mR y.1 k)) r=true)(h:∀i,i<r->onE D (fun y=> !(mR y.1 k)) i=false):Ka D k=r:=by
 unfold Ka
 rw[List.findIdx_eq hr]
 refine⟨by rwa [zp hr] at h1,fun j hj=> ?_⟩
 have:=h j hj
 rwa [zp (by omega)] at this
theorem LI {D:ab (ab ao×O)}{k:ab ao}{i:a5}(hi:i<Ka D k)(h:i<D.length):mR D[i].1 k=true:=by
 have:=List.not_of_lt_findIdx hi
 simpa using this
theorem xY (a:ab ao):mR a a=false:=by
 have:=AE a a
 simp at this;exact this
theorem Ji (D:ab (ab ao×O))(k:ab ao):others k (D.take (Ka D k))=D.take (Ka D k):=by
 unfold others
 rw[List.filter_eq_self]
 intro y hy
 obtain⟨i,hi,rfl⟩:=dx.1 hy
 rw[a6] at hi
 rw[ea]
 have h1:=LI (D:=D) (k:=k) (i:=i) (by omega) (by omega)
 by_cases e:D[i].1=k
 ·rw[e,xY] at h1;cases h1
 ·simpa using e
end Go.Cl
namespace Go.Cl
def OK (D:ab (ab ao×O))(e:ab ao×O)(uz:c6):ab (ab ao×O):=others e.1 (D.take (Ka D e.1))++(if uz then [e] else [])++others e.1 (D.drop (Ka D e.1))
theorem aak (D:ab (ab ao×O))(e:ab ao×O):iW D e=OK D e (decide (e.2.kind≠0)):=by
 unfold iW OK
 by_cases h:e.2.kind=0<;>simp[h]
def O.has (o:O):c6:=decide (o.kind=7)||decide (o.kind=8)
def O.ahC:O->ab (ab ao×O)->O
 | .mk k n b l _,d=> .mk k n b l d
def Tg (o:O)(L:ab (ab ao×O)):O:=if o.has then o.ahC (cV o.xO L) else o
theorem DO {k:ab ao}{d:ab (ab ao×O)}{y:ab ao×O}(h:y∈others k d):y∈d:=(List.mem_filter.1 h).1
theorem WB {D:ab (ab ao×O)}{e y:ab ao×O}(h:y∈iW D e):y∈D\/y=e:=by
 unfold iW at h
 rw[en,en] at h
 rcases h with (h|h)|h
 ·exact .inl (List.mem_of_mem_take (DO h))
 ·split at h
  ·cases h
  ·exact .inr (by simpa using h)
 ·exact .inl (List.mem_of_mem_drop (DO h))
theorem DP (k:ab ao)(d:ab (ab ao×O)):(others k d).length<=d.length:=List.length_filter_le _ _
theorem WC (D:ab (ab ao×O))(e:ab ao×O):(iW D e).length<=D.length+1:=by
 unfold iW
 have h1:=DP e.1 (D.take (Ka D e.1))
 have h2:=DP e.1 (D.drop (Ka D e.1))
 have h3:=Wy D e.1
 rw[a6] at h1
 rw[a2] at h2
 rw[a1,a1]
 split<;>simp<;>omega
theorem LJ (d l:ab (ab ao×O))(e:ab ao×O):cV d (l++[e])=iW (cV d l) e:=by
 unfold cV;rw[List.foldl_append];rfl
theorem LK {d l:ab (ab ao×O)}{i:a5}(h:i<l.length):cV d (l.take (i+1))=iW (cV d (l.take i)) l[i]:=by
 rw[ca,a3 h];exact LJ _ _ _
theorem DQ (d:ab (ab ao×O)):∀l:ab (ab ao×O),(cV d l).length<=d.length+l.length:=by
 intro l
 induction l generalizing d with
 |nil=>exact bq _
 |cons e l ih=>
  have h1:=ih (iW d e)
  have h2:=WC d e
  have h3:cV d (e::l)=cV (iW d e) l:=rfl
  rw[h3,ed];omega
theorem OL {y:ab ao×O}:∀(l d:ab (ab ao×O)),y∈cV d l->y∈d\/y∈l:=by
 intro l
 induction l with
 |nil=>intro d h;exact .inl h
 |cons e l ih=>
  intro d h
  rcases ih (iW d e) h with h|h
  ·rcases WB h with h|h
   ·exact .inl h
   ·rw[h];exact .inr (List.mem_cons_self ..)
  ·exact .inr (List.mem_cons_of_mem _ h)
end Go.Cl
namespace Go.Proofs.YtdfjfncifneocaaGreat
open Go.Cl
theorem Hy {lib:aA}(hl:lib.at 36=none)(s:aq)(x:av)(l:ab ao)(hx:aN s 1 x l.length (ofBytes l))(hlen:l.length<=140737488355328):
  Runs af lib 36 [x] s fun v s' =>cM s v s' l:=by
 refine Runs.enter 8 Tryz.func36 rfl hl rfl rfl ?_
 intro f hn hf
 have h0:f.get 0=x:=hf 0
 clear hf
 simp only[aj,QS,Qx,↓an,hn,h0,hx.oP cb]
 refine iN (fun h=> ?_) (fun h=> ?_)
 ·obtain⟨h1,_,_⟩:=hx.isNil h
  have:l=[]:=List.eq_nil_of_length_eq_zero h1
  subst this
  simp only[aj,al,oneOf,QS,↓an,hn,eu]
  exact⟨.nil,aF.nil _,ar.refl _ _⟩
 ·simp only[aj,ae,y9 cb bK ks rfl rfl]
  refine aQ (by rfl) ?_
  intro b s1 hb hF aE
  simp only[aj,aa,QS,Qx,↓an,hn,h0]
  refine bY cb cb (.inl ⟨_,rfl⟩) bK jW ks rfl hb (hx.keeps aE).src (by simp[bM]) (by decide) (dh _) (by omega) (by omega) hF aE.next ?_
  intro b' s2 pL ze dO _ _
  simp only[aj,al,oneOf,QS,↓an,hn,eu]
  exact⟨by simpa using pL,ze,aE.trans dO⟩
end Go.Proofs.YtdfjfncifneocaaGreat
namespace Go.Proofs.YtdfjfncifneocaaGreat
open Go.Cl
theorem WD (i o c:a5):au af 63 (.pointer (some ⟨i,o,some c⟩)) 0=some (.pointer (some ⟨i,o+0,some c⟩)):=by
 unfold au;rw[cz];simp[Wv]
theorem aal (i o c:a5):au af 63 (.pointer (some ⟨i,o,some c⟩)) 1=some (.pointer (some ⟨i,o+1,some c⟩)):=by
 unfold au;rw[cz];simp[iL]
def Else (base:a5)(a b c:av)(j:a5):Prop:=base<=j/\aI a≠some j/\aI b≠some j/\aI c≠some j
def Q0 (s:aq)(o:O)(v:av)(s' :aq):Prop:=∃(bv lv dv:av) (LC DC:ab av),v= .agg #[.int .i64 o.kind,.int .i64 o.num,bv,lv,dv]/\Own s' 1 bv o.bytes.length (ofBytes o.bytes)/\Own s' 5 lv o.items.length LC/\Own s' 6 dv o.xO.length DC/\aF s.next bv/\aF s.next lv/\aF s.next dv/\
 (∀j,aI bv=some j->aI lv≠some j)/\(∀j,aI bv=some j->aI dv≠some j)/\(∀j,aI lv=some j->aI dv≠some j)/\aU dy 5 (Else s.next bv lv dv) s' o.items LC/\aU dz 6 (Else s.next bv lv dv) s' o.xO DC/\ar s.next s s'
theorem Q0.is {s s' :aq}{o:O}{v:av}(h:Q0 s o v s'):lK s o v s' :=by
 obtain⟨bv,lv,dv,LC,DC,rfl,h1,h2,h3,f1,f2,f3,-,-,-,r1,r2,hs⟩:=h
 cases o with
 |mk k n b l d=>exact⟨[.int .i64 k,.int .i64 n,bv,lv,dv],rfl,dy.whole h1.aG h2.aG h3.aG (gu.fresh f1) (gu.fresh f2) (gu.fresh f3) (r1.mono cK fun j h=>h.1) (r2.mono fa fun j h=>h.1),hs⟩
set_option maxHeartbeats 8000000 in
theorem ahD {lib:aA}(hl:lib.at 98=none)(jn:lib.at 36=none):∀(N:a5) (o:O),SizeOf.sizeOf o<=N->∀(F:a5->Prop) (s:aq) (cs:ab av),dy F s cs o->Fit o->
  Runs af lib 98 [.agg cs.toArray] s (Q0 s o):=by
 intro N
 induction N with
 |zero=>intro o h;cases o;simp at h
 |succ N ih=>
 intro o hN F s cs ho nM
 cases o with
 |mk kind num b l d=>
 obtain⟨bv,lv,dv,lc,dc,rfl,hb,hL,hD,fb,fl,fd,rl,rd⟩:=ho.parts
 cases nM with
 |mk gL g7 uR hK1 hL1 hD1=>
 refine Runs.enter 51 Tryz.func98 rfl hl rfl rfl ?_
 intro f hn hf
 have h0:f.get 0= .agg #[.int .i64 kind,.int .i64 num,bv,lv,dv]:=hf 0
 clear hf
 simp only[aj,QS,↓an,hn,h0]
 refine aw ?_
 intro s1 eK bn iV
 have mh:de.length+1=6:=rfl
 simp only[aj,QS,Nat.reduceAdd,↓an,hn,ed,List.length_nil,zO,wD]
 refine aw ?_
 intro s2 dD aR m8
 have vV:=eK.keeps aR
 have cR:ar s.next s s2:=bn.trans (aR.weaken (by omega))
 have dI:=hb.keeps cR
 simp only[aj,QS,↓an,hn,mh]
 obtain⟨A,hA⟩:∃A:a5->c6,A=fun j=>decide (j<s2.next):=⟨_,rfl⟩
 have iU:∀j,A j=true->j<s2.next:=by
  intro j h
  rw[hA] at h
  exact cA h
 have vM:∀j,j<s2.next->A j=true:=fun j h=>by rw[hA];exact dE h
 refine LB.cX.fi A iU 1 1 (by kernel_rfl) (by kernel_rfl) ?_
 have dC:=ar.spare s2 1
 have UD:(spare s2 1).next=s2.next+1:=bU _ _
 have LL:=vV.keeps dC
 have jw:∀k,LA.ej A (some (.pointer (some ⟨s.next,k,some 6⟩)))=true:=fun k=>LA.cr (A:=A) (i:=s.next) (vM _ vV.lt)
 have l0:aJ af (spare s2 1) 3 (.pointer (some ⟨s.next,0,some 6⟩))=some (.int .i64 kind):=LL.load bu (off:=0) (c:=6) rfl (by simp)
 have l1:aJ af (spare s2 1) 2 (.pointer (some ⟨s.next,1,some 6⟩))=some (.int .i64 num):=LL.load acb (off:=1) (c:=6) rfl (by simp)
 have l2:aJ af (spare s2 1) 22 (.pointer (some ⟨s.next,2,some 6⟩))=some bv:=LL.load fU (off:=2) (c:=6) rfl (by simp)
 simp only[aj,ak,bH,bI,c5,aa,ae,QS,Qx,↓an,hn,F2,of1,of2,jw,l0,l1,l2,dI.self]
 refine(Hy jn (spare s2 1) bv b (dI.keeps dC) (by omega)).mono ?_
 rintro ny s3 ⟨Nh,Oo,bC⟩
 have mQ:=bC.next
 refine⟨fun _=>LA.ar.yC iU (bC.weaken (by omega)),?_⟩
 have DR:bZ (.agg #[.int .i64 kind,.int .i64 num,ny,.slice none 0 0,.slice none 0 0]) (.agg #[.int .i64 kind,.int .i64 num,ny,.slice none 0 0,.slice none 0 0])=true:=DJ (by simp[cN]) (by simp[cN]) Nh.aG.QZ (by simp[cN]) (by simp[cN])
 simp only[aj,bI,QS,↓an,hn,bO3 kind num Nh.aG.tk,DR,zO,wD]
 refine LB.kK (by omega) ?_
 intro s4 gv sl oD
 simp only[aj,bI,QS,Qx,↓an,hn,mh]
 have al5:=Nh.aG.aL
 refine LB.ct iL (by decide) gv rfl rfl rfl (by simp only[cd,dU,al5];rfl) (fun h=>cB rfl h) ?_
 intro s5 wE OM Bi
 have wE:ax s5 s2.next [.int .i64 kind,.int .i64 num,ny,.slice none 0 0,.slice none 0 0]:=wE
 have xZ:ar s2.next s2 s5:=((dC.trans (bC.weaken (by omega))).trans ⟨by omega,fun j hj=>oD j (by omega)⟩).trans ⟨by omega,fun j hj=>Bi j (by omega)⟩
 have Nv:ar s.next s s5:=cR.trans (xZ.weaken (by omega))
 have aam:Own s5 1 ny b.length (ofBytes b):=(Nh.aK sl oD (fun e=>by have:=Oo _ e;omega)).aK OM Bi (fun e=>by have:=Oo _ e;omega)
 have Nu:∀j,aI ny=some j->s2.next+1<=j/\j<s5.next:=fun j hj=>⟨by have:=Oo j hj;omega,aam.iD j hj⟩
 have aan:=vV.keeps xZ
 have ad2:=dD.keeps xZ
 have hL5:=hL.keeps Nv
 have l6:aJ af s5 23 (.pointer (some ⟨s.next,3,some 6⟩))=some lv:=aan.load Ww (off:=3) (c:=6) rfl (by simp)
 simp only[aj,bI,cg,aa,QS,Qx,↓an,hn,of3,l6,hL5.bm bb]
 obtain⟨FF,UE⟩:∃FF:av->a5->Prop,FF=fun v j=>s5.next<=j/\¬(fun _=>False) j/\aI v≠some j:=⟨_,rfl⟩
 have g9:=aR.next
 have arJ:=xZ.next
 have aps:s2.next<s5.next:=wE.lt
 refine Comes.bQ (fun z f s6=>∃(i:a5) (y:av) (LC:ab av),z=l.length-i/\i<=l.length/\Own s6 5 y i LC/\aU dy 5 (FF y) s6 (l.take i) LC/\aF s5.next y/\Own s6 1 ny b.length (ofBytes b)/\ax s6 s.next [.int .i64 kind,.int .i64 num,bv,lv,dv]/\ax s6 s1.next de/\ax s6 s2.next [.int .i64 kind,.int .i64 num,ny,y,.slice none 0 0]/\ar s.next s s6/\s5.next<=s6.next/\f.n=51/\f.get 1= .pointer (some ⟨s.next,0,some 6⟩)/\f.get 2= .pointer (some ⟨s1.next,0,some 6⟩)/\f.get 3= .pointer (some ⟨s2.next,0,some 6⟩)/\f.get 17=lv/\f.get 18= .int .i64 (l.length:a5)/\f.get 19= .int .i64 (i:a5))
  (fun z f s6=>z= .exit 0/\∃(y:av) (LC:ab av),Own s6 5 y l.length LC/\aU dy 5 (FF y) s6 l LC/\aF s5.next y/\Own s6 1 ny b.length (ofBytes b)/\ax s6 s.next [.int .i64 kind,.int .i64 num,bv,lv,dv]/\ax s6 s1.next de/\ax s6 s2.next [.int .i64 kind,.int .i64 num,ny,y,.slice none 0 0]/\ar s.next s s6/\s5.next<=s6.next/\f.n=51/\f.get 1= .pointer (some ⟨s.next,0,some 6⟩)/\f.get 2= .pointer (some ⟨s1.next,0,some 6⟩)/\f.get 3= .pointer (some ⟨s2.next,0,some 6⟩))
  ⟨0,.slice none 0 0,[],rfl,by omega,.nil,by rw[ev];exact aU.nil,aF.nil _,aam,aan,ad2,wE,Nv,bq _,by simp only[ad,ag,↓an,Qx,hn,true_and];rfl⟩ ?_ ?_
 ·clear hn h0 f DR gv wE oD Bi Nh aam aan ad2 l0 l1 l2 l6 jw LL iU vM hA A
  rintro Q hQ z f s6 ⟨i,y,LC,rfl,hi,hy,hR,kN,zq,LM,ri,kZ,dY,YU,hn,h1,h2,h3,Be,zh,LN⟩
  have WE:=hL.keeps dY
  by_cases bd:i<l.length
  rotate_left
  ·obtain rfl:i=l.length:=by omega
   rw[ee] at hR
   have d1:¬((l.length:a5):c3)<((l.length:a5):c3):=by omega
   simp only[aj,QS,↓an,hn,zh,LN,eq_false d1]
   exact hQ _ _ _ ⟨rfl,y,LC,hy,hR,kN,zq,LM,ri,kZ,dY,YU,by simp only[ad,ag,↓an,Qx,hn,h1,h2,h3,and_self]⟩
  have wQ:aI y≠some s2.next:=fun e=>by have:=kN _ e;omega
  have d1:(i:c3)<(l.length:c3):=by omega
  have gB:=WE.indexAddr (P:=af) (k:= .i64) (x:=(i:c3)) bb iL (by omega) (by omega)
  rw[Int.toNat_natCast] at gB
  have fz:=WE.fJ (P:=af) Hv iL bd
  have vW:=(rl.row i bd).keeps dY
  obtain⟨xs,wA⟩:∃xs,xs=(lc.drop (i*5)).take 5:=⟨_,rfl⟩
  rw[<-wA] at fz vW
  have uM:=vW.len
  simp only[aj,QS,Qx,↓an,hn,Be,zh,LN,eq_true d1,gB,fz,zO,wD]
  refine aw ?_
  intro s7 uD jX rp
  simp only[aj,QS,Qx,↓an,hn,mh]
  refine aB iL (by decide) uD rfl rfl uM vW.ok ?_
  intro s8 vd WG Jj
  have vd:ax s8 s6.next xs:=vd
  have iY:ar s6.next s6 s8:=jX.trans ⟨by omega,fun j hj=>Jj j (by omega)⟩
  have LM:=LM.keeps iY
  have ri:=ri.keeps iY
  have kZ:=kZ.keeps iY
  have hy:=hy.keeps iY
  have hR:=hR.keeps cK iY
  have zq:=zq.keeps iY
  have vW:=vW.keeps iY
  simp only[aj]
  obtain⟨A,hA⟩:∃A:a5->c6,A=fun j=>decide (j<s8.next):=⟨_,rfl⟩
  have iU:∀j,A j=true->j<s8.next:=by
   intro j h
   rw[hA] at h
   exact cA h
  have vM:∀j,j<s8.next->A j=true:=fun j h=>by rw[hA];exact dE h
  refine LB.cX.fi A iU 1 1 (by kernel_rfl) (by kernel_rfl) ?_
  have dC:=ar.spare s8 1
  have UD:(spare s8 1).next=s8.next+1:=bU _ _
  have AG:∀k,LA.ej A (some (.pointer (some ⟨s2.next,k,some 6⟩)))=true:=fun k=>LA.cr (A:=A) (i:=s2.next) (vM _ kZ.lt)
  have Hz:∀k,LA.ej A (some (.pointer (some ⟨s6.next,k,some 6⟩)))=true:=fun k=>LA.cr (A:=A) (i:=s6.next) (vM _ vd.lt)
  have l8:aJ af (spare s8 1) 23 (.pointer (some ⟨s2.next,3,some 6⟩))=some y:=(kZ.keeps dC).load Ww (off:=3) (c:=6) rfl (by simp)
  have l9:aJ af (spare s8 1) 26 (.pointer (some ⟨s6.next,0,some 6⟩))=some (.agg xs.toArray):=ax.bF Hv (by rw[uM];exact iL) (vd.keeps dC) (by rw[uM])
  have vW:=vW.keeps dC
  simp only[aj,ak,bH,bI,c5,aa,ae,QS,Qx,↓an,hn,h3,of3,AG,Hz,l8,l9,hy.self,vW.self]
  refine(ih l[i] (by have:=O.Ws (k:=kind) (n:=num) (b:=b) (l:=l) (d:=d) (cc bd);omega) F (spare s8 1) _ vW (hL1 _ (cc bd))).mono ?_
  intro v9 s9 h9
  obtain⟨WH,rfl,Bj,rq⟩:=h9.is
  have hn9:=rq.next
  refine⟨fun _=>LA.ar.yC iU (rq.weaken (by omega)),?_⟩
  have zt:=Bj.len
  simp only[gi (cs:=WH.toArray) bb iL zO wD rfl zt (by decide)]
  refine LB.cZ (base:=s8.next) zt (by omega) (bq _) ?_
  intro bs sa oA gz ON Th WI
  have ie:ar s8.next s8 sa:=(dC.trans (rq.weaken (by omega))).trans ON
  have N1:=ie.next
  have YV:dy (FF y) sa WH l[i]:=by
   refine(Bj.turns (u:= .pointer (some ⟨s8.next,0,none⟩)) (bt.aK Th WI) (fun j hj e=> ?_)).mono (fun j hj=> ?_)
   ·have e:some s8.next=some j:=e
    injection e with e;omega
   ·rw[UE];exact⟨by omega,fun h=>h,fun e=>by have:=hy.iD _ e;omega⟩
  simp only[aj,bI,aa,QS,Qx,↓an,hn]
  refine LB.iT bb bb (.inl ⟨_,rfl⟩) iL byO zO rfl (hy.keeps ie) oA.aG.src zt (by decide) YV.ok (by omega) (by omega) (base:=s5.next) kN (by omega) (fun h=>cB rfl h) (fun j hj=>by have:=iU j hj;omega) ?_
  intro y' sb YW hFb pF ra
  have Fz:=pF.next
  have hR8:=hR.keeps cK ie
  rw[UE] at hR8 YV
  have hR9:=hR8.grow cK zt YV pF ra
  rw[show(fun j=>s5.next<=j/\¬(fun _=>False) j/\aI y' ≠some j)=FF y' by rw[UE]] at hR9
  have Iv:∀j,aI y=some j->s5.next<=j:=kN
  have ad3:Own sb 1 ny b.length (ofBytes b):=(zq.keeps ie).turns pF (fun j hj e=>by have:=(Nu j hj).2;have:=Iv _ e;omega)
  have ad4:aI y' ≠some s2.next:=fun e=>by have:=hFb _ e;omega
  simp only[aj,bH,bI,cg,QS,Qx,↓an,hn,h3,of3]
  refine LB.fj DL (by decide) ((kZ.keeps ie).turns pF wQ) (off:=3) (c:=6) rfl (vs:=[y']) YW.aG.tk rfl (by simp) (by simp[YW.aG.aL]) (fun h=>cB rfl h) ?_
  intro sc EY x4 tG
  have EY:ax sc s2.next [.int .i64 kind,.int .i64 num,ny,y',.slice none 0 0]:=EY
  have huc:bt (.pointer (some ⟨s2.next,0,none⟩)) sb sc:=bt.aK x4 tG
  have Ti:∀j,FF y' j->aI (.pointer (some ⟨s2.next,0,none⟩))≠some j:=fun j hj e=>by
   have e:some s2.next=some j:=e
   injection e with e
   rw[UE] at hj;have:=hj.1;omega
  simp(disch:=omega)only[aj,bI,cg,QS,Qx,↓an,hn,LN,aD]
  refine ay (l.length-(i+1)) (by omega) ⟨i+1,y',LC++WH,rfl,by omega,YW.aK x4 tG ad4,?_,hFb,ad3.aK x4 tG (fun e=>by have:=(Nu _ e).1;omega),((LM.keeps ie).turns pF (fun e=>by have:=Iv _ e;omega)).aK x4 tG (by omega),((ri.keeps ie).turns pF (fun e=>by have:=Iv _ e;omega)).aK x4 tG (by omega),EY,?_,by omega,by simp only[ag,hn],by simp only[ad,↓an,Qx,h1],by simp only[ad,↓an,Qx,h2],by simp only[ad,↓an,Qx,h3],by simp only[ad,↓an,Qx,Be],by simp only[ad,↓an,Qx,zh],by simp only[ad,↓an];rfl⟩
  ·rw[ca,a3 bd]
   exact hR9.turns cK huc Ti
  ·exact(((dY.trans (iY.weaken dY.next)).trans (ie.weaken (by have:=dY.next;have:=iY.next;omega))).trans ((pF.keeps kN (by omega)).weaken Nv.next)).trans ⟨by omega,fun j hj=>tG j (by omega)⟩
 clear hn h0 f DR gv wE oD Bi Nh aam aan ad2 l0 l1 l2 l6 jw LL iU vM hA A
 rintro z f s6 ⟨rfl,y,LC,Nw,hR,kN,zq,LM,ri,kZ,dY,YU,hn,h1,h2,h3⟩
 have hD6:=hD.keeps dY
 have l6:aJ af s6 24 (.pointer (some ⟨s.next,4,some 6⟩))=some dv:=LM.load aaj (off:=4) (c:=6) rfl (by simp)
 simp only[aj,aa,QS,↓an,hn,h1,of4,l6,hD6.bm bg]
 have It:∀j,aI y=some j->s5.next<=j/\j<s6.next:=fun j hj=>⟨kN j hj,Nw.iD j hj⟩
 have WJ:=hR.below cK
 obtain⟨FI,hFI⟩:∃FI:a5->Prop,FI=fun j=>FF y j/\j<s6.next:=⟨_,rfl⟩
 rw[<-hFI] at WJ
 have OO:∀j,FI j->s5.next<=j/\j<s6.next/\aI y≠some j:=fun j hj=>by rw[hFI,UE] at hj;exact⟨hj.1.1,hj.2,hj.1.2.2⟩
 obtain⟨FE,hFE⟩:∃FE:av->a5->Prop,FE=fun v j=>s6.next<=j/\¬(fun _=>False) j/\aI v≠some j:=⟨_,rfl⟩
 clear hFI hR l6
 clear UE FF
 refine Comes.bQ (fun z f t6=>∃(i:a5) (w:av) (DC:ab av),z=d.length-i/\i<=d.length/\Own t6 6 w i DC/\aU dz 6 (FE w) t6 (d.take i) DC/\aF s6.next w/\Own t6 1 ny b.length (ofBytes b)/\Own t6 5 y l.length LC/\aU dy 5 FI t6 l LC/\ax t6 s1.next de/\ax t6 s2.next [.int .i64 kind,.int .i64 num,ny,y,w]/\ar s.next s t6/\s6.next<=t6.next/\f.n=51/\f.get 2= .pointer (some ⟨s1.next,0,some 6⟩)/\f.get 3= .pointer (some ⟨s2.next,0,some 6⟩)/\f.get 32=dv/\f.get 33= .int .i64 (d.length:a5)/\f.get 34= .int .i64 (i:a5))
  (fun z f t6=>z= .exit 2/\∃(w:av) (DC:ab av),Own t6 6 w d.length DC/\aU dz 6 (FE w) t6 d DC/\aF s6.next w/\Own t6 1 ny b.length (ofBytes b)/\Own t6 5 y l.length LC/\aU dy 5 FI t6 l LC/\ax t6 s1.next de/\ax t6 s2.next [.int .i64 kind,.int .i64 num,ny,y,w]/\ar s.next s t6/\s6.next<=t6.next/\f.n=51/\f.get 2= .pointer (some ⟨s1.next,0,some 6⟩)/\f.get 3= .pointer (some ⟨s2.next,0,some 6⟩))
  ⟨0,.slice none 0 0,[],rfl,by omega,.nil,by rw[ev];exact aU.nil,aF.nil _,zq,Nw,WJ,ri,kZ,dY,bq _,by simp only[ad,ag,↓an,Qx,hn,h2,h3,true_and];rfl⟩ ?_ ?_
 ·clear hn h1 h2 h3 f LM ri kZ zq Nw WJ kN
  rintro Q hQ z f t6 ⟨i,w,DC,rfl,hi,hw,hRE,yD,zq,Nw,WJ,ri,kZ,dY,hn7,hn,h2,h3,YX,AH,wG⟩
  have hD6:=hD.keeps dY
  by_cases bd:i<d.length
  rotate_left
  ·obtain rfl:i=d.length:=by omega
   rw[ee] at hRE
   have d1:¬((d.length:a5):c3)<((d.length:a5):c3):=by omega
   simp only[aj,QS,↓an,hn,AH,wG,eq_false d1]
   exact hQ _ _ _ ⟨rfl,w,DC,hw,hRE,yD,zq,Nw,WJ,ri,kZ,dY,hn7,by simp only[ad,ag,↓an,Qx,hn,h2,h3,and_self]⟩
  have Tj:aI w≠some s2.next:=fun e=>by have:=yD _ e;omega
  have d1:(i:c3)<(d.length:c3):=by omega
  have gB:=hD6.indexAddr (P:=af) (k:= .i64) (x:=(i:c3)) bg qq (by omega) (by omega)
  rw[Int.toNat_natCast] at gB
  have fz:=hD6.fJ (P:=af) Tc qq bd
  obtain⟨r,pd,gx,A8⟩:=rd.row i bd
  have mO:=gx.len
  have vW:=gx.keeps dY
  rw[pd] at fz
  obtain⟨xs,wA⟩:∃xs,xs=Value.string ⟨(d[i].1).toArray⟩::r:=⟨_,rfl⟩
  rw[<-wA] at fz
  have uM:xs.length=6:=by rw[wA];simp[mO]
  have WK:xs.all aL=true:=by rw[wA,cd,gx.ok];rfl
  have ad7:bZ (.agg xs.toArray) (.agg xs.toArray)=true:=by
   have:=gx.self
   rw[wA]
   match r,mO,this with
   |[a,b,c,d,e],_,this=>
    simp[bZ,fp] at this|-
    exact⟨by simp[cN],this⟩
  simp only[aj,QS,Qx,↓an,hn,YX,AH,wG,eq_true d1,gB,fz,zE,Td]
  refine aw ?_
  intro s7 uD jX rp
  have hd7:xV.length+1=7:=rfl
  simp only[aj,QS,Qx,↓an,hn,hd7]
  refine aB qq (by decide) uD rfl rfl uM WK ?_
  intro s8 vd WG Jj
  have vd:ax s8 t6.next xs:=vd
  have iY:ar t6.next t6 s8:=jX.trans ⟨by omega,fun j hj=>Jj j (by omega)⟩
  have ri:=ri.keeps iY
  have kZ:=kZ.keeps iY
  have hw:=hw.keeps iY
  have hRE:=hRE.keeps fa iY
  have WJ:=WJ.keeps cK iY
  have zq:=zq.keeps iY
  have Nw:=Nw.keeps iY
  have vW:=vW.keeps iY
  have arK:=iY.next
  simp only[aj]
  obtain⟨A,hA⟩:∃A:a5->c6,A=fun j=>decide (j<s8.next):=⟨_,rfl⟩
  have iU:∀j,A j=true->j<s8.next:=by
   intro j h
   rw[hA] at h
   exact cA h
  have vM:∀j,j<s8.next->A j=true:=fun j h=>by rw[hA];exact dE h
  refine LB.cX.fi A iU 1 1 (by kernel_rfl) (by kernel_rfl) ?_
  have dC:=ar.spare s8 1
  have UD:(spare s8 1).next=s8.next+1:=bU _ _
  have AG:∀k,LA.ej A (some (.pointer (some ⟨s2.next,k,some 6⟩)))=true:=fun k=>LA.cr (A:=A) (i:=s2.next) (vM _ kZ.lt)
  have Q1:∀k,LA.ej A (some (.pointer (some ⟨t6.next,k,some 7⟩)))=true:=fun k=>LA.cr (A:=A) (i:=t6.next) (vM _ vd.lt)
  have l8:aJ af (spare s8 1) 24 (.pointer (some ⟨s2.next,4,some 6⟩))=some w:=(kZ.keeps dC).load aaj (off:=4) (c:=6) rfl (by simp)
  have l9:aJ af (spare s8 1) 9 (.pointer (some ⟨t6.next,0,some 7⟩))=some (.string ⟨(d[i].1).toArray⟩):=by
   have:=(vd.keeps dC).load (P:=af) LH (off:=0) (c:=7) (by rw[uM]) (by omega)
   rw[this,wA];rfl
  have l10:aJ af (spare s8 1) 26 (.pointer (some ⟨t6.next,1,some 7⟩))=some (.agg r.toArray):=by
   have:=ax.uj (P:=af) Hv iL (vd.keeps dC) (off:=1) (c:=7) (by rw[uM]) (by omega)
   rw[this,wA,List.drop_succ_cons,List.drop_zero,bz (by omega)]
  have vW:=vW.keeps dC
  simp only[aj,ak,bH,bI,c5,aa,ae,QS,Qx,↓an,hn,h3,of4,WD,aal,AG,Q1,l8,l9,l10,hw.self,vW.self]
  refine(ih d[i].2 (by have:=O.aah (k:=kind) (n:=num) (b:=b) (l:=l) (d:=d) (cc bd);omega) F (spare s8 1) _ vW (hD1 _ (cc bd))).mono ?_
  intro v9 s9 h9
  obtain⟨WH,rfl,Bj,rq⟩:=h9.is
  have hn9:=rq.next
  refine⟨fun _=>LA.ar.yC iU (rq.weaken (by omega)),?_⟩
  have zt:=Bj.len
  obtain⟨es,zN⟩:∃es,es=Value.string ⟨(d[i].1).toArray⟩::WH:=⟨_,rfl⟩
  have za:es.length=6:=by rw[zN];simp[zt]
  have ad8:bZ (.agg es.toArray) (.agg es.toArray)=true:=by
   have:=Bj.self
   rw[zN]
   match WH,zt,this with
   |[a,b,c,d,e],_,this=>
    simp[bZ,fp] at this|-
    exact⟨by simp[cN],this⟩
  have hbE:=bE d[i].1 zt
  rw[<-zN] at hbE
  simp only[aj,bI,ae,QS,↓an,hn,hbE,ad8,gi (cs:=es.toArray) bg qq zE Td rfl za (by decide)]
  refine LB.cZ (base:=s8.next) za (by omega) (bq _) ?_
  intro bs sa oA gz ON Th WI
  have ie:ar s8.next s8 sa:=(dC.trans (rq.weaken (by omega))).trans ON
  have N1:=ie.next
  have YV:dz (FE w) sa es d[i]:=by
   refine⟨WH,zN,(Bj.turns (u:= .pointer (some ⟨s8.next,0,none⟩)) (bt.aK Th WI) (fun j hj e=> ?_)).mono (fun j hj=> ?_),A8⟩
   ·have e:some s8.next=some j:=e
    injection e with e;omega
   ·rw[hFE];exact⟨by omega,fun h=>h,fun e=>by have:=hw.iD _ e;omega⟩
  have LO:es.all aL=true:=by rw[zN,cd,Bj.ok];rfl
  simp only[aj,bI,aa,QS,Qx,↓an,hn]
  refine LB.iT bg bg (.inl ⟨_,rfl⟩) qq byE zE rfl (hw.keeps ie) oA.aG.src za (by decide) LO (by omega) (by omega) (base:=s6.next) yD (by omega) (fun h=>cB rfl h) (fun j hj=>by have:=iU j hj;omega) ?_
  intro w' sb hwb hFb pF ra
  have Fz:=pF.next
  have ahI:=hRE.keeps fa ie
  rw[hFE] at ahI YV
  have ahJ:=ahI.grow fa za YV pF ra
  rw[show(fun j=>s6.next<=j/\¬(fun _=>False) j/\aI w' ≠some j)=FE w' by rw[hFE]] at ahJ
  have hwl:∀j,aI w=some j->s6.next<=j:=yD
  have ad3:Own sb 1 ny b.length (ofBytes b):=(zq.keeps ie).turns pF (fun j hj e=>by have:=(Nu j hj).2;have:=hwl _ e;omega)
  have al8:Own sb 5 y l.length LC:=(Nw.keeps ie).turns pF (fun j hj e=>by have:=(It j hj).2;have:=hwl _ e;omega)
  have al9:=(WJ.keeps cK ie).turns cK pF (fun j hj e=>by have:=(OO j hj).2.1;have:=hwl _ e;omega)
  have ama:aI w' ≠some s2.next:=fun e=>by have:=hFb _ e;omega
  simp only[aj,bH,bI,cg,QS,Qx,↓an,hn,h3,of4]
  refine LB.fj DM (by decide) ((kZ.keeps ie).turns pF Tj) (off:=4) (c:=6) rfl (vs:=[w']) hwb.aG.tk rfl (by simp) (by simp[hwb.aG.aL]) (fun h=>cB rfl h) ?_
  intro sc EY x4 tG
  have EY:ax sc s2.next [.int .i64 kind,.int .i64 num,ny,y,w']:=EY
  have huc:bt (.pointer (some ⟨s2.next,0,none⟩)) sb sc:=bt.aK x4 tG
  have Ti:∀j,s5.next<=j->aI (.pointer (some ⟨s2.next,0,none⟩))≠some j:=fun j hj e=>by
   have e:some s2.next=some j:=e
   injection e with e
   omega
  simp(disch:=omega)only[aj,bI,cg,QS,Qx,↓an,hn,wG,aD]
  refine ay (d.length-(i+1)) (by omega) ⟨i+1,w',DC++es,rfl,by omega,hwb.aK x4 tG ama,?_,hFb,ad3.aK x4 tG (fun e=>by have:=(Nu _ e).1;omega),al8.aK x4 tG (fun e=>by have:=(It _ e).1;omega),al9.turns cK huc (fun j hj=>Ti j (OO j hj).1),((ri.keeps ie).turns pF (fun e=>by have:=hwl _ e;omega)).aK x4 tG (by omega),EY,?_,by omega,by simp only[ag,hn],by simp only[ad,↓an,Qx,h2],by simp only[ad,↓an,Qx,h3],by simp only[ad,↓an,Qx,YX],by simp only[ad,↓an,Qx,AH],by simp only[ad,↓an];rfl⟩
  ·rw[ca,a3 bd]
   exact ahJ.turns fa huc (fun j hj=>Ti j (by rw[hFE] at hj;have:=hj.1;omega))
  ·exact(((dY.trans (iY.weaken dY.next)).trans (ie.weaken (by have:=dY.next;omega))).trans ((pF.keeps yD (by omega)).weaken (by have:=Nv.next;omega))).trans ⟨by omega,fun j hj=>tG j (by omega)⟩
 clear hn h1 h2 h3 f LM ri kZ zq Nw WJ
 rintro z f t6 ⟨rfl,w,DC,hw,hRE,yD,zq,Nw,WJ,ri,kZ,jX,hn7,hn,h2,h3⟩
 have la:=ax.bF (P:=af) (cs:=[.int .i64 kind,.int .i64 num,ny,y,w]) Hv iL kZ (c:=6) rfl
 have ok1:=zq.aG.aL
 have ok2:=Nw.aG.aL
 have ok3:=hw.aG.aL
 simp only[aj,QS,Qx,↓an,hn,h2,h3,la]
 refine aB iL (by decide) ri rfl rfl rfl (by simp only[cd,dU,ok1,ok2,ok3];rfl) ?_
 intro s7 uD rp vX
 have l7:=ax.bF (P:=af) (cs:=[.int .i64 kind,.int .i64 num,ny,y,w]) Hv iL uD (c:=6) rfl
 simp only[aj,al,oneOf,QS,Qx,↓an,hn,h2,l7,aV,Tryz.results98]
 have hu7:bt (.pointer (some ⟨s1.next,0,none⟩)) t6 s7:=bt.aK rp vX
 have ahK:∀j,s5.next<=j->aI (.pointer (some ⟨s1.next,0,none⟩))≠some j:=fun j hj e=>by
  have e:some s1.next=some j:=e
  injection e with e
  omega
 have pE:=Nv.next
 refine⟨ny,y,w,LC,DC,rfl,zq.aK rp vX (fun e=>by have:=(Nu _ e).1;omega),Nw.aK rp vX (fun e=>by have:=(It _ e).1;omega),hw.aK rp vX (fun e=>by have:=yD _ e;omega),fun j hj=>by have:=(Nu j hj).1;have:=cR.next;omega,fun j hj=>by have:=(It j hj).1;omega,fun j hj=>by have:=yD j hj;omega,fun j h1 h2=>by have:=(Nu j h1).2;have:=(It j h2).1;omega,fun j h1 h2=>by have:=(Nu j h1).2;have:=yD j h2;omega,fun j h1 h2=>by have:=(It j h1).2;have:=yD j h2;omega,?_,?_,jX.trans ⟨by omega,fun j hj=>vX j (by have:=bn.next;omega)⟩⟩
 ·exact(WJ.turns cK hu7 (fun j hj=>ahK j (OO j hj).1)).mono cK (fun j hj=>⟨by have:=(OO j hj).1;omega,fun e=>by have:=(Nu j e).2;have:=(OO j hj).1;omega,(OO j hj).2.2,fun e=>by have:=yD j e;have:=(OO j hj).2.1;omega⟩)
 ·exact(hRE.turns fa hu7 (fun j hj=>ahK j (by rw[hFE] at hj;have:=hj.1;omega))).mono fa (fun j hj=>by rw[hFE] at hj;exact⟨by have:=hj.1;omega,fun e=>by have:=(Nu j e).2;have:=hj.1;omega,fun e=>by have:=(It j e).2;have:=hj.1;omega,hj.2.2⟩)
theorem Q3 {lib:aA}(hl:lib.at 98=none)(jn:lib.at 36=none)(N:a5)(o:O)(hN:SizeOf.sizeOf o<=N)(F:a5->Prop)(s:aq)(cs:ab av)(ho:dy F s cs o)(nM:Small o):
  Runs af lib 98 [.agg cs.toArray] s (Q0 s o):=ahD hl jn N o hN F s cs ho nM.fit
end Go.Proofs.YtdfjfncifneocaaGreat
