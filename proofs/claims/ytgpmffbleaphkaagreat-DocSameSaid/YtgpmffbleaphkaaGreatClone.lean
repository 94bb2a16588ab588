/-
 What a statement whose order is open looks at: old slices, their elements, fields.
-/
import Derived.Test.YtgpmffbleaphkaaGreatRecs
import Derived.Laws.AppendOwn
import Derived.Lib.Bytealg
open Go.Proofs.Tryz renaming prog->Se,underlying22->Sj,underlying26->So,underlying23->Sx,underlying24->Sy,underlying42->SH,results47->Tc,results58->Ty
open List renaming getElem?_eq_getElem->Sf,length_append->Sl,getD_eq_getElem?_getD->Sn,length_drop->Sp,take_of_length_le->Sq,length_take->St,take_append_of_le_length->Su,drop_drop->Sv,eq_nil_of_length_eq_zero->Sw,getElem_mem->SB,take_succ_eq_append_getElem->SC,drop_append_of_le_length->SD,mem_append->SF,take_add_one->SG,getElem?_map->SI,getElem_append_right->SK,getElem_append_left->SM,getElem?_take_of_lt->SN,getElem?_drop->SV,drop_take->SW,drop_eq_getElem_cons->SX,all_cons->SY,filter_cons->S1,getElem_cons_zero->S2,drop_eq_nil_of_le->S4,sizeOf_lt_of_mem->S8,getElem?_eq_none->S9,take_zero->Td,mem_iff_getElem->Te,take_succ_cons->Tg,filter_append->Th,all_nil->Ti,getElem_take->Tm,length_cons->To,take_length->Tp,drop_append->Tq,length_map->Tt,nil_append->Tu,drop_left->Tv,take_take->Tw,drop_zero->Tx,mem_cons->TB,getD->TD,drop->TK
open _root_ renaming List->Sg,UInt8->Sh,Nat->Sr,absurd->SL,Bool->SU,reduceIte->S0,decide_eq_false->S7,Int->Tf,Array->TC,if_neg->TH
open Go renaming Value->Si,Program->SJ,TypeId->SQ,World->Tr,FuncId->TJ
open Nat renaming mul_le_mul_right->Sk,succ_mul->Sm,not_lt_zero->Sz,le_refl->SA,lt_of_lt_of_le->SO,reduceEqDiff->SR,add_zero->S3,min_eq_left->S5,mul_one->Ta,le_trans->Tj,add_mul->Ts,add_assoc->Tz,sub_self->TF,reduceLT->TG,sub_mul->TI
open Go.DataW renaming trod->Ss,weights->SZ,trod_int->Tb,trod_struct->Tk,weightsAll->Tn
open Go.Op renaming bytesLess->SE
open UInt8 renaming not_lt->SP,lt_irrefl->SS,le_antisymm->Tl
open Option.some renaming inj->S6
set_option linter.unusedSimpArgs false
set_option linter.unusedVariables false
set_option maxRecDepth 100000
namespace Go.Cl
theorem LA.NM {A:Sr->SU}{s:J}{z:Sr}{v:Si}{n:Sr}{l:Sg Si}(h:az s z v n l)(a:∀i,i<s.Y->A i=true):LA.c4 A (some v)=true:=by
 cases h with
 |al=>simp[LA.c4]
 |cI i b=>simp[LA.c4]
 |bu i b n c d l e f g j k m o p=>simp only[LA.c4,Bool.or_eq_true];left;exact a i (by assumption)
theorem LA.iG {A:Sr->SU}{s:J}{z:Sr}{v:Si}{n:Sr}{l:Sg Si}(h:az s z v n l)(a:∀i,i<s.Y->A i=true){k:Sr}(c:k<n):LA.c4 A (some (bM z v k))=true:=by
 cases h with
 |al=>omega
 |cI=>omega
 |bu i d n e f l b g j m o p q r=>simp only[bM,LA.c4];exact a i b
theorem LA.g0 {A:Sr->SU}{s:J}{z:Sr}{v:Si}{n:Sr}{l:Sg Si}(h:az s z v n l)(a:∀i,i<s.Y->A i=true){k:Sr}(c:k<n)(j:Sr):LA.c4 A (some (eR (bM z v k) j))=true:=by
 cases h with
 |al=>omega
 |cI=>omega
 |bu i d n e f l b g m o p q r t=>simp only[bM,eR,LA.c4];exact a i b
inductive O where
 |au (kind n:Tf) (b:Sg Sh) (l:Sg O) (d:Sg (Sg Sh×O))
namespace O
def a9:O->Tf
 | .au k _ _ _ _=>k
def mB:O->Tf
 | .au _ n _ _ _=>n
def cj:O->Sg Sh
 | .au _ _ b _ _=>b
def aj:O->Sg O
 | .au _ _ _ l _=>l
def j8:O->Sg (Sg Sh×O)
 | .au _ _ _ _ d=>d
def ck:O:= .au 0 0 [] [] []
theorem gD {k n:Tf}{b:Sg Sh}{l:Sg O}{d:Sg (Sg Sh×O)}{x:O}(h:x∈l):SizeOf.sizeOf x<SizeOf.sizeOf (O.au k n b l d):=by
 have:=S8 h;simp only[O.au.sizeOf_spec];omega
theorem fs {k n:Tf}{b:Sg Sh}{l:Sg O}{d:Sg (Sg Sh×O)}{e:Sg Sh×O}(h:e∈d):SizeOf.sizeOf e.2<SizeOf.sizeOf (O.au k n b l d):=by
 have a:=S8 h;have⟨b,x⟩:=e;simp only[Prod.mk.sizeOf_spec] at a;simp only[O.au.sizeOf_spec];omega
end O
def bA (F:Sr->Prop):Si->Prop
 | .slice (some a) _ c=>c≠0->F a.block
 |_=>True
theorem bA.b {F G:Sr->Prop}{v:Si}(h:bA F v)(k:∀j,F j->G j):bA G v:=by
 unfold bA at*;split
 ·exact fun a=>k _ (h a)
 trivial
theorem bA.gE {F:Sr->Prop}{v:Si}(h:∀j,ak v=some j->F j):bA F v:=by
 unfold bA;split
 ·exact fun _=>h _ rfl
 trivial
theorem bA.Q {a:Sr}{v:Si}(h:ay a v):bA (fun j=>a<=j) v:=bA.gE h
theorem az.hA {F:Sr->Prop}{s b:J}{z:Sr}{v u:Si}{n:Sr}{l:Sg Si}(h:az s z v n l)(d:bA F v)(k:aF u s b)(e:∀j,F j->ak u≠some j):az b z v n l:=by
 cases h with
 |al=>exact .al
 |cI i a=>exact .cI i a
 |bu i a n f g l c m o p q r t w=>
  refine .bu i a n f g l (SO c k.Y) ?_ o p q r t w;simp only[J.t,k.N i c (e i (d Z:F i))];exact m
inductive aE (F:Sr->Prop) (s:J):Sg Si->O->Prop
 |au (kind n:Tf) (b:Sg Sh) (l:Sg O) (d:Sg (Sg Sh×O)) (bv lv dv:Si) (lc dc:Sg Si)
  (hb:az s 1 bv b.length (aM b)) (hl:az s 5 lv l.length lc) (hd:az s 6 dv d.length dc)
  (fb:bA F bv) (fl:bA F lv) (fd:bA F dv)
  (hL:∀i (h:i<l.length),aE F s ((lc.drop (i*5)).take 5) l[i])
  (hK:∀i (h:i<d.length),dc.getD (i*6) undef= .string ⟨(d[i].1).toArray⟩)
  (hD:∀i (h:i<d.length),aE F s ((dc.drop (i*6+1)).take 5) d[i].2)
  (hM:∀i (h:i<d.length),(d[i].1).length<=9223372036854775807):
  aE F s [I kind,I n,bv,lv,dv] (.au kind n b l d)
variable {F G:Sr->Prop} {s s' :J} {cs:Sg Si} {o:O}
theorem aE.C (h:aE F s cs o)(k:ad s.Y s s'):aE F s' cs o:=by
 induction h with
 |au a n b l d c e f g i j m p q r t _ u _ v w x=>exact .au a n b l d c e f g i (j.C k) (m.C k) (p.C k) q r t w u x v
theorem aE.b (h:aE F s cs o)(k:∀j,F j->G j):aE G s cs o:=by
 induction h with
 |au a n b l d c e f g h i j m p q r _ t _ u v w=>exact .au a n b l d c e f g h i j m (p.b k) (q.b k) (r.b k) v t w u
theorem aE.j {u:Si}(h:aE F s cs o)(k:aF u s s')(a:∀j,F j->ak u≠some j):aE F s' cs o:=by
 induction h with
 |au e n f l g h i j m p q r t b c d _ u _ v w x=>exact .au e n f l g h i j m p (q.hA b k a) (r.hA c k a) (t.hA d k a) b c d w u x v
theorem aE.aG (h:aE F s cs o):cs.length=5:=by cases h;rfl
theorem aE.K (h:aE F s cs o):cs.all aN=true:=by
 cases h with
 |au d n e l f g h i j k a b c m p q r t u v=>
  simp only[SY,Ti,(a.aN),(b.aN),(c.aN)];rfl
theorem um {a b c d e:Si}(f:b9 a a=true)(g:b9 b b=true)(h:b9 c c=true)(i:b9 d d=true)(j:b9 e e=true):bn (.agg #[a,b,c,d,e]) (.agg #[a,b,c,d,e])=true:=by
 simp[bn,dF,f,g,h,i,j]
theorem az.oV {s:J}{z:Sr}{v:Si}{n:Sr}{l:Sg Si}(h:az s z v n l):b9 v v=true:=by
 cases h<;>simp[b9,Nat.beq_refl]
theorem aE.m (h:aE F s cs o):bn (.agg cs.toArray) (.agg cs.toArray)=true:=by
 cases h with
 |au d n e l f g h i j k a b c m p q r t u v=>
  exact um (by simp[b9]) (by simp[b9]) a.oV b.oV c.oV
theorem aE.eg {g n:Tf}{b:Sg Sh}{l:Sg O}{d:Sg (Sg Sh×O)}(j:aE F s cs (.au g n b l d)):∃a c e h f,cs=[I g,I n,a,c,e]/\az s 1 a b.length (aM b)/\az s 5 c l.length h/\az s 6 e d.length f/\bA F a/\bA F c/\bA F e/\
  (∀i (k:i<l.length),aE F s ((h.drop (i*5)).take 5) l[i])/\(∀i (m:i<d.length),f.getD (i*6) undef= .string ⟨(d[i].1).toArray⟩)/\(∀i (o:i<d.length),aE F s ((f.drop (i*6+1)).take 5) d[i].2)/\(∀i (p:i<d.length),(d[i].1).length<=9223372036854775807):=by
 cases j with
 |au _ _ _ _ _ a b c d e f g h j k l m n o p=>exact⟨a,b,c,d,e,rfl,f,g,h,j,k,l,m,n,o,p⟩
def bX:Sg Si:=[I 0,I 0,.slice Option.none 0 0,.slice Option.none 0 0,.slice Option.none 0 0]
theorem aE.ck (F:Sr->Prop)(s:J):aE F s bX O.ck:=
 .au 0 0 [] [] [] _ _ _ [] [] .al .al .al trivial trivial trivial (fun i h=>SL h (Sz i)) (fun i h=>SL h (Sz i)) (fun i h=>SL h (Sz i)) (fun i h=>SL h (Sz i))
theorem bA.eV {z:Sr}{v:Si}{n:Sr}{l:Sg Si}(h:az s z v n l)(b:bA F v):bA (fun j=>F j/\j<s.Y) v:=by
 cases h with
 |al=>trivial
 |cI i c=>exact fun a=>SL rfl a
 |bu i c n f g l d k m o a p q r=>exact fun e=>⟨b e,d⟩
theorem aE.fF (h:aE F s cs o):aE (fun j=>F j/\j<s.Y) s cs o:=by
 induction h with
 |au d n e l f g i k m p a b c q r t _ u _ v w x=>exact .au d n e l f g i k m p a b c (bA.eV a q) (bA.eV b r) (bA.eV c t) w u x v
structure nk {α:Type} (Q:(Sr->Prop)->J->Sg Si->α->Prop):Prop where
 C:∀{F s s' cs d},Q F s cs d->ad s.Y s s' ->Q F s' cs d
 b:∀{F G:Sr->Prop} {s cs d},Q F s cs d->(∀j,F j->G j)->Q G s cs d
 j:∀{F:Sr->Prop} {s s' cs d u},Q F s cs d->aF u s s' ->(∀j,F j->ak u≠some j)->Q F s' cs d
 eV:∀{F:Sr->Prop} {s cs d},Q F s cs d->Q (fun j=>F j/\j<s.Y) s cs d
theorem cm:nk aE:=⟨fun h k=>h.C k,fun h k=>h.b k,fun h k n=>h.j k n,fun h=>h.fF⟩
def cE (F:Sr->Prop)(s:J)(a:Sg Si)(e:Sg Sh×O):Prop:=∃r,a= .string ⟨e.1.toArray⟩::r/\aE F s r e.2/\e.1.length<=9223372036854775807
theorem cE.C {e:Sg Sh×O}(h:cE F s cs e)(k:ad s.Y s s'):cE F s' cs e:=by
 have⟨r,a,b,c⟩:=h;exact⟨r,a,b.C k,c⟩
theorem cE.b {e:Sg Sh×O}(h:cE F s cs e)(k:∀j,F j->G j):cE G s cs e:=by
 have⟨r,a,b,c⟩:=h;exact⟨r,a,b.b k,c⟩
theorem bY:nk cE:=⟨fun h k=>h.C k,fun h k=>h.b k,fun⟨r,a,b,c⟩ k n=>⟨r,a,b.j k n,c⟩,fun⟨r,a,b,c⟩=>⟨r,a,b.fF,c⟩⟩
structure aU {α:Type} (Q:(Sr->Prop)->J->Sg Si->α->Prop) (z:Sr) (F:Sr->Prop) (s:J) (D:Sg α) (lc:Sg Si):Prop where
 aG:lc.length=D.length*z
 H:∀i (h:i<D.length),Q F s ((lc.drop (i*z)).take z) D[i]
section
variable {α:Type} {Q:(Sr->Prop)->J->Sg Si->α->Prop} {z:Sr} {D:Sg α} {lc:Sg Si}
theorem aU.al:aU Q z F s [] []:=⟨aA,fun i h=>SL h (Sz i)⟩
theorem aU.C (a:nk Q)(h:aU Q z F s D lc)(k:ad s.Y s s'):aU Q z F s' D lc:=⟨h.aG,fun i b=>a.C (h.H i b) k⟩
theorem aU.b (a:nk Q)(h:aU Q z F s D lc)(k:∀j,F j->G j):aU Q z G s D lc:=⟨h.aG,fun i b=>a.b (h.H i b) k⟩
theorem aU.j {u:Si}(a:nk Q)(h:aU Q z F s D lc)(k:aF u s s')(b:∀j,F j->ak u≠some j):aU Q z F s' D lc:=⟨h.aG,fun i c=>a.j (h.H i c) k b⟩
theorem aU.eV (a:nk Q)(h:aU Q z F s D lc):aU Q z (fun j=>F j/\j<s.Y) s D lc:=⟨h.aG,fun i b=>a.eV (h.H i b)⟩
theorem aU.hB (h:aU Q z F s D lc){d:α}{a:Sg Si}(b:a.length=z)(c:Q F s a d):aU Q z F s (D++[d]) (lc++a):=by
 refine⟨by rw[Sl,Sl,h.aG,b,List.length_singleton,Sm],fun i b=> ?_⟩;have d:i<D.length+1:=by simpa using b
 by_cases b:i<D.length
 ·have e:((lc++a).drop (i*z)).take z=(lc.drop (i*z)).take z:=by
   have:(i+1)*z<=lc.length:=by rw[h.aG];exact Sk z b
   rw[Sm] at this;rw[SD Z,Su (by rw[Sp];omega)]
  rw[e,SM b];exact h.H i b
 obtain rfl:i=D.length:=Z;rw[(show((lc++a).drop (D.length*z)).take z=a by rw[<-h.aG,Tv,Sq Z]),SK Z];simp only[TF,S2];exact c
theorem aU.dO (b:nk Q){c:Sr}{X:Sr->Prop}{T h:J}{v d:Si}(l:aU Q z (fun j=>c<=j/\¬X j/\ak v≠some j) T D lc){k:α}{f:Sg Si}(m:f.length=z)(n:Q (fun j=>c<=j/\¬X j/\ak v≠some j) T f k)
  (o:aF v T h) (p:ak d=ak v\/∃i,ak d=some i/\T.Y<=i):aU Q z (fun j=>c<=j/\¬X j/\ak d≠some j) h (D++[k]) (lc++f):=by
 refine aU.b b (aU.j b (aU.eV b (l.hB m n)) o (fun j a=>a.1.2.2)) (fun j a=>⟨a.1.1,a.1.2.1,fun e=> ?_⟩);rcases p with g|⟨i,g,q⟩
 ·exact a.1.2.2 (by rw[<-g];exact e)
 rw[g] at e;injection e with e;have:=a.2;omega
end
theorem aE.ea {f n:Tf}{b:Sg Sh}{l:Sg O}{d:Sg (Sg Sh×O)}(i:aE F s cs (.au f n b l d)):∃a c e g h,cs=[I f,I n,a,c,e]/\az s 1 a b.length (aM b)/\az s 5 c l.length g/\az s 6 e d.length h/\bA F a/\bA F c/\bA F e/\aU aE 5 F s l g/\aU cE 6 F s d h:=by
 have⟨e,f,g,h,b,j,k,a,c,l,m,n,o,p,q,r⟩:=i.eg;refine⟨e,f,g,h,b,j,k,a,c,l,m,n,⟨a.length,o⟩,⟨c.length,fun i e=>⟨_,?_,q i e,r i e⟩⟩⟩;have a:=p i e;have e:i*6<b.length:=by rw[c.length];omega
 rw[Sn,Sf e] at a;have a:b[i*6]= .string ⟨(d[i].1).toArray⟩:=a;rw[SX e,Tg,a]
theorem aE.lZ {g n:Tf}{b:Sg Sh}{l:Sg O}{d:Sg (Sg Sh×O)}{c e f:Si}{h a:Sg Si}(j:az s 1 c b.length (aM b))(k:az s 5 e l.length h)(m:az s 6 f d.length a)(o:bA F c)(p:bA F e)(q:bA F f)(r:aU aE 5 F s l h)(i:aU cE 6 F s d a):
  aE F s [I g,I n,c,e,f] (.au g n b l d):=by
 refine .au g n b l d c e f h a j k m o p q r.H (fun c b=> ?_) (fun e f=> ?_) (fun g h=> ?_)
 ·have⟨r,j,_,_⟩:=i.H c b;have b:((a.drop (c*6)).take 6)[0]?=some (.string ⟨(d[c].1).toArray⟩):=by rw[j];rfl
  rw[SN Z,SV,S3] at b;rw[Sn,b];rfl
 ·have⟨r,c,d,_⟩:=i.H e f;have b:((a.drop (e*6)).take 6).drop 1=r:=by rw[c];rfl
  rw[SW,Sv] at b;rw[show(a.drop (e*6+1)).take 5=r from b];exact d
 have⟨_,_,_,a⟩:=i.H g h;exact a
theorem az.hC {P:SJ}{e:SQ}{m:Sr}(a:c3 P e=some true)(b:bc P e=some m){z:Sr}{v:Si}{n:Sr}{l:Sg Si}(h:az s z v n l){k j:Sr}(c:k<n)(d:j+m<=z):aD P s e (eR (bM z v k) j)=some (.agg ((l.drop (k*z+j)).take m).toArray):=by
 cases h with
 |al=>omega
 |cI=>omega
 |bu i d o f p q r g t h l u v m=>
  have o:k*z+z<=n*z:=by
   have:(k+1)*z<=n*z:=Sk z c
   rwa [Sm] at this
  show aD P s e (ab i (d+k*z+j) f)=_;unfold aD;simp only[a,b];rw[nd g h l Z,<-m,SW,Sv,Tw,S5 Z,Tz]
inductive bd:O->Prop
 |au {k n:Tf} {b:Sg Sh} {l:Sg O} {d:Sg (Sg Sh×O)} (hb:b.length<=100000000) (hl:l.length<=100000) (hd:d.length<=100000) (hK:∀e∈d,e.1.length<=100000) (hL:∀x∈l,bd x) (hD:∀e∈d,bd e.2):bd (.au k n b l d)
inductive j9:O->Prop
 |au {k n:Tf} {b:Sg Sh} {l:Sg O} {d:Sg (Sg Sh×O)} (hb:b.length<=140737488351232) (hl:l.length*88<=140737488351232) (hd:d.length*104<=140737488351232) (hK:∀e∈d,e.1.length<=140737488351232) (hL:∀x∈l,j9 x) (hD:∀e∈d,j9 e.2):j9 (.au k n b l d)
theorem bd.Gc {o:O}(h:bd o):j9 o:=by
 induction h with
 |au d e f a _ _ b c=>exact .au Z Z Z (fun e d=>Tj (a e d) ai) b c
def Gd (p:Prop)(v:Si):Prop:=∃b:SU,v= .bool b/\(b=true->p)
theorem NN {l:Sg O}{i:Sr}(h:∀x∈l.take i,bd x)(b:i<l.length)(c:bd l[i]):∀a∈l.take (i+1),bd a:=by
 intro x a;rw[SG,Sf b,SF] at a;rcases a with a|a
 ·exact h x a
 simp at a;rw[a];exact c
end Go.Cl
namespace Go.Cl
open Go.RowKit Go.ChangeShapes Go.WideShapes
structure iH (W:Tr) (S S' :aC):Prop where
 nQ:jC W S'
 gv:hr S S'
 A:ad S.h.Y S.h S'.h
theorem iH.p {W:Tr}{S:aC}(h:jC W S):iH W S S:=⟨h,hr.p S,ad.p _ _⟩
theorem iH.a {W:Tr}{S a b:aC}(h:iH W S a)(k:iH W a b):iH W S b:=⟨k.nQ,h.gv.a k.gv,h.A.a (k.A.q h.A.Y)⟩
variable {H:Type} {enc:SQ×Si->H} {P:SJ}
theorem NO {z:Sr}(l m:Sg Si)(i:Sr)(h:(i+1)*z<=l.length):((l++m).drop (i*z)).take z=(l.drop (i*z)).take z:=by
 rw[Sm] at h;rw[SD Z,Su (by rw[Sp];omega)]
def fG (P:SJ)(t:SQ)(d:DataW H):Prop:=∀n∈d.weights P t,n<=reachBytes
theorem Ge {e:SQ}:∀{a:Sg (DataW H)} {d:DataW H},d∈a->∀n∈d.weights P e,n∈Tn P e a
 |_::_,d,b,n,a=>by
  rw[Tn,SF];rcases TB.1 b with h|b
  ·subst h;exact .inl a
  exact .inr (Ge b n a)
theorem fG.e4 {t e:SQ}(a:P.underlying t=some (.slice e)){E R:Sg (DataW H)}(h:fG P t (.slice E R)):(E.length+R.length)*P.bytesOf e<=reachBytes/\∀d∈E,fG P e d:=by
 refine⟨h _ (by simp[SZ,a]),fun d b n c=>h n ?_⟩;simp only[SZ,a,TB,SF];exact .inr (.inl (Ge b n c))
theorem fG.oW {t:SQ}{a:TC Field}(c:P.underlying t=some (.struct a)){b:Sg (DataW H)}(h:fG P t (.agg b)){i:Sr}{u:SQ}{d:DataW H}(e:(a.toList.map (·.type))[i]?=some u)(f:b[i]?=some d):fG P u d:=by
 intro n a;refine h n ?_;simp only[SZ,c];exact DataW.weights_mem_each e f n a
theorem uo {W:Tr}{S:aC}(h:jC W S){U:Type}{Q:(Sr->Prop)->J->Sg Si->U->Prop}{p:U->Prop}(WQ:∀{F v WR g d},Q F v g d->ad v.Y v WR->Q F WR g d)(WS:∀{F WT:Sr->Prop} {v g d},Q F v g d->(∀j,F j->WT j)->Q WT v g d){WB m:SQ}{z WU:Sr}(WV:P.underlying WB=some (.slice m))(t:P.cellsOf m=z)(W8:0<z){WW:Sr}(W9:WW<=P.bytesOf m)
  (Xa:∀w,w<WU->∀S:aC,jC W S->∀g G,Ss enc P W 0 (fun _=>true) true w m g=some G->fG P m G.1->∃a WC d,iH W S a/\bo a WC g/\WC.length=z/\Q (fun j=>j<a.h.Y) a.h WC d/\p d)
  {g:Sg Si} {G:DataW H×Sg MemPlace} (Xb:Ss enc P W 0 (fun _=>true) true WU WB g=some G) (Xc:fG P WB G.1):
  ∃(a:aC) (WD WX:Si) (b:Sg Si) (D:Sg U),g=[WX]/\iH W S a/\aX a WD WX/\az a.h z WD D.length b/\bA (fun j=>j<a.h.Y) WD/\(∀i (h:i<D.length),Q (fun j=>j<a.h.Y) a.h ((b.drop (i*z)).take z) D[i])/\(∀d∈D,p d)/\D.length*WW<=reachBytes:=by
 rcases DataW.trod_slice WV Xb with ⟨rfl,_⟩|⟨K,c,l,Xw,Xx,w,Xy,rfl,rfl,WE,Xd,Xz,Xe,WY,WZ,_⟩
 ·exact⟨S,av,_,[],[],rfl,iH.p h,.qN,.al,trivial,(fun i h=>SL h (Sz i)),(fun d f=>by cases f),aA⟩
 by_cases Xf:l=0
 ·subst Xf;obtain rfl:c=0:=Z;exact⟨S,.slice (some ⟨0,0,none⟩) 0 0,_,[],[],rfl,iH.p h,.e4 0 0 0 0 K 0 (SA _) (fun _=>rfl) (fun XW=>Z),.cI _ _,(fun t=>SL rfl t),(fun i h=>SL h (Sz i)),(fun d f=>by cases f),aA⟩
 rw[t] at WY WZ;have⟨W0,Xg⟩:=fG.e4 WV Xc;have WG:∀i,i<l->∃e y,W.cells? 0 (K.add (i*z)) z=some e/\Ss enc P W 0 (fun _=>true) true w m e=some y/\(i<c->fG P m y.1):=by
  intro i L;have:∃y,(W.cells? 0 (K.add (i*z)) z).bind (Ss enc P W 0 (fun _=>true) true w m)=some y/\(i<c->fG P m y.1):=by
   by_cases W1:i<c
   ·have:=WY i W1;rw[Sf Z] at this;exact⟨_,this,fun _=>Xg _ (List.mem_map_of_mem (SB _))⟩
   have⟨XX,Xh⟩:=WZ rfl;have:=Xh (i-c) Z;rw[show c+(i-c)=i from Z,Sf Z] at this;exact⟨_,this,fun h=>SL h W1⟩
  have⟨y,X,WH⟩:=this;rw[Option.bind_eq_some_iff] at X;have⟨e,o,x⟩:=X;exact⟨e,y,o,x,WH⟩
 have W2:K.spot=none:=by
  have⟨e,_,f,_,_⟩:=WG 0 Z;have⟨W3,_,n⟩:=World.cells?_some f;have W4:=n 0 W8;rw[Sf Z] at W4;have:=NK W4;rw[Nat.zero_mul] at this
  simpa [Addr.add] using this
 have⟨r,A,XY⟩:=K;simp only at W2;subst W2
 have W5:∀i e,i<l->W.cells? 0 ((⟨r,A,none⟩:Addr).add (i*z)) z=some e->∀j,j<z->W.cell? ⟨r,A+(i*z+j),none⟩=some (e.getD j undef):=by
  intro i e L f j M;have⟨W3,_,n⟩:=World.cells?_some f;have:=n j M;rw[Gb,Gb,Sf Z] at this;rw[<-Tz,this];simp[TD,Sf (show j<e.length from Z)]
 have Xi:∀k,k<=c->∃(a:aC) (b:Sg Si) (D:Sg U),iH W S a/\D.length=k/\b.length=k*z/\(∀q,q<k*z->∃Wy,W.cell? ⟨r,A+q,none⟩=some Wy/\aX a (b.getD q undef) Wy)/\(∀d∈D,p d)/\∀i (h:i<D.length),Q (fun j=>j<a.h.Y) a.h ((b.drop (i*z)).take z) D[i]:=by
  intro k
  induction k with
  |zero=>intro _;exact⟨S,[],[],iH.p h,rfl,aA,(fun q u=>Z),(fun d f=>by cases f),fun i h=>SL h (Sz i)⟩
  |succ k Xj=>
   intro XZ;have⟨s,b,D,n,B,Wz,WI,WJ,u⟩:=Xj Z;have⟨e,y,f,X,WH⟩:=WG k Z;have⟨Xk,WK,d,WL,Xl,Xm,Xn,Xo⟩:=Xa w Z s n.nQ e y X (WH Z);have W6:=WL.A;refine⟨Xk,b++WK,D++[d],n.a WL,by simp[B],by rw[Sl,Wz,Xm,Sm],(fun q Xp=> ?_),(fun WA t=> ?_),fun i L=> ?_⟩
   ·rw[Sm] at Xp;by_cases Xq:q<k*z
    ·have⟨Wy,o,x⟩:=WI q Xq;refine⟨Wy,o,?_⟩;rw[Sn,List.getElem?_append_left Z,<-Sn];exact x.b WL.gv
    refine⟨_,by have:=W5 k e Z f (q-k*z) Z;rw[show k*z+(q-k*z)=q from Z] at this;exact this,?_⟩;rw[Sn,List.getElem?_append_right Z,Wz,<-Sn];exact Xl.2 _ Z
   ·rcases SF.1 t with h|h
    ·exact WJ WA h
    rw[List.mem_singleton.1 h];exact Xo
   have X0:i<k+1:=by simpa [B] using L
   by_cases Xr:i<k
   ·rw[NO _ _ _ (by rw[Wz];exact Sk z Xr),SM Z];exact WS (WQ (u i Z) W6) (fun j M=>SO M W6.Y)
   obtain rfl:i=k:=Z;have Xs:((b++WK).drop (i*z)).take z=WK:=by
    rw[<-Wz,Tv,Sq Z]
   rw[Xs,SK Z];simp only[B,TF,S2];exact Xn
 have⟨s,b,D,n,B,O,WI,WJ,u⟩:=Xi c (SA _);have Xt:∃E R T,W.heap[r]?=some (.cells E R T)/\A+l*z<=E.size:=by
  have⟨e,_,f,_,_⟩:=WG (l-1) Z;have⟨E,R,T,o,x⟩:=NL (W5 (l-1) e Z f (z-1) Z);refine⟨E,R,T,o,?_⟩;have:l*z=(l-1)*z+z:=by
   conv=>lhs;rw[show l=(l-1)+1 from Z,Sm]
  omega
 have⟨E,R,T,WM,Xu⟩:=Xt;have Xv:r<W.heap.size:=by
  rcases Nat.lt_or_ge r W.heap.size with q|q
  ·exact q
  rw[Array.getElem?_eq_none q] at WM;cases WM
 have⟨o,x,W7,WN⟩:=n.nQ.Na ⟨b,c*z+1,false,z⟩ (r,A) rfl aA (fun WA t=>by simp only[dX,O] at t|-;omega) (fun WA _=>Xv) (fun WA _ q u=>by
  simp only[O] at u;exact WI q u)
 have WO:(s.fC ⟨b,c*z+1,false,z⟩ (r,A)).h.t s.h.Y=some ⟨b,c*z+1,false,z⟩:=sm _ _;refine⟨_,.slice (some ⟨s.h.Y,0,none⟩) c (c*z+1),_,b,D,rfl,n.a ⟨o,x,W7⟩,?_,?_,(fun _=>by show s.h.Y<_;rw[WN];omega),(fun i L=> ?_),WJ,?_⟩
 ·refine .e4 _ _ _ _ _ l Xd (fun q=>Z) (fun _=>⟨⟨_,WO,by simp only[O];omega,fun _=> ?_⟩,fun X1 WE W3=> ?_⟩)
  ·simp only[aC.fC,if_true];simp
  rw[WO] at WE;obtain rfl:=S6 WE
  exact⟨E,R,T,by rw[(o.k)];exact WM,Xu⟩
 ·rw[B];refine .bu s.h.Y 0 c _ _ _ (by rw[WN];omega) WO rfl aA (by simp only[O];omega) O Z ?_;rw[Tx];exact Sq (by show b.length<=_;omega)
 ·exact WS (WQ (u i L) W7) (fun j M=>by have:j<s.h.Y:=M;show j<_;rw[WN];omega)
 rw[B];rw[Tt,Tt,Xe] at W0;exact Tj (Nat.mul_le_mul (Nat.le_add_right _ _) W9) W0
end Go.Cl
namespace Go.Cl
theorem kn {a r:Sg Si}{i:Sr}{b:Si}(h:(a.drop (i*6)).take 6=b::r):a.getD (i*6) undef=b/\(a.drop (i*6+1)).take 5=r:=by
 constructor
 ·have c:((a.drop (i*6)).take 6)[0]?=some b:=by rw[h];rfl
  rw[SN Z,SV,S3] at c;rw[Sn,c];rfl
 have b:((a.drop (i*6)).take 6).drop 1=r:=by rw[h];rfl
 rw[SW,Sv] at b;exact b
theorem Gf {a:Sg Si}{D:Sg Sh}(b:a.length=D.length)(h:∀i (c:i<D.length),(a.drop (i*1)).take 1=[.int .u8 ((D[i]).toNat:Tf)]):a=aM D:=by
 refine List.ext_getElem? fun b=> ?_
 by_cases c:b<D.length
 ·have d:((a.drop (b*1)).take 1)[0]?=some (.int .u8 ((D[b]).toNat:Tf)):=by rw[h b c];rfl
  rw[SN Z,SV,S3,Ta] at d;rw[d];simp[aM,Sf c]
 rw[S9 Z,S9 (by rw[pO];omega)]
end Go.Cl
namespace Go.Proofs.YtgpmffbleaphkaaGreat
open Go.Cl
theorem uq:Se.cellsOf 26=5:=by kernel_rfl
theorem Gg:Se.cellsOf 42=6:=by kernel_rfl
theorem zL:Se.cellsOf 3=1:=by kernel_rfl
theorem NP:Se.cellsOf 2=1:=by kernel_rfl
theorem Gh:Se.cellsOf 5=1:=by kernel_rfl
theorem NQ:Se.cellsOf 9=1:=by kernel_rfl
theorem Gi:Se.cellsOf 22=1:=by kernel_rfl
theorem NR:Se.cellsOf 23=1:=by kernel_rfl
theorem NS:Se.cellsOf 24=1:=by kernel_rfl
variable {H:Type} {enc:SQ×Si->H} {W:Tr}
theorem Gj:1<=Se.bytesOf 5:=by rw[show Se.bytesOf 5=1 from by kernel_rfl];decide
theorem NT:88<=Se.bytesOf 26:=by rw[show Se.bytesOf 26=88 from by kernel_rfl];decide
theorem NU:104<=Se.bytesOf 42:=by rw[show Se.bytesOf 42=104 from by kernel_rfl];decide
theorem zM:reachBytes=140737488351232:=by decide
def Gk (e:Sg Sh×O):Prop:=e.1.length<=140737488351232/\j9 e.2
theorem NV {n:Sr}(z:∀m,m<n->∀S:aC,jC W S->∀c x,Ss enc Se W 0 (fun _=>true) true m 26 c=some x->fG Se 26 x.1->∃a b o,iH W S a/\bo a b c/\b.length=5/\aE (fun j=>j<a.h.Y) a.h b o/\j9 o)
  {S:aC} (A:jC W S) {c:Sg Si} {x:DataW H×Sg MemPlace} (B:Ss enc Se W 0 (fun _=>true) true n 42 c=some x) (l:fG Se 42 x.1):
  ∃a b k,iH W S a/\bo a b c/\b.length=6/\cE (fun j=>j<a.h.Y) a.h b k/\Gk k:=by
 obtain⟨e,m,D,rfl,p,E,q⟩:=Tk SH B;rw[Gg] at p;have g:=q 0 _ rfl;have h:=q 1 _ rfl
 change Ss enc Se W 0 (fun _=>true) true m 9 ((c.drop 0).take (Se.cellsOf 9))=e[0]? at g
 change Ss enc Se W 0 (fun _=>true) true m 26 ((c.drop 1).take (Se.cellsOf 26))=e[1]? at h
 rw[NQ] at g;rw[uq] at h;have P:e.length=2:=E;rw[Sf Z] at g h;have f:fG Se 9 (e[0]).1:=l.oW SH (i:=0) rfl (by rw[SI,Sf Z];rfl);have⟨d,r,F,Q⟩:=DataW.trod_string Tryz.underlying9 g;rw[F] at f;have f:=f d.data.toList.length (by simp[SZ]);rw[zM] at f;have⟨a,b,o,G,K,L,M,O⟩:=z m Z S A _ _ h (l.oW SH (i:=1) rfl (by rw[SI,Sf Z];rfl):fG Se 26 (e[1]).1);obtain⟨s,t,u,v,w,y,rfl⟩:∃s t u v w y,c=[s,t,u,v,w,y]:=by
  match c,p with
  |[R,T,d,U,k,X],_=>exact⟨_,_,_,_,_,_,rfl⟩
 simp at r;subst r;have D:maxLen=9223372036854775807:=by decide
 refine⟨a,.string d::b,(d.data.toList,o),G,.ed (.nK _) K,by simp[L],⟨b,?_,M,?_⟩,f,O⟩
 ·cases d;simp
 show d.data.toList.length<=_;have:d.data.toList.length=d.size:=by rw[Array.length_toList];rfl
 omega
theorem Gl:∀(t:Sr) (S:aC),jC W S->∀a x,Ss enc Se W 0 (fun _=>true) true t 26 a=some x->fG Se 26 x.1->∃u A v,iH W S u/\bo u A a/\A.length=5/\aE (fun j=>j<u.h.Y) u.h A v/\j9 v:=by
 intro t
 induction t using Nat.strongRecOn with
 |_ t P=>
  intro S f a x h B;obtain⟨b,o,Xl,rfl,R,WU,q⟩:=Tk So h;rw[uq] at R;have w:=q 0 _ rfl;have c:=q 1 _ rfl;have m:=q 2 _ rfl;have n:=q 3 _ rfl;have y:=q 4 _ rfl
  change Ss enc Se W 0 (fun _=>true) true o 3 ((a.drop 0).take (Se.cellsOf 3))=b[0]? at w
  change Ss enc Se W 0 (fun _=>true) true o 2 ((a.drop 1).take (Se.cellsOf 2))=b[1]? at c
  change Ss enc Se W 0 (fun _=>true) true o 22 ((a.drop 2).take (Se.cellsOf 22))=b[2]? at m
  change Ss enc Se W 0 (fun _=>true) true o 23 ((a.drop 3).take (Se.cellsOf 23))=b[3]? at n
  change Ss enc Se W 0 (fun _=>true) true o 24 ((a.drop 4).take (Se.cellsOf 24))=b[4]? at y
  rw[zL] at w;rw[NP] at c;rw[Gi] at m;rw[NR] at n;rw[NS] at y;have Xm:b.length=5:=WU;rw[Sf Z] at w c m n y;have⟨T,U,_⟩:=Tb Tryz.underlying3 w;have⟨X,Wy,_⟩:=Tb Tryz.underlying2 c;have⟨WV,WW,Xn,WX,D,Wz,WA,WY,WB,WZ,W0,_,E⟩:=uo f (Q:=fun _ _ a (WC:Sh)=>a=[.int .u8 (WC.toNat:Tf)]) (p:=fun _=>True) (fun h _=>h) (fun h _=>h) Sj Gh ai Gj (fun F _ S f a x h _=>by
   have⟨z,e,_,r⟩:=Tb Tryz.underlying5 h;have⟨W1,W2,W3⟩:=E3 (a:=[z]) (by simpa using r)
   match W1,W2 with
   |[WD],_=>
    exact⟨S,[.int .u8 z],WD,iH.p f,by rw[e];exact .ed (.gf _ _) .al,rfl,(W3:[Value.int .u8 z]=[Value.int .u8 (WD.toNat:Tf)]),trivial⟩) m (B.oW So (i:=2) rfl (by rw[SI,Sf Z];rfl):fG Se 22 (b[2]).1)
  have⟨W4,W5,Xo,W6,WE,WG,s,W7,W8,W9,Xa,Xb,WH⟩:=uo WA.nQ (Q:=fun G H a v=>aE G H a v) (p:=j9) (fun h k=>h.C k) (fun h k=>h.b k) Sx uq ai NT (fun F Xc S f a x h r=>P F Z S f a x h r) n (B.oW So (i:=3) rfl (by rw[SI,Sf Z];rfl):fG Se 23 (b[3]).1);have⟨K,Xd,Xp,Xe,WI,WJ,d,Xf,Xg,Xh,L,WK,WL⟩:=uo s.nQ (Q:=fun G H a e=>cE G H a e) (p:=Gk) (fun h k=>h.C k) (fun h k=>h.b k) Sy Gg ai NU (fun F Xc S f a x h r=>NV (fun Xi Xq=>P Xi Z) f h r) y (B.oW So (i:=4) rfl (by rw[SI,Sf Z];rfl):fG Se 24 (b[4]).1);rw[zM] at E WH WL;rw[Ta] at E;have WM:=WB.length;rw[Ta] at WM;have Xj:WX=aM D:=Gf WM W0;subst Xj;have WN:∀j,j<W4.h.Y->j<K.h.Y:=fun j M=>SO M d.A.Y
  obtain⟨WO,WQ,WR,WS,WT,rfl⟩:∃WO WQ WR WS WT,a=[WO,WQ,WR,WS,WT]:=by
   match a,R with
   |[Xr,Xs,z,WC,e],_=>exact⟨_,_,_,_,_,rfl⟩
  simp at U Wy Wz WG WJ;subst U;subst Wy;subst Wz;subst WG;subst WJ
  refine⟨K,_,.au T X D WE WI,(WA.a s).a d,.ed (.gf _ _) (.ed (.gf _ _) (.ed ((WY.b s.gv).b d.gv) (.ed (W7.b d.gv) (.ed Xf .al)))),rfl,.au T X D WE WI WW W5 Xd W6 Xe ((WB.C s.A).C d.A) (W8.C d.A) Xg (WZ.b ((fun j M=>SO M (Tj s.A.Y d.A.Y)):∀j,j<WV.h.Y->j<K.h.Y)) (W9.b WN) Xh (fun g l=>((Xa g l).C d.A).b WN) (fun g l=> ?_) (fun g l=> ?_) (fun g l=> ?_),.au E WH WL (fun e O=>(WK e O).1) Xb (fun e O=>(WK e O).2)⟩
  ·have⟨Xk,c,_,_⟩:=L g l;exact(kn c).1
  ·have⟨Xk,c,m,_⟩:=L g l;rw[(kn c).2];exact m
  have⟨_,_,_,n⟩:=L g l;exact n
end Go.Proofs.YtgpmffbleaphkaaGreat
namespace Go.Proofs.YtgpmffbleaphkaaGreat
open Go.Cl
theorem NW {a b:Sg Sh}{i:Sr}(c:i<a.length)(d:i<b.length)(h:a.take i=b.take i)(e:a.getD i 0=b.getD i 0):a.take (i+1)=b.take (i+1):=by
 rw[SC c,SC d,h];simp[TD,Sf c,Sf d] at e;rw[e]
theorem zN (s:J)(x y:Si)(a b:Sg Sh)(c:az s 1 x a.length (aM a))(e:az s 1 y b.length (aM b))(f:a.length<=4294967296)(g:b.length<=4294967296):
  Runs Se aw 47 [x,y] s fun v d=>v= .bool (decide (a=b))/\d=s:=by
 refine Runs.cS 26 Tryz.func47 rfl fun f d g j=> ?_
 refine eo d g j (c.g Sj) (e.g Sj) ?_;refine sj (fun h=> ?_) (fun h=> ?_)
 ·refine bO d @Tc ?_;have:¬a=b:=fun f=>by subst f;simp at h
  simp[this]
 have f:a.length=b.length:=by simpa using h
 refine lo d ?_;refine aZ.eO (fun k f l=>∃i:Sr,k=a.length-i/\i<=a.length/\a.take i=b.take i/\f.e=26/\f.N 0=x/\f.N 1=y/\f.N 5=I i/\l=s) ⟨0,rfl,Z,rfl,by simp only[aI,d],by simp only[aI,SR,↓S0,g],by simp only[aI,SR,↓S0,j],by simp only[aI,↓S0];rfl,rfl⟩ ?_;rintro k f _ ⟨i,rfl,d,f,d,g,l,j,rfl⟩;by_cases k:i<a.length
 ·refine wN d g l j (c.g Sj) k (c.pY Sj bw) (e.pY Sj bw) (c.pX de) (e.pX de) @dn c.m e.m ?_;refine sj (fun h=> ?_) (fun h=> ?_)
  ·refine bO d @Tc ?_;have:¬a=b:=fun e=>by subst e;simp at h
   simp[this]
  refine bO d j ?_;refine aH (a.length-(i+1)) Z ⟨i+1,rfl,Z,?_,V d,V g,V l,aa,rfl⟩;refine NW k Z f ?_
  simpa [UInt8.toNat_inj] using h
 refine e8 d g j (c.g Sj) k @Tc ?_;have:a=b:=by rw[Sq Z,Sq Z] at f;exact f
 simp[this]
structure kR (s:J) (v:Si) (s' :J) (l:Sg Sh):Prop where
 br:ao s' 1 v l.length (aM l)
 Q:ay s.Y v
 A:ad s.Y s s'
theorem sB {l:Sg Sh}{i:Sr}(h:i<l.length):l.take (i+1)=l.take i++[l.getD i 0]:=by
 rw[SC h];simp[TD,Sf h]
end Go.Proofs.YtgpmffbleaphkaaGreat
namespace Go.Proofs.YtgpmffbleaphkaaGreat
open Go.Cl
theorem ri (s:J)(x:Si)(b:Sg Sh)(l:az s 1 x b.length (aM b))(r:b.length<=4294967296):
  Runs Se aw 42 [x] s fun v c=>kR s v c b:=by
 refine Runs.dZ 19 Tryz.func42 rfl fun f a=> ?_
 refine lo a ?_;refine aZ.eO (fun k f c=>∃(i:Sr) (o:Si),k=b.length-i/\i<=b.length/\ao c 1 o i (aM (b.take i))/\ay s.Y o/\ad s.Y s c/\f.e=19/\f.N 0=x/\f.N 4=I i/\f.N 3=o) ⟨0,_,rfl,Z,.al,ay.al _,ad.p _ _,V a,V a,aa,by simp only[cx,↓S0,SR]⟩ ?_;rintro k f t ⟨i,o,rfl,u,g,j,d,a⟩;have e:=l.C d;by_cases h:i<b.length
 ·simp(disch:=omega)only[a,aI,bB,bC,TG,SR,↓S0,h,e.cd Sj,e.r Sj bw,e.P de,dn,gh Sj bw dN];refine ll Sj bw jg dN rfl g (V a) ai (by simp only[a,dG];decide) (by simp only[a,dG];decide) rfl ai rfl Z Z j d.Y ?_;intro w m y n p q _ _;refine lo a ?_;refine aH (b.length-(i+1)) Z ⟨i+1,m,rfl,Z,?_,p,d.a q,V a⟩;rw[sB h,km];exact n
 refine b0 a h (e.g Sj) @Tryz.results42 ?_;obtain rfl:i=b.length:=Z;rw[Sq (SA _)] at g;exact⟨g,j,d⟩
end Go.Proofs.YtgpmffbleaphkaaGreat
namespace Go.Cl
section
variable {P:SJ} {aV:bg} {all r:Sg Oper} {f:an} {s:J} {d:Option Tmp} {Q:an->J->Prop}
end
theorem Runs.Gm {P:SJ}{c:bg}{g:TJ}{p:nI}(h:c.M g=some p)(e:tV p){b:Sg Si}{s a:J}{v:Si}{Q:Si->J->Prop}(d:p b s=some (v,a))(f:Q v a):Runs P c g b s Q:=by
 intro c;have⟨_,_,_,g⟩:=e s s (fun _=>none) b v a (bL.p s) c d;refine⟨v,a,⟨0,fun m _=> ?_⟩,g,f⟩;simp only[kz,ld,h,d]
end Go.Cl
namespace Go.Cl
section
variable {P:SJ} {t:SQ}
theorem ie (a b:Sg Sh):bN P .eql t (.string ⟨a.toArray⟩) (.string ⟨b.toArray⟩)=some (.bool (decide (a=b))):=by
 simp only[bN,r4]
 congr 2
 by_cases h:a=b
 ·subst h;simp
 simp[h]
theorem wR (a b:Sg Sh):bN P .neq t (.string ⟨a.toArray⟩) (.string ⟨b.toArray⟩)=some (.bool (decide (a≠b))):=by
 simp only[bN,r4]
 congr 2
 by_cases h:a=b
 ·subst h;simp
 simp[h]
theorem zO (b:P.underlying t=some .string)(s:J)(a:Sg Sh):cd P s t (.string ⟨a.toArray⟩)=some (I a.length):=by
 unfold cd;rw[b]
theorem NX {s:J}{b e:SQ}(c:P.underlying t=some .string)(d:P.underlying b=some (.slice e))(f:P.underlying e=some (.int .u8)){a:Sg Sh}(h:a.length<=9223372036854775807):fM P s t b (.string ⟨a.toArray⟩)=cL s (aM a) a.length 1:=by
 unfold fM;rw[c,d]
 simp[(show nG P e=true by unfold nG;rw[f]),(show Nat.ble a.length 9223372036854775807=true by simpa [Nat.ble_eq] using h)]
theorem NY (a:Sg Sh):pD (aM a)=some a:=by
 induction a with
 |nil=>rfl
 |cons c b a=>
  rw[M5];simp only[pD,a,yE];have:UInt8.ofNat ((c.toNat:Tf)).toNat=c:=by simp
  rw[this]
theorem az.wS {s:J}{b e:SQ}(c:P.underlying t=some (.slice e))(d:P.underlying b=some .string)(g:P.underlying e=some (.int .u8)){v:Si}{a:Sg Sh}(h:az s 1 v a.length (aM a)):fM P s t b v=some (.string ⟨a.toArray⟩,s):=by
 have f:nG P e=true:=by unfold nG;rw[g]
 generalize b:a.length=n at h;generalize e:aM a=l at h;have g:l.length=n:=by rw[<-e,pO,b]
 cases h with
 |al=>
  have:a=[]:=Sw b;subst this;unfold fM;rw[c,d];simp[f]
 |cI=>
  have:a=[]:=Sw b;subst this;unfold fM;rw[c,d];simp[f]
 |bu m h o p i q r j s k l u v g=>
  unfold fM;rw[c,d]
  simp only[f,if_true];cases n with
  |zero=>
   have:a=[]:=Sw b;subst this;rfl
  |succ n=>
   simp only;rw[nd j k l Z];have:(i.aJ.drop h).take (n+1)=aM a:=by rw[Ta] at g;rw[g,e]
   rw[this];simp only[NY]
end
end Go.Cl
namespace Go.Cl
open Go.RowKit
def Gn (P:SJ)(g:TJ)(e:TC Si->Sem Si):Prop:=
 ∃a,P.funcs[g]?=some a/\(a.name== "runtime.NumGoroutine")=false/\a.body.isNone=true/\Extern.findNext a=none/\Extern.find a=some e
def wT (P:SJ)(e:TC Si->Sem Si)(p:nI):Prop:=
 ∀(a:Sr) (S:aC) (b:Sg Si) (v:Si) (c:J),bR a S->p b S.h=some (v,c)->∀d:TC Si,bo S b d.toList->
  ∃T b,(e d).run P S.k= .ok b T.k/\T.h=c/\aX T v b/\bH a S T
theorem wT.K {P:SJ}{g:TJ}{e:TC Si->Sem Si}{p:nI}(a:Sr->Tr->Prop)(d:Gn P g e)(f:tV p)(h:wT P e p):we P a g p:=by
 intro e S s a v g b c _ i j k;have⟨l,m,n,_⟩:=f s S.h _ a v g b (b.W c.W) i;have⟨T,b,f,g,i,o⟩:=h e S a v l c m j k;have⟨k,a,c,e,h,j⟩:=d;refine .inr ⟨T,b,?_,by rw[g];exact n,i,o⟩;rw[run_callFunc_extern a c e h j,f];rfl
theorem bo.NZ {S:aC}{a b:Si}{c:TC Si}(h:bo S [a,b] c.toList):∃d e,c= #[d,e]/\aX S a d/\aX S b e:=by
 have⟨b,r,e,c,d⟩:=h.lQ;have⟨f,i,a,g,h⟩:=d.lQ;rw[h.qO] at a;rw[a] at e;exact⟨b,f,by rw[<-Array.toList_inj,e],c,g⟩
theorem zP:tV sv:=by
 intro s a X a v t h b a;unfold sv at a|-
 split at a
 ·injection a with a;injection a with c d;subst c;subst d;exact⟨_,rfl,h,ca.p b⟩
 cases a
theorem N0 {P:SJ}:wT P Extern.BytealgCompare.compare sv:=by
 intro k S l v m d a n e;unfold sv at a;split at a
 ·injection a with a;injection a with f g;subst f;subst g
  obtain⟨o,p,rfl,h,i⟩:=e.NZ;cases h;cases i
  refine⟨S,_,?_,rfl,.gf _ _,bH.p d⟩;rename_i b c;have j:Extern.BytealgCompare.compare #[.string b,.string c]=(do pure (goInt (Extern.BytealgCompare.cmp (<-Extern.Bytes.bytesOf (.string b)) (<-Extern.Bytes.bytesOf (.string c))))):=rfl;rw[j];simp[Extern.Bytes.bytesOf,goInt]
 cases a
theorem lU.ed {g:Sr}{p:nI}{l:bg}(h:tV p)(k:lU l):lU ((g,p)::l):=by
 intro q r a;simp only[bg.M] at a;split at a
 ·obtain rfl:=S6 a;exact h
 exact k q r a
theorem mz.ed {P:SJ}{b:Sr->Tr->Prop}{g:Sr}{p:nI}{l:bg}(h:we P b g p)(k:mz P b l):mz P b ((g,p)::l):=by
 intro q r a;simp only[bg.M] at a;split at a
 ·rename_i c;obtain rfl:=S6 a;obtain rfl:g=q:=Nat.eq_of_beq_eq_true c;exact h
 exact k q r a
end Go.Cl
namespace Go.Cl
open Go.RowKit Go.ChangeShapes Go.WideShapes
variable {P:SJ}
theorem Runs.N1 (f:lU aw)(h:mz P (fun _ _=>True) aw)(i:tF P aw=true){a:TJ}(j:aw.M a=none){d:Sg Si}{S:aC}{W:Tr}(b:jC W S)(e:Runs P aw a d S.h fun v _=>v= .bool true){c:TC Si}(k:bo S d c.toList):
  Calls P a c W fun l m=>l= .returned (.bool true)/\Below W.heap.size W m:=by
 obtain⟨v,l,⟨n,m⟩,_,rfl⟩:=e b.fQ.W;have e:=MV (b:=fun _ _=>True) (fun _ _ _ _ o=>o) f h i n (g:=a) j W.heap.size S S.h d _ l (ee.p _) b.fQ trivial (m n (SA _)) c k;rw[b.k] at e;refine Calls.mono e ?_;rintro e a ⟨T,a,_,rfl,rfl,a,c⟩;cases a;refine⟨rfl,?_⟩;have:=c.eV;rw[b.k] at this;exact this
end Go.Cl
namespace Go.Proofs.YtgpmffbleaphkaaGreat
open Go.Cl
theorem N2 {g:FuncId}{a:Func}{e:Array Value->Sem Value}(h:Tryz.prog.funcs[g]?=some a)(b:(a.name== "runtime.NumGoroutine")=false:=by kernel_rfl)(c:a.body.isNone=true:=by kernel_rfl)(d:Extern.findNext a=none:=by kernel_rfl)(f:Extern.find a=some e:=by kernel_rfl):Gn Tryz.prog g e:=⟨a,h,b,c,d,f⟩
theorem N3:lU aw:=
 lU.ed zP<|
 lU.al
theorem N4 (a:Sr->Tr->Prop):mz Se a aw:=
 mz.ed (wT.K _ (N2 Tryz.func173) (zP) (N0))<|
 mz.al _ _
end Go.Proofs.YtgpmffbleaphkaaGreat
namespace Go.Proofs.YtgpmffbleaphkaaGreat
open Go.Cl
theorem aL:bc Se 26=some 5:=by kernel_rfl
theorem bV:c3 Se 26=some true:=by kernel_rfl
theorem b8:bK Se 26=some (.agg bX.toArray):=by kernel_rfl
theorem cy:cp (.agg bX.toArray)=true:=by kernel_rfl
theorem pZ:e2 Se 26=some 88:=by kernel_rfl
theorem bx:bc Se 42=some 6:=by kernel_rfl
theorem gF:c3 Se 42=some true:=by kernel_rfl
theorem nm:e2 Se 42=some 104:=by kernel_rfl
def lp:Sg Si:= .string ⟨#[]⟩::bX
theorem eD:bK Se 42=some (.agg lp.toArray):=by kernel_rfl
theorem hE:cp (.agg lp.toArray)=true:=by kernel_rfl
theorem sC:bc Se 2=some 1:=by kernel_rfl
theorem lq:c3 Se 2=some false:=by kernel_rfl
theorem rj:bc Se 9=some 1:=by kernel_rfl
theorem fH:c3 Se 9=some false:=by kernel_rfl
theorem nU:bc Se 23=some 1:=by kernel_rfl
theorem ft:c3 Se 23=some false:=by kernel_rfl
theorem mC:bc Se 24=some 1:=by kernel_rfl
theorem eh:c3 Se 24=some false:=by kernel_rfl
theorem a6 (i o c:Sr):aY Se 26 (ab i o c) 0=some (ab i (o+0) c):=by
 unfold aY;rw[So];simp[aQ]
theorem eE (i o c:Sr):aY Se 26 (ab i o c) 1=some (ab i (o+1) c):=by
 unfold aY;rw[So];simp[sC]
theorem c8 (i o c:Sr):aY Se 26 (ab i o c) 2=some (ab i (o+2) c):=by
 unfold aY;rw[So];simp[dI]
theorem c7 (i o c:Sr):aY Se 26 (ab i o c) 3=some (ab i (o+3) c):=by
 unfold aY;rw[So];simp[nU]
theorem bJ (i o c:Sr):aY Se 26 (ab i o c) 4=some (ab i (o+4) c):=by
 unfold aY;rw[So];simp[mC]
theorem kS {s:J}{v:Si}{n:Sr}{l:Sg Si}(h:az s 6 v n l){k:Sr}(a:k<n):aY Se 42 (bM 6 v k) 0=some (eR (bM 6 v k) 0)/\aY Se 42 (bM 6 v k) 1=some (eR (bM 6 v k) 1):=by
 have⟨i,b,c,e,_⟩:=h.aJ a;rw[e];refine⟨?_,?_⟩<;>·unfold aY;rw[SH];simp[rj,aL,eR]
theorem Gp (k n:Tf){b:Si}(c:b.cells.toList=[b]):cP Se 26 [(0,I k),(1,I n),(2,b)]=some (.agg #[I k,I n,b,av,av]):=by
 unfold cP;rw[So]
 rw[(show bK Se 26=some (.agg #[I 0,I 0,av,av,av]) by kernel_rfl)];have b:∀a n,(Value.int a n).cells= #[.int a n]:=fun _ _=>rfl
 simp[aQ,sC,dI,nU,mC,cp,hO,eT,jW,eP,di,b,c]
theorem p0 (b:Sg Sh){a:Sg Si}(c:a.length=5):cP Se 42 [(0,.string ⟨b.toArray⟩),(1,.agg a.toArray)]=some (.agg (.string ⟨b.toArray⟩::a).toArray):=by
 unfold cP;rw[SH]
 rw[(show bK Se 42=some (.agg #[.string ⟨#[]⟩,I 0,I 0,av,av,av]) by kernel_rfl)];have d:∀b,(Value.string b).cells= #[.string b]:=fun _=>rfl
 match a,c with
 |[a,b,c,e,f],_=>simp[rj,aL,cp,hO,eT,jW,eP,di,d]
def ei (s:J)(o:O)(v:Si)(a:J):Prop:=∃b,v= .agg b.toArray/\aE (fun j=>s.Y<=j) a b o/\ad s.Y s a
def l0 (s:J)(o:O)(v:Si)(b:J):Prop:=∃k n c l d e a f g h,o= .au k n c l d/\v= .agg #[I k,I n,e,a,f]/\ao b 5 a l.length g/\ay s.Y a/\az b 1 e c.length (aM c)/\az b 6 f d.length h/\bA (fun j=>s.Y<=j/\ak a≠some j) e/\bA (fun j=>s.Y<=j/\ak a≠some j) f/\aU aE 5 (fun j=>s.Y<=j/\ak a≠some j) b l g/\aU cE 6 (fun j=>s.Y<=j/\ak a≠some j) b d h/\ad s.Y s b
theorem l0.x {s b:J}{o:O}{v:Si}(h:l0 s o v b):ei s o v b:=by
 obtain⟨q,r,t,u,w,x,c,y,z,A,rfl,rfl,d,e,f,g,i,k,l,m,n⟩:=h;have a:∀j,s.Y<=j/\ak c≠some j->s.Y<=j:=fun j p=>p.1
 exact⟨_,rfl,aE.lZ f d.c g (i.b a) (bA.Q e) (k.b a) (l.b cm a) (m.b bY a),n⟩
def zQ (s:J)(o:O)(v:Si)(c:J):Prop:=∃k n d l e f a b g h,o= .au k n d l e/\v= .agg #[I k,I n,f,a,b]/\ao c 5 a l.length g/\ay s.Y a/\ao c 6 b e.length h/\ay s.Y b/\(∀j,ak a=some j->ak b≠some j)/\az c 1 f d.length (aM d)/\bA (fun j=>s.Y<=j/\ak a≠some j/\ak b≠some j) f/\aU aE 5 (fun j=>s.Y<=j/\ak a≠some j/\ak b≠some j) c l g/\aU cE 6 (fun j=>s.Y<=j/\ak a≠some j/\ak b≠some j) c e h/\ad s.Y s c
theorem zQ.g4 {s d:J}{o:O}{v:Si}(h:zQ s o v d):l0 s o v d:=by
 obtain⟨k,n,f,l,g,i,b,e,m,p,rfl,rfl,q,r,t,u,w,x,y,z,A,B⟩:=h;have c:∀j,s.Y<=j/\ak b≠some j/\ak e≠some j->s.Y<=j/\ak b≠some j:=fun j a=>⟨a.1,a.2.1⟩
 exact⟨k,n,f,l,g,i,b,e,m,p,rfl,rfl,q,r,x,t.c,y.b c,bA.gE (fun j a=>⟨u j a,fun D=>w j D a⟩),z.b cm c,A.b bY c,B⟩
set_option maxHeartbeats 8000000 in
theorem Gq:∀(Xl:Sr) (WQ:O),SizeOf.sizeOf WQ<=Xl->∀(Xm:Sr->Prop) (s:J) (Xy:Sg Si),aE Xm s Xy WQ->bd WQ->
  Runs Se aw 29 [.agg Xy.toArray] s (zQ s WQ):=by
 intro Xl
 induction Xl with
 |zero=>intro WQ Wz;cases WQ;simp at Wz
 |succ Xl Yi=>
 intro WQ Zm Xm s Xy YS YT;cases WQ with
 |au z A Q t B=>
 obtain⟨W7,W8,W9,Zn,Zo,rfl,YU,YV,YW,Zp,Zq,Zr,YX,YY⟩:=YS.ea;cases YT with
 |au Zs Zt Zu Zv YZ Y0=>
 refine Runs.ey 59 Tryz.func29 rfl fun p h Yj=> ?_
 refine aq h Yj (aK fun Wy Y1 Yk Zw=> ?_);have Yl:bX.length+1=6:=rfl;refine bp h @To.{0} @List.length_nil.{0} @b8 @cy ?_;refine aK ?_;intro i Y2 Xz Zx;have XW:=Y1.C Xz;have XX:=Yk.d Xz;have Ym:=YU.C XX;refine aq h Yl ?_;refine LB.T 1 1 fun Yn WR WE _ H Yo=> ?_
 have Xn:=XW.C H;have Yp:=LA.D WE XW.n;have Yq:=Xn.v aB 0 6 (I z);have Yr:=Xn.v lq 1 6 (I A);have Ys:=Xn.v cJ 2 6 W7;refine cX h @a6 @eE @c8 Yp Yq Yr Ys Ym.m ?_;refine(ri (aS i 1) W7 Q (Ym.C H) Z).b ?_;rintro r Zy ⟨Xa,XY,XZ⟩;have Zz:=XZ.Y;refine⟨fun _=>LA.ar.R WR (XZ.q Z),?_⟩;have Yt:bn (.agg #[I z,I A,r,av,av]) (.agg #[I z,I A,r,av,av])=true:=um (by simp[b9]) (by simp[b9]) Xa.c.oV (by simp[b9]) (by simp[b9]);refine bp h (Gp z A Xa.c.gA) Yt @b8 @cy ?_;refine LB.j7 Z ?_;intro ZA Yu Y3 X0;refine aq h Yl ?_;refine LB.eY aL ai Yu rfl rfl rfl (by simp only[SY,Ti,(Xa.c.aN)];rfl) (fun Wz=>SL rfl Wz) ?_;intro S Xb Y4 X1;have Xb:ae S i.Y [I z,I A,r,av,av]:=Xb;have Xo:=((H.d XZ).a ⟨Z,fun a f=>X0 a Z⟩).a ⟨Z,fun a f=>X1 a Z⟩;have WV:=XX.d Xo;have Yv:=(Xa.f Y3 X0 (fun e=>ag (XY _ e))).f Y4 X1 (fun e=>ag (XY _ e));have Yw:=XW.C Xo;have Yx:=Y2.C Xo;refine ax h ?_;have⟨WH,WS⟩:=aO (fun WI a=>i.Y+1<=a/\¬a=i.Y/\ak WI≠some a:Si->Sr->Prop);have ZB:=Xz.Y;have ZC:=Xo.Y;have W3:i.Y<S.Y:=Xb.n;refine aZ.w (fun WA p g=>∃(m:Sr) (y:Si) (T:Sg Si),WA=t.length-m/\m<=t.length/\ao g 5 y m T/\aU aE 5 (WH y) g (t.take m) T/\ay S.Y y/\az g 1 r Q.length (aM Q)/\bA (WH y) r/\ae g s.Y [I z,I A,W7,W8,W9]/\ae g Wy.Y bX/\ae g i.Y [I z,I A,r,y,av]/\ad s.Y s g/\S.Y<=g.Y/\p.e=59/\p.N 1=ab s.Y 0 6/\p.N 2=ab Wy.Y 0 6/\p.N 3=ab i.Y 0 6/\p.N 4=I (m:Sr))
  (fun WA p g=>WA= .bb 0/\∃(y:Si) (T:Sg Si),ao g 5 y t.length T/\aU aE 5 (WH y) g t T/\ay S.Y y/\az g 1 r Q.length (aM Q)/\bA (WH y) r/\ae g s.Y [I z,I A,W7,W8,W9]/\ae g Wy.Y bX/\ae g i.Y [I z,I A,r,y,av]/\ad s.Y s g/\S.Y<=g.Y/\p.e=59/\p.N 1=ab s.Y 0 6/\p.N 2=ab Wy.Y 0 6/\p.N 3=ab i.Y 0 6)
  ⟨0,av,[],rfl,Z,.al,by rw[Td];exact aU.al,ay.al _,Yv.c,bA.gE (fun a f=>by rw[WS];have:=XY a f;exact⟨Z,Z,fun e=>by cases e⟩),Yw,Yx,Xb,WV,SA _,V h,aa,aa,aa,aa⟩ ?_ ?_
 ·clear h Yj p Yt Yu Xb X0 X1 Xa Yv Yw Yx Yq Yr Ys Yp Xn WR WE;rintro Y5 X2 WA p g ⟨m,y,T,rfl,Y6,Xp,U,WJ,WB,K,W,WG,D,F,WW,h,o,G,R,Xq⟩;have Xr:=YV.C F;have Xc:=W.v ft 3 6 W8;by_cases L:m<t.length;rotate_left
  ·obtain rfl:m=t.length:=Z;rw[Tp] at U;refine ch h o Xq @c7 Xc (Xr.g Sx) (Z:¬((t.length:Sr):Tf)<((t.length:Sr):Tf)) ?_;refine X2 _ _ _ ⟨rfl,y,T,Xp,U,WJ,WB,K,W,WG,D,F,WW,V h,V o,V G,V R⟩
  have Yy:ak y≠some i.Y:=fun e=>qG (WJ _ e) D.n W3
  refine ch h o Xq @c7 Xc (Xr.g Sx) (eq_true (Z:(m:Tf)<(t.length:Tf))) (LB.T 1 1 fun Yn WR WE _ H Yo=> ?_);have X3:=Xr.C H;have Xd:=X3.r (k:= .i64) (x:=(m:Tf)) Sx aL Z Z;rw[Int.toNat_natCast] at Xd;have Xe:=((YX.H m L).C F).C H;refine kP h o R Xq @c7 (LA.D WE W.n) (LA.D WE D.n) ((W.C H).o ft 3 6:aD Se (aS g 1) 23 (ab s.Y 3 6)=some W8) ((D.C H).o ft 3 6:aD Se (aS g 1) 23 (ab i.Y 3 6)=some y) X3.m Xp.m Xd (X3.dm bV aL L) (LA.iG Xr WE L) Xe.m ((Yi t[m] (ag (O.gD (k:=z) (n:=A) (b:=Q) (l:=t) (d:=B) (SB L))) Xm (aS g 1) _ Xe (YZ _ (SB L))).b ?_);rintro _ q X4;obtain⟨WX,rfl,WY,WZ⟩:=X4.g4.x;have Y7:=WZ.Y;refine⟨fun _=>LA.ar.R WR (WZ.q Z),?_⟩;have WT:=WY.aG;simp(disch:=omega)only[gC (a:=WX.toArray) Sx aL b8 cy rfl WT (by decide)];refine LB.fD (a:=g.Y) WT Z (SA _) ?_;intro Y8 W4 X5 Y9 X6 X7 X8;have v:ad g.Y g W4:=(H.d WZ).a X6;have Za:=v.Y;have Xf:aE (WH y) W4 WX t[m]:=by
   refine(WY.j (u:=bI g.Y) (aF.f X7 X8) (fun a f e=> ?_)).b (fun a f=> ?_)
   ·have e:some g.Y=some a:=e;injection e with e;omega
   rw[WS];exact⟨ag F.Y,Z,fun e=>ag (Xp.z _ e)⟩
  refine ax h (LB.jE Sx Sx (.inl ⟨_,rfl⟩) aL pZ b8 rfl (Xp.C v) X5.c.X WT ai Xf.K Z Z (a:=S.Y) WJ Z (fun Wz=>SL rfl Wz) (fun a f=>ag (WR a f)) fun WK Xs X9 Ya E WU=> ?_);have Zb:=E.Y;have Yz:=U.C cm v;rw[WS] at Yz Xf;have YA:=Yz.dO cm WT Xf E WU;have Yb:az Xs 1 r Q.length (aM Q)/\bA (WH WK) r:=by
   have YB:=WB.C v;refine⟨YB.hA K E (fun a f=>by rw[WS] at f;exact f.2.2),(K.eV YB).b (fun a f=> ?_)⟩;rw[WS] at f|-
   refine⟨f.1.1,f.1.2.1,fun e=> ?_⟩;rcases WU with o|⟨Xt,o,G⟩
   ·exact f.1.2.2 (by rw[<-o];exact e)
   rw[o] at e;injection e with e;have:=f.2;omega
  have Yc:ak WK≠some i.Y:=fun e=>by
   rcases WU with o|⟨Xt,o,G⟩
   ·exact Yy (by rw[<-o];exact e)
   rw[o] at e;injection e with e;have:=D.n;omega
  refine aR h R @c7 (LB.gV nU ai ((D.C v).j E Yy) (b:=3) (c:=6) rfl (a:=[WK]) X9.c.gA rfl aA (by simp[X9.c.aN]) (fun Wz=>SL rfl Wz) fun Xg Yd WL WC=> ?_);have W0:aF (bI i.Y) Xs Xg:=aF.f WL WC;have W5:∀WI a,WH WI a->ak (bI i.Y)≠some a:=fun WI a f e=>by
   have e:some i.Y=some a:=e;injection e with e;rw[WS] at f;exact f.2.1 e.symm
  rw[show(fun a=>i.Y+1<=a/\¬a=i.Y/\ak WK≠some a)=WH WK by rw[WS]] at YA;refine aq h Xq ?_;refine aH (t.length-(m+1)) Z ⟨m+1,WK,T++WX,rfl,Z,X9.f WL WC Yc,?_,Ya,Yb.1.hA Yb.2 W0 (W5 WK),Yb.2,((W.C v).j E (fun e=>qG (WJ _ e) WV.Y W3)).f WL WC Z,((WG.C v).j E (fun e=>bq (WJ _ e) W3)).f WL WC Z,(Yd:ae Xg i.Y [I z,I A,r,WK,av]),?_,Z,V h,V o,V G,V R,aa⟩
  ·rw[SG,Sf L];exact YA.j cm W0 (W5 WK)
  exact((F.d v).a ((E.C WJ Z).q WV.Y)).a ⟨Z,fun a f=>WC a Z⟩
 rintro WA p g ⟨rfl,y,T,YC,U,WJ,WB,K,W,WG,D,F,WW,h,o,G,R⟩;have⟨M,WM⟩:=aO (fun WI a=>i.Y+1<=a/\¬(a=i.Y\/ak y=some a)/\ak WI≠some a:Si->Sr->Prop);have YD:∀a,WH y a->M (av) a:=fun a f=>by
  rw[WS] at f;rw[WM]
  exact⟨f.1,fun e=>e.elim f.2.1 f.2.2,fun e=>by cases e⟩
 replace U:=U.b cm YD;replace K:=K.b YD;refine ax h ?_;refine aZ.w (fun WA p q=>∃(m:Sr) (w:Si) (WN:Sg Si),WA=B.length-m/\m<=B.length/\ao q 6 w m WN/\aU cE 6 (M w) q (B.take m) WN/\ay S.Y w/\az q 1 r Q.length (aM Q)/\bA (M w) r/\ao q 5 y t.length T/\(∀a,ak y=some a->ak w≠some a)/\aU aE 5 (M w) q t T/\ae q s.Y [I z,I A,W7,W8,W9]/\ae q Wy.Y bX/\ae q i.Y [I z,I A,r,y,w]/\ad s.Y s q/\S.Y<=q.Y/\p.e=59/\p.N 1=ab s.Y 0 6/\p.N 2=ab Wy.Y 0 6/\p.N 3=ab i.Y 0 6/\p.N 5=I (m:Sr))
  (fun WA p q=>WA= .bb 2/\∃(w:Si) (WN:Sg Si),ao q 6 w B.length WN/\aU cE 6 (M w) q B WN/\ay S.Y w/\az q 1 r Q.length (aM Q)/\bA (M w) r/\ao q 5 y t.length T/\(∀a,ak y=some a->ak w≠some a)/\aU aE 5 (M w) q t T/\ae q Wy.Y bX/\ae q i.Y [I z,I A,r,y,w]/\ad s.Y s q/\S.Y<=q.Y/\p.e=59/\p.N 2=ab Wy.Y 0 6/\p.N 3=ab i.Y 0 6)
  ⟨0,av,[],rfl,Z,.al,by rw[Td];exact aU.al,ay.al _,WB,K,YC,(fun a _ e=>by cases e),U,W,WG,D,F,WW,V h,V o,V G,V R,aa⟩ ?_ ?_
 ·clear h o G R p W WG D F WW WB K YC U g;rintro Y5 X2 WA p g ⟨m,w,WN,rfl,Y6,W1,Xh,WO,WB,K,W6,Xi,U,W,WG,D,F,WW,h,o,G,R,Xu⟩;have Xv:=YW.C F;have Xc:=W.v eh 4 6 W9;by_cases L:m<B.length;rotate_left
  ·obtain rfl:m=B.length:=Z;rw[Tp] at Xh;refine ch h o Xu @bJ Xc (Xv.g Sy) (Z:¬((B.length:Sr):Tf)<((B.length:Sr):Tf)) ?_;refine X2 _ _ _ ⟨rfl,w,WN,W1,Xh,WO,WB,K,W6,Xi,U,WG,D,F,WW,V h,V G,V R⟩
  have YE:ak w≠some i.Y:=fun e=>qG (WO _ e) D.n W3
  refine ch h o Xu @bJ Xc (Xv.g Sy) (eq_true (Z:(m:Tf)<(B.length:Tf))) (LB.T 1 1 fun Yn WR WE _ H Yo=> ?_);have Xj:=Xv.C H;have Xd:=Xj.r (k:= .i64) (x:=(m:Tf)) Sy bx Z Z;rw[Int.toNat_natCast] at Xd;have⟨Zc,Zd⟩:=kS Xj L;have⟨ZD,Ze,Zf,Zg⟩:=YY.H m L;have⟨Zh,Zi⟩:=kn Ze;have YF:=Xj.fE fH L (j:=0) Z;rw[S3,Zh] at YF;have YG:=Xj.hC bV aL L (j:=1) Z;rw[Zi] at YG;have Xe:=(Zf.C F).C H;refine sA h o R Xu @bJ ((LA.D WE W.n)) ((LA.D WE D.n)) (((W.C H).o eh 4 6:aD Se (aS g 1) 24 (ab s.Y 4 6)=some W9)) (((D.C H).o eh 4 6:aD Se (aS g 1) 24 (ab i.Y 4 6)=some w)) Xj.m W1.m Xd Zc Zd YF YG @fT (LA.g0 Xv WE L) Xe.m ?_;refine(Yi B[m].2 (ag (O.fs (k:=z) (n:=A) (b:=Q) (l:=t) (d:=B) (SB L))) Xm (aS g 1) _ Xe (Y0 _ (SB L))).b ?_;rintro _ q X4;obtain⟨WX,rfl,WY,WZ⟩:=X4.g4.x;have Y7:=WZ.Y;refine⟨fun _=>LA.ar.R WR (WZ.q Z),?_⟩;have WT:=WY.aG;have⟨W2,Xk⟩:=aO (Value.string ⟨(B[m].1).toArray⟩::WX);have Xw:W2.length=6:=by rw[Xk];simp[WT]
  have Zj:bn (.agg W2.toArray) (.agg W2.toArray)=true:=by
   have:=WY.m;rw[Xk]
   match WX,WT,this with
   |[ZE,Q,ZF,B,e],_,this=>
    simp[bn,dF] at this|-
    exact⟨by simp[b9],this⟩
  have YH:=p0 B[m].1 WT;rw[<-Xk] at YH;simp(disch:=omega)only[aI,dy,bC,TG,↓S0,h,YH,Zj,gC (a:=W2.toArray) Sy bx eD hE rfl Xw (by decide)];refine LB.fD (a:=g.Y) Xw Z (SA _) ?_;intro Y8 W4 X5 Y9 X6 X7 X8;have v:ad g.Y g W4:=(H.d WZ).a X6;have Za:=v.Y;have Xf:cE (M w) W4 W2 B[m]:=by
   refine⟨WX,Xk,(WY.j (u:=bI g.Y) (aF.f X7 X8) (fun a f e=> ?_)).b (fun a f=> ?_),Zg⟩
   ·have e:some g.Y=some a:=e;injection e with e;omega
   rw[WM];exact⟨ag F.Y,fun e=>e.elim (fun e=>Z) (fun e=>ag (W6.z _ e)),fun e=>ag (W1.z _ e)⟩
  refine ax h (LB.jE Sy Sy (.inl ⟨_,rfl⟩) bx nm eD rfl (W1.C v) X5.c.X Xw ai (show W2.all aN=true by rw[Xk,SY,WY.K];rfl) Z Z (a:=S.Y) WO Z (fun Wz=>SL rfl Wz) (fun a f=>ag (WR a f)) fun WD Xs Ye Ya E WU=> ?_);have Zb:=E.Y;have YI:∀a,M w a/\a<W4.Y->M WD a:=fun a f=>by
   rw[WM] at f|-
   refine⟨f.1.1,f.1.2.1,fun e=> ?_⟩;rcases WU with o|⟨Xt,o,G⟩
   ·exact f.1.2.2 (by rw[<-o];exact e)
   rw[o] at e;injection e with e;have:=f.2;omega
  have YJ:∀a,M w a->ak w≠some a:=fun a f=>by rw[WM] at f;exact f.2.2
  have YK:=Xh.C bY v;have YL:=Xf;rw[WM] at YK YL;have YM:=YK.dO (X:=fun a=>a=i.Y\/ak y=some a) bY Xw YL E WU;rw[show(fun a=>i.Y+1<=a/\¬(a=i.Y\/ak y=some a)/\ak WD≠some a)=M WD by rw[WM]] at YM;have YN:=WB.C v;have YO:=W6.C v;have YP:=(K.eV YN).b YI;have Zk:∀a,ak y=some a->ak WD≠some a:=fun a f e=>by
   rcases WU with o|⟨Xt,o,G⟩
   ·exact Xi a f (by rw[<-o];exact e)
   rw[o] at e;injection e with e;have:=YO.z _ f;omega
  have Yc:ak WD≠some i.Y:=fun e=>by
   rcases WU with o|⟨Xt,o,G⟩
   ·exact YE (by rw[<-o];exact e)
   rw[o] at e;injection e with e;have:=D.n;omega
  refine aR h R @bJ (LB.gV mC ai ((D.C v).j E YE) (b:=4) (c:=6) rfl (a:=[WD]) Ye.c.gA rfl aA (by simp[Ye.c.aN]) (fun Wz=>SL rfl Wz) fun Xg Yd WL WC=> ?_);have W0:aF (bI i.Y) Xs Xg:=aF.f WL WC;have W5:∀WI a,M WI a->ak (bI i.Y)≠some a:=fun WI a f e=>by
   have e:some i.Y=some a:=e;injection e with e;rw[WM] at f;exact f.2.1 (.inl e.symm)
  refine aq h Xu ?_;refine aH (B.length-(m+1)) Z ⟨m+1,WD,WN++W2,rfl,Z,Ye.f WL WC Yc,?_,Ya,(YN.hA K E YJ).hA YP W0 (W5 WD),YP,(YO.j E Xi).j W0 (fun a f e=>by have e:some i.Y=some a:=e;injection e with e;have:=WJ _ f;omega),Zk,(((U.C cm v).eV cm|>.j cm E (fun a f=>YJ a f.1)).b cm YI).j cm W0 (W5 WD),((W.C v).j E (fun e=>qG (WO _ e) WV.Y W3)).f WL WC Z,((WG.C v).j E (fun e=>bq (WO _ e) W3)).f WL WC Z,(Yd:ae Xg i.Y [I z,I A,r,y,WD]),?_,Z,V h,V o,V G,V R,aa⟩
  ·rw[SG,Sf L];exact YM.j bY W0 (W5 WD)
  exact((F.d v).a ((E.C WO Z).q WV.Y)).a ⟨Z,fun a f=>WC a Z⟩
 rintro WA p g ⟨rfl,w,WN,W1,Xh,WO,WB,K,W6,Xi,U,WG,D,F,WW,h,G,R⟩;refine aW h G R (ae.y (a:=[I z,I A,r,y,w]) bV aL D (c:=6) rfl) ?_;refine bh aL ai WG rfl rfl rfl (by simp only[SY,Ti,(WB.aN),(W6.c.aN),(W1.c.aN)];rfl) ?_;intro q Zl YQ Yf;refine b0 h G (ae.y (P:=Se) (a:=[I z,I A,r,y,w]) bV aL Zl (c:=6) rfl) @Tryz.results29 ?_;have Xx:aF (bI Wy.Y) g q:=aF.f YQ Yf;have Yg:∀a,M w a->ak (bI Wy.Y)≠some a:=fun a f e=>by
  have e:some Wy.Y=some a:=e;injection e with e;rw[WM] at f;have:=f.1;omega
 have YR:∀a,ak y=some a->S.Y<=a:=fun a f=>WJ _ f
 have Yh:∀a,M w a->s.Y<=a/\ak y≠some a/\ak w≠some a:=fun a f=>by rw[WM] at f;exact⟨bq f.1 XX.Y,fun e=>f.2.1 (.inr e),f.2.2⟩
 exact⟨_,_,_,_,_,_,_,_,_,_,rfl,rfl,W6.j Xx (fun a f e=>by have e:some Wy.Y=some a:=e;injection e with e;have:=YR _ f;omega),fun a f=>bq (YR a f) WV.Y,W1.f YQ Yf (fun e=>ag (WO _ e)),fun a f=>bq (WO a f) WV.Y,Xi,WB.hA K Xx Yg,K.b Yh,(U.j cm Xx Yg).b cm Yh,(Xh.j bY Xx Yg).b bY Yh,F.a ⟨Z,fun a f=>Yf a (ag Yk.Y)⟩⟩
theorem Gr (b:Sr)(o:O)(c:SizeOf.sizeOf o<=b)(F:Sr->Prop)(s:J)(a:Sg Si)(d:aE F s a o)(e:bd o):
  Runs Se aw 29 [.agg a.toArray] s (l0 s o):=(Gq b o c F s a d e).b fun _ _ h=>h.g4
theorem sD (b:Sr)(o:O)(c:SizeOf.sizeOf o<=b)(F:Sr->Prop)(s:J)(a:Sg Si)(d:aE F s a o)(e:bd o):
  Runs Se aw 29 [.agg a.toArray] s (ei s o):=(Gr b o c F s a d e).b fun _ _ h=>h.x
end Go.Proofs.YtgpmffbleaphkaaGreat
namespace Go.Cl
inductive cQ:O->O->Prop
 |au {k n n' :Tf} {b b' :Sg Sh} {l l' :Sg O} {d d' :Sg (Sg Sh×O)} (hn:(k=1\/k=2\/k=3\/k=9)->n=n') (hb:(k=4\/k=5\/k=8)->b=b')
  (hl:k=6->l.length=l'.length) (hL:k=6->∀i (h:i<l.length) (h' :i<l'.length),cQ l[i] l'[i])
  (hd:(k=7\/k=8)->d.length=d'.length) (hK:(k=7\/k=8)->∀i (h:i<d.length) (h' :i<d'.length),d[i].1=d'[i].1) (hD:(k=7\/k=8)->∀i (h:i<d.length) (h' :i<d'.length),cQ d[i].2 d'[i].2):cQ (.au k n b l d) (.au k n' b' l' d')
theorem cQ.eg {k c n e:Tf}{f g:Sg Sh}{l b:Sg O}{d a:Sg (Sg Sh×O)}(h:cQ (.au k n f l d) (.au c e g b a)):k=c/\((k=1\/k=2\/k=3\/k=9)->n=e)/\((k=4\/k=5\/k=8)->f=g)/\(k=6->l.length=b.length)/\(k=6->∀i (j:i<l.length) (m:i<b.length),cQ l[i] b[i])/\
  ((k=7\/k=8)->d.length=a.length)/\((k=7\/k=8)->∀i (o:i<d.length) (p:i<a.length),d[i].1=a[i].1)/\((k=7\/k=8)->∀i (q:i<d.length) (r:i<a.length),cQ d[i].2 a[i].2):=by
 cases h with
 |au a b c d e f g=>exact⟨rfl,a,b,c,d,e,f,g⟩
theorem cQ.p:∀(m:Sr) (a:O),SizeOf.sizeOf a<=m->cQ a a:=by
 intro o
 induction o with
 |zero=>intro p h;cases p;simp at h
 |succ t c=>
  intro q h;cases q with
  |au e f g i j=>
   exact .au (fun _=>rfl) (fun _=>rfl) (fun _=>rfl) (fun _ u r v=>c _ (ag (O.gD (k:=e) (n:=f) (b:=g) (l:=i) (d:=j) (SB r)))) (fun _=>rfl) (fun _ w _ _=>rfl) (fun _ x s y=>c _ (ag (O.fs (k:=e) (n:=f) (b:=g) (l:=i) (d:=j) (SB s))))
theorem cQ.m (a:O):cQ a a:=cQ.p _ a (SA _)
def iI (p:Prop)(v:Si):Prop:=∃t:SU,v= .bool t/\(t=true↔p)
theorem iI.ko {p:Prop}(h:¬p):iI p (.bool false):=⟨false,rfl,⟨fun a=>by(cases a),fun k=>SL k h⟩⟩
theorem iI.mD {p:Prop}(h:p):iI p (.bool true):=⟨true,rfl,⟨fun _=>h,fun _=>rfl⟩⟩
theorem nn {p:Sr->Prop}{i:Sr}(h:∀j,j<i->p j)(b:p i):∀a,a<i+1->p a:=by
 intro j a;rcases Nat.lt_succ_iff_lt_or_eq.mp a with a|c
 ·exact h j a
 rw[c];exact b
theorem ae.ka {P:SJ}{e:SQ}{n:Sr}(d:c3 P e=some true)(f:bc P e=some n){s:J}{i:Sr}{b:Sg Si}(h:ae s i b){a c:Sr}(g:c=b.length+1)(j:a+n<=b.length):
  aD P s e (ab i a c)=some (.agg ((b.drop a).take n).toArray):=by
 have⟨c,z,a,b⟩:=h.bl;subst g;unfold aD;simp only[d,f];rw[nd a b (SA _) Z]
end Go.Cl
namespace Go.Cl
def p1 (b:Sg Sh):Prop:=b.length<=127/\∀i (h:i<b.length),b[i].toNat≠0
def zR (x y:Sg Sh):Prop:=¬(SE y x||y==x)=true
inductive fj:Tf->O->Prop
 |au {p k n:Tf} {b:Sg Sh} {l:Sg O} {d:Sg (Sg Sh×O)} (h1:l≠[]->k=6) (h2:d≠[]->k=7\/k=8) (h3:b≠[]->k=4\/k=5\/k=8) (hk:0<=k/\k<=9)
  (n1:k=1->n=0\/n=1) (n2:k=2-> -2147483647<=n/\n<=2147483647) (n3:k=3-> -214748364799999<=n/\n<=214748364799999) (n9:k=9->1<=n/\n<=8388607) (n0:k≠1->k≠2->k≠3->k≠9->n=0)
  (b4:k=4->b.length<=32767) (b5:k=5->p1 b) (p6:k=6->1<=p) (l6:k=6->∀i (h:i<l.length),l[i].a9≠8) (m6:k=6->∀i (h:i<l.length),fj (p-1) l[i])
  (p7:k=7\/k=8->1<=p) (b7:k=7\/k=8->b.length<=16777216) (e7:k=7\/k=8->∀i (h:i<d.length),p1 d[i].1/\d[i].2.a9≠8/\d[i].2.a9≠0) (m7:k=7\/k=8->∀i (h:i<d.length),fj (p-1) d[i].2)
  (r7:k=7\/k=8->∀i (h:i+1<d.length),zR d[i].1 d[i+1].1):fj p (.au k n b l d)
def wU (p:Tf)(l:Sg O):Prop:=∀i (h:i<l.length),l[i].a9≠8/\fj (p-1) l[i]
def sE (p:Tf)(d:Sg (Sg Sh×O)):Prop:=(∀i (h:i<d.length),(p1 d[i].1/\d[i].2.a9≠8/\d[i].2.a9≠0)/\fj (p-1) d[i].2)/\∀i (h:i+1<d.length),zR d[i].1 d[i+1].1
theorem lr {p k n:Tf}{b:Sg Sh}{l:Sg O}{d:Sg (Sg Sh×O)}:fj p (.au k n b l d)↔(l≠[]->k=6)/\(d≠[]->k=7\/k=8)/\(b≠[]->k=4\/k=5\/k=8)/\(0<=k/\k<=9)/\
  (k=1->n=0\/n=1)/\(k=2-> -2147483647<=n/\n<=2147483647)/\(k=3-> -214748364799999<=n/\n<=214748364799999)/\(k=9->1<=n/\n<=8388607)/\(k≠1->k≠2->k≠3->k≠9->n=0)/\
  (k=4->b.length<=32767)/\(k=5->p1 b)/\(k=6->1<=p/\wU p l)/\(k=7\/k=8->(1<=p/\b.length<=16777216)/\sE p d):=by
 constructor
 ·intro h;cases h with
  |au b c d e f g i j l m n a p q r s t u v=>
   exact⟨b,c,d,e,f,g,i,j,l,m,n,fun h=>⟨a h,fun a o=>⟨p h a o,q h a o⟩⟩,fun h=>⟨⟨r h,s h⟩,fun a o=>⟨t h a o,u h a o⟩,v h⟩⟩
 rintro ⟨b,c,d,e,f,g,i,j,l,m,n,h,a⟩;exact .au b c d e f g i j l m n (fun b=>(h b).1) (fun b i c=>((h b).2 i c).1) (fun b i c=>((h b).2 i c).2) (fun h=>(a h).1.1) (fun h=>(a h).1.2) (fun h i b=>((a h).2.1 i b).1) (fun h i b=>((a h).2.1 i b).2) (fun h=>(a h).2.2)
section
variable {p k n:Tf} {b:Sg Sh} {l:Sg O} {d:Sg (Sg Sh×O)} (g1:l≠[]->k=6) (g2:d≠[]->k=7\/k=8) (g3:b≠[]->k=4\/k=5\/k=8)
include g1 g2 g3
theorem zS (a:k=1):fj p (.au k n b l d)↔(n=0\/n=1):=by
 rw[lr];exact⟨fun h=>h.2.2.2.2.1 a,fun h=>⟨g1,g2,g3,Z,fun _=>h,fun e=>Z,fun e=>Z,fun e=>Z,fun e=>Z,fun e=>Z,fun e=>Z,fun e=>Z,fun e=>Z⟩⟩
theorem zT (a:k=2):fj p (.au k n b l d)↔(-2147483647<=n/\n<=2147483647):=by
 rw[lr];exact⟨fun h=>h.2.2.2.2.2.1 a,fun h=>⟨g1,g2,g3,Z,fun e=>Z,fun _=>h,fun e=>Z,fun e=>Z,fun e=>Z,fun e=>Z,fun e=>Z,fun e=>Z,fun e=>Z⟩⟩
theorem Gs (a:k=3):fj p (.au k n b l d)↔(-214748364799999<=n/\n<=214748364799999):=by
 rw[lr];exact⟨fun h=>h.2.2.2.2.2.2.1 a,fun h=>⟨g1,g2,g3,Z,fun e=>Z,fun e=>Z,fun _=>h,fun e=>Z,fun e=>Z,fun e=>Z,fun e=>Z,fun e=>Z,fun e=>Z⟩⟩
theorem zU (a:k=9):fj p (.au k n b l d)↔(1<=n/\n<=8388607):=by
 rw[lr];exact⟨fun h=>h.2.2.2.2.2.2.2.1 a,fun h=>⟨g1,g2,g3,Z,fun e=>Z,fun e=>Z,fun e=>Z,fun _=>h,fun e=>Z,fun e=>Z,fun e=>Z,fun e=>Z,fun e=>Z⟩⟩
theorem N5 (c:k=0)(a:n=0):fj p (.au k n b l d):=by
 rw[lr];exact⟨g1,g2,g3,Z,fun e=>Z,fun e=>Z,fun e=>Z,fun e=>Z,fun _ _ _ _=>a,fun e=>Z,fun e=>Z,fun e=>Z,fun e=>Z⟩
theorem Gt (a:k=4)(c:n=0):fj p (.au k n b l d)↔b.length<=32767:=by
 rw[lr];exact⟨fun h=>h.2.2.2.2.2.2.2.2.2.1 a,fun h=>⟨g1,g2,g3,Z,fun e=>Z,fun e=>Z,fun e=>Z,fun e=>Z,fun _ _ _ _=>c,fun _=>h,fun e=>Z,fun e=>Z,fun e=>Z⟩⟩
theorem N6 (a:k=5)(c:n=0):fj p (.au k n b l d)↔p1 b:=by
 rw[lr];exact⟨fun h=>h.2.2.2.2.2.2.2.2.2.2.1 a,fun h=>⟨g1,g2,g3,Z,fun e=>Z,fun e=>Z,fun e=>Z,fun e=>Z,fun _ _ _ _=>c,fun e=>Z,fun _=>h,fun e=>Z,fun e=>Z⟩⟩
theorem zV (a:k=6)(c:n=0):fj p (.au k n b l d)↔1<=p/\wU p l:=by
 rw[lr];exact⟨fun h=>h.2.2.2.2.2.2.2.2.2.2.2.1 a,fun h=>⟨g1,g2,g3,Z,fun e=>Z,fun e=>Z,fun e=>Z,fun e=>Z,fun _ _ _ _=>c,fun e=>Z,fun e=>Z,fun _=>h,fun e=>Z⟩⟩
theorem Gu (a:k=7\/k=8)(c:n=0):fj p (.au k n b l d)↔(1<=p/\b.length<=16777216)/\sE p d:=by
 rw[lr];exact⟨fun h=>h.2.2.2.2.2.2.2.2.2.2.2.2 a,fun h=>⟨g1,g2,g3,Z,fun e=>Z,fun e=>Z,fun e=>Z,fun e=>Z,fun _ _ _ _=>c,fun e=>Z,fun e=>Z,fun e=>Z,fun _=>h⟩⟩
omit g1 g2 g3 in
theorem N7 (h:fj p (.au k n b l d))(a:k≠1)(c:k≠2)(e:k≠3)(f:k≠9):n=0:=(lr.1 h).2.2.2.2.2.2.2.2.1 a c e f
omit g1 g2 g3 in
theorem N8 (h:fj p (.au k n b l d)):0<=k/\k<=9:=(lr.1 h).2.2.2.1
end
section
variable {P:SJ} {t:SQ}
theorem ur (a b:Sg Sh):bN P .leq t (.string ⟨a.toArray⟩) (.string ⟨b.toArray⟩)=some (.bool (SE a b||a==b)):=by
 simp only[bN,r4]
theorem N9 {a r:Sg Oper}{o:Oper}{f:an}{s:J}{Q:an->J->Prop}{b:SU}(c:an->J->Prop)(j:∀d:an->J->Prop,(∀e g,c e g->d e g)->kH P aw a o r f s d b)(k:∀h i,c h i->Q h i):kH P aw a o r f s Q b:=j Q k
end
end Go.Cl
namespace Go.Cl
open Go.Lib
abbrev gG (a b:Sg Sh):SU:=SE a b
theorem zW:∀(a b:Sg Sh),(gG a b||a==b)= !(gG b a)
 |[],[]=>rfl
 |[],_::_=>rfl
 |_::_,[]=>rfl
 |x::b,y::c=>by
  have a:=zW b c;simp only[gG] at a|-
  simp only[SE,List.cons_beq_cons];by_cases h:x=y
  ·subst h;simp only[S7 (SS x:¬x<x),Bool.false_or,beq_self_eq_true,Bool.true_and];exact a
  have a:(x==y)=false:=by simpa using h
  simp only[a,(show(y==x)=false by simpa using Ne.symm h),Bool.false_and,Bool.or_false];by_cases a:x<y
  ·have:¬y<x:=SP.2 (UInt8.le_of_lt a);simp[a,this]
  have:y<x:=UInt8.lt_of_le_of_ne (SP.1 a) (Ne.symm h);simp[a,this]
theorem zX:∀(a b:Sg Sh),0<=compareBytes a b↔gG a b=false
 |[],[]=>by simp[compareBytes,gG,SE]
 |[],_::_=>by simp[compareBytes,gG,SE]
 |_::_,[]=>by simp[compareBytes,gG,SE]
 |x::a,y::b=>by
  have c:=zX a b;simp only[gG] at c|-
  unfold compareBytes;simp only[SE];by_cases a:x<y
  ·simp[a]
  rw[TH a];by_cases b:y<x
  ·have d:(x==y)=false:=by
    have:x≠y:=fun e=>by subst e;exact SS x b
    simpa using this
   rw[if_pos b];simp[a,d]
  rw[TH b];have:x=y:=Tl (SP.1 b) (SP.1 a);subst this;simp only[S7 a,Bool.false_or,beq_self_eq_true,Bool.true_and];exact c
theorem zY:∀(a b:Sg Sh),compareBytes a b=0↔a=b
 |[],[]=>by simp[compareBytes]
 |[],_::_=>by simp[compareBytes]
 |_::_,[]=>by simp[compareBytes]
 |x::c,y::d=>by
  unfold compareBytes;by_cases a:x<y
  ·have:x≠y:=fun e=>by subst e;exact SS x a
   simp[a,this]
  rw[TH a];by_cases b:y<x
  ·have:x≠y:=fun e=>by subst e;exact SS x b
   simp[b,this]
  rw[TH b,(zY c d)];have:x=y:=Tl (SP.1 b) (SP.1 a);subst this;simp
def gk (d:Sg (Sg Sh×O))(k:Sg Sh):Sr:=d.findIdx (fun y=> !(gG y.1 k))
def jh (k:Sg Sh)(d:Sg (Sg Sh×O)):Sg (Sg Sh×O):=d.filter (fun y=> !(y.1==k))
def hV (d:Sg (Sg Sh×O))(e:Sg Sh×O):Sg (Sg Sh×O):=
 jh e.1 (d.take (gk d e.1))++(if e.2.a9=0 then [] else [e])++jh e.1 (d.drop (gk d e.1))
def ep (d l:Sg (Sg Sh×O)):Sg (Sg Sh×O):=l.foldl hV d
end Go.Cl
namespace Go.Cl
def dp (p:Sr->SU):Sr->Sr
 |0=>0
 |j+1=>dp p j+(if p j then 0 else 1)
def hW (l:Sg Si)(z:Sr)(p:Sr->SU):Sr->Sg Si
 |0=>[]
 |j+1=>hW l z p j++(if p j then [] else(l.drop (j*z)).take z)
theorem uu (p:Sr->SU):∀j,dp p j<=j
 |0=>SA _
 |j+1=>by have:=uu p j;unfold dp;split<;>omega
theorem wV {l:Sg Si}{z n:Sr}(p:Sr->SU)(b:l.length=n*z):∀j,j<=n->(hW l z p j).length=dp p j*z
 |0,_=>by simp[hW,dp]
 |j+1,h=>by
  have a:=wV p b j Z;have b:(j+1)*z<=n*z:=Sk z h;rw[Sm] at b;unfold hW dp;split
  ·simp[a]
  rw[Sl,a,St,Sp,Ts,Nat.one_mul];omega
theorem zZ {a:Sg Si}{b:Sr}{p:Sr->SU}:∀k,(∀i,i<k->p i=false)->dp p k=k/\hW a b p k=a.take (k*b)
 |0,_=>by simp[hW,dp]
 |c+1,h=>by
  have⟨d,e⟩:=zZ (a:=a) (b:=b) c (fun a b=>h a Z);unfold hW dp;rw[d,e,(h c Z)];refine⟨rfl,?_⟩;rw[Sm,List.take_add];rfl
theorem Oa {l L:Sg Si}{z n j:Sr}{p:Sr->SU}(b:L.length=n*z)(d:l.length=n*z)(a:j<n)(e:L.take (dp p j*z)=hW l z p j)(f:L.drop (j*z)=l.drop (j*z))(c:p j=false):
  (eB L (dp p j*z) ((l.drop (j*z)).take z)).take (dp p (j+1)*z)=hW l z p (j+1)/\(eB L (dp p j*z) ((l.drop (j*z)).take z)).drop ((j+1)*z)=l.drop ((j+1)*z):=by
 have b:(j+1)*z<=n*z:=Sk z a;have a:dp p j*z<=j*z:=Sk z (uu p j);have a:((l.drop (j*z)).take z).length=z:=by rw[Sm] at b;rw[St,Sp];omega
 rw[Sm] at b;have b:=wV p d j Z;unfold eB;rw[e,a];constructor
 ·rw[(show dp p (j+1)*z=dp p j*z+z by simp[dp,c,Sm]),Su (by rw[Sl,b,a];omega),Sq (by rw[Sl,b,a];omega)];simp[hW,c]
 have d:L.drop ((j+1)*z)=l.drop ((j+1)*z):=by
  have:=congrArg (TK z) f
  rwa [Sv,Sv,<-Sm] at this
 have c:(hW l z p j++(l.drop (j*z)).take z).length=dp p j*z+z:=by rw[Sl,b,a]
 rw[Tq,S4 (by rw[c,Sm];omega),Tu,c,Sv,<-d]
 congr 1
 rw[Sm];omega
theorem Gv {l L:Sg Si}{z j:Sr}{p:Sr->SU}(a:L.take (dp p j*z)=hW l z p j)(b:L.drop (j*z)=l.drop (j*z))(c:p j=true):L.take (dp p (j+1)*z)=hW l z p (j+1)/\L.drop ((j+1)*z)=l.drop ((j+1)*z):=by
 constructor
 ·simp[dp,hW,c,a]
 have:=congrArg (TK z) b
 rwa [Sv,Sv,<-Sm] at this
end Go.Cl
namespace Go.Cl
section
variable {α:Type} {Q:(Sr->Prop)->J->Sg Si->α->Prop} {z:Sr} {F:Sr->Prop} {s:J} {D E:Sg α} {l m:Sg Si}
def p2 (D:Sg α)(p:Sr->SU):Sr->Sg α
 |0=>[]
 |j+1=>p2 D p j++(if p j then [] else D[j]?.toList)
theorem aU.Ob (h:aU Q z F s D l){i:Sr}(a:i<D.length):((l.drop (i*z)).take z).length=z:=by
 have e:=h.aG;have:(i+1)*z<=D.length*z:=Sk z a;rw[Sm] at this;rw[St,Sp];omega
theorem aU.hX (h:aU Q z F s D l)(p:Sr->SU):∀j,j<=D.length->aU Q z F s (p2 D p j) (hW l z p j)
 |0,_=>aU.al
 |j+1,a=>by
  have a:=h.hX p j Z;unfold p2 hW;split
  ·simpa using a
  rw[Sf Z];exact a.hB (h.Ob Z) (h.H j Z)
theorem aU.qY (h:aU Q z F s D l)(k:Sr)(a:k<=D.length):aU Q z F s (D.take k) (l.take (k*z)):=by
 have b:k*z<=D.length*z:=Sk z a;have e:=h.aG;refine⟨by rw[St,St,S5 a];omega,fun i a=> ?_⟩;have b:i<k:=by rw[St] at a;omega
 have a:(i+1)*z<=k*z:=Sk z b;rw[Sm] at a;have:=h.H i Z;rw[Tm,SW,Tw,S5 Z];exact this
theorem aU.nN (h:aU Q z F s D l)(k:Sr)(a:k<=D.length):aU Q z F s (D.drop k) (l.drop (k*z)):=by
 refine⟨by rw[Sp,Sp,(h.aG),TI],fun i a=> ?_⟩;have:=h.H (k+i) (show k+i<D.length by rw[Sp] at a;omega);rw[List.getElem_drop,Sv,<-Ts];exact this
theorem aU.hQ (h:aU Q z F s D l)(k:aU Q z F s E m):aU Q z F s (D++E) (l++m):=by
 have e:=h.aG;refine⟨by rw[Sl,Sl,e,k.aG,Ts],fun i b=> ?_⟩;by_cases a:i<D.length
 ·have c:(i+1)*z<=D.length*z:=Sk z a;rw[Sm] at c;rw[SM a,SD Z,Su (by rw[Sp];omega)];exact h.H i a
 have a:i-D.length<E.length:=by rw[Sl] at b;omega
 have b:D.length*z<=i*z:=Sk z Z;rw[SK Z,Tq,S4 Z,Tu,e,<-TI];exact k.H _ a
theorem Gw {b:Sr->SU}{a:α->SU}:∀j,j<=D.length->(∀i (h:i<D.length),b i=a D[i])->p2 D b j=(D.take j).filter (fun y=> !(a y))
 |0,_,_=>by simp[p2]
 |j+1,c,h=>by
  have c:j<D.length:=Z;unfold p2;rw[(Gw (b:=b) (a:=a) j Z h),h j c,SG,Sf c,Th];cases b:a D[j]<;>simp[b]
end
end Go.Cl
namespace Go.Cl
open Go.Lib
def p3 (D:Sg (Sg Sh×O))(q:Sg Sh×O->SU)(i:Sr):SU:=match D[i]? with
 |some y=>q y
 |none=>false
theorem sF {D:Sg (Sg Sh×O)}{q:Sg Sh×O->SU}{i:Sr}(h:i<D.length):p3 D q i=q D[i]:=by
 unfold p3;rw[Sf h]
theorem z0 (D:Sg (Sg Sh×O))(k:Sg Sh):gk D k<=D.length:=List.findIdx_le_length
theorem Oc {D:Sg (Sg Sh×O)}{k:Sg Sh}(h:∀i,i<D.length->p3 D (fun y=> !(gG y.1 k)) i=false):gk D k=D.length:=by
 unfold gk;rw[List.findIdx_eq_length];intro y b;obtain⟨c,a,rfl⟩:=Te.1 b;have:=h c a
 rwa [sF a] at this
theorem Od {D:Sg (Sg Sh×O)}{k:Sg Sh}{r:Sr}(a:r<D.length)(b:p3 D (fun y=> !(gG y.1 k)) r=true)(h:∀i,i<r->p3 D (fun c=> !(gG c.1 k)) i=false):gk D k=r:=by
 unfold gk;rw[List.findIdx_eq a];refine⟨by rwa [sF a] at b,fun j a=> ?_⟩;have:=h j a
 rwa [sF Z] at this
theorem Gx {D:Sg (Sg Sh×O)}{k:Sg Sh}{i:Sr}(a:i<gk D k)(h:i<D.length):gG D[i].1 k=true:=by
 have:=List.not_of_lt_findIdx a
 simpa using this
theorem Gy (a:Sg Sh):gG a a=false:=by
 have:=zW a a;simp at this;exact this
theorem Oe (a:Sg (Sg Sh×O))(k:Sg Sh):jh k (a.take (gk a k))=a.take (gk a k):=by
 unfold jh;rw[List.filter_eq_self];intro y c;obtain⟨b,d,rfl⟩:=Te.1 c;rw[St] at d;rw[Tm];have c:=Gx (D:=a) (k:=k) (i:=b) Z Z;by_cases e:a[b].1=k
 ·rw[e,Gy] at c;cases c
 simpa using e
end Go.Cl
namespace Go.Cl
def rk (D:Sg (Sg Sh×O))(e:Sg Sh×O)(a:SU):Sg (Sg Sh×O):=jh e.1 (D.take (gk D e.1))++(if a then [e] else [])++jh e.1 (D.drop (gk D e.1))
theorem Of (D:Sg (Sg Sh×O))(e:Sg Sh×O):hV D e=rk D e (decide (e.2.a9≠0)):=by
 unfold hV rk;by_cases h:e.2.a9=0<;>simp[h]
def O.lu (o:O):SU:=decide (o.a9=7)||decide (o.a9=8)
def O.Og:O->Sg (Sg Sh×O)->O
 | .au k n b l _,d=> .au k n b l d
def kb (o:O)(L:Sg (Sg Sh×O)):O:=if o.lu then o.Og (ep o.j8 L) else o
theorem Gz {k:Sg Sh}{d:Sg (Sg Sh×O)}{y:Sg Sh×O}(h:y∈jh k d):y∈d:=(List.mem_filter.1 h).1
theorem Oh {D:Sg (Sg Sh×O)}{e y:Sg Sh×O}(h:y∈hV D e):y∈D\/y=e:=by
 unfold hV at h;rw[SF,SF] at h;rcases h with (h|h)|h
 ·exact .inl (List.mem_of_mem_take (Gz h))
 ·split at h
  ·cases h
  exact .inr (by simpa using h)
 exact .inl (List.mem_of_mem_drop (Gz h))
theorem wW (k:Sg Sh)(d:Sg (Sg Sh×O)):(jh k d).length<=d.length:=List.length_filter_le _ _
theorem Oi (D:Sg (Sg Sh×O))(e:Sg Sh×O):(hV D e).length<=D.length+1:=by
 unfold hV;have a:=wW e.1 (D.take (gk D e.1));have b:=wW e.1 (D.drop (gk D e.1));have c:=z0 D e.1;rw[St] at a;rw[Sp] at b;rw[Sl,Sl];split<;>simp<;>omega
theorem GA (d l:Sg (Sg Sh×O))(e:Sg Sh×O):ep d (l++[e])=hV (ep d l) e:=by
 unfold ep;rw[List.foldl_append];rfl
theorem GB {d l:Sg (Sg Sh×O)}{i:Sr}(h:i<l.length):ep d (l.take (i+1))=hV (ep d (l.take i)) l[i]:=by
 rw[SG,Sf h];exact GA _ _ _
theorem z1 (d:Sg (Sg Sh×O)):∀l:Sg (Sg Sh×O),(ep d l).length<=d.length+l.length:=by
 intro l
 induction l generalizing d with
 |nil=>exact SA _
 |cons e l a=>
  have b:=a (hV d e);have a:=Oi d e;have a:ep d (e::l)=ep (hV d e) l:=rfl;rw[a,To];omega
theorem GC {y:Sg Sh×O}:∀(l d:Sg (Sg Sh×O)),y∈ep d l->y∈d\/y∈l:=by
 intro l
 induction l with
 |nil=>intro d h;exact .inl h
 |cons e l a=>
  intro d h;rcases a (hV d e) h with h|a
  ·rcases Oh h with h|b
   ·exact .inl h
   rw[b];exact .inr (List.mem_cons_self ..)
  exact .inr (List.mem_cons_of_mem _ a)
end Go.Cl
namespace Go.Cl
def nV (e:Sg Sh×O):Sg (Sg Sh×O)->SU->Sg (Sg Sh×O)
 |[],a=>if a then [] else [e]
 |y::r,a=>(if !a&& !(gG y.1 e.1) then [e] else [])++(if !(y.1==e.1) then [y] else [])++nV e r (a|| !(gG y.1 e.1))
theorem z2 (e:Sg Sh×O):∀d,nV e d true=jh e.1 d
 |[]=>rfl
 |y::r=>by
  unfold nV;rw[Bool.true_or,z2 e r];unfold jh;rw[S1];cases (!(y.1==e.1))<;>simp
theorem GD (e:Sg Sh×O):∀d,nV e d false=jh e.1 (d.take (gk d e.1))++[e]++jh e.1 (d.drop (gk d e.1))
 |[]=>rfl
 |y::r=>by
  unfold nV;unfold gk;rw[List.findIdx_cons];cases h:gG y.1 e.1 with
  |false=>
   simp only[Bool.not_false,Bool.and_self,Bool.or_true,if_true,cond_true,Td,Tx];rw[z2];unfold jh;rw[S1];cases (!(y.1==e.1))<;>simp
  |true=>
   simp only[Bool.not_true,Bool.and_false,Bool.or_false,cond_false];rw[(GD e r)];unfold jh gk;rw[Tg,List.drop_succ_cons,S1];cases (!(y.1==e.1))<;>simp
theorem Oj (e:Sg Sh×O)(d:Sg (Sg Sh×O)):nV e d (decide (e.2.a9=0))=hV d e:=by
 unfold hV;by_cases h:e.2.a9=0
 ·rw[decide_eq_true h,z2,if_pos h];unfold jh;rw[List.append_nil,<-Th,List.take_append_drop]
 rw[S7 h,GD,TH h]
theorem Ok {e:Sg Sh×O}{d:Sg (Sg Sh×O)}{i:Sr}(h:i<d.length)(a:SU):nV e (d.drop i) a=(if !a&& !(gG d[i].1 e.1) then [e] else [])++(if !(d[i].1==e.1) then [d[i]] else [])++nV e (d.drop (i+1)) (a|| !(gG d[i].1 e.1)):=by
 rw[SX h];rfl
end Go.Cl
namespace Go.Proofs.YtgpmffbleaphkaaGreat
open Go.Cl
theorem z3 (s:J)(x:Si)(l:Sg Sh)(b:az s 1 x l.length (aM l))(m:l.length<=140737488355328):
  Runs Se aw 58 [x] s fun v d=>kR s v d l:=by
 refine Runs.dZ 8 Tryz.func58 rfl fun n a=> ?_
 refine aq a (b.uh Sj) (sj (fun h=> ?_) (fun h=> ?_))
 ·have⟨e,_,_⟩:=b.zA h;have:l=[]:=Sw e;subst this;refine bO a @Ty ?_;exact⟨.al,ay.al _,ad.p _ _⟩
 simp(disch:=omega)only[aI,bC,wC Sj bw dN rfl rfl];refine du (by rfl) ?_;intro o p f g c;refine ax a (hv Sj Sj (.inl ⟨_,rfl⟩) bw jg dN rfl f (b.C c).X (by simp[pO]) ai (ug _) Z Z g c.Y fun q r i j k _ _=> ?_);refine bO a @Ty ?_;exact⟨by simpa using i,j,c.a k⟩
end Go.Proofs.YtgpmffbleaphkaaGreat