/-
 The clean machine, second part: frames, statements whose order is open, calls.
-/
import Derived.Test.YtgpmffbleaphkaaGreatMcA
open Nat renaming testBit->Se,le_refl->Sn,blt_eq->Sx,blt->SE,eq_of_beq_eq_true->SG,zero_add->SK,zero_le->SM,le_trans->SV,lt_of_lt_of_le->SZ,lt_trichotomy->S2,strongRecOn->S7,add_zero->Tf,le_zero->Tg,beq_eq->Th
open Option.some renaming inj->Sf,injEq->SD
open Go renaming Program->Sg,Value->Sk,Oper->Su,World->Sz,TypeId->SP,Operand->S8,FuncId->Tc,Code->Te
open Bool renaming and_eq_true->Sh,false_eq_true->SL,true_or->SW,or_true->S3,or_eq_true->S6,and_self->Tb
open _root_ renaming Nat->Si,List->Sl,Option->Sm,if_pos->Sp,absurd->Sw,if_neg->SH,Array->SN,Bool->SS,if_false->S0,if_true->Td
open List renaming getElem?_eq_getElem->Sj,getElem?_eq_some_iff->So,mem_cons_self->Sq,mem_cons_of_mem->Sr,getLastD_cons->Ss,getElem?_cons_zero->St,mem_zipIdx_iff_getElem?->Sv,getElem?_toArray->Sy,getElem?_cons_succ->SB,getElem?_take->SF,take_succ_cons->SJ,mem_cons->SQ,all_eq_true->SU,mem_append_right->SX,append_assoc->S1,length_cons->S4,mem_append->S5,mapM_cons->S9
open Array renaming toList_inj->SA,replicate->SC,toList_append->SI,getElem?_replicate->SR,getElem?_append->SY
open Go.Result renaming andThen_ok->SO,andThen->Ta
set_option linter.unusedSimpArgs false
set_option linter.unusedVariables false
namespace Go.Cl
structure dx (s:J):Prop where
 bE:0<=16000000
 fB:∀j o,s.i.N j=some o->j<s.Y
structure bL (s s' :J) (X:Si->Sm dK):Prop where
 Y:s'.Y=s.Y
 jw:∀j o,X j=some o->s.i.N j=none/\j<s.Y
 N:∀j,s'.i.N j=match X j with
  |some o=>some o
  |none=>s.i.N j
structure ca (s t:J):Prop where
 Y:s.Y<=t.Y
 iZ:∀j,j<s.Y->s.i.N j=none->t.i.N j=none
 kD:∀j,s.i.N j≠none->t.i.N j≠none
 W:dx t
theorem ca.p {s:J}(h:dx s):ca s s:=⟨Sn _,fun _ _ a=>a,fun _ a=>a,h⟩
theorem ca.a {s t u:J}(h:ca s t)(k:ca t u):ca s u:=
 ⟨SV h.Y k.Y,fun j a b=>k.iZ j (SZ a h.Y) (h.iZ j a b),fun j a=>k.kD j (h.kD j a),k.W⟩
section
variable {s s' :J} {X:Si->Sm dK}
theorem bL.oH (h:bL s s' X){j:Si}{o:dK}(a:s.i.N j=some o):s'.i.N j=some o:=by
 rw[h.N j];cases b:X j with
 |none=>exact a
 |some c=>have:=(h.jw j c b).1;rw[a] at this;cases this
theorem bL.bl (h:bL s s' X){i:Si}{b:cF}(a:s.t i=some b):s'.t i=some b:=by
 unfold J.t at*;split at a
 ·rename_i d c;rw[h.oH c];exact a
 cases a
theorem bL.cv (h:bL s s' X){i:Si}{b:Sl (Sk×Sk)}(a:s.S i=some b):s'.S i=some b:=by
 unfold J.S at*;split at a
 ·rename_i d c;rw[h.oH c];exact a
 cases a
theorem bL.aJ (h:bL s s' X){i b c n:Si}{l:Sl Sk}(a:s.fL i b c n=some l):s'.fL i b c n=some l:=by
 unfold J.fL at*;split at a
 ·rename_i e d;rw[h.bl d];exact a
 cases a
theorem v3 {i:Si}{b:cF}(a:s.t i=some b):s.i.N i=some (.bl b):=by
 unfold J.t at a;split at a
 ·rename_i d c;rw[c];rw[Sf a]
 cases a
theorem Mc {i:Si}{b:Sl (Sk×Sk)}(a:s.S i=some b):s.i.N i=some (.cv b):=by
 unfold J.S at a;split at a
 ·rename_i d c;rw[c];rw[Sf a]
 cases a
theorem bL.u (h:bL s s' X)(d:dx s){i:Si}{l o:dK}(c:s.i.N i=some l):bL (s.u i o) (s'.u i o) X/\ca s (s.u i o):=by
 have m:i+1<2^fo i:=hq Z;have e:X i=none:=by
  cases n:X i with
  |none=>rfl
  |some p=>have:=(h.jw i p n).1;rw[c] at this;cases this
 refine⟨⟨h.Y,fun j f b=> ?_,fun j=> ?_⟩,⟨Sn _,fun j b g=> ?_,fun j b=> ?_,(d.bE),fun j f b=> ?_⟩⟩
 ·have a:i≠j:=fun k=>by rw[k] at e;rw[e] at b;cases b
  simp only[J.u,a5.hp _ _ _ _ _ a];exact h.jw j f b
 ·by_cases a:i=j
  ·subst a;simp only[J.u,a5.gR _ _ _ _ m,e]
  simp only[J.u,a5.hp _ _ _ _ _ a];exact h.N j
 ·have a:i≠j:=fun k=>by rw[k] at c;rw[c] at g;cases g
  simp only[J.u,a5.hp _ _ _ _ _ a];exact g
 ·by_cases a:i=j
  ·subst a;simp[J.u,a5.gR _ _ _ _ m]
  simp only[J.u,a5.hp _ _ _ _ _ a];exact b
 by_cases a:i=j
 ·subst a;exact d.fB i l c
 simp only[J.u,a5.hp _ _ _ _ _ a] at b;exact d.fB j f b
theorem bL.x (h:bL s s' X)(d:dx s)(m:s.bE=true)(o:dK):bL (s.x o) (s'.x o) X/\ca s (s.x o):=by
 have n:0<16000000:=Z;have e:X s.Y=none:=by
  cases f:X s.Y with
  |none=>rfl
  |some g=>have:=(h.jw _ g f).2;omega
 refine⟨⟨by simp only[J.x,h.Y],fun j c b=> ?_,fun j=> ?_⟩,⟨by simp only[J.x];omega,fun j b i=> ?_,fun j b=> ?_,Z,fun j c b=> ?_⟩⟩
 ·have⟨k,p⟩:=h.jw j c b;refine⟨?_,by simp only[J.x];omega⟩;simp only[J.x,a5.hp _ _ _ _ _ (Z:s.Y≠j)];exact k
 ·by_cases a:s.Y=j
  ·subst a;simp only[J.x,h.Y,a5.gR _ _ _ _ (hq Z:s.Y+1<2^fo s.Y),e]
  simp only[J.x,h.Y,a5.hp _ _ _ _ _ a];exact h.N j
 ·have a:s.Y≠j:=Z;simp only[J.x,a5.hp _ _ _ _ _ a];exact i
 ·have a:s.Y≠j:=fun q=>by
   have:s.i.N j=none:=by
    cases l:s.i.N j with
    |none=>rfl
    |some c=>have:=d.fB j c l;omega
   exact b this
  simp only[J.x,a5.hp _ _ _ _ _ a];exact b
 by_cases a:s.Y=j
 ·subst a;simp only[J.x];omega
 simp only[J.x,a5.hp _ _ _ _ _ a] at b;have:=d.fB j c b;simp only[J.x];omega
theorem bL.bE (_:bL s s' X):s'.bE=s.bE:=rfl
def pL (s:J)(X:Si->Sm dK)(v:Sk)(t:J)(r:Sm (Sk×J)):Prop:=∃a,r=some (v,a)/\bL t a X/\ca s t
theorem Ct (h:bL s s' X)(e:dx s){b:Sl Sk}{c:Si}{v:Sk}{t:J}(a:iA s b c=some (v,t)):pL s X v t (iA s' b c):=by
 unfold iA at*;rw[h.bE,h.Y];split at a
 ·rename_i d;injection a with a;injection a with f g;subst f;subst g
  rw[Sp d];exact⟨_,rfl,h.x e d _⟩
 cases a
theorem sd (h:bL s s' X)(f:dx s){b:Sl Sk}{c d:Si}{v:Sk}{t:J}(a:cL s b c d=some (v,t)):pL s X v t (cL s' b c d):=by
 unfold cL at*;rw[h.bE,h.Y];split at a
 ·rename_i e;injection a with a;injection a with g i;subst g;subst i
  rw[Sp e];exact⟨_,rfl,h.x f e _⟩
 cases a
theorem Cu (h:bL s s' X)(g:dx s){i b c:Si}{d:Sl Sk}{t:J}(a:s.la i b c d=some t):∃e,s'.la i b c d=some e/\bL t e X/\ca s t:=by
 unfold J.la at*;split at a
 ·rename_i k f;rw[h.bl f];simp only;split at a
  ·rename_i j;rw[Sp j];split at a
   ·cases a
   split at a
   ·rename_i l m;obtain rfl:=Sf a;exact⟨_,rfl,h.u g (v3 f)⟩
   cases a
  cases a
 cases a
theorem Md {P:Sg}(h:bL s s' X)(c:dx s){d:SP}{e v:Sk}{t:J}(a:fp P s d e v=some t):∃f,fp P s' d e v=some f/\bL t f X/\ca s t:=by
 unfold fp at*;split at a
 ·split at a
  ·rename_i b;obtain rfl:=Sf a;refine⟨s',?_,h,ca.p c⟩;rw[Sp b]
  cases a
 ·rename_i g;split at a
  ·rename_i b;rw[Sp b];exact Cu h c a
  cases a
 cases a
theorem Me {P:Sg}(h:bL s s' X)(d:dx s){b:SP}{n:Si}{c:Sl (Si×Sk)}{v:Sk}{t:J}(a:dj P s b n c=some (v,t)):pL s X v t (dj P s' b n c):=by
 unfold dj at*;split at a
 ·split at a
  ·split at a
   ·rename_i e;rw[Sp e];split at a
    ·exact sd h d a
    cases a
   cases a
  cases a
 cases a
theorem Mf {P:Sg}(h:bL s s' X)(c:dx s){b:SP}{x y v:Sk}{t:J}(a:iU P s b x y=some (v,t)):pL s X v t (iU P s' b x y):=by
 unfold iU at*;split at a
 ·split at a
  ·split at a
   ·rename_i d;rw[Sp d];exact sd h c a
   cases a
  cases a
 cases a
theorem Mg {P:Sg}(h:bL s s' X)(d:dx s){f g:SP}{x v:Sk}{t:J}(a:fM P s f g x=some (v,t)):pL s X v t (fM P s' f g x):=by
 unfold fM at*;split at a
 ·injection a with a;injection a with b c;subst b;subst c;exact⟨_,rfl,h,ca.p d⟩
 ·injection a with a;injection a with b c;subst b;subst c;exact⟨_,rfl,h,ca.p d⟩
 ·split at a
  ·rename_i e;rw[Sp e];exact sd h d a
  cases a
 ·split at a
  ·cases a
  split at a
  ·rename_i k i;rw[h.bl i];simp only;split at a
   ·rename_i e;rw[Sp e];injection a with a;injection a with b c;subst b;subst c
    exact⟨_,rfl,h.u d (v3 i)⟩
   cases a
  cases a
 ·split at a
  ·rename_i e;rw[Sp e];injection a with a;injection a with b c;subst b;subst c;exact⟨_,rfl,h,ca.p d⟩
  cases a
 ·split at a
  ·rename_i e;rw[Sp e];split at a
   ·injection a with a;injection a with b c;subst b;subst c;exact⟨_,rfl,h,ca.p d⟩
   split at a
   ·rename_i l j;rw[h.aJ j];simp only;split at a
    ·injection a with a;injection a with b c;subst b;subst c;exact⟨_,rfl,h,ca.p d⟩
    cases a
   cases a
  cases a
 cases a
theorem Mh (h:bL s s' X){z:Si}{y:Sk}{r:Si×Sl Sk}(a:iB s z y=some r):iB s' z y=some r:=by
 unfold iB at*;split at a
 ·exact a
 ·split at a
  ·exact a
  split at a
  ·rename_i l b;rw[h.aJ b];exact a
  cases a
 ·exact a
 cases a
theorem Mi (h:bL s s' X){z b:Si}{c y:Sk}{d:TypeDesc}{r:Si×Sl Sk}(a:mm s z b c d y=some r):mm s' z b c d y=some r:=by
 unfold mm at*;split at a
 ·exact a
 exact Mh h a
theorem Mj {P:Sg}(h:bL s s' X)(b:dx s){i j:SP}{x y v:Sk}{t:J}(a:gQ P s i j x y=some (v,t)):pL s X v t (gQ P s' i j x y):=by
 unfold gQ at*;split at a
 case h_2=>cases a
 split at a
 case h_1=>cases a
 split at a
 case h_2=>cases a
 split at a
 case h_2=>cases a
 rename_i A B l;rw[Mi h l];simp only;split at a
 case h_2=>cases a
 split at a
 case isFalse=>cases a
 rename_i m;rw[Sp m];split at a
 ·injection a with a;injection a with d e;subst d;subst e;exact⟨_,rfl,h,ca.p b⟩
 split at a
 ·split at a
  ·rename_i c;rw[Sp c];exact sd h b a
  cases a
 ·split at a
  ·split at a
   ·rename_i c;rw[Sp c];exact sd h b a
   cases a
  split at a
  case h_2=>cases a
  rename_i n f;rw[h.bl f];simp only;split at a
  case isFalse=>cases a
  rename_i c;rw[Sp c];split at a
  ·rename_i g;rw[Sp g];injection a with a;injection a with d e;subst d;subst e
   exact⟨_,rfl,h.u b (v3 f)⟩
  rename_i g;rw[SH g];split at a
  ·rename_i D p;rw[h.aJ p];simp only;have⟨q,k⟩:=h.u (o:= .bl (Cl.jX n)) b (v3 f);have⟨r,u,w,z⟩:=sd q k.W a;exact⟨r,u,w,k.a z⟩
  cases a
 cases a
theorem Mk {P:Sg}(h:bL s s' X)(d:dx s){e:SP}{x v:Sk}{t:J}(a:mZ P s e x=some (v,t)):pL s X v t (mZ P s' e x):=by
 unfold mZ at*;split at a
 ·injection a with a;injection a with b c;subst b;subst c;exact⟨_,rfl,h,ca.p d⟩
 ·split at a
  ·injection a with a;injection a with b c;subst b;subst c;exact⟨_,rfl,h,ca.p d⟩
  split at a
  case h_2=>cases a
  rename_i m z l n o;split at a
  case isFalse=>cases a
  rename_i f;split at a
  case h_2=>cases a
  rename_i p g;injection a with a;injection a with b c;subst b;subst c
  have⟨q,i,j,k⟩:=Cu h d g;rw[Sp f,i];exact⟨_,rfl,j,k⟩
 cases a
theorem Ml {P:Sg}(h:bL s s' X)(e:dx s){b:SP}{m k v:Sk}{t:J}(a:m1 P s b m k v=some t):∃c,m1 P s' b m k v=some c/\bL t c X/\ca s t:=by
 unfold m1 at*;split at a
 ·split at a
  ·rename_i g d f;rw[h.cv d];simp only[f];split at a
   ·obtain rfl:=Sf a;exact⟨_,rfl,h.u e (Mc d)⟩
   cases a
  cases a
 cases a
theorem Cv {P:Sg}(h:bL s s' X){c:SP}{d v:Sk}(a:aD P s c d=some v):aD P s' c d=some v:=by
 unfold aD at*;split at a
 ·split at a
  ·split at a
   ·rename_i l b;rw[h.aJ b];exact a
   cases a
  ·split at a
   ·rename_i e f b;rw[h.aJ b];exact a
   cases a
  cases a
 cases a
theorem Cw (h:bL s s' X){i c z:Si}(a:jV s i c z=true):jV s' i c z=true:=by
 unfold jV at*;split at a
 ·rfl
 split at a
 ·rename_i d b;rw[h.bl b];exact a
 cases a
theorem Mm {P:Sg}(h:bL s s' X){c:SP}{x v:Sk}{d e f:Sm Sk}(a:fN P s c x d e f=some v):fN P s' c x d e f=some v:=by
 unfold fN at*;split at a
 ·exact a
 ·split at a
  ·split at a
   ·rename_i g;rw[Sp g];split at a
    ·split at a
     ·exact a
     ·split at a
      ·rename_i b;rw[Sp (Cw h b)];exact a
      cases a
     cases a
    split at a
    ·split at a
     ·rename_i i;rw[Sp i];split at a
      ·exact a
      ·split at a
       ·rename_i b;rw[Sp (Cw h b)];exact a
       cases a
      cases a
     cases a
    cases a
   cases a
  cases a
 ·split at a
  ·rename_i n o z p j k l m;rw[j,k,l,h.bl m];exact a
  cases a
 cases a
theorem Mn {P:Sg}(h:bL s s' X){b:SP}{x v:Sk}(a:cd P s b x=some v):cd P s' b x=some v:=by
 unfold cd at*;split at a<;>try exact a
 split at a
 ·rename_i d c;rw[h.cv c];exact a
 cases a
theorem Mo {P:Sg}(h:bL s s' X){c:SP}{m k v:Sk}{d:SS}(a:m0 P s c m k d=some v):m0 P s' c m k d=some v:=by
 unfold m0 at*;split at a
 case h_2=>cases a
 split at a
 case h_2=>cases a
 rename_i z f g;split at a
 case isFalse=>cases a
 rename_i e;rw[Sp e];cases m<;>try (simp at a;done)
 rename_i r;cases r with
 |none=>exact a
 |some r=>
  simp only at a|-
  cases b:s.S r with
  |none=>rw[b] at a;simp at a
  |some i=>rw[h.cv b];rw[b] at a;exact a
end
def qW (P:Sg)(o:Su)(f:an)(s a:J)(X:Si->Sm dK):iV->Prop
 | .a8 v t=>∃b,a4 P o f a=some (.a8 v b)/\bL t b X/\ca s t
 | .jY g b=>a4 P o f a=some (.jY g b)
theorem kE {s a:J}{X:Si->Sm dK}(h:bL s a X)(f:dx s){r c:Sm Sk}(g:∀v,r=some v->c=some v){x:iV}(b:dE s r=some x):
  ∃d t e,x= .a8 d t/\dE a c=some (.a8 d e)/\bL t e X/\ca s t:=by
 cases r with
 |none=>simp[dE] at b
 |some v=>
  simp only[dE] at b;obtain rfl:=Sf b;exact⟨v,s,a,rfl,by rw[g v rfl];rfl,h,ca.p f⟩
theorem qX {s:J}{X:Si->Sm dK}{r b:Sm (Sk×J)}(f:∀v c,r=some (v,c)->pL s X v c b){x:iV}(a:dL r=some x):
  ∃d t e,x= .a8 d t/\dL b=some (.a8 d e)/\bL t e X/\ca s t:=by
 cases r with
 |none=>simp[dL] at a
 |some p=>
  have⟨v,t⟩:=p;simp only[dL] at a;obtain rfl:=Sf a;have⟨a,b,c,d⟩:=f v t rfl;exact⟨v,t,a,rfl,by rw[b];rfl,c,d⟩
theorem Cx {s:J}{X:Si->Sm dK}{r c:Sm J}(f:∀t,r=some t->∃d,c=some d/\bL t d X/\ca s t){x:iV}(a:gu r=some x):
  ∃v b e,x= .a8 v b/\gu c=some (.a8 v e)/\bL b e X/\ca s b:=by
 cases r with
 |none=>simp[gu] at a
 |some t=>
  simp only[gu] at a;obtain rfl:=Sf a;have⟨a,b,c,d⟩:=f t rfl;exact⟨undef,t,a,rfl,by rw[b];rfl,c,d⟩
theorem lf {P:Sg}{o:Su}{f:an}{s e:J}{X:Si->Sm dK}(h:bL s e X)(c:dx s){x:iV}(a:a4 P o f s=some x):qW P o f s e X x:=by
 have d:(∃v t g,x= .a8 v t/\a4 P o f e=some (.a8 v g)/\bL t g X/\ca s t)->qW P o f s e X x:=by
  rintro ⟨v,t,g,rfl,r,u,w⟩;exact⟨g,r,u,w⟩
 have⟨Q,i,R,S,T,U⟩:=o;cases i<;>(try simp only[a4] at a d|-)<;>(try (cases a;done))
 case move y=>exact d (kE h c (fun v b=>b) a)
 case assign y=>exact d (kE h c (fun v b=>b) a)
 case pick k y z=>
  apply d;split at a
  ·rename_i t A v l m W;obtain rfl:=Sf a;exact⟨_,s,e,rfl,rfl,h,ca.p c⟩
  cases a
 case alloc B=>
  apply d;split at a
  ·split at a
   ·rename_i D;rw[Sp D];exact qX (fun v t b=>Ct h c b) a
   cases a
  cases a
 case box B y=>
  apply d;split at a
  ·exact qX (fun v t b=>Ct h c b) a
  cases a
 case build t E=>
  apply d;split at a
  ·exact kE h c (fun v b=>b) a
  cases a
 case buildSlice t Wy E=>
  apply d;split at a
  ·exact qX (fun v t b=>Me h c b) a
  cases a
 case load t y=>
  apply d;split at a
  ·exact kE h c (fun v b=>Cv h b) a
  cases a
 case store t y z=>
  apply d;split at a
  ·exact Cx (fun t j=>Md h c j) a
  cases a
 case nilCheck y=>
  apply d;split at a
  ·obtain rfl:=Sf a;exact⟨_,s,e,rfl,rfl,h,ca.p c⟩
  ·obtain rfl:=Sf a;exact⟨_,s,e,rfl,rfl,h,ca.p c⟩
  cases a
 case binOp i t y z Wz=>
  apply d;split at a
  ·exact kE h c (fun v b=>b) a
  cases a
 case unOp i t y=>
  apply d;split at a
  ·exact kE h c (fun v b=>b) a
  cases a
 case convert WA F y=>
  apply d;split at a
  ·exact qX (fun v t b=>Mg h c b) a
  cases a
 case makeFunc G H K=>
  cases G<;>simp only at a d|- <;>try (cases a;done)
  apply d;split at a
  ·obtain rfl:=Sf a;exact⟨_,s,e,rfl,rfl,h,ca.p c⟩
  cases a
 case makeMap t L=>
  cases L with
  |some _=>simp at a
  |none=>
   simp only at a d|-
   apply d;rw[h.bE,h.Y];split at a
   ·rename_i n;rw[Sp n];obtain rfl:=Sf a;have⟨l,m⟩:=h.x c n (.cv []);exact⟨_,_,_,rfl,rfl,l,m⟩
   cases a
 case makeSlice t y z=>
  apply d;split at a
  ·exact qX (fun v t b=>Mf h c b) a
  cases a
 case makeInterface t y=>
  apply d;split at a
  ·cases a
  ·obtain rfl:=Sf a;exact⟨_,s,e,rfl,rfl,h,ca.p c⟩
  cases a
 case slice t y WB WC WD=>
  apply d;split at a
  ·exact kE h c (fun v b=>Mm h b) a
  cases a
 case fieldAddr t y p=>
  apply d;split at a
  ·exact kE h c (fun v b=>b) a
  cases a
 case field t y p=>
  apply d;split at a
  ·exact kE h c (fun v b=>b) a
  cases a
 case indexAddr t y z=>
  apply d;split at a
  ·exact kE h c (fun v b=>b) a
  cases a
 case index t y z=>
  apply d;split at a
  ·exact kE h c (fun v b=>b) a
  cases a
 case lookup t y z WE=>
  apply d;split at a
  ·exact kE h c (fun v b=>Mo h b) a
  cases a
 case mapUpdate t y z A=>
  apply d;split at a
  ·exact Cx (fun t j=>Ml h c j) a
  cases a
 case extract y p=>
  apply d;split at a
  ·exact kE h c (fun v b=>b) a
  cases a
 case call k=>
  have⟨M,WG,WH⟩:=k;split at a
  case h_2=>cases a
  rename_i WI q;cases M with
  |invoke y WJ=>cases a
  |value y=>
   simp only at a;split at a
   ·rename_i WK H K O;obtain rfl:=Sf a;simp only[qW,a4,q,O]
   cases a
  |builtin F=>
   simp only[q] at a d;apply d;unfold pG at a|-
   split at a
   ·exact kE h c (fun v b=>Mn h b) a
   ·exact qX (fun v t b=>Mj h c b) a
   ·exact qX (fun v t b=>Mk h c b) a
   ·exact kE h c (fun v b=>b) a
   cases a
abbrev kF:=Tc->Sl Sk->J->Sm (Sk×J)
def mw (a:kF):Prop:=∀(s b:J) (X:Si->Sm dK) (g:Tc) (c:Sl Sk) (v:Sk) (t:J),bL s b X->dx s->a g c s=some (v,t)->∃d,a g c b=some (v,d)/\bL t d X/\ca s t
theorem Mp {P:Sg}{n:kF}(x:mw n)(r:Sl Su):∀(l:Sl Su) {i j:an} {s d t:J} {X:Si->Sm dK},bL s d X->dx s->jZ P n r l i s=some (j,t)->∃b,jZ P n r l i d=some (j,b)/\bL t b X/\ca s t:=by
 intro l
 induction l with
 |nil=>
  intro i j s d t X h c a;simp only[jZ] at a;injection a with a;injection a with y z;subst y;subst z
  exact⟨d,rfl,h,ca.p c⟩
 |cons K l o=>
  intro i j s d t X h c a;simp only[jZ] at a|-
  split at a
  ·rename_i p;rw[Sp p];split at a
   ·rename_i A B q;have⟨D,k,E,u⟩:=lf h c q;rw[k];split at a
    ·rename_i v m;have⟨b,e,f,g⟩:=o E u.W a;exact⟨b,by simp only[m];exact e,f,u.a g⟩
    cases a
   ·rename_i L M q;have k:=lf h c q;simp only[qW] at k;rw[k];split at a
    ·rename_i A B F;have⟨D,G,H,w⟩:=x _ _ _ _ _ _ _ h c F;split at a
     ·rename_i v m;have⟨b,e,f,g⟩:=o H w.W a;exact⟨b,by simp only[G,m];exact e,f,w.a g⟩
     cases a
    cases a
   cases a
  rename_i p;rw[SH p];split at a
  ·rename_i v m;have⟨b,e,f,g⟩:=o h c a;exact⟨b,e,f,g⟩
  cases a
abbrev jy:=Sl (Si×Si×cF)
def lg (p:Si->SS):jy->Si->Sm dK
 |[],_=>none
 |(j,a,b)::r,i=>if p j=true/\a=i then some (.bl b) else lg p r i
theorem v5 (p:Si->SS):∀(a:jy) (T:J),(∀x∈a,0<16000001)->(b3 p T a).Y=T.Y/\∀i,(b3 p T a).i.N i=match T.i.N i with
  |some o=>some o
  |none=>lg p a i:=by
 intro a
 induction a with
 |nil=>intro T _;refine⟨rfl,fun i=> ?_⟩;simp only[b3,lg];cases T.i.N i<;>rfl
 |cons x r h=>
  intro T j;have⟨m,b,k⟩:=x;have l:∀x∈r,0<16000001:=fun x n=>j x (Sr _ n)
  simp only[b3];split
  ·rename_i c d;have⟨e,f⟩:=h (T.u b (.bl k)) l;refine⟨e,fun i=> ?_⟩;rw[f i];by_cases g:b=i
   ·subst g;simp only[J.u,a5.gR _ _ _ _ (hq (j (m,b,k) (Sq ..))),d,lg,c,and_self,Td]
   rw[J.gS _ _ _ _ g];simp only[lg,g,and_false,S0]
  rename_i q;have⟨e,f⟩:=h T l;refine⟨e,fun i=> ?_⟩;rw[f i];cases d:T.i.N i with
  |some o=>rfl
  |none=>
   simp only[lg];split
   ·rename_i s;obtain⟨c,rfl⟩:=s;exact Sw d (q c)
   rfl
theorem y1 {p:Si->SS}:∀{a:jy} {i:Si},(∀x∈a,x.2.1≠i)->lg p a i=none
 |[],_,_=>rfl
 |(j,a,b)::r,c,h=>by
  simp only[lg,SH (fun e=>(h (j,a,b) (Sq ..)) e.2:¬(p j=true/\a=c))];exact y1 (fun x a=>h x (Sr _ a))
theorem v7 {p:Si->SS}:∀{c:jy} {i:Si} {o:dK},lg p c i=some o->∃j b,(j,i,b)∈c/\p j=true/\o= .bl b
 |[],_,_,h=>by cases h
 |(j,l,b)::r,i,o,h=>by
  simp only[lg] at h;split at h
  ·rename_i a;obtain⟨a,rfl⟩:=a;injection h with h;exact⟨j,b,Sq ..,a,h.symm⟩
  have⟨d,e,f,g,k⟩:=v7 h;exact⟨d,e,Sr _ f,g,k⟩
theorem bL.b3 {T c:J}{X:Si->Sm dK}(h:bL T c X)(k:dx T){a:jy}(d:∀x∈a,x.2.1<T.Y/\X x.2.1=none)(p:Si->SS):bL (b3 p T a) (b3 p c a) X:=by
 have e:∀x∈a,0<16000001:=fun x b=>bq ((d x b).1) k.bE
 have⟨f,g⟩:=v5 p a T e;have⟨l,m⟩:=v5 p a c e;refine⟨by rw[f,l,h.Y],fun j o i=> ?_,fun j=> ?_⟩
 ·have⟨n,q⟩:=h.jw j o i;refine⟨?_,by rw[f];exact q⟩;rw[g j,n];exact y1 fun x b r=>by have:=(d x b).2;rw[r] at this;rw[i] at this;cases this
 rw[m j,g j,h.N j];cases b:X j with
 |some o=>rfl
 |none=>rfl
structure fq (B:Si) (s t:J):Prop where
 Y:s.Y<=t.Y
 iZ:∀j,j<B->s.i.N j=none->t.i.N j=none
 kD:∀j,s.i.N j≠none->t.i.N j≠none
 W:dx t
theorem fq.a {B:Si}{s t u:J}(h:fq B s t)(k:fq B t u):fq B s u:=
 ⟨SV h.Y k.Y,fun j a b=>k.iZ j a (h.iZ j a b),fun j a=>k.kD j (h.kD j a),k.W⟩
theorem fq.p {B:Si}{s:J}(h:dx s):fq B s s:=⟨Sn _,fun _ _ a=>a,fun _ a=>a,h⟩
theorem ca.v8 {B:Si}{s t:J}(h:ca s t)(a:B<=s.Y):fq B s t:=⟨h.Y,fun j b=>h.iZ j Z,h.kD,h.W⟩
theorem fq.b3 {B:Si}{T:J}(d:dx T){b:jy}(e:∀x∈b,B<=x.2.1/\x.2.1<T.Y)(p:Si->SS):fq B T (b3 p T b):=by
 have⟨h,f⟩:=v5 p b T ((fun x g=>bq ((e x g).2) d.bE):∀x∈b,0<16000001);refine⟨by rw[h];exact Sn _,fun j a i=> ?_,fun j a=> ?_,⟨d.bE,fun j o a=> ?_⟩⟩
 ·rw[f j,i];exact y1 fun x g l=>ag ((e x g).1)
 ·rw[f j];cases c:T.i.N j with
  |none=>exact Sw c a
  |some o=>simp
 rw[f j] at a;rw[h];cases c:T.i.N j with
 |some o=>exact d.fB j o c
 |none=>
  rw[c] at a;have⟨m,n,k,_,_⟩:=v7 a;exact(e _ k).2
def v9 (X:Si->Sm dK)(B:Si)(T:J):cc->cc->Prop
 | .e3,.e3=>True
 | .ki v,.ki u=>v=u
 | .hP v i b,.hP a c d=>v=a/\i=c/\b=d
 | .iW v s,.iW a b=>v=a/\bL s b X/\fq B T s
 |_,_=>False
theorem Mq {P:Sg}{i:kF}(y:mw i){l:Sl Su}{m n:Si}{f:jy}{o:Su}{p:an}{T q:J}{X:Si->Sm dK}{d:Si}{j:cc}
  (z:bL T q X) (r:dx T) (A:d<=T.Y) (k:∀x∈f,d<=x.2.1/\x.2.1<T.Y/\X x.2.1=none) (a:jv P i l m n f o p T=some j):
  ∃s,jv P i l m n f o p q=some s/\v9 X d T j s:=by
 have g:=z.b3 r (fun x h=>(k x h).2) (Se m);have b:=fq.b3 (B:=d) r (fun x h=>⟨(k x h).1,(k x h).2.1⟩) (Se m);have t:d<=(b3 (Se m) T f).Y:=SV A b.Y;unfold jv at*;split at a
 ·injection a with a;subst a;exact⟨.e3,rfl,trivial⟩
 split at a
 ·rename_i M;split at a
  ·rename_i v u e;injection a with a;subst a
   have⟨w,c,_,_⟩:=lf g b.W e;exact⟨.ki v,by simp only[c],rfl⟩
  cases a
 ·exact⟨j,a,by
   split at a
   ·split at a
    ·injection a with a;subst a;exact⟨rfl,rfl,rfl⟩
    cases a
   cases a⟩
 split at a
 ·rename_i v u e;injection a with a;subst a
  have⟨w,c,D,E⟩:=lf g b.W e;exact⟨.iW v w,by simp only[c],rfl,D,b.a (E.v8 t)⟩
 ·rename_i O Q e;have c:=lf g b.W e;simp only[qW] at c;split at a
  ·rename_i v u F;injection a with a;subst a
   have⟨G,H,K,L⟩:=y _ _ _ _ _ _ _ g b.W F;exact⟨.iW v G,by simp only[c,H],rfl,K,b.a (L.v8 t)⟩
  cases a
 cases a
theorem v9.a8 {X:Si->Sm dK}{B:Si}{T:J}{e a:cc}(h:v9 X B T e a):a.a8=e.a8:=by
 cases e<;>cases a<;>simp_all[v9,cc.a8]
def wa:cc->cc->Prop
 | .e3,.e3=>True
 | .ki v,.ki u=>v=u
 | .hP v i b,.hP a c d=>v=a/\i=c/\b=d
 | .iW v _,.iW a _=>v=a
 |_,_=>False
def tU:Sl cc->Sl cc->Prop
 |[],[]=>True
 |e::r,a::b=>wa e a/\tU r b
 |_,_=>False
def iE (X:Si->Sm dK)(B:Si)(T:J):Sl J->Sl J->Prop
 |[],[]=>True
 |s::r,a::b=>(bL s a X/\fq B T s)/\iE X B T r b
 |_,_=>False
theorem iE.b {X:Si->Sm dK}{B:Si}{T U:J}(h:fq B T U):∀{l a:Sl J},iE X B U l a->iE X B T l a
 |[],[],_=>trivial
 |_::_,_::_,⟨⟨a,b⟩,c⟩=>⟨⟨a,h.a b⟩,iE.b h c⟩
 |[],_::_,k=>k
 |_::_,[],k=>k
theorem iE.qY {X:Si->Sm dK}{B:Si}{T:J}:∀(n:Si) {l a:Sl J},iE X B T l a->iE X B T (l.take n) (a.take n)
 |0,_,_,_=>trivial
 |_+1,[],[],_=>trivial
 |n+1,_::_,_::_,⟨a,b⟩=>⟨a,iE.qY n b⟩
 |_+1,[],_::_,k=>k
 |_+1,_::_,[],k=>k
theorem iE.nN {X:Si->Sm dK}{B:Si}{T:J}:∀(n:Si) {l a:Sl J},iE X B T l a->iE X B T (l.drop n) (a.drop n)
 |0,_,_,h=>h
 |_+1,[],[],_=>trivial
 |n+1,_::_,_::_,⟨_,a⟩=>iE.nN n a
 |_+1,[],_::_,k=>k.elim
 |_+1,_::_,[],k=>k.elim
theorem iE.h9 {X:Si->Sm dK}{B:Si}{T:J}:∀{l a:Sl J} {d b:J},iE X B T l a->bL d b X->fq B T d->bL (l.getLastD d) (a.getLastD b) X/\fq B T (l.getLastD d)
 |[],[],_,_,_,h,k=>⟨h,k⟩
 |s::r,c::d,e,f,⟨a,b⟩,_,_=>by
  rw[Ss,Ss];exact iE.h9 b a.1 a.2
 |[],_::_,_,_,k,_,_=>k.elim
 |_::_,[],_,_,k,_,_=>k.elim
theorem Mr {P:Sg}{M:kF}(WC:mw M){U:Sl Su}{X:Si->Sm dK}{B:Si}(WD:∀W o,X W=some o->W<B):∀(u:Sl Si) (b:Sl Su) (i e:Si) (A:an) (T l:J) (k:jy) (t:Sl cc),
  bL T l X->dx T->B<=e->e+bW P b<=T.Y->(∀x∈k,B<=x.2.1/\x.2.1<T.Y)->iC P M U u b i e A T k=some t->
  ∃p,iC P M U u b i e A l k=some p/\tU t p/\iE X B T (cw P b t T) (cw P b p l)/\∀x∈cf t i,B<=x.2.1/\x.2.1<e+bW P b:=by
 intro u
 induction u with
 |nil=>
  intro b i e A T l k t h f _ _ _ c;cases b<;>(simp only[iC] at c|-;injection c with c;subst c;exact⟨[],rfl,trivial,⟨⟨h,fq.p f⟩,trivial⟩,fun x a=>by cases a⟩)
 |cons WQ u D=>
  intro b i e A T l k t h f Wy O m c;cases b with
  |nil=>simp only[iC] at c|-;injection c with c;subst c;exact⟨[],rfl,trivial,⟨⟨h,fq.p f⟩,trivial⟩,fun x a=>by cases a⟩
  |cons o b=>
   simp only[iC] at c|-
   have WE:∀w,B<=w->X w=none:=fun w WR=>by
    cases a:X w with
    |none=>rfl
    |some o=>have:=WD w o a;omega
   split at c
   ·rename_i Wz d;split at c
    ·rename_i E WG;split at c
     ·rename_i F G;injection c with c;subst c
      have⟨H,WH,n⟩:=Mq WC h f (Z:B<=T.Y) (fun x a=>⟨(m x a).1,(m x a).2,WE _ (m x a).1⟩) d;rw[WH];simp only[n.a8,WG];have WI:∀v g y,Wz= .hP v g y->g=e/\bQ P o=true:=by
       intro v g y WJ;subst WJ;unfold jv at d;split at d
       ·cases d
       split at d
       ·split at d<;>cases d
       ·rename_i _ Q;split at d
        ·split at d
         ·injection d with d;injection d with _ WK _;exact⟨WK.symm,Q⟩
         cases d
        cases d
       split at d
       ·cases d
       ·split at d<;>cases d
       cases d
      have WA:bW P (o::b)=if bQ P o then bW P b+1 else bW P b:=rfl
      have K:B<=(if bQ P o then e+1 else e):=by split<;>omega
      have z:(if bQ P o then e+1 else e)+bW P b=e+bW P (o::b):=by rw[WA];split<;>omega
      have L:∀{x:Si×Si×cF},(B<=x.2.1/\x.2.1<(if bQ P o then e+1 else e)+bW P b)->B<=x.2.1/\x.2.1<e+bW P (o::b):=fun h=>⟨h.1,by rw[<-z];exact h.2⟩
      cases Wz with
      |e3=>
       cases H<;>try exact n.elim
       have⟨p,q,r,j,s⟩:=D b (i+1) _ E T l k F h f K (by rw[z];exact O) m G;simp only[q];refine⟨_,rfl,⟨trivial,r⟩,?_,fun x a=>L (s x a)⟩;simp only[cw];split
       ·exact⟨⟨h,fq.p f⟩,j⟩
       exact j
      |ki v=>
       cases H<;>try exact n.elim
       have⟨p,q,r,j,s⟩:=D b (i+1) _ E T l k F h f K (by rw[z];exact O) m G;simp only[q];refine⟨_,rfl,⟨n,r⟩,?_,fun x a=>L (s x a)⟩;simp only[cw];split
       ·exact⟨⟨h,fq.p f⟩,j⟩
       exact j
      |hP v g y=>
       cases H<;>try exact n.elim
       obtain⟨rfl,rfl,rfl⟩:=n;obtain⟨rfl,Q⟩:=WI v g y rfl;have WL:g<g+bW P (o::b):=by rw[WA,Sp Q];omega
       have WM:B<=g/\g<T.Y:=⟨Wy,Z⟩;have⟨p,q,r,j,s⟩:=D b (i+1) _ E T l (k++[(i,g,y)]) F h f K (by rw[z];exact O) (fun x a=>by
        rcases S5.1 a with R|R
        ·exact m x R
        obtain rfl:=List.mem_singleton.1 R;exact WM) G
       simp only[q];refine⟨_,rfl,⟨⟨rfl,rfl,rfl⟩,r⟩,?_,fun x a=> ?_⟩
       ·simp only[cw];split
        ·exact⟨⟨h,fq.p f⟩,j⟩
        exact j
       simp only[cf] at a;rcases SQ.1 a with rfl|a
       ·exact⟨Wy,WL⟩
       exact L (s x a)
      |iW v WB=>
       cases H<;>try exact n.elim
       rename_i WS WN;obtain⟨rfl,WO,S⟩:=n;have WT:T.Y<=WB.Y:=S.Y;have⟨p,q,r,j,s⟩:=D b (i+1) _ E WB WN k F WO S.W K (by rw[z];omega) (fun x a=>⟨(m x a).1,ag ((m x a).2)⟩) G;simp only[q];refine⟨_,rfl,⟨rfl,r⟩,?_,fun x a=>L (s x a)⟩;simp only[cw];exact⟨⟨h,fq.p f⟩,j.b S⟩
     cases c
    cases c
   cases c
theorem Cy:∀{a b:Sl cc} (i:Si),tU a b->cf b i=cf a i
 |[],[],_,_=>rfl
 |e::r,b::f,c,⟨a,d⟩=>by
  have:=Cy (c+1) d;cases e<;>cases b<;>first
   |exact a.elim
   |(obtain⟨rfl,rfl,rfl⟩:=a;simp only[cf,this])
   |simp only[cf,this]
 |[],_::_,_,h=>h.elim
 |_::_,[],_,h=>h.elim
theorem wa.a8 {e a:cc}(h:wa e a):a.a8=e.a8:=by
 cases e<;>cases a<;>simp_all[wa,cc.a8]
theorem Cz:∀{a b:Sl cc} (c:Sl Su) (f:an),tU a b->j0 c b f=j0 c a f
 |[],[],a,f,_=>rfl
 |e::r,a::b,[],f,_=>rfl
 |e::r,d::g,o::a,f,⟨b,c⟩=>by
  simp only[j0,b.a8];cases fO f o.dst e.a8 with
  |none=>rfl
  |some b=>exact Cz a b c
 |[],_::_,_,_,h=>h.elim
 |_::_,[],_,_,h=>h.elim
theorem CA {P:Sg}{m:Si}{b:jy}{o:Su}{g:an}{v:Sk}{X:Si->Sm dK}{c:Si}{T:J}(d:∀x∈b,c<=x.2.1/\x.2.1<T.Y/\X x.2.1=none):∀{l i:Sl J},iE X c T l i->mo P m b o g v l=true->mo P m b o g v i=true
 |[],[],_,h=>h
 |s::r,q::t,⟨⟨j,e⟩,k⟩,h=>by
  have f:∀x∈b,c<=x.2.1/\x.2.1<s.Y/\X x.2.1=none:=fun x a=>⟨(d x a).1,bq ((d x a).2.1) e.Y,(d x a).2.2⟩
  simp only[mo] at h|-
  split at h
  ·rename_i u w n;have⟨y,p,_,_⟩:=lf (j.b3 e.W (fun x a=>(f x a).2) (Se m)) (fq.b3 (B:=c) e.W (fun x a=>⟨(f x a).1,(f x a).2.1⟩) (Se m)).W n;simp only[p];rw[Sh] at h|-
   exact⟨h.1,CA d k h.2⟩
  cases h
 |[],_::_,h,_=>h.elim
 |_::_,[],h,_=>h.elim
theorem Ms {P:Sg}{l:Sl Su}{m:Sl Si}{g:jy}{X:Si->Sm dK}{B:Si}{T:J}(r:∀x∈g,B<=x.2.1/\x.2.1<T.Y/\X x.2.1=none){n o:Sl J}(s:iE X B T n o):
  ∀(d:Sl Si) (b:Sl Su) (c a:Sl cc) (i:Si) (f:an),tU c a->iD P l m g n d b c i f=true->iD P l m g o d b a i f=true:=by
 intro d
 induction d with
 |nil=>intro b c a i f _ h;simp only[iD]
 |cons E d t=>
  intro b c a i f j h;cases b with
  |nil=>simp only[iD]
  |cons u b=>
   cases c with
   |nil=>cases a with
    |nil=>exact h
    |cons _ _=>exact j.elim
   |cons p c=>
    cases a with
    |nil=>exact j.elim
    |cons v a=>
     have⟨k,w⟩:=j;simp only[iD,Sh] at h|-
     rw[k.a8];have⟨y,e⟩:=h;refine⟨?_,?_⟩
     ·cases p<;>cases v<;>first
       |exact k.elim
       |rfl
       |skip
      rename_i z A;obtain rfl:z=A:=k;exact CA r ((s.qY _).nN _) y
     cases q:fO f u.dst p.a8 with
     |none=>rw[q] at e;cases e
     |some D=>rw[q] at e;exact t b c a (i+1) D w e
theorem bL.Mt {s a:J}{X:Si->Sm dK}(h:bL s a X)(n:Si):bL ⟨s.i,s.Y+n⟩ ⟨a.i,a.Y+n⟩ X:=
 ⟨by simp only[h.Y],fun j o b=>⟨(h.jw j o b).1,by have:=(h.jw j o b).2;simp only;omega⟩,h.N⟩
theorem CB {P:Sg}{p:kF}(D:mw p){a:Sl Su}{f v:an}{s e t:J}{X:Si->Sm dK}(h:bL s e X)(E:dx s)(d:lP P p a f s=some (v,t)):
  ∃w,lP P p a f e=some (v,w)/\bL t w X/\ca s t:=by
 unfold lP at*;rw[h.Y];split at d
 ·cases d
 rename_i Wy;split at d
 case h_2=>cases d
 rename_i b F;split at d
 case h_2=>cases d
 rename_i G;injection d with d;injection d with H K;subst H;subst K
 have L:dx ⟨s.i,s.Y+bW P a⟩:=⟨(Z:0<=16000000),fun j o q=>by have:=E.fB j o q;simp only;omega⟩;have y:=h.Mt (bW P a);rw[h.Y] at y;have z:∀j o,X j=some o->j<s.Y:=fun j o q=>(h.jw j o q).2
 have⟨g,M,r,i,u⟩:=Mr D z _ a 0 s.Y f _ _ [] b y L (Sn _) (Sn _) (fun x c=>by cases c) F;have O:∀k,s.Y<=k->X k=none:=fun k Wz=>by
  cases c:X k with
  |none=>rfl
  |some o=>have:=z k o c;omega
 have l:∀x∈cf b 0,s.Y<=x.2.1/\x.2.1<(⟨s.i,s.Y+bW P a⟩:J).Y/\X x.2.1=none:=fun x c=>⟨(u x c).1,(u x c).2,O _ (u x c).1⟩
 simp only[M,Cy 0 r,Ms l i _ a b g 0 f r G,Cz a f r];have A:∀(a:Sl Su) (b:Sl cc) (T:J),cw P a b T≠[]:=by
  intro a
  induction a with
  |nil=>intro b T;cases b<;>simp[cw]
  |cons o a Q=>
   intro b T;cases b with
   |nil=>simp[cw]
   |cons R b=>
    simp only[cw];cases R<;>first
     |(simp;done)
     |(dsimp only;split<;>first|(simp;done)|exact Q _ _)
 obtain⟨S,m⟩:bL ((cw P a b ⟨s.i,s.Y+bW P a⟩).getLastD s) ((cw P a g ⟨e.i,s.Y+bW P a⟩).getLastD e) X/\fq s.Y ⟨s.i,s.Y+bW P a⟩ ((cw P a b ⟨s.i,s.Y+bW P a⟩).getLastD s):=by
  have:=A a b ⟨s.i,s.Y+bW P a⟩;have:=A a g ⟨e.i,s.Y+bW P a⟩;generalize cw P a b ⟨s.i,s.Y+bW P a⟩=U at*;generalize cw P a g ⟨e.i,s.Y+bW P a⟩=W at*;cases U with
  |nil=>contradiction
  |cons x WA=>
   cases W with
   |nil=>contradiction
   |cons WB WC=>
    rw[Ss,Ss];exact iE.h9 i.2 i.1.1 i.1.2
 have B:∀x∈cf b 0,s.Y<=x.2.1/\x.2.1<((cw P a b ⟨s.i,s.Y+bW P a⟩).getLastD s).Y:=fun x c=>⟨(l x c).1,SZ (l x c).2.1 m.Y⟩
 refine⟨_,rfl,S.b3 m.W (fun x c=>⟨(B x c).2,(l x c).2.2⟩) _,?_⟩;have n:=m.a (fq.b3 m.W B (fun _=>true));exact⟨SV (Nat.le_add_right _ _) n.Y,n.iZ,n.kD,n.W⟩
def CC (a:Te->an->J->nH):Prop:=∀(c:Te) (f b:an) (x:dw) (s d t:J) (X:Si->Sm dK),bL s d X->dx s->a c f s=some (x,b,t)->∃e,a c f d=some (x,b,e)/\bL t e X/\ca s t
theorem y2 {P:Sg}{f:an}{s d:J}{X:Si->Sm dK}(h:bL s d X):∀{l:Sl ResultVar} {b:Sl Sk},gb P f s l=some b->gb P f d l=some b:=by
 intro l
 induction l with
 |nil=>intro b a;exact a
 |cons r l e=>
  intro b a;cases r with
  |tmp t=>
   simp only[gb] at a|-
   split at a
   ·rename_i c;rw[Sp c];split at a
    ·rename_i m g;rw[e g];exact a
    cases a
   cases a
  |cell k t=>
   simp only[gb] at a|-
   split at a
   ·rename_i c;rw[Sp c];split at a
    ·rename_i v m i j;rw[Cv h i,e j];exact a
    cases a
   cases a
def tV (p:nI):Prop:=∀(s a:J) (X:Si->Sm dK) (b:Sl Sk) (v:Sk) (t:J),bL s a X->dx s->p b s=some (v,t)->∃c,p b a=some (v,c)/\bL t c X/\ca s t
def lU (a:bg):Prop:=∀g p,a.M g=some p->tV p
theorem lU.al:lU []:=fun _ _ h=>by cases h
theorem CD {P:Sg}{l:bg}(b:lU l){m:Te->an->J->nH}(n:CC m):mw (ld P l m):=by
 intro u v X o w x y h d a;unfold ld at*;split at a
 ·rename_i p q;exact b o p q _ _ _ _ _ _ h d a
 split at a
 case h_2=>cases a
 split at a
 case h_2=>cases a
 split at a
 ·rename_i r s e;have⟨f,g,c,i⟩:=n _ _ _ _ _ _ _ _ h d e;simp only[g];split at a
  ·rename_i t b;injection a with a;injection a with j k;subst j;subst k
   exact⟨f,by rw[y2 c b],c,i⟩
  cases a
 ·rename_i r s e;have⟨f,g,c,i⟩:=n _ _ _ _ _ _ _ _ h d e;simp only[g];split at a
  ·rename_i t b;injection a with a;injection a with j k;subst j;subst k
   exact⟨f,by rw[y2 c b],c,i⟩
  cases a
 cases a
theorem Mu {q:Sg}{r:bg}(O:lU r):∀n,CC (ds q r n):=by
 intro n
 induction n with
 |zero=>intro G u v x w k t X _ _ h;simp[ds] at h
 |succ n l=>
  have H:=CD (P:=q) O l;intro G u v x w k t X h i a;have y:∀z,some (z,u,w)=some (x,v,t)->∃b,some (z,u,k)=some (x,v,b)/\bL t b X/\ca w t:=by
   intro z j;injection j with j;injection j with m c;injection c with c o;subst m;subst c;subst o
   exact⟨k,rfl,h,ca.p i⟩
  have K:∀(g s:Te),(match ds q r n g u w with
    |some (.b2,A,k)=>ds q r n s A k
    |B=>B)=some (x,v,t)->∃b,(match ds q r n g u k with
    |some (.b2,A,k)=>ds q r n s A k
    |B=>B)=some (x,v,b)/\bL t b X/\ca w t:=by
   intro g s a;split at a
   ·rename_i D E p;have⟨L,e,f,d⟩:=l _ _ _ _ _ _ _ _ h i p;have⟨b,Q,R,S⟩:=l _ _ _ _ _ _ _ _ f d.W a;exact⟨b,by simp only[e];exact Q,R,d.a S⟩
   rename_i F;have⟨b,e,f,d⟩:=l _ _ _ _ _ _ _ _ h i a;refine⟨b,?_,f,d⟩;rw[e];cases x with
   |b2=>exact Sw a (F _ _)
   |bb _=>rfl
   |bF=>rfl
  cases G<;>simp only[ds,fg] at a|-
  case skip=>exact y _ a
  case label W=>exact y _ a
  case exit M=>exact y _ a
  case ret=>exact y _ a
  case region M Wy T=>
   cases T with
   |false=>
    simp only at a|-
    split at a
    ·rename_i D E p;injection a with j;injection j with m c;injection c with c o;subst m;subst c;subst o
     have⟨b,e,f,d⟩:=Mp H _ _ h i p;exact⟨b,by rw[e],f,d⟩
    cases a
   |true=>
    simp only at a|-
    split at a
    ·rename_i D E p;injection a with j;injection j with m c;injection c with c o;subst m;subst c;subst o
     have⟨b,e,f,d⟩:=CB H h i p;exact⟨b,by rw[e],f,d⟩
    cases a
  case seq g s=>exact K g s a
  case loop g=>exact K g _ a
  case scope g=>exact l _ _ _ _ _ _ _ _ h i a
  case cond z g s=>
   split at a
   ·rename_i Wz WA;split at a<;>exact l _ _ _ _ _ _ _ _ h i a
   cases a
  case block M g=>
   split at a
   ·rename_i WB D E p;have⟨L,e,f,d⟩:=l _ _ _ _ _ _ _ _ h i p;simp only[e];split at a<;>
    ·rename_i U;injection a with j;injection j with m c;injection c with c o;subst m;subst c;subst o
     exact⟨L,by simp only[U,Td,S0,SL],f,d⟩
   rename_i F;have⟨b,e,f,d⟩:=l _ _ _ _ _ _ _ _ h i a;refine⟨b,?_,f,d⟩;rw[e];cases x with
   |b2=>rfl
   |bb _=>exact Sw a (F _ _ _)
   |bF=>rfl
  all_goals cases a
end Go.Cl
namespace Go.Cl
open Go.RowKit
theorem Mv {f g:an}(a:f.e=g.e){x:S8}(h:∀t:Si,x= .tmp t->f.N t=g.N t):ba f x=ba g x:=by
 cases x with
 |tmp t=>simp only[ba,a,h t rfl]
 |const v=>rfl
 |global v=>rfl
 |func v=>rfl
theorem wb {f g:an}:∀{l:Sl S8},(∀x∈l,ba f x=ba g x)->bB f l=bB g l
 |[],_=>rfl
 |x::r,h=>by
  simp only[bB,h x (Sq ..),wb (fun y a=>h y (Sr _ a))]
theorem y3 {f g:an}:∀{l:Sl (Si×S8)},(∀x∈l,ba f x.2=ba g x.2)->bC f l=bC g l
 |[],_=>rfl
 |x::r,h=>by
  have⟨i,a⟩:=x;simp only[bC,h (i,a) (Sq ..),y3 (fun y a=>h y (Sr _ a))]
theorem y4 {f g:an}{x:Sm S8}(h:∀y,x=some y->ba f y=ba g y):eU f x=eU g x:=by
 cases x with
 |none=>rfl
 |some y=>simp only[eU,h y rfl]
theorem Mw {P:Sg}{o:Su}{f g:an}(p:f.e=g.e)(h:∀t:Si,Operand.tmp t∈o.op.operands.toList->f.N t=g.N t)(s:J):a4 P o f s=a4 P o g s:=by
 have a:∀x∈o.op.operands.toList,ba f x=ba g x:=fun x b=>Mv p (fun t q=>h t (by rw[<-q];exact b))
 clear h;have⟨A,r,B,D,E,F⟩:=o;cases r<;>simp only[Op.operands] at a
 case call u=>
  have⟨v,i,G⟩:=u;have e:bB f i.toList=bB g i.toList:=wb (fun x b=>a x (by simp only[Call.operands,SI];exact SX _ b));cases v with
  |value y=>
   simp only[a4,e,(a y (by simp[Call.operands]))]
  |builtin H=>simp only[a4,e]
  |invoke y m=>simp only[a4,e]
 case makeFunc w j k=>
  cases w<;>simp only[a4,(wb (fun x b=>a x (by rw[SI];exact List.mem_append_left _ b)):bB f j.toList=bB g j.toList),(wb (fun x b=>a x (by rw[SI];exact SX _ b)):bB f k.toList=bB g k.toList)]
 case build t c=>
  simp only[a4,(y3 (fun x b=>a x.2 (by simpa using⟨x.1,by simpa using b⟩)):bC f c.toList=bC g c.toList)]
 case buildSlice t K c=>
  simp only[a4,(y3 (fun x b=>a x.2 (by simpa using⟨x.1,by simpa using b⟩)):bC f c.toList=bC g c.toList)]
 case slice t x l n m=>
  simp only[a4,(a x aA),(y4 (fun y d=>a y (by simp[d])):eU f l=eU g l),(y4 (fun y d=>a y (by simp[d])):eU f n=eU g n),(y4 (fun y d=>a y (by simp[d])):eU f m=eU g m)]
 all_goals first
  |rfl
  |(simp only[a4];simp at a;simp only[a];done)
  |(simp at a;have⟨ey,cS⟩:=a;simp only[a4,ey,cS];done)
  |(simp at a;have⟨ey,cS,iY⟩:=a;simp only[a4,ey,cS,iY];done)
  |(rename_i z;cases z<;>rfl)
theorem Mx {a:Sl Su}{o:Su}{f g:an}(b:f.e=g.e)(h:∀t:Si,t∈r5 a o->f.N t=g.N t):ff a o f=ff a o g:=by
 unfold ff;cases c:o.guard with
 |none=>rfl
 |some p=>
  have⟨j,d⟩:=p;have:oA a f j=oA a g j:=by
   unfold oA;cases d:a.drop j with
   |nil=>rfl
   |cons p r=>
    simp only;cases a:p.dst with
    |none=>rfl
    |some e=>
     simp only[b];rw[h e (by simp[r5,c,d,a])]
  simp only[this]
theorem My {d:Sg}{n:Si}{S:aC}(h:bR n S){z:an}{c:Act}(i:eN S z c){o:Su}(p:bQ d o=true){b:Si}(g:gT S b S.h.Y){v:Sk}{e:J}{q:cF}
  (a:a4 d o z ⟨.al,b⟩=some (.a8 v e)) (F:e.t b=some q):
  ∃T f,T.h=S.h.u b (.bl q)/\aX T v f/\bH n S T/\(execOp c.eval o).run d S.k= .ok (.value f) T.k:=by
 have j:∀(s:Sem Sk),execOp c.eval o=(do pure (Next.value (<-s)))->pK d n S s v ⟨.al,b⟩ e S.h.Y->∃T f,T.h=S.h.u b (.bl q)/\aX T v f/\bH n S T/\(execOp c.eval o).run d S.k= .ok (.value f) T.k:=by
  intro s G H;obtain⟨K,u,T,f,L,M,O,Q⟩:=H;have A:e.t b=some K:=by rw[u];simp only[J.t,J.x,a5.gR _ _ _ _ (hq (bq g.n h.bE:0<16000001))]
  rw[F] at A;obtain rfl:=Sf A;exact⟨T,f,L,O,Q,by rw[G];exact vY M⟩
 have k:∀r,dL r=some (.a8 v e)->r=some (v,e):=by
  intro r l;cases r with
  |none=>simp[dL] at l
  |some R=>
   obtain⟨WE,WG⟩:=R;simp only[dL] at l;injection l with l;injection l with U W;rw[U,W]
 obtain⟨WH,X,WI,WJ,WK,WL⟩:=o;cases X<;>try (cases p;done)
 case alloc u=>
  simp only[a4] at a;split at a
  ·rename_i B Wy;split at a
   ·rename_i Wz;exact j _ rfl (B6 h (a:=⟨.al,b⟩) g Wy Wz (k _ a))
   cases a
  cases a
 case box u y=>
  simp only[a4] at a;split at a
  ·rename_i D m;exact j _ rfl (B7 h (a:=⟨.al,b⟩) g (dt i m) (k _ a))
  cases a
 case buildSlice t E w=>
  simp only[a4] at a;split at a
  ·rename_i WA WB;have:=Cb (P:=d) h (c:=⟨.al,b⟩) (j:=S.h.Y) g (yR i WB) (k _ a:dj d ⟨.al,b⟩ t E WA=some (v,e));refine j (Instr.buildSlice t E (w.map fun(WC,x)=>(WC,c.eval x))) (by simp only[execOp]) ?_;rw[(show(w.map fun(x:Si×S8)=>(x.1,c.eval x.2))=(w.toList.map fun x=>(x.1,c.eval x.2)).toArray by rw[<-SA];simp)];exact this
  cases a
 case convert WM WN y=>
  simp only[a4] at a;simp only[bQ] at p;split at a
  ·rename_i D m;exact j _ rfl (B9 h (h:=⟨.al,b⟩) g (dt i m) (k _ a) p)
  cases a
 case makeSlice t y B=>
  simp only[a4] at a;split at a
  ·rename_i D WO m WD;exact j (Instr.makeSlice t (c.eval y) (c.eval B)) rfl (Cc h (d:=⟨.al,b⟩) g (dt i m) (dt i WD) (k _ a))
  cases a
theorem CE {b:Sl Si}:∀{l:Sl Edge} {m x:Si},Se (oB b l m) x=true->Se m x=true\/∃e∈l,Region.binds .any e=true/\(x=e.on\/Se (cN b e.on) x=true)
 |[],_,_,h=> .inl h
 |e::r,m,x,h=>by
  simp only[oB] at h;rcases CE h with a|⟨d,a,f⟩
  ·split at a
   ·rename_i c;simp only[Nat.testBit_or,S6,Nat.testBit_two_pow,decide_eq_true_eq] at a;rcases a with (a|a)|a
    ·exact .inl a
    ·exact .inr ⟨e,Sq ..,c,.inl a.symm⟩
    exact .inr ⟨e,Sq ..,c,.inr a⟩
   exact .inl a
  exact .inr ⟨d,Sr _ a,f⟩
theorem Mz (l m:Sl Si):∀i,i<l.length->cN (l++m) i=cN l i:=by
 induction l with
 |nil=>intro a h;simp at h
 |cons x r a=>
  intro b h;cases b with
  |zero=>rfl
  |succ k=>exact a k (by simpa using h)
theorem MA (l:Sl Si)(x:Si)(m:Sl Si):cN (l++x::m) l.length=x:=by
 induction l with
 |nil=>rfl
 |cons _ r a=>exact a
theorem tW:∀(a:Sl Su) (b:Sl Si),∃r,cZ a b=b++r/\r.length=a.length
 |[],a=>⟨[],by simp[cZ],rfl⟩
 |o::b,a=>by
  have⟨r,c,d⟩:=tW b (a++[oB a o.after.toList 0]);exact⟨oB a o.after.toList 0::r,by simp[cZ,c],by simp[d]⟩
theorem CF:∀(b:Sl Su) (a:Sl Si) (k:Si) (o:Su),b[k]?=some o->∃c,(∀j,j<a.length+k->cN c j=cN (cZ b a) j)/\cN (cZ b a) (a.length+k)=oB c o.after.toList 0
 |[],_,_,_,h=>by simp at h
 |p::d,b,0,o,h=>by
  simp only[St,SD] at h;subst h;have⟨r,a,c⟩:=tW d (b++[oB b p.after.toList 0]);refine⟨b,fun j b=> ?_,?_⟩
  ·simp only[cZ,a,S1];rw[Mz _ _ _ (by simpa using b)]
  simp only[cZ,a,S1,Tf];exact MA _ _ _
 |p::d,b,e+1,o,h=>by
  simp only[SB] at h;have⟨f,a,c⟩:=CF d (b++[oB b p.after.toList 0]) e o h;simp only[List.length_append,List.length_singleton] at a c;refine⟨f,fun j b=> ?_,?_⟩
  ·simp only[cZ];exact a j Z
  simp only[cZ];rw[<-c];congr 1;omega
theorem wc:∀(a:Sl Su) {P:Sg} (k b:Si) {o:Su},a[k]?=some o->bQ P o=true->k<b->bW P (a.take k)<bW P (a.take b)
 |[],_,_,_,_,h,_,_=>by simp at h
 |p::b,P,0,c+1,o,h,a,_=>by
  simp only[St,SD] at h;subst h;simp[bW,a]
 |p::b,P,c+1,d+1,o,h,a,e=>by
  simp only[SB] at h;have:=wc b c d h a Z;simp only[SJ,bW];split<;>omega
 |_::_,_,_,0,_,_,_,h=>Z
theorem y5 {P:Sg}{p:Si->SS}:∀(a:Sl Su) (i:Si),(∀j,i<=j->p j=false)->dM p P a i=0
 |[],_,_=>rfl
 |o::r,a,h=>by simp only[dM,h a (Sn _),Bool.and_false,SL,S0];exact y5 r (a+1) (fun j a=>h j Z)
theorem y6 {P:Sg}{b c:Si->SS}:∀(a:Sl Su) (i:Si),(∀k o,a[k]?=some o->c6 P o=true->b (i+k)=true->c (i+k)=true)->dM b P a i<=dM c P a i
 |[],_,_=>Sn _
 |o::r,a,h=>by
  have d:=y6 (b:=b) (c:=c) r (a+1) (fun c e f g j=>by have:=h (c+1) e (by simpa using f) g (by rw[show a+(c+1)=a+1+c by omega];exact j);rwa [show a+(c+1)=a+1+c by omega] at this);simp only[dM];cases c:c6 P o with
  |false=>simpa [c] using d
  |true=>
   cases e:b a with
   |false=>simp only[Bool.true_and,SL,S0];split<;>omega
   |true=>
    have:=(h 0 o rfl) c e;simp only[Tf] at this;simp[this];exact d
theorem CG {f a:an}{d:Sm Tmp}{v:Sk}(h:fO f d v=some a):a.e=f.e:=by
 unfold fO at h;split at h
 ·split at h
  ·injection h with h;subst h;rfl
  cases h
 injection h with h;subst h;rfl
def cc.mx (e:cc)(T:J):J:=
 match e with
 | .iW _ s=>s
 |_=>T
def cc.tX (e:cc)(i:Si)(a:jy):jy:=
 match e with
 | .hP _ d b=>a++[(i,d,b)]
 |_=>a
theorem CH {i j:Si}(h:i<=j):SE j i=false:=by
 cases a:SE j i
 ·rfl
 rw[Sx] at a;omega
theorem MB {b:Sg}{A:kF}{B:Sl Su}:∀(a:Sl Su) (h:Sl Si) (i m:Si) (n:an) (T:J) (q:jy) (l:Sl cc),h.length=a.length->iC b A B h a i m n T q=some l->
  l.length=a.length/\∃(F:Si->an) (G:Si->J),F 0=n/\G 0=T/\j0 a l n=F a.length/\
   (∀c,c<=a.length->(cw b a l T)[dM (fun j=>SE j (i+c)) b a i]?=some (G c))/\(∀r,(cw b a l T).getLastD r=G a.length)/\
   ∀k o,a[k]?=some o->∃e,l[k]?=some e/\jv b A B (cN h k) (m+bW b (a.take k)) (q++cf (l.take k) i) o (F k) (G k)=some e/\
    fO (F k) o.dst e.a8=some (F (k+1))/\G (k+1)=e.mx (G k):=by
 intro a
 induction a with
 |nil=>
  intro h i m n T q l s d;cases h with
  |cons _ _=>simp at s
  |nil=>
   simp only[iC] at d;injection d with d;subst d
   exact⟨rfl,fun _=>n,fun _=>T,rfl,rfl,rfl,fun c x=>rfl,fun r=>rfl,fun k o L=>by simp at L⟩
 |cons o a M=>
  intro h i m n T q l s d;cases h with
  |nil=>simp at s
  |cons WR h=>
   simp only[iC] at d;split at d
   ·rename_i e f;split at d
    ·rename_i O x;split at d
     ·rename_i g Q;injection d with d;subst d
      have⟨R,F,G,S,D,U,y,W,X⟩:=M h (i+1) _ O (e.mx T) _ g (by simpa using s) Q;have E:∀v t,e= .iW v t->c6 b o=true:=by
       intro v t Wy;subst Wy;unfold jv at f;split at f
       ·cases f
       split at f
       ·split at f<;>cases f
       ·split at f
        ·split at f<;>cases f
        cases f
       rename_i Wz WA;simp[c6,Wz,WA]
      refine⟨by simp[R],fun k=>match k with|0=>n|k+1=>F k,fun k=>match k with|0=>T|k+1=>G k,rfl,rfl,?_,?_,?_,?_⟩
      ·simp only[j0,x,S4];exact U
      ·intro c WB;have H:cw b (o::a) (e::g) T=if c6 b o then T::cw b a g (e.mx T) else cw b a g (e.mx T):=by
        cases e with
        |iW v t=>simp only[cw,E v t rfl,Td];rfl
        |e3=>rfl
        |ki _=>rfl
        |hP _ _ _=>rfl
       cases c with
       |zero=>
        rw[(y5 (P:=b) (p:=fun j=>SE j (i+0)) (o::a) i (fun j WC=>CH Z)),H];split
        ·rfl
        have WD:(e.mx T)=T:=by
         rename_i u;cases e<;>try rfl
         exact Sw (E _ _ rfl) u
        have:=y 0 (SM _);rw[y5 (P:=b) (p:=fun j=>SE j (i+1+0)) a (i+1) (fun j WC=>CH Z)] at this;rw[this,D,WD]
       |succ c=>
        have:=y c (by simpa using WB);have WE:dM (fun j=>SE j (i+(c+1))) b (o::a) i=if c6 b o then dM (fun j=>SE j (i+1+c)) b a (i+1)+1 else dM (fun j=>SE j (i+1+c)) b a (i+1):=by
         rw[(show(fun j=>SE j (i+(c+1)))=fun j=>SE j (i+1+c) by rw[show i+(c+1)=i+1+c from Z])];simp only[dM];have:SE i (i+1+c)=true:=by simp[Sx];omega
         simp only[this,Bool.and_true]
        rw[WE,H];split
        ·simp only[SB];exact this
        exact this
      ·intro r;simp only[S4];rw[<-W r];have u:cw b a g (e.mx T)≠[]:=by
        intro WG;have:=y 0 (SM _);rw[WG] at this;simp at this
       have z:∀K:J,(K::cw b a g (e.mx T)).getLastD r=(cw b a g (e.mx T)).getLastD r:=by
        intro K;rw[Ss];generalize cw b a g (e.mx T)=WH at u;cases WH with
        |nil=>exact Sw rfl u
        |cons WS WT=>rw[Ss,Ss]
       simp only[cw];cases e<;>simp only at z|- <;>first
        |exact z T
        |(split
          ·exact z T
          rfl)
      intro k WI w;cases k with
      |zero=>
       simp only[St,SD] at w;subst w;exact⟨e,rfl,by simpa [cN,bW,cf] using f,by simpa [S] using x,by simpa using D⟩
      |succ k=>
       simp only[SB] at w;have⟨WJ,WK,WL,WM,WN⟩:=X k WI w;refine⟨WJ,by simpa using WK,?_,WM,WN⟩;have WO:(if bQ b o then m+1 else m)+bW b (a.take k)=m+bW b ((o::a).take (k+1)):=by
        simp only[SJ,bW];split<;>omega
       have WQ:e.tX i q++cf (g.take k) (i+1)=q++cf ((e::g).take (k+1)) i:=by
        simp only[SJ];cases e<;>simp[cf,cc.tX]
       rw[<-WO,<-WQ];exact WL
     cases d
    cases d
   cases d
theorem MC {P:Sg}{c:Sl Su}{e:Sl Si}{f:jy}{g:Sl J}:∀(k:Si) (a:Sl Si) (b:Sl Su) (d:Sl cc) (i:Si) (F:Si->an),a.length=b.length->iD P c e f g a b d i (F 0)=true->
  (∀k o h,b[k]?=some o->d[k]?=some h->fO (F k) o.dst h.a8=some (F (k+1)))->∀j v,b[k]?=some j->d[k]?=some (.ki v)->
  mo P (cN a k) f j (F k) v ((g.take (dM (fun l=> !Nat.testBit (cN e l) (i+k)) P c 0+1)).drop (dM (Se (cN a k)) P c 0))=true:=by
 intro a
 induction a with
 |zero=>
  intro e f g a F c h d o v a b;cases f with
  |nil=>simp at a
  |cons p f=>
   cases e with
   |nil=>simp at c
   |cons m e=>
    cases g with
    |nil=>simp at b
    |cons e f=>
     simp only[St,SD] at a b;subst a;subst b
     simp only[iD,Sh] at h;exact h.1
 |succ f g=>
  intro j l m e F c h d o v a b;cases l with
  |nil=>simp at a
  |cons p l=>
   cases j with
   |nil=>simp at c
   |cons n j=>
    cases m with
    |nil=>simp at b
    |cons m n=>
     simp only[iD,Sh,(d 0 p m rfl rfl)] at h;have:=g j l n (e+1) (fun g=>F (g+1)) (by simpa using c) h.2 (fun c g h a b=>d (c+1) g h (by simpa using a) (by simpa using b)) o v (by simpa using a) (by simpa using b);rw[show e+1+f=e+(f+1) from Z] at this;exact this
theorem CI {P:Sg}{m:Si}{b:jy}{o:Su}{f:an}{v:Sk}:∀{l:Sl J} {T:J},mo P m b o f v l=true->T∈l->∃u t,a4 P o f (b3 (Se m) T b)=some (.a8 u t)/\bn v u=true
 |[],_,_,h=>by cases h
 |s::r,T,h,a=>by
  simp only[mo] at h;split at h
  ·rename_i u t c;rw[Sh] at h;rcases SQ.1 a with rfl|a
   ·exact⟨u,t,c,h.1⟩
   exact CI h.2 a
  cases h
theorem y7 {a b:Sk}(h:b9 a b=true):a=b:=by
 cases a<;>cases b<;>simp only[b9] at h<;>try (cases h;done)
 all_goals try rfl
 case bool a b=>simpa using h
 case int k a g b=>
  rw[Sh] at h;have⟨c,d⟩:=h;split at c
  ·rename_i e;subst e;rw[beq_iff_eq] at d;rw[d]
  cases c
 case string a b=>
  rw[beq_iff_eq] at h;have⟨⟨a⟩⟩:=a;have⟨⟨b⟩⟩:=b;simp only at h;rw[h]
 case pointer a b=>split at h<;>first|(rename_i e;rw[e])|cases h
 case map a b=>split at h<;>first|(rename_i e;rw[e])|cases h
 case slice a n i b m j=>
  simp only[Sh] at h;have⟨⟨c,d⟩,f⟩:=h;split at c
  ·rename_i e;rw[e,SG d,SG f]
  cases c
theorem tY:∀{a b:Sl Sk},dF a b=true->a=b
 |[],[],_=>rfl
 |x::r,y::q,h=>by
  simp only[dF,Sh] at h;rw[y7 h.1,tY h.2]
 |[],_::_,h=>by cases h
 |_::_,[],h=>by cases h
theorem MD {a b:Sk}(h:oD a b=true):a=b:=by
 unfold oD at h;split at h
 ·rw[SA.1 (tY h)]
 exact y7 h
theorem CJ:∀{a b:Sl Sk},mn a b=true->a=b
 |[],[],_=>rfl
 |a::r,b::q,h=>by
  simp only[mn,Sh] at h;rw[MD h.1,CJ h.2]
 |[],_::_,h=>by simp[mn] at h
 |_::_,[],h=>by simp[mn] at h
theorem ME {a b:Sk}(h:bn a b=true):a=b:=by
 unfold bn at h;split at h
 ·rw[SA.1 (tY h)]
 ·rw[SA.1 (CJ h)]
 ·simp only[Sh] at h;have⟨⟨a,b⟩,c⟩:=h;rw[SA.1 (tY b),SA.1 (tY c)];exact congrArg (fun x=>Value.func (Fn.func x) _ _) (SG a)
 exact y7 h
abbrev ee (s t:J):Prop:=bL s t (fun _=>none)
theorem ee.p (s:J):ee s s:=⟨rfl,(fun _ _ h=>by cases h),fun _=>rfl⟩
theorem bR.W {a:Si}{S:aC}(h:bR a S):dx S.h:=⟨h.bE,h.fB⟩
theorem ee.W {s t:J}(h:ee s t)(a:dx t):dx s:=⟨a.bE,fun j o b=>by rw[<-h.Y];exact a.fB j o (by rw[h.N j];exact b)⟩
def we (P:Sg)(a:Si->Sz->Prop)(g:Tc)(p:nI):Prop:=
 ∀(b:Si) (S:aC) (s:J) (d:Sl Sk) (v:Sk) (c:J),ee s S.h->bR b S->a b S.k->p d s=some (v,c)->∀a:SN Sk,bo S d a.toList->
  ((∀w,(callFunc g a).run P w= .ok (.enter g a) w)/\Calls P g a S.k fun e f=>∃T d,ee c T.h/\T.k=f/\e= .returned d/\aX T v d/\bH b S T)\/
  ∃T d,(callFunc g a).run P S.k= .ok (.value d) T.k/\ee c T.h/\aX T v d/\bH b S T
def se (P:Sg)(a:Si->Sz->Prop)(b:kF):Prop:=∀g,we P a g (b g)
def qZ (b:Si->Sz->Prop):Prop:=∀a w c,Below a w c->b a w->b a c
theorem eN.u {S:aC}{f i:an}{a:Act}{j:Sm Tmp}{v c:Sk}(b:eN S f a)(l:aX S v c)(h:fO f j v=some i):eN S i (a.put j c):=by
 unfold fO at h;split at h
 ·rename_i k;obtain⟨t,rfl⟩:∃t:Si,t=k:=⟨k,rfl⟩
  split at h
  ·rename_i m;obtain rfl:=Sf h;have o:t<f.e:=by simpa [Sx] using m
   have p:=b.e;refine⟨by simp[an.u,Act.put,b.e],b.pJ,fun u n=> ?_⟩;by_cases d:t=u
   ·subst d;have e:(f.u t v).N t=v:=by simp only[an.N,an.u,a5.gR _ _ _ _ (hq (ag b.pJ:0<16000001))]
    have g:(a.put (some t) c).tmps.getD t undef=c:=by
     simp[Act.put,(Z:t<a.tmps.size)]
    rw[e,g];exact l
   have e:(f.u t v).N u=f.N u:=by simp only[an.N,an.u,a5.hp _ _ _ _ _ d]
   have g:(a.put (some t) c).tmps.getD u undef=a.tmps.getD u undef:=by
    simp[Act.put,Array.getElem?_setIfInBounds_ne d]
   rw[e,g];exact b.N u (n:u<f.e)
  cases h
 obtain rfl:=Sf h;exact b
theorem wg (a:Act)(d:Sm Tmp)(v:Sk):(a.put d v).defers=a.defers:=by cases d<;>rfl
theorem MF {S:aC}{f:an}{a:Act}(c:eN S f a)(b:Sl Su)(j:Si):oA b f j=yielded b.toArray a.tmps j:=by
 unfold oA yielded;rw[(show(b.toArray)[j]?=(b.drop j).head? by rw[Sy,List.head?_drop])];cases b.drop j with
 |nil=>rfl
 |cons o r=>
  simp only[List.head?_cons,Option.bind_some];cases o.dst with
  |none=>rfl
  |some b=>
   obtain⟨d,rfl⟩:∃e:Si,e=b:=⟨b,rfl⟩
   simp only[Option.bind_some];by_cases b:d<f.e
   ·rw[Sp (by simpa [Sx] using b)];have e:=c.N d b;have g:a.tmps[d]?=some (a.tmps.getD d undef):=by simp[(show d<a.tmps.size by rw[<-c.e];exact b)]
    rw[g];generalize a.tmps.getD d undef=g at e;generalize f.N d=f at e;cases e<;>rfl
   rw[SH (by simpa [Sx] using b)];rw[(Array.getElem?_eq_none (ag c.e):a.tmps[d]?=none)]
theorem CK {S:aC}{f:an}{a:Act}(c:eN S f a)(b:Sl Su)(o:Su):ff b o f=Region.wanted o (yielded b.toArray a.tmps):=by
 unfold ff Region.wanted;cases o.guard with
 |none=>rfl
 |some p=>
  have⟨j,d⟩:=p;simp only[MF c];cases yielded b.toArray a.tmps j<;>rfl
def fh (a:Sl cc)(j i:Si)(b:cF):Prop:=∃v,a[j]?=some (.hP v i b)
theorem q0:∀{a:Sl cc} {n:Si} {x:Si×Si×cF},x∈cf a n->∃j,x.1=n+j/\fh a j x.2.1 x.2.2
 |[],_,_,h=>by cases h
 |e::r,n,x,h=>by
  have a:x∈cf r (n+1)->∃j,x.1=n+j/\fh (e::r) j x.2.1 x.2.2:=fun h=>by
   have⟨j,c,v,b⟩:=q0 h;exact⟨j+1,Z,v,by simpa using b⟩
  cases e with
  |hP v i b=>
   simp only[cf] at h;rcases SQ.1 h with rfl|h
   ·exact⟨0,rfl,v,rfl⟩
   exact a h
  |e3=>exact a h
  |ki v=>exact a h
  |iW v s=>exact a h
theorem wh:∀{b:Sl cc} {a c i:Si} {d:cF},fh b c i d->(a+c,i,d)∈cf b a
 |[],_,_,_,_,⟨v,h⟩=>by simp at h
 |e::r,a,0,b,c,⟨v,h⟩=>by
  simp only[St,SD] at h;subst h;exact Sq ..
 |e::r,a,b+1,c,d,⟨v,h⟩=>by
  have:=wh (b:=r) (a:=a+1) (c:=b) ⟨v,by simpa using h⟩;rw[show a+1+b=a+(b+1) from Z] at this;cases e<;>simp only[cf]<;>first
   |exact Sr _ this
   |exact this
structure gx (es:Sl cc) (T:J) (q:Si->Prop) (s:J):Prop where
 Y:s.Y=T.Y
 kj:∀i o,T.i.N i=some o->s.i.N i=some o
 x:∀i j b,T.i.N i=none->fh es j i b->q j->s.i.N i=some (.bl b)
 iZ:∀i,T.i.N i=none->(∀j b,fh es j i b->¬q j)->s.i.N i=none
def q1 (s a:J)(i:Si):Sm dK:=
 match s.i.N i with
 |some _=>none
 |none=>a.i.N i
theorem gx.CM {f:Sl cc}{T s k:J}{q p:Si->Prop}(r:∀j i b,fh f j i b->i<T.Y)(h:gx f T q s)(l:gx f T p k)(t:∀j,q j->p j):bL s k (q1 s k):=by
 refine⟨by rw[h.Y,l.Y],fun j u g=> ?_,fun j=> ?_⟩
 ·unfold q1 at g;split at g
  ·cases g
  rename_i d;refine⟨d,?_⟩;rw[h.Y];cases e:T.i.N j with
  |some m=>rw[h.kj j m e] at d;cases d
  |none=>
   by_cases c:∃a b,fh f a j b
   ·have⟨a,b,c⟩:=c;exact r _ _ _ c
   rw[l.iZ j e (fun a b o=>Sw ⟨a,b,o⟩ c)] at g;cases g
 unfold q1;cases d:s.i.N j with
 |none=>simp only;cases k.i.N j<;>rfl
 |some u=>
  simp only;cases e:T.i.N j with
  |some m=>rw[l.kj j m e,<-d,h.kj j m e]
  |none=>
   by_cases c:∃a b,fh f a j b/\q a
   ·have⟨a,b,c,n⟩:=c;rw[l.x j a b e c (t a n),<-d,h.x j a b e c n]
   rw[h.iZ j e (fun a b o n=>c ⟨a,b,o,n⟩)] at d;cases d
theorem CN {p:Si->SS}:∀{b:jy} {j i:Si} {c:cF},(j,i,c)∈b->p j=true->lg p b i≠none
 |[],_,_,_,h,_=>by cases h
 |(k,l,m)::r,j,i,c,h,d=>by
  simp only[lg];split
  ·simp
  rename_i e;rcases SQ.1 h with f|h
  ·injection f with g a;injection a with a iY;subst g;subst a
   exact Sw ⟨d,rfl⟩ e
  exact CN h d
theorem y8 {b:Sl cc}{p:Si->SS}{T:J}{a:jy}(k:∀o∈a,0<16000001)(l:∀j i c,fh b j i c->p j=true->(j,i,c)∈a)(d:∀x∈a,fh b x.1 x.2.1 x.2.2)
  (m:∀e f i g h,fh b e i g->fh b f i h->e=f/\g=h):gx b T (fun n=>p n=true) (b3 p T a):=by
 have⟨c,b⟩:=v5 p a T k;refine⟨c,fun e o c=>by rw[b,c],fun c j h g e f=> ?_,fun k n o=> ?_⟩
 ·rw[b,g];cases g:lg p a c with
  |none=>exact Sw g (CN (l j c h e f) f)
  |some c=>
   obtain⟨f,h,c,_,rfl⟩:=v7 g;obtain⟨_,rfl⟩:=m _ _ _ _ _ e (d _ c);rfl
 rw[b,n];cases b:lg p a k with
 |none=>rfl
 |some a=>
  obtain⟨e,f,a,c,rfl⟩:=v7 b;exact Sw c (o _ _ (d _ a))
theorem gx.fg {e:Sl cc}{T s t c g:J}{q h:Si->Prop}(l:gx e T q s)(j:gx e T h t)(d:bL c g (q1 s t))(m:ca s c):gx e c h g:=by
 have k:∀i,c.i.N i=none->s.i.N i=none/\T.i.N i=none:=fun i a=>by
  have b:s.i.N i=none:=by
   cases n:s.i.N i with
   |none=>rfl
   |some o=>exact Sw a (m.kD i (by rw[n];simp))
  refine⟨b,?_⟩;cases p:T.i.N i with
  |none=>rfl
  |some o=>rw[l.kj i o p] at b;cases b
 refine⟨d.Y,fun i o a=>d.oH a,fun i r u a v w=> ?_,fun i a x=> ?_⟩
 ·have⟨b,f⟩:=k i a;rw[d.N i];simp only[q1,b,j.x i r u f v w]
 have⟨b,f⟩:=k i a;rw[d.N i];simp only[q1,b,j.iZ i f x,a]
theorem gx.oH {c:Sl cc}{T s d:J}{q:Si->Prop}(h:gx c T q s)(b:ee s d):gx c T q d:=
 ⟨by rw[b.Y,h.Y],fun i o a=>by rw[b.N i];exact h.kj i o a,fun i j e a f g=>by rw[b.N i];exact h.x i j e a f g,fun i a k=>by rw[b.N i];exact h.iZ i a k⟩
theorem gx.tZ {c:Sl cc}{T s:J}{q d:Si->Prop}(h:gx c T q s)(g:∀j i b,fh c j i b->(d j↔q j)):gx c T d s:=
 ⟨h.Y,h.kj,fun i j b e a f=>h.x i j b e a ((g j i b a).1 f),fun i e k=>h.iZ i e (fun j b a f=>k j b a ((g j i b a).2 f))⟩
theorem gx.u {f:Sl cc}{T s:J}{q r:Si->Prop}(h:gx f T q s){j i:Si}{b:cF}(m:fh f j i b)(t:s.i.N i=none)(w:0<16000001)
  (x:∀j a i b d,fh f j i b->fh f a i d->j=a/\b=d) (n:∀k,r k↔k=j\/q k):gx f T r (s.u i (.bl b)):=by
 refine⟨h.Y,fun k u e=> ?_,fun k a d e g o=> ?_,fun k e v=> ?_⟩
 ·have c:i≠k:=fun p=>by subst p;rw[h.kj _ u e] at t;cases t
  rw[J.gS _ _ _ _ c];exact h.kj k u e
 ·by_cases c:i=k
  ·subst c;obtain⟨_,rfl⟩:=x _ _ _ _ _ m g;exact(show(s.u i (.bl b)).i.N i=some (.bl b) by simp only[J.u,a5.gR _ _ _ _ (hq w)])
  rw[J.gS _ _ _ _ c];refine h.x k a d e g ?_;rcases(n a).1 o with rfl|y
  ·have⟨B,z⟩:=m;have⟨D,l⟩:=g;rw[z] at l;injection l with l;injection l with _ A _
   exact Sw A c
  exact y
 have c:i≠k:=fun p=>by subst p;exact v j b m ((n j).2 (.inl rfl))
 rw[J.gS _ _ _ _ c];exact h.iZ k e (fun a d g o=>v a d g ((n a).2 (.inr o)))
theorem wi {P:Sg}{q:kF}{l:Sl Su}{m d:Si}{g:jy}{o:Su}{f:an}{T:J}{e:cc}(h:jv P q l m d g o f T=some e):
  (ff l o f=false/\e= .e3)\/(ff l o f=true/\((bU P o=true/\∃v,e= .ki v)\/
   (bU P o=false/\bQ P o=true/\∃v a i,e= .hP v d i/\a4 P o f ⟨.al,d⟩=some (.a8 v a)/\a.t d=some i)\/
   (c6 P o=true/\∃v a,e= .iW v a/\(a4 P o f (b3 (Se m) T g)=some (.a8 v a)\/∃j k,a4 P o f (b3 (Se m) T g)=some (.jY j k)/\q j k (b3 (Se m) T g)=some (v,a))))):=by
 unfold jv at h;split at h
 ·rename_i n;injection h with h;exact .inl ⟨n,h.symm⟩
 rename_i n;refine .inr ⟨n,?_⟩;split at h
 ·rename_i b;split at h
  ·injection h with h;exact .inl ⟨b,_,h.symm⟩
  cases h
 ·rename_i b p;split at h
  ·rename_i v a c;split at h
   ·rename_i i s;injection h with h;exact .inr (.inl ⟨b,p,v,a,i,h.symm,c,s⟩)
   cases h
  cases h
 rename_i b p;have r:c6 P o=true:=by simp[c6,b,p]
 split at h
 ·rename_i v a c;injection h with h;exact .inr (.inr ⟨r,v,a,h.symm,.inl c⟩)
 ·rename_i j k c;split at h
  ·rename_i v a t;injection h with h;exact .inr (.inr ⟨r,v,a,h.symm,.inr ⟨j,k,c,t⟩⟩)
  cases h
 cases h
structure iF (P:Sg) (call:kF) (ops:Sl Su) (f0:an) (s0:J) (es:Sl cc) (F:Si->an) (G:Si->J):Prop where
 aG:es.length=ops.length
 ua:F 0=f0
 ub:G 0=⟨s0.i,s0.Y+bW P ops⟩
 bE:0<=16000000
 sf:∀k o,ops[k]?=some o->∃e,es[k]?=some e/\jv P call ops (cN (cZ ops []) k) (s0.Y+bW P (ops.take k)) (cf (es.take k) 0) o (F k) (G k)=some e/\
  fO (F k) o.dst e.a8=some (F (k+1))/\G (k+1)=e.mx (G k)
 oH:∀k o v p,ops[k]?=some o->es[k]?=some (.ki v)->p<=ops.length->(∀x o',ops[x]?=some o' ->c6 P o' =true->Se (cN (cZ ops []) k) x=true->x<p)->
  (∀x o',ops[x]?=some o' ->c6 P o' =true->x<p->Se (cN (cZ ops []) x) k=false)->
  ∃t,a4 P o (F k) (b3 (Se (cN (cZ ops []) k)) (G p) (cf es 0))=some (.a8 v t)
theorem MG {P:Sg}{v:kF}{a:Sl Su}{l w:an}{s y:J}(h:lP P v a l s=some (w,y)):
  ∃b F G,iF P v a l s b F G/\w=F a.length/\y=b3 (fun _=>true) (G a.length) (cf b 0):=by
 unfold lP at h;split at h
 ·cases h
 rename_i WC;split at h
 case h_2=>cases h
 rename_i b H;split at h
 case h_2=>cases h
 rename_i z;injection h with h;injection h with K L;subst K;subst L
 have A:(cZ a []).length=a.length:=by
  have⟨WD,m,f⟩:=tW a [];rw[m];simpa using f
 have⟨m,F,G,f,M,O,Q,R,B⟩:=MB a (cZ a []) 0 s.Y l _ [] b A H;refine⟨b,F,G,⟨m,f,M,Z,fun k o d=>by simpa using B k o d,?_⟩,O,by rw[R]⟩;intro k o S p d n T U W;rw[<-f] at z;have D:=MC k (cZ a []) a b 0 F A z (fun k o WE d n=>by
  have⟨WG,c,_,X,_⟩:=B k o d;rw[n] at c;injection c with c;subst c;exact X) o S d n
 have E:=Q p T;simp only[SK] at E D;have WH:dM (Se (cN (cZ a []) k)) P a 0<=dM (fun j=>SE j p) P a 0:=y6 a 0 (fun x q r t e=>by
  simp only[SK] at e|-
  rw[Sx];exact U x q r t e)
 have WI:dM (fun j=>SE j p) P a 0<=dM (fun j=> !Nat.testBit (cN (cZ a []) j) k) P a 0:=y6 a 0 (fun x q r t e=>by
  simp only[SK,Sx] at e|-
  rw[W x q r t e];rfl)
 generalize dM (fun j=>SE j p) P a 0=u at*;generalize dM (Se (cN (cZ a []) k)) P a 0=g at*;generalize dM (fun j=> !Nat.testBit (cN (cZ a []) j) k) P a 0=Wy at*;have Wz:G p∈(((cw P a b ⟨s.i,s.Y+bW P a⟩).take (Wy+1)).drop g):=by
  refine List.mem_of_getElem? (i:=u-g) ?_;rw[List.getElem?_drop,show g+(u-g)=u from Z,SF,Sp Z,E]
 have⟨WJ,WA,c,WB⟩:=CI D Wz;rw[ME WB];exact⟨WA,c⟩
section
variable {P:Sg} {call:kF} {ops:Sl Su} {f0:an} {s0:J} {es:Sl cc} {F:Si->an} {G:Si->J}
theorem iF.hP (h:iF P call ops f0 s0 es F G){j i:Si}{f:cF}(a:fh es j i f):∃o,ops[j]?=some o/\bQ P o=true/\bU P o=false/\i=s0.Y+bW P (ops.take j):=by
 have⟨v,a⟩:=a;have c:j<ops.length:=by rw[<-h.aG];exact(So.1 a).1
 have⟨e,b,g,_,_⟩:=h.sf j ops[j] (Sj c);rw[a] at b;injection b with b;subst b
 refine⟨ops[j],Sj c,?_⟩;rcases wi g with ⟨_,e⟩|⟨_,⟨_,d,e⟩|⟨k,l,d,m,n,e,_⟩|⟨_,d,m,e,_⟩⟩
 ·cases e
 ·cases e
 ·injection e with _ e _;exact⟨l,k,e⟩
 cases e
theorem iF.uc (h:iF P call ops f0 s0 es F G):∀j a i b c,fh es j i b->fh es a i c->j=a/\b=c:=by
 intro j a b b b b c;have⟨o,d,e,_,f⟩:=h.hP b;have⟨k,f,g,_,l⟩:=h.hP c;have h:j=a:=by
  rcases S2 j a with k|l|m
  ·have:=wc ops j a d e k;omega
  ·exact l
  have:=wc ops a j f g m;omega
 subst h;have⟨v,d⟩:=b;have⟨b,a⟩:=c;rw[d] at a;injection a with a;injection a with _ _ a
 exact⟨rfl,a⟩
theorem iF.fB (h:iF P call ops f0 s0 es F G){j i:Si}{b:cF}(c:fh es j i b):s0.Y<=i/\i<s0.Y+bW P ops:=by
 have⟨o,a,d,_,e⟩:=h.hP c;have:=wc ops j ops.length a d (So.1 a).1;rw[List.take_length] at this;omega
theorem iF.CO (h:iF P call ops f0 s0 es F G)(m:mw call)(n:dx s0):∀k,k<=ops.length->fq s0.Y (G 0) (G k):=by
 intro k
 induction k with
 |zero=>intro _;exact fq.p (show dx (G 0) by rw[h.ub];exact⟨h.bE,fun j o f=>by have:=n.fB j o f;show j<s0.Y+_;omega⟩)
 |succ k p=>
  intro A;have a:=p Z;have⟨e,B,q,_,r⟩:=h.sf k ops[k] (Sj Z);have D:(G 0).Y=s0.Y+bW P ops:=by rw[h.ub]
  have s:∀x∈cf (es.take k) 0,s0.Y<=x.2.1/\x.2.1<(G k).Y:=fun x t=>by
   have⟨j,f,v,b⟩:=q0 t;have u:fh es j x.2.1 x.2.2:=⟨v,by
    rw[SF] at b;split at b
    ·exact b
    cases b⟩
   have:=h.fB u;have:=a.Y;omega
  have c:=fq.b3 a.W s (Se (cN (cZ ops []) k));have g:s0.Y<=(b3 (Se (cN (cZ ops []) k)) (G k) (cf (es.take k) 0)).Y:=by
   have:=c.Y;have:=a.Y;omega
  rw[r];rcases wi q with ⟨_,e⟩|⟨_,⟨_,i,e⟩|⟨E,H,i,w,K,e,_⟩|⟨_,i,w,e,y⟩⟩<;>subst e
  ·exact a
  ·exact a
  ·exact a
  refine a.a (c.a ?_);rcases y with l|⟨L,M,l,z⟩
  ·have⟨_,_,_,d⟩:=lf (ee.p _) c.W l;exact d.v8 g
  have⟨_,_,_,d⟩:=m _ _ _ _ _ _ _ (ee.p _) c.W z;exact d.v8 g
theorem iF.CP (h:iF P call ops f0 s0 es F G)(a:Si):∀b,a<=b->b<=ops.length->(∀x o,a<=x->x<b->ops[x]?=some o->c6 P o=false)->G b=G a:=by
 intro b
 induction b with
 |zero=>intro b _ _;rw[Tg.1 b]
 |succ b d=>
  intro c c c;by_cases e:a=b+1
  ·rw[e]
  have⟨f,g,a,_,e⟩:=h.sf b ops[b] (Sj Z);rw[e,<-d Z Z (fun x o d f e=>c x o d Z e)];rcases wi a with ⟨_,e⟩|⟨_,⟨_,a,d⟩|⟨a,a,a,a,a,f,_⟩|⟨a,_⟩⟩
  ·subst e;rfl
  ·subst d;rfl
  ·subst f;rfl
  rw[(c b _ Z Z (Sj (show b<ops.length from Z)))] at a;cases a
theorem iF.CQ (h:iF P call ops f0 s0 es F G){a b:Si}(d:a<=ops.length)(e:b<=ops.length)(c:∀x o,ops[x]?=some o->c6 P o=true->(x<a↔x<b)):G a=G b:=by
 rcases Nat.le_total a b with f|g
 ·refine(h.CP a b f e (fun x o i e f=> ?_)).symm;cases i:c6 P o with
  |false=>rfl
  |true=>have:=(c x o f i).2 e;omega
 refine h.CP b a g d (fun x o d a b=> ?_);cases d:c6 P o with
 |false=>rfl
 |true=>have:=(c x o b d).1 a;omega
theorem CR {f a:an}{d:Sm Tmp}{v:Sk}{t:Si}(h:fO f d v=some a)(b:d≠some t):a.N t=f.N t:=by
 unfold fO at h;split at h
 ·split at h
  ·injection h with h;subst h
   rename_i u _;simp only[an.N,an.u,a5.hp _ _ _ _ _ ((fun e=>b (by rw[e])):u≠t)]
  cases h
 injection h with h;subst h;rfl
theorem CS {f a:an}{v:Sk}{t:Si}(h:fO f (some t) v=some a)(_:f.e<=16000000):a.N t=v:=by
 unfold fO at h;simp only at h;split at h
 ·rename_i b;have c:t<f.e:=by simpa [Sx] using b
  injection h with h;subst h
  simp only[an.N,an.u,a5.gR _ _ _ _ (hq (show 0<16000001 from Z))]
 cases h
theorem MH {f g a:an}{d:Sm Tmp}{v:Sk}(h:fO f d v=some a)(b:g.e=f.e):∃c,fO g d v=some c:=by
 unfold fO at*;cases d with
 |none=>exact⟨g,rfl⟩
 |some t=>
  simp only at h|-
  rw[b];split at h
  ·rename_i e;rw[Sp e];exact⟨_,rfl⟩
  cases h
theorem iF.CT (h:iF P call ops f0 s0 es F G):∀k,k<=ops.length->(F k).e=f0.e:=by
 intro a
 induction a with
 |zero=>intro _;rw[h.ua]
 |succ a b=>
  intro c;have⟨e,_,_,c,_⟩:=h.sf a ops[a] (Sj Z);rw[CG c];exact b Z
theorem iF.CU (h:iF P call ops f0 s0 es F G)(t a:Si):∀b,a<=b->b<=ops.length->(∀x o,a<=x->x<b->ops[x]?=some o->o.dst≠some t)->(F b).N t=(F a).N t:=by
 intro b
 induction b with
 |zero=>intro b _ _;rw[Tg.1 b]
 |succ b d=>
  intro c c c;by_cases e:a=b+1
  ·rw[e]
  have⟨e,f,_,a,_⟩:=h.sf b ops[b] (Sj Z);rw[CR a (c b _ Z Z (Sj (show b<ops.length from Z)))];exact d Z Z (fun x o a d b=>c x o a Z b)
theorem wj (h:m3 P ops=true){y:Si}{o:Su}(a:ops[y]?=some o){e:Edge}(b:e∈o.after.toList)(c:Region.binds .any e=true):e.on<y:=by
 simp only[m3,SU,Sh] at h;have:=(h (o,y) (by rw[Sv];simpa using a)).1 e b
 simpa [c,Sx] using this
theorem CV (h:m3 P ops=true){x y:Si}{a b:Su}(c:ops[x]?=some a)(d:ops[y]?=some b)(e:x<y)(f:oC P ops a b=true):Se (cN (cZ ops []) y) x=true:=by
 simp only[m3,SU,Sh] at h;have:=(h (b,y) (by rw[Sv];simpa using d)).2 (a,x) (by rw[Sv];simpa using c)
 simpa [(show SE x y=true by rw[Sx];exact e),f] using this
def sg (a:Sl Su)(L:Si->Prop):Prop:=∀y o,a[y]?=some o->L y->∀e∈o.after.toList,Region.binds .any e=true->L e.on
theorem q2 (h:m3 P ops=true){L:Si->Prop}(i:sg ops L):∀y o,ops[y]?=some o->(∀e∈o.after.toList,Region.binds .any e=true->L e.on)->∀x,Se (cN (cZ ops []) y) x=true->L x:=by
 intro y
 induction y using S7 with
 |ind y j=>
  intro o b k x a;have⟨e,c,d⟩:=CF ops [] y o b;simp only[List.length_nil,SK] at c d;rw[d] at a;rcases CE a with g|⟨e,d,f,a⟩
  ·simp at g
  have g:=wj h b d f;have h:=k e d f;rcases a with rfl|a
  ·exact h
  rw[c _ g] at a;have c:=(So.1 b).1;have b:ops[e.on]?=some ops[e.on]:=Sj (show e.on<ops.length from Z);exact j e.on g _ b (i _ _ b h) x a
theorem MI (h:m3 P ops=true){y:Si}{o:Su}(a:ops[y]?=some o){x:Si}(b:Se (cN (cZ ops []) y) x=true):x<y:=
 q2 h (L:=fun c=>c<y) (fun _ _ c d _ e f=>Nat.lt_trans (wj h c e f) d) y o a (fun _ c d=>wj h a c d) x b
theorem y9 (h:m3 P ops=true){L:Si->Prop}(c:sg ops L){i:Si}{o:Su}(d:ops[i]?=some o)(f:¬L i)(j:∀e∈o.after.toList,Region.binds .any e=true->L e.on)
  {x:Si} {a:Su} (b:ops[x]?=some a) (k:x<i->oC P ops a o=true) (l:i<x->oC P ops o a=true):x<i↔L x:=by
 rcases S2 x i with e|m|g
 ·exact⟨fun _=>q2 h c i o d j x (CV h b d e (k e)),fun _=>e⟩
 ·subst m;exact⟨fun e=>Sw e (Nat.lt_irrefl _),fun e=>Sw e f⟩
 exact⟨fun e=>Z,fun e=>Sw (q2 h c x a b (c x a b e) i (CV h d b g (l g))) f⟩
def ud (P:Sg)(d:Si)(e:aC)(f:Act)(a:Sl Su)(b:Sl cc)(F:Si->an)(G:Si->J)(L:Si->Prop)(c:Act)(w:Sz):Prop:=
 ∃(S:aC) (g:an) (p:Si),S.k=w/\bH d e S/\eN S g c/\c.defers=f.defers/\g.e=(F 0).e/\p<=a.length/\(∀x o,a[x]?=some o->c6 P o=true->(x<p↔L x))/\gx b (G p) L S.h/\
  (∀j i c,fh b j i c->¬L j->S.h.i.N i=none)/\(∀i,i<=a.length->∀t:Si,(∀x o,a[x]?=some o->o.dst=some t->(x<i↔L x))->g.N t=(F i).N t)
theorem za {l:Sl Si}{d:Sm Tmp}{t:Si}(a:d=some t)(b:t∈l):r6 l d=true:=by
 subst a;simp only[r6,List.any_eq_true];exact⟨t,b,Nat.beq_refl t⟩
theorem MJ (h:iF P call ops f0 s0 es F G)(K:m3 P ops=true)(W6:mw call){W7:Si->Sz->Prop}(X0:se P W7 call){R:Si}{W8:aC}{Xg:Act}(X1:dx s0)(X2:qZ W7)(X3:W7 R W8.k){L y:Si->Prop}(M:sg ops L){U:Act}{WG:Sz}(X4:ud P R W8 Xg ops es F G L U WG)
  {i:Si} {o:Su} (l:ops[i]?=some o) (WH:¬L i) (WC:∀g∈o.after.toList,Region.binds .any g=true->L g.on) (s:∀j,y j↔j=i\/L j) {WQ:Act->Sz->Prop} {X5:Exit->Act->Sz->Prop}
  (X6:∀U WG,ud P R W8 Xg ops es F G y U WG->WQ U WG):wpOp P ops.toArray X5 i WQ U WG:=by
 obtain⟨S,WI,p,rfl,u,W,X7,Xh,WD,WR,D,WJ,Xi⟩:=X4;have⟨WS,W9,X8,Xa,Xj⟩:=h.sf i o l;have Yq:i<ops.length:=(So.1 l).1;have WT:WI.e=(F i).e:=by rw[Xh,h.ua,h.CT i Z]
 have⟨WU,WK⟩:=MH Xa WT;have Xk:=W.pJ;have WL:=h.CO W6 X1 p WD;have Yr:(G 0).Y=s0.Y+bW P ops:=by rw[h.ub]
 have X:∀j k d,fh es j k d->k<(G p).Y:=fun j k d b=>bq ((h.fB b).2) WL.Y
 have Xl:∀t:Si,t∈r5 ops o->WI.N t=(F i).N t:=fun t O=>Xi i Z t (fun x c a E=>y9 K M l WH WC a
  (fun _=>by simp only[oC,za E O,S3,SW])
  (fun _=>by simp only[oC,za E O,S3,SW]))
 have X9:∀t:Si,Operand.tmp t∈o.op.operands.toList->(F i).N t=WI.N t:=fun t O=>(Xl t (by
  simp only[r5,S5,List.mem_filterMap];exact .inl ⟨_,O,rfl⟩)).symm
 have WV:∀WW,a4 P o (F i) WW=a4 P o WI WW:=fun WW=>Mw WT.symm X9 WW
 have Ya:∀Wy,Wy<=ops.length->∀t:Si,(∀x c,ops[x]?=some c->c.dst=some t->(x<Wy↔y x))->WU.N t=(F Wy).N t:=by
  intro Wy Xm t O;by_cases E:o.dst=some t
  ·have Ys:i<Wy:=(O i o l E).2 ((s i).2 (.inl rfl));rw[(show WU.N t=WS.a8 by rw[E] at WK;exact CS WK Xk),<-(show(F (i+1)).N t=WS.a8 by rw[E] at Xa;exact CS Xa (by rw[<-WT];exact Xk))];refine(h.CU t (i+1) Wy Z Xm (fun x c Yt Yb Xn Xo=> ?_)).symm;have Yc:L x:=by
    rcases(s x).1 ((O x c Xn Xo).1 Yb) with g|z
    ·omega
    exact z
   have:=(y9 K M l WH WC Xn (fun _=>Z) (fun _=>by
    have:r6 o.dst.toList c.dst=true:=za Xo (by rw[E];simp);simp only[oC,this,S3])).2 Yc
   omega
  rw[CR WK E];refine Xi Wy Xm t (fun x c a Xp=> ?_);rw[O x c a Xp,s x];have:x≠i:=fun g=>by subst g;rw[l] at a;injection a with a;subst a;exact E Xp
  simp[this]
 have WM:∀(T:aC) (e:Sk) (WN:Si),bH R S T->aX T WS.a8 e->WN<=ops.length->(∀x c,ops[x]?=some c->c6 P c=true->(x<WN↔y x))->gx es (G WN) y T.h->
   (∀j k d,fh es j k d->¬y j->T.h.i.N k=none)->WQ (U.put o.dst e) T.k:=by
  intro T e WN q m Yd Ye Yf WX;exact X6 _ _ ⟨T,WU,WN,rfl,u.a q,(W.b q.gv).u m WK,(wg _ _ _).trans X7,(show WU.e=(F 0).e by rw[CG WK,Xh]),Yd,Ye,Yf,WX,Ya⟩
 have Xb:c6 P o=false->∀x c,ops[x]?=some c->c6 P c=true->(x<p↔y x):=fun A x c a f=>by
  rw[WR x c a f,s x];have:x≠i:=fun g=>by subst g;rw[l] at a;injection a with a;subst a;rw[A] at f;cases f
  simp[this]
 have Xq:c6 P o=true->∀x c,ops[x]?=some c->c6 P c=true->(x<i↔L x):=fun A x c a f=>y9 K M l WH WC a
  (fun _=>by simp only[oC,f,A,Tb,SW]) (fun _=>by simp only[oC,f,A,Tb,SW])
 have Xr:c6 P o=true->∀x c,ops[x]?=some c->c6 P c=true->(x<i+1↔y x):=fun A x c a f=>by
  rw[s x,<-Xq A x c a f];omega
 have Xs:c6 P o=true->G p=G i:=fun A=>h.CQ WD Z (fun x c a f=>by rw[WR x c a f,Xq A x c a f])
 have Xc:(∀v k d,WS≠ .hP v k d)->∀j k d,fh es j k d->(y j↔L j):=fun A j k d b=>by
  rw[s j];have:j≠i:=fun g=>by
   subst g;have⟨v,b⟩:=b;rw[W9] at b;injection b with b
   exact A _ _ _ b
  simp[this]
 unfold wpOp;simp only[(show ops.toArray[i]?=some o by rw[Sy];exact l)];rw[<-CK W,(Mx WT Xl:ff ops o WI=ff ops o (F i))];rcases wi X8 with ⟨Xd,rfl⟩|⟨Xd,WY⟩
 ·rw[SH (by rw[Xd];simp)];have Xt:=Xc (fun _ _ _=>aA);have WX:∀j k d,fh es j k d->¬y j->S.h.i.N k=none:=fun j k d b z=>WJ j k d b (fun Wz=>z ((s j).2 (.inr Wz)))
  cases WE:c6 P o with
  |false=>exact WM S undef p (bH.p u.fQ) (aX.pH S) WD (Xb WE) (D.tZ Xt) WX
  |true=>
   refine WM S undef (i+1) (bH.p u.fQ) (aX.pH S) Z (Xr WE) ?_ WX;have:G (i+1)=G p:=by rw[Xj,Xs WE];rfl
   rw[this];exact D.tZ Xt
 rw[Sp Xd];refine .inl ?_;rcases WY with ⟨WZ,v,rfl⟩|⟨WZ,Xu,v,W0,d,rfl,Q,WO⟩|⟨WE,v,W0,rfl,WY⟩
 ·have⟨t,Q⟩:=h.oH i o v p l W9 WD (fun x c a f WO=>(WR x c a f).2 (q2 K M i o l WC x WO)) (fun x c a f Yg=>by
   cases WO:Se (cN (cZ ops []) x) i with
   |false=>rfl
   |true=>exact Sw (q2 K M x c a (M x c a ((WR x c a f).1 Yg)) i WO) WH)
  have WA:∀x∈cf es 0,s0.Y<=x.2.1/\x.2.1<(G p).Y:=fun x a=>by
   have⟨j,_,b⟩:=q0 a;exact⟨(h.fB b).1,X _ _ _ b⟩
  have W1:gx es (G p) (fun j=>Se (cN (cZ ops []) i) j=true) (b3 (Se (cN (cZ ops []) i)) (G p) (cf es 0)):=y8 (fun x a=>bq ((WA x a).2) WL.W.bE)
   (fun j k d b _=>by have:=wh (a:=0) b;simpa using this) (fun x a=>by have⟨j,WB,b⟩:=q0 a;rw[show x.1=j from Z];exact b) h.uc
  have⟨w,B,_,_⟩:=lf (W1.CM X D (fun j WB=>q2 K M i o l WC j WB)) (fq.b3 WL.W WA (Se (cN (cZ ops []) i))).W Q;rw[WV] at B;have⟨Yu,g,e,m,r⟩:=Cq u.fQ W WZ _ B;injection g with Yh cS;subst Yh;unfold Oper.wp;rw[r];exact WM S e p (bH.p u.fQ) m WD (Xb (show c6 P o=false by simp[c6,WZ])) (D.tZ (Xc (fun _ _ _=>aA))) (fun j k d b z=>WJ j k d b (fun Wz=>z ((s j).2 (.inr Wz))))
 ·have b:fh es i (s0.Y+bW P (ops.take i)) d:=⟨v,W9⟩;have Xv:=WJ _ _ _ b WH;have Xw:s0.Y+bW P (ops.take i)<S.h.Y:=by rw[D.Y];exact X _ _ _ b
  rw[WV] at Q;have⟨T,e,Xx,m,q,r⟩:=My u.fQ W Xu ⟨Xv,Xw,Sn _,(u.fQ.bE),.inl Xw⟩ Q WO;unfold Oper.wp;rw[r];refine WM T e p q m WD (Xb (show c6 P o=false by simp[c6,WZ,Xu])) ?_ ?_
  ·rw[Xx];exact D.u b Xv Z h.uc s
  intro j k Yi Xy z;rw[Xx];have Yj:s0.Y+bW P (ops.take i)≠k:=fun g=>by
   subst g;exact((fun g=>z ((s j).2 (.inl g))):j≠i) (h.uc _ _ _ _ _ Xy b).1
  rw[J.gS _ _ _ _ Yj];exact WJ j k Yi Xy (fun Wz=>z ((s j).2 (.inr Wz)))
 have WA:∀x∈cf (es.take i) 0,fh es x.1 x.2.1 x.2.2:=fun x a=>by
  have⟨j,WB,v,b⟩:=q0 a;rw[show x.1=j from Z];refine⟨v,?_⟩;rw[SF] at b;split at b
  ·exact b
  cases b
 have Xe:=fq.b3 WL.W (fun x a=>⟨(h.fB (WA x a)).1,X _ _ _ (WA x a)⟩) (Se (cN (cZ ops []) i));have W1:gx es (G p) (fun j=>Se (cN (cZ ops []) i) j=true) (b3 (Se (cN (cZ ops []) i)) (G p) (cf (es.take i) 0)):=y8 (fun x a=>bq (X _ _ _ (WA x a)) WL.W.bE)
  (fun j k d b WB=>by
   have:fh (es.take i) j k d:=by
    have⟨v,b⟩:=b;exact⟨v,by rw[SF,Sp (MI K l WB)];exact b⟩
   have:=wh (a:=0) this;simpa using this) WA h.uc
 have Xf:=W1.CM X D (fun j WB=>q2 K M i o l WC j WB);have Xz:=u.fQ.W;rw[<-(Xs WE)] at WY;have W2:∀(T:aC) (e:Sk) (w:J),ee w T.h->bL W0 w (q1 (b3 (Se (cN (cZ ops []) i)) (G p) (cf (es.take i) 0)) S.h)->ca (b3 (Se (cN (cZ ops []) i)) (G p) (cf (es.take i) 0)) W0->ca S.h w->aX T v e->bH R S T->WQ (U.put o.dst e) T.k:=by
  intro T e w H W3 W4 W5 m q;refine WM T e (i+1) q m Z (Xr WE) ?_ ?_
  ·rw[(show G (i+1)=W0 by rw[Xj];rfl)];exact((W1.fg D W3 W4).oH H).tZ (Xc (fun _ _ _=>aA))
  intro j k d b z;rw[H.N k];exact W5.iZ k (by rw[D.Y];exact X _ _ _ b) (WJ j k d b (fun Wz=>z ((s j).2 (.inr Wz))))
 rcases WY with Q|⟨Yk,Yl,Q,Ym⟩
 ·have⟨w,B,W3,W4⟩:=lf Xf Xe.W Q;have⟨_,_,_,W5⟩:=lf (ee.p _) Xz B;rw[WV] at B;have⟨T,e,H,m,q,r⟩:=vZ u.fQ W _ B;unfold Oper.wp;rcases r with r|⟨r,rfl⟩
  ·rw[r];exact W2 T e w (by rw[H];exact ee.p _) W3 W4 W5 m q
  rw[r];exact W2 T undef w (by rw[H];exact ee.p _) W3 W4 W5 m q
 have B:=lf Xf Xe.W Q;simp only[qW] at B;rw[WV] at B;have⟨w,XW,XX,XY⟩:=W6 _ _ _ _ _ _ _ Xf Xe.W Ym;have⟨_,_,_,XZ⟩:=W6 _ _ _ _ _ _ _ (ee.p _) Xz XW;have⟨Yn,Yo,f⟩:=vZ u.fQ W _ B;unfold Oper.wp;rw[f];rcases X0 Yk R S S.h Yl v w (ee.p _) u.fQ (X2 R _ _ u.eV X3) XW Yn Yo with ⟨r,Yp⟩|⟨T,e,r,H,m,q⟩
 ·rw[r];refine Calls.mono Yp ?_;rintro g Yv ⟨T,e,H,rfl,rfl,m,q⟩;exact W2 T e w H XX XY XZ m q
 rw[r];exact W2 T e w H XX XY XZ m q
end
def my (a:SN SS):Si->Si
 |0=>0
 |n+1=>my a n+(if a.getD n true=true then 0 else 1)
theorem CW {a:SN SS}:∀{b:Si},my a b=0->∀j,j<b->a.getD j true=true
 |0,_,j,b=>Z
 |b+1,h,j,c=>by
  simp only[my] at h;by_cases c:j=b
  ·subst c;by_cases c:a.getD j true=true
   ·exact c
   rw[SH c] at h;omega
  exact CW (b:=b) Z j Z
theorem CX {b:SN SS}{i:Si}:∀{a:Si},a<=i->my (b.setIfInBounds i true) a=my b a
 |0,_=>rfl
 |a+1,h=>by
  simp only[my,CX (a:=a) (by omega:a<=i),getD_set_ne true (show i≠a from Z)]
theorem CY {a:SN SS}{i:Si}(c:i<a.size)(d:a.getD i true=false):∀{b:Si},i<b->my (a.setIfInBounds i true) b+1=my a b
 |0,h=>Z
 |b+1,h=>by
  simp only[my];by_cases e:i=b
  ·subst e;rw[CX (Sn _),d];have:(a.setIfInBounds i true).getD i true=true:=by simp[c]
   rw[this];simp
  have:=CY c d (b:=b) Z;rw[getD_set_ne true e];omega
theorem gx.MK {f:Sl cc}{T s g:J}{q:Si->Prop}(h:gx f T q s)(e:gx f T q g):ee s g:=by
 refine⟨by rw[h.Y,e.Y],(fun _ _ h=>by cases h),fun i=> ?_⟩;show g.i.N i=s.i.N i;cases a:T.i.N i with
 |some o=>rw[h.kj i o a,e.kj i o a]
 |none=>
  by_cases k:∃j b,fh f j i b/\q j
  ·have⟨j,b,c,d⟩:=k;rw[h.x i j b a c d,e.x i j b a c d]
  rw[h.iZ i a (fun j b c d=>k ⟨j,b,c,d⟩),e.iZ i a (fun j b c d=>k ⟨j,b,c,d⟩)]
def kG (a:SN SS)(j:Si):Prop:=a.getD j false=true
section
variable {P:Sg} {call:kF} {ops:Sl Su} {f0:an} {s0:J} {es:Sl cc} {F:Si->an} {G:Si->J}
theorem ML (h:iF P call ops f0 s0 es F G)(r:mw call)(s:dx s0){l:Si}{m:aC}{o:Act}{L:Si->Prop}{d:Act}{w:Sz}(u:ud P l m o ops es F G L d w)(e:∀j,j<ops.length->L j):
  ∃S,S.k=w/\bH l m S/\eN S (F ops.length) d/\d.defers=o.defers/\ee (b3 (fun _=>true) (G ops.length) (cf es 0)) S.h:=by
 obtain⟨S,v,y,rfl,z,f,A,B,D,E,p,X,H⟩:=u;have g:∀x (b:Su),ops[x]?=some b->x<ops.length:=fun x b a=>(So.1 a).1
 have q:=h.CO r s ops.length (Sn _);have Wy:(G 0).Y=s0.Y+bW P ops:=by rw[h.ub]
 have K:∀x∈cf es 0,0<16000001:=fun x a=>by
  have⟨j,_,c⟩:=q0 a;have:=(h.fB c).2;have:=q.Y;have:=q.W.bE;omega
 have M:gx es (G ops.length) (fun _=>true=true) (b3 (fun _=>true) (G ops.length) (cf es 0)):=y8 K (fun j O Q c _=>by have:=wh (a:=0) c;simpa using this)
  (fun x a=>by have⟨j,Wz,c⟩:=q0 a;rw[show x.1=j from Z];exact c) h.uc
 rw[(h.CQ D (Sn _) (fun x b a R=>by rw[E x b a R];exact⟨fun _=>g x b a,fun i=>e x i⟩):G y=G ops.length)] at p;refine⟨S,rfl,z,?_,A,M.MK (p.tZ (d:=fun _=>true=true) (fun j O Q c=>⟨fun _=>by have⟨T,U,_⟩:=h.hP c;exact e j (g j T U),fun _=>rfl⟩))⟩;have k:v.e=(F ops.length).e:=by rw[B,h.ua,h.CT _ (Sn _)]
 refine⟨by rw[<-k];exact f.e,by rw[<-k];exact f.pJ,fun t W=> ?_⟩;rw[<-H ops.length (Sn _) t (fun x b a _=>⟨fun i=>e x i,fun _=>g x b a⟩)];exact f.N t (by rw[k];exact W)
theorem MM (l:iF P call ops f0 s0 es F G)(m:m3 P ops=true)(o:mw call){e:Si->Sz->Prop}(v:se P e call)(p:dx s0)(x:qZ e){a:Si}{b:aC}(y:e a b.k){d:Act}{Q:Exit->Act->Sz->Prop}
  (q:∀T f,ee (b3 (fun _=>true) (G ops.length) (cf es 0)) T.h->bH a b T->eN T (F ops.length) f->f.defers=d.defers->Q .normal f T.k):
  ∀(g:Si) (c:SN SS) (h:Act) (w:Sz),c.size=ops.length->my c ops.length<=g->sg ops (kG c)->ud P a b d ops es F G (kG c) h w->wpAny P .any ops.toArray Q g c h w:=by
 have k:∀(c:SN SS) (e:Act) (w:Sz),ud P a b d ops es F G (kG c) e w->(∀j,j<ops.length->kG c j)->Q .normal e w:=by
  intro a a w b d;obtain⟨S,rfl,e,c,f,g⟩:=ML l o p b d;exact q S a g e c f
 have g:∀(a:SN SS) j,a.size=ops.length->j<ops.length->(a.getD j true=true↔kG a j):=by
  intro a j b b;have:j<a.size:=Z;simp[kG,this]
 have s:∀(a:SN SS),a.size=ops.length->Region.ready .any ops.toArray a=[]->∀j,j<ops.length->kG a j:=by
  intro a e q j
  induction j using S7 with
  |ind j r=>
   intro b;by_cases d:a.getD j true=true
   ·exact(g a j e b).1 d
   exfalso;have h:ops[j]?=some ops[j]:=Sj b;have:j∈Region.ready .any ops.toArray a:=mem_ready.2 ⟨by simpa using d,ops[j],by rw[Sy];exact h,fun e d f=>by
    have a:=wj m h (by simpa using d) f;exact r e.on a Z⟩
   rw[q] at this;cases this
 intro a
 induction a with
 |zero=>
  intro a r w b h h t;have h:∀j,j<ops.length->kG a j:=fun j q=>(g a j b q).1 (CW Z j q)
  refine⟨?_,k a r w t h⟩;cases q:Region.ready .any ops.toArray a with
  |nil=>rfl
  |cons j r=>
   have⟨r,t,c,_⟩:=mem_ready.1 (show j∈Region.ready .any ops.toArray a by rw[q];exact Sq ..);have q:j<ops.length:=by rw[Sy] at c;exact(So.1 c).1
   have:=(g a j b q).2 (h j q);rw[r] at this;cases this
 |succ a w=>
  intro b a j h q q r;refine⟨fun t=>k b a j r (s b h t),fun a j=> ?_⟩;have⟨s,k,c,t⟩:=mem_ready.1 j;have j:ops[a]?=some k:=by rw[Sy] at c;exact c
  have u:a<ops.length:=(So.1 j).1;have c:∀k,kG (b.setIfInBounds a true) k↔k=a\/kG b k:=by
   intro z;by_cases k:a=z
   ·subst k;have:a<b.size:=Z;simp[kG,this]
   unfold kG;rw[getD_set_ne false k];constructor
   ·exact fun z=> .inr z
   rintro (e|z)
   ·exact Sw e.symm k
   exact z
  refine MJ l m o v p x y q r j ((fun k=>by have:=(g b a h u).2 k;rw[s] at this;cases this):¬kG b a) (fun e d f=>t e (by simpa using d) f) c (fun g k l=> ?_);refine w _ g k (by simpa using h) ?_ ?_ l
  ·have:=CY (a:=b) (i:=a) Z s (b:=ops.length) u;omega
  intro y b a g e d f;rcases(c y).1 g with rfl|g
  ·rw[j] at a;injection a with a;subst a
   exact(c _).2 (.inr (t e (by simpa using d) f))
  exact(c _).2 (.inr (q y b a g e d f))
end
theorem bH.MN {j:Si}{S:aC}(h:bR j S)(n:Si)(k:0<=16000000):bH j S ⟨⟨S.h.i,S.h.Y+n⟩,S.l,S.k.drew⟩:=by
 have a:hr S ⟨⟨S.h.i,S.h.Y+n⟩,S.l,S.k.drew⟩:=⟨fun _ b c=>⟨b,c,Sn _,Sn _,rfl,fun _ _ _=>rfl⟩,fun _ d e=>⟨⟨d,e⟩,rfl⟩,fun _ l _ m o=>⟨l,m,o,rfl⟩⟩;refine⟨⟨k,fun i p q=>by have:=h.fB i p q;show i<S.h.Y+n;omega,h.bT,fun i b c r s t u=> ?_,h.br,fun v d e=> ?_,h.vK,h.hR,h.iX⟩,a,(Below.refl _ _).drew⟩
 ·have⟨w,f,g⟩:=h.mr i b c r s t u;exact⟨w,f,g.b a⟩
 have⟨f,x,y,g,z⟩:=h.cv v d e;exact⟨f,x,y,g,z.b a⟩
theorem MO {P:Sg}{k:kF}(u:mw k){l:Si->Sz->Prop}(E:se P l k)(F:qZ l)(m:P.follows .mixedOrders=true){G:Si}{a:SN Su}(H:m3 P a.toList=true){e:Si}{p v:an}{w q:J}{S:aC}{c:Act}
  {Q:Exit->Act->Sz->Prop} (y:ee w S.h) (z:bR e S) (K:l e S.k) (L:eN S p c) (M:lP P k a.toList p w=some (v,q)) (O:∀T d,ee q T.h->bH e S T->eN T v d->d.defers=c.defers->Q .normal d T.k):
  (Code.region G a true).wp P Q c S.k:=by
 have r:=z.W;have⟨WG,R,A,_⟩:=CB u y (y.W r) M;obtain⟨WH,WI,WJ,b,rfl,rfl⟩:=MG R;rw[(show a=a.toList.toArray by simp)];refine wp_region_any m ?_;have B:=bH.MN z (bW P a.toList) b.bE;have f:∀j,¬kG (SC a.toList.toArray.size false) j:=by
  intro j s;simp only[kG,Array.getD_eq_getD_getElem?,SR] at s;split at s<;>simp at s
 refine MM b H u E r F (a:=e) (b:=S) (d:=c) K (fun T d g t U W=>O T d ?_ t U W) _ _ c _ aA ?_ (fun X o _ Wy=>Sw Wy (f X)) ?_
 ·exact⟨by rw[g.Y,A.Y],(fun _ _ h=>by cases h),fun i=>by show T.h.i.N i=q.i.N i;rw[g.N i,A.N i]⟩
 ·have:∀n D,my (SC D false) n<=n:=by
   intro n D
   induction n with
   |zero=>exact Sn _
   |succ n WK=>simp only[my];split<;>omega
  have:=this a.toList.length a.toList.toArray.size
  simpa using this
 refine⟨_,p,0,rfl,B,L.b B.gv,rfl,by rw[b.ua],SM _,fun x o _ _=>⟨fun h=>Z,fun h=>Sw h (f x)⟩,?_,?_,?_⟩
 ·rw[b.ub];exact⟨rfl,fun i o h=>h,fun i j Wz _ _ h=>Sw h (f j),fun i h _=>h⟩
 ·intro j i Wz m _;have WL:=(b.fB m).1;show S.h.i.N i=none;cases WA:S.h.i.N i with
  |none=>rfl
  |some o=>have:=r.fB i o WA;omega
 intro i WB WC WD;rw[b.CU WC 0 i (SM _) WB (fun x o _ WE g t=>Sw ((WD x o g t).1 WE) (f x)),b.ua]
theorem MP {P:Sg}{L:kF}{D:Si->Sz->Prop}(W:se P D L)(M:qZ D)(E:Sl Su)(p:Si):∀(n:Sl Su) (z:an) (s:J) (S:aC) (j:an) (k:J) (c:Act) (Q:Exit->Act->Sz->Prop),
  jZ P L E n z s=some (j,k)->ee s S.h->bR p S->D p S.k->eN S z c->(∀T e,ee k T.h->bH p S T->eN T j e->e.defers=c.defers->Q .normal e T.k)->wpList P E.toArray Q n c S.k:=by
 intro n
 induction n with
 |nil=>
  intro z s S j k c Q a g h q i r;simp only[jZ] at a;injection a with a;injection a with X Wy;subst X;subst Wy
  exact r S c g (bH.p h) i rfl
 |cons A n F=>
  intro z s S j k c Q a g h q i r;simp only[jZ] at a;unfold wpList;rw[<-CK i];split at a
  ·rename_i G;rw[Sp G];refine .inl ?_;unfold Oper.wp;split at a
   ·rename_i H t K;split at a
    ·rename_i u v;have⟨WH,B,Wz,_⟩:=lf g (g.W h.W) K;obtain⟨T,d,rfl,l,b,f⟩:=vZ h i _ B;have O:=F u t T j k (c.put A.dst d) Q a Wz b.fQ (M _ _ _ b.eV q) ((i.b b.gv).u l v) (fun U e o m w x=>r U e o (b.a m) w (x.trans (wg _ _ _)));rcases f with f|⟨f,rfl⟩
     ·rw[f];exact O
     rw[f];exact O
    cases a
   ·rename_i m WA K;split at a
    ·rename_i H t WB;split at a
     ·rename_i u v;have B:=lf g (g.W h.W) K;simp only[qW] at B;have⟨WC,WD,WE⟩:=vZ h i _ B;rw[WE];have R:∀(T:aC) (d:Sk),ee t T.h->aX T H d->bH p S T->wpList P E.toArray Q n (c.put A.dst d) T.k:=by
       intro T d y l b;exact F u t T j k (c.put A.dst d) Q a y b.fQ (M _ _ _ b.eV q) ((i.b b.gv).u l v) (fun U e o m w x=>r U e o (b.a m) w (x.trans (wg _ _ _)))
      rcases W m p S s WA H t g h q WB WC WD with ⟨f,WG⟩|⟨T,d,f,y,l,b⟩
      ·rw[f];refine Calls.mono WG ?_;rintro o WI ⟨T,d,y,rfl,rfl,l,b⟩;exact R T d y l b
      rw[f];exact R T d y l b
     cases a
    cases a
   cases a
  rename_i G;rw[SH G];split at a
  ·rename_i u v;exact F u s S j k (c.put A.dst undef) Q a g h q (i.u (aX.pH S) v) (fun U e o m w x=>r U e o m w (x.trans (wg _ _ _)))
  cases a
theorem MQ {P:Sg}{b:kF}(u:mw b){g:Si->Sz->Prop}(k:se P g b)(l:qZ g)(v:P.follows .mixedOrders=true){m:Si}{a:SN Su}{d:SS}{c:Si}{f:an}{s:J}{S:aC}{h:an}{i:J}{e:Act}
  {Q:Exit->Act->Sz->Prop} (n:(match d with
   |false=>jZ P b a.toList a.toList f s
   |true=>lP P b a.toList f s)=some (h,i)) (w:j1 P (.region m a d)=true) (o:ee s S.h) (p:bR c S) (q:g c S.k) (r:eN S f e) (t:∀T j,ee i T.h->bH c S T->eN T h j->j.defers=e.defers->Q .normal j T.k):
  (Code.region m a d).wp P Q e S.k:=by
 cases d with
 |false=>
  refine wp_region_list ?_;have:=MP k l a.toList c a.toList f s S h i e Q n o p q r t
  simpa using this
 |true=>exact MO u k l v w o p q r n t
def wk:dw->Exit
 | .b2=> .normal
 | .bb a=> .exit a
 | .bF=> .ret
def zb (P:Sg)(d:Si->Sz->Prop)(h:Te->an->J->nH):Prop:=
 ∀(c:Te) (a:Si) (f:an) (s:J) (S:aC) (x:dw) (e:an) (g:J) (b:Act) (Q:Exit->Act->Sz->Prop),j1 P c=true->h c f s=some (x,e,g)->ee s S.h->bR a S->d a S.k->eN S f b->
  (∀T d,ee g T.h->bH a S T->eN T e d->d.defers=b.defers->Q (wk x) d T.k)->c.wp P Q b S.k
def CZ (P:Sg)(d:Si->Sz->Prop)(h:Te->an->J->nH)(n:Si):Prop:=
 ∀(c:Te) (a:Si) (f:an) (s:J) (S:aC) (x:dw) (e:an) (g:J) (b:Act) (Q:Exit->Act->Sz->Prop),j1 P c=true->h (.loop c) f s=some (x,e,g)->ee s S.h->bR a S->d a S.k->eN S f b->
  (∀T d,ee g T.h->bH a S T->eN T e d->d.defers=b.defers->Q (wk x) d T.k)->Code.rounds P c Q n b S.k
theorem C0:∀(a:Sl Sk) (t:a5 Sk) (i j:Si),0<=16000000->(tE t i a).N j=if i<=j/\j<i+a.length then some (a.getD (j-i) undef) else t.N j:=by
 intro a
 induction a with
 |nil=>intro t a j _;rw[tE,SH aA]
 |cons v r b=>
  intro t a j h;rw[tE,b _ _ _ Z];by_cases b:a+1<=j/\j<a+1+r.length
  ·rw[Sp b,Sp (by simp;omega),show j-a=(j-(a+1))+1 from Z,List.getD_cons_succ]
  rw[SH b];by_cases b:a=j
  ·subst b;rw[a5.gR _ _ _ _ (hq Z),Sp aA,Nat.sub_self,List.getD_cons_zero]
  rw[a5.hp _ _ _ _ _ b,SH (by simp;omega)]
theorem eN.dY {S:aC}{c:Func}{b:Sl Sk}{a:SN Sk}(d:bo S b a.toList)(e:b.length+(c.ntmps-b.length)<=16000000):
  eN S (m4 c b) {tmps:=a++SC (c.ntmps-a.size) undef,defers:=[]}:=by
 have f:b.length=a.size:=by have:=d.1;simpa using this
 refine⟨by simp[m4,f],e,fun t e=> ?_⟩;have e:(m4 c b).N t=if t<b.length then b.getD t undef else undef:=by
  simp only[m4,an.N,C0 b .al 0 t Z,SM,true_and,SK,Nat.sub_zero];by_cases h:t<b.length
  ·simp only[Sp h]
  simp only[SH h,a5.N]
 rw[e];by_cases h:t<b.length
 ·rw[Sp h];have e:(a++SC (c.ntmps-a.size) undef).getD t undef=a.toList.getD t undef:=by
   have b:t<a.size:=Z;simp[SY,b]
  rw[e];exact d.2 t h
 rw[SH h];have e:(a++SC (c.ntmps-a.size) undef).getD t undef=undef:=by
  have b:¬t<a.size:=Z;simp[SY,b,SR];by_cases b:t-a.size<c.ntmps-a.size
  ·rw[Sp b];rfl
  rw[SH b];rfl
 rw[e];exact aX.pH S
theorem MR {P:Sg}{p:Si}{S:aC}(q:bR p S){k:an}{b:Act}(m:eN S k b):∀{c:Sl ResultVar} {l:Sl Sk},gb P k S.h c=some l->
  ∃a,(c.mapM fun(r:ResultVar)=>(match r with| .tmp t=>pure (b.tmps.getD t undef)| .cell x t=>do loadVar t (<-asAddr (b.tmps.getD x undef)):Sem Sk)).run P S.k= .ok a S.k/\bo S l a:=by
 intro c
 induction c with
 |nil=>intro l h;simp only[gb] at h;obtain rfl:=Sf h;exact⟨[],aA,bo.al⟩
 |cons r c n=>
  intro l h;cases r with
  |tmp t=>
   simp only[gb] at h;split at h
   ·rename_i s;split at h
    ·rename_i u e;obtain rfl:=Sf h;have⟨a,f,g⟩:=n e;refine⟨b.tmps.getD t undef::a,?_,bo.ed (m.N t (by simpa [Sx] using s)) g⟩;rw[S9];simp only[Sem.run_bind,Sem.run_pure,SO,f]
    cases h
   cases h
  |cell x t=>
   simp only[gb] at h;split at h
   ·rename_i v;split at h
    ·rename_i B u d e;obtain rfl:=Sf h;have⟨a,f,g⟩:=n e;have i:=m.N x (by simpa [Sx] using v);have⟨w,j,y⟩:=BX q i d;unfold aD at d;split at d
     ·rename_i D E F z;rw[z] at i;have⟨A,o,_⟩:=i.qT;rw[o] at j;simp only[Instr.loadAt,Instr.sureAddr,pure_bind] at j;refine⟨w::a,?_,bo.ed y g⟩;rw[S9];simp only[(show asAddr (b.tmps.getD x undef)=pure A by rw[o];rfl),Sem.run_bind,Sem.run_pure,SO,j,f]
     cases d
    cases h
   cases h
def mz (P:Sg)(a:Si->Sz->Prop)(b:bg):Prop:=∀g p,b.M g=some p->we P a g p
theorem mz.al (P:Sg)(a:Si->Sz->Prop):mz P a []:=fun _ _ h=>by cases h
theorem C1 {P:Sg}{H:Si->Sz->Prop}{o:bg}{p:Te->an->J->nH}(R:∀g c,P.funcs[g]?=some c->r8 P o g c=true)(U:zb P H p){g:Tc}(K:o.M g=none)
  (h:Si) (S:aC) (s:J) (n:Sl Sk) (v:Sk) (e:J) (W:ee s S.h) (X:bR h S) (Wy:H h S.k) (a:ld P o p g n s=some (v,e)) (d:SN Sk) (Wz:bo S n d.toList):
  (∀w,(callFunc g d).run P w= .ok (.enter g d) w)/\Calls P g d S.k fun q r=>∃T b,ee e T.h/\T.k=r/\q= .returned b/\aX T v b/\bH h S T:=by
 unfold ld at a;rw[K] at a;simp only at a;split at a
 case h_2=>cases a
 rename_i c t;split at a
 case h_2=>cases a
 rename_i u y WA;have L:=R g c t;simp only[r8,Sh,S6,K,y,bne_iff_ne,ne_eq] at L;have⟨WB,WC⟩:=L;refine⟨fun w=> ?_,?_⟩
 ·simp[callFunc,t,WB,y]
 have WD:eN S (m4 c n) {tmps:=d++SC (c.ntmps-d.size) undef,defers:=[]}:=eN.dY Wz (by simpa [Nat.ble_eq] using WA);have M:∀(x:dw) (f:an) (l:Sl Sk),(x= .b2\/x= .bF)->p u (m4 c n) s=some (x,f,e)->gb P f e c.results.toList=some l->v=b6 l->
   Calls P g d S.k fun q r=>∃T b,ee e T.h/\T.k=r/\q= .returned b/\aX T v b/\bH h S T:=by
  intro x f l WE i j WG;refine calls_of_wp t y (U u h _ s S x f e _ _ (show j1 P u=true by simpa using WC) i W X Wy WD ?_);intro T O z A WH Q;have⟨B,WI,D⟩:=MR A.fQ WH (y2 z j);have WO:=D.1;have WJ:∃b,(results c O.tmps).run P T.k= .ok b T.k/\aX T v b:=by
   have WK:(results c O.tmps).run P T.k= .ok (if WQ:B.toArray.size=1 then B.toArray[0] else .tuple B.toArray) T.k:=by
    unfold results;rw[Array.mapM_eq_mapM_toList];simp only[Sem.run_bind,Sem.run_map];refine(congrArg (fun E=>Ta (Ta E _) _) WI).trans ?_;simp only[SO,Sem.run_pure]
   refine⟨_,WK,?_⟩;subst WG;cases l with
   |nil=>rw[D.qO];exact bo.m5 bo.al
   |cons WR E=>
    obtain⟨WS,WT,rfl,k,m⟩:=D.lQ;cases E with
    |nil=>
     rw[m.qO]
     simpa [b6] using k
    |cons WU WV=>
     obtain⟨WW,WX,rfl,WL,WM⟩:=m.lQ;have:=bo.m5 (bo.ed k (bo.ed WL WM))
     simpa [b6] using this
  have⟨b,k,m⟩:=WJ;rcases WE with rfl|rfl
  ·exact⟨Q,b,k,T,b,z,rfl,rfl,m,A⟩
  exact⟨Q,b,k,T,b,z,rfl,rfl,m,A⟩
 split at a
 ·rename_i f WN i;split at a
  ·rename_i l j;injection a with a;injection a with F G;subst F;subst G
   exact M .b2 f l (.inl rfl) i j rfl
  cases a
 ·rename_i f WN i;split at a
  ·rename_i l j;injection a with a;injection a with F G;subst F;subst G
   exact M .bF f l (.inr rfl) i j rfl
  cases a
 cases a
theorem MS {P:Sg}{b:Si->Sz->Prop}{a:bg}(m:mz P b a){c:Te->an->J->nH}(n:∀g d,P.funcs[g]?=some d->r8 P a g d=true)(o:zb P b c):se P b (ld P a c):=by
 intro g d S s e v f h i j b k l;cases c:a.M g with
 |some p=>
  unfold ld at b;rw[c] at b;exact m g p c d S s e v f h i j b k l
 |none=>exact .inl (C1 n o c d S s e v f h i j b k l)
theorem MT {P:Sg}{K:Si->Sz->Prop}(O:qZ K){E:bg}(WA:lU E)(WH:mz P K E)(WI:P.follows .mixedOrders=true)(WJ:∀G WB,P.funcs[G]?=some WB->r8 P E G WB=true):∀y,zb P K (ds P E y)/\CZ P K (ds P E y) y:=by
 intro y
 induction y with
 |zero=>exact⟨fun A j p s S x u v b Q _ h=>(by simp[ds] at h),fun A j p s S x u v b Q _ h=>(by simp[ds] at h)⟩
 |succ y WK=>
  have⟨w,WL⟩:=WK;have WC:CZ P K (ds P E (y+1)) (y+1):=by
   intro A j p s S x u v b Q c h f g k e i;simp only[ds,fg] at h;rw[rounds_succ];split at h
   ·rename_i B D q;exact w A j p s S .b2 B D b _ c q f g k e (fun T l m d n o=>WL A j B D T x u v l Q c h m d.fQ (O _ _ _ d.eV k) n (fun U R F G W X=>i U R F (d.a G) W (X.trans o)))
   rename_i q;refine w A j p s S x u v b _ c h f g k e (fun T l m d n o=> ?_);have Wy:x≠ .b2:=fun F=>q _ _ (by rw[<-F];exact h)
   have:=i T l m d n o;cases x with
   |b2=>exact Sw rfl Wy
   |bb H=>exact this
   |bF=>exact this
  refine⟨?_,WC⟩;intro A j p s S x u v b Q c h f g k e i;cases A with
  |loop A=>
   refine wp_loop_rounds (y+1) (WC A j p s S x u v b Q (by simpa [j1] using c) h f g k e i)
  |skip=>
   simp only[ds,fg] at h;injection h with h;injection h with r a;injection a with a t;subst r;subst a;subst t
   exact wp_skip (i S b f (bH.p g) e rfl)
  |label WM=>
   simp only[ds,fg] at h;injection h with h;injection h with r a;injection a with a t;subst r;subst a;subst t
   exact wp_label (i S b f (bH.p g) e rfl)
  |exit H=>
   simp only[ds,fg] at h;injection h with h;injection h with r a;injection a with a t;subst r;subst a;subst t
   exact wp_exit (i S b f (bH.p g) e rfl)
  |ret=>
   simp only[ds,fg] at h;injection h with h;injection h with r a;injection a with a t;subst r;subst a;subst t
   exact wp_ret (i S b f (bH.p g) e rfl)
  |region H WO WQ=>
   simp only[ds,fg] at h;split at h
   ·rename_i B D q;injection h with h;injection h with r a;injection a with a t;subst r;subst a;subst t
    exact MQ (CD WA (Mu WA y):mw (ld P E (ds P E y))) (MS WH WJ w) O WI q c f g k e i
   cases h
  |seq z M=>
   simp only[j1,Sh] at c;simp only[ds,fg] at h;refine wp_seq ?_;split at h
   ·rename_i B D q;exact w z j p s S .b2 B D b _ c.1 q f g k e (fun T l m d n o=>w M j B D T x u v l Q c.2 h m d.fQ (O _ _ _ d.eV k) n (fun U R F G W X=>i U R F (d.a G) W (X.trans o)))
   rename_i q;refine w z j p s S x u v b _ c.1 h f g k e (fun T l m d n o=> ?_);have Wy:x≠ .b2:=fun F=>q _ _ (by rw[<-F];exact h)
   have:=i T l m d n o;cases x with
   |b2=>exact Sw rfl Wy
   |bb H=>exact this
   |bF=>exact this
  |cond WD z M=>
   simp only[j1,Sh] at c;simp only[ds,fg] at h;split at h
   ·rename_i WR WN;have WE:=dt e WN;generalize WG:b.eval WD=WS at WE;cases WE;split at h
    ·exact wp_cond_true WG (w z j p s S x u v b Q c.1 h f g k e i)
    exact wp_cond_false WG (w M j p s S x u v b Q c.2 h f g k e i)
   cases h
  |block H z=>
   simp only[j1] at c;simp only[ds,fg] at h;refine wp_block ?_;split at h
   ·rename_i L B D q;split at h
    ·rename_i Wz;injection h with h;injection h with r a;injection a with a t;subst r;subst a;subst t
     refine w z j p s S (.bb L) B D b _ c q f g k e (fun T l m d n o=> ?_);simp only[wk,Exit.inBlock,(show L=H by simpa [Th] using Wz),Td];exact i T l m d n o
    rename_i Wz;injection h with h;injection h with r a;injection a with a t;subst r;subst a;subst t
    refine w z j p s S (.bb L) B D b _ c q f g k e (fun T l m d n o=> ?_);simp only[wk,Exit.inBlock,(show¬L=H by simpa [Th] using Wz),S0];exact i T l m d n o
   rename_i q;refine w z j p s S x u v b _ c h f g k e (fun T l m d n o=> ?_);have:=i T l m d n o;cases x with
   |b2=>exact this
   |bb L=>exact Sw h (q _ _ _)
   |bF=>exact this
  |scope z=>
   simp only[j1] at c;simp only[ds,fg] at h;refine wp_scope_straight (w z j p s S x u v b _ c h f g k e (fun T l m d n o=> ?_));have:=i T l m d n o;cases x<;>exact this
  |rangeFunc WD WT z M=>simp[ds,fg] at h
  |goto WM=>simp[ds,fg] at h
  |refuse WU=>simp[ds,fg] at h
theorem MU {P:Sg}{a:bg}(h:tF P a=true):P.follows .mixedOrders=true/\∀g b,P.funcs[g]?=some b->r8 P a g b=true:=by
 simp only[tF,Sh,SU] at h;refine⟨h.1,fun g a b=>h.2 (a,g) ?_⟩;rw[Sv]
 simpa using b
theorem MV {P:Sg}{b:Si->Sz->Prop}(i:qZ b){a:bg}(j:lU a)(k:mz P b a)(l:tF P a=true)(n:Si){g:Tc}(m:a.M g=none)
  (c:Si) (S:aC) (s:J) (d:Sl Sk) (v:Sk) (e:J) (o:ee s S.h) (p:bR c S) (q:b c S.k) (r:kz P a n g d s=some (v,e)) (f:SN Sk) (t:bo S d f.toList):
  Calls P g f S.k fun u w=>∃T h,ee e T.h/\T.k=w/\u= .returned h/\aX T v h/\bH c S T:=by
 have⟨b,a⟩:=MU l;exact(C1 a (MT i j k b a n).1 m c S s d v e o p q r f t).2
def aC.jA (w:Sz):aC:=⟨J.vF,⟨fun _ _=>(0,0),fun _=>0⟩,w⟩
theorem bR.jA (w:Sz):bR w.heap.size (aC.jA w):=by
 refine⟨Z,?_,?_,?_,?_,?_,?_,Sn _,?_⟩<;>intros<;>simp_all[aC.jA,J.vF,J.t,J.S,a5.N]
end Go.Cl