/-
 The clean machine, second part: frames, statements whose order is open, calls.
-/
import Derived.Test.YtdfjfncifneocaaGreatMcA
open Nat renaming testBit->ab,le_refl->a3,blt_eq->b4,blt->cd,eq_of_beq_eq_true->ch,zero_add->cx,zero_le->cB,le_trans->c0,lt_of_lt_of_le->c8,lt_trichotomy->dg,strongRecOn->dw,add_zero->ee,le_zero->eg,beq_eq->eh
open Option.some renaming inj->af,injEq->cc
open Go renaming Program->an,Value->aC,Oper->bw,World->b7,TypeId->cz,Operand->dA,FuncId->eb,Code->ed
open Bool renaming and_eq_true->ao,false_eq_true->cA,true_or->c5,or_true->dk,or_eq_true->dv,and_self->dT
open _root_ renaming Nat->av,List->aR,Option->aY,if_pos->bb,absurd->bA,if_neg->ck,Array->cD,Bool->cT,if_false->c9,if_true->ec
open List renaming getElem?_eq_getElem->ax,getElem?_eq_some_iff->a8,mem_cons_self->bk,mem_cons_of_mem->bl,getLastD_cons->bq,getElem?_cons_zero->bt,mem_zipIdx_iff_getElem?->bz,getElem?_toArray->b5,getElem?_cons_succ->ca,getElem?_take->cg,take_succ_cons->cp,mem_cons->cL,all_eq_true->cU,mem_append_right->c6,append_assoc->dc,length_cons->dr,mem_append->ds,mapM_cons->dK
open Array renaming toList_inj->b8,replicate->cb,toList_append->cm,getElem?_replicate->cM,getElem?_append->c7
open Go.Result renaming andThen_ok->cJ,andThen->dP
namespace Go.Cl
structure WF (s:au):Prop where
 room:0<=16000000
 bound:∀j o,s.heap.get j=some o->j<s.next
structure du (s s' :au) (X:av->aY AO):Prop where
 next:s'.next=s.next
 free:∀j o,X j=some o->s.heap.get j=none/\j<s.next
 get:∀j,s'.heap.get j=match X j with
  |some o=>some o
  |none=>s.heap.get j
structure bQ (s t:au):Prop where
 next:s.next<=t.next
 gone:∀j,j<s.next->s.heap.get j=none->t.heap.get j=none
 here:∀j,s.heap.get j≠none->t.heap.get j≠none
 wf:WF t
theorem bQ.refl {s:au}(h:WF s):bQ s s:=⟨a3 _,fun _ _ h=>h,fun _ h=>h,h⟩
theorem bQ.trans {s t u:au}(h:bQ s t)(k:bQ t u):bQ s u:=
 ⟨c0 h.next k.next,fun j hj hn=>k.gone j (c8 hj h.next) (h.gone j hj hn),fun j hj=>k.here j (h.here j hj),k.wf⟩
section
variable {s s' :au} {X:av->aY AO}
theorem du.same (h:du s s' X){j:av}{o:AO}(hj:s.heap.get j=some o):s'.heap.get j=some o:=by
 rw[h.get j];cases hx:X j with
 |none=>exact hj
 |some o' =>have:=(h.free j o' hx).1;rw[hj] at this;cases this
theorem du.eE (h:du s s' X){i:av}{b:kM}(hb:s.bL i=some b):s'.bL i=some b:=by
 unfold au.bL at*;split at hb
 ·rename_i b0 hg;rw[h.same hg];exact hb
 cases hb
theorem du.map (h:du s s' X){i:av}{es:aR (aC×aC)}(hb:s.fj i=some es):s'.fj i=some es:=by
 unfold au.fj at*;split at hb
 ·rename_i b0 hg;rw[h.same hg];exact hb
 cases hb
theorem du.cells (h:du s s' X){i off c n:av}{l:aR aC}(hc:s.dG i off c n=some l):s'.dG i off c n=some l:=by
 unfold au.dG at*;split at hc
 ·rename_i b hb;rw[h.eE hb];exact hc
 cases hc
theorem r9 {i:av}{b:kM}(hb:s.bL i=some b):s.heap.get i=some (.eE b):=by
 unfold au.bL at hb;split at hb
 ·rename_i b0 hg;rw[hg];rw[af hb]
 cases hb
theorem Mx {i:av}{es:aR (aC×aC)}(hb:s.fj i=some es):s.heap.get i=some (.map es):=by
 unfold au.fj at hb;split at hb
 ·rename_i b0 hg;rw[hg];rw[af hb]
 cases hb
theorem du.put (h:du s s' X)(hw:WF s){i:av}{o0 o:AO}(hi:s.heap.get i=some o0):du (s.put i o) (s'.put i o) X/\bQ s (s.put i o):=by
 have a7:=hw.bound i o0 hi;have hr:=hw.room;have hd:i+1<2^depth i:=deep (by omega);have hX:X i=none:=by
  cases hx:X i with
  |none=>rfl
  |some o' =>have:=(h.free i o' hx).1;rw[hi] at this;cases this
 refine⟨⟨h.next,fun j o1 hj=> ?_,fun j=> ?_⟩,⟨a3 _,fun j hj hn=> ?_,fun j hj=> ?_,hr,fun j o1 hj=> ?_⟩⟩
 ·have gD:i≠j:=fun e=>by rw[e] at hX;rw[hX] at hj;cases hj
  simp only[au.put,Tr.cK _ _ _ _ _ gD];exact h.free j o1 hj
 ·by_cases gD:i=j
  ·subst gD;simp only[au.put,Tr.bF _ _ _ _ hd,hX]
  simp only[au.put,Tr.cK _ _ _ _ _ gD];exact h.get j
 ·have gD:i≠j:=fun e=>by rw[e] at hi;rw[hi] at hn;cases hn
  simp only[au.put,Tr.cK _ _ _ _ _ gD];exact hn
 ·by_cases gD:i=j
  ·subst gD;simp[au.put,Tr.bF _ _ _ _ hd]
  simp only[au.put,Tr.cK _ _ _ _ _ gD];exact hj
 by_cases gD:i=j
 ·subst gD;exact a7
 simp only[au.put,Tr.cK _ _ _ _ _ gD] at hj;exact hw.bound j o1 hj
theorem du.new (h:du s s' X)(hw:WF s)(gw:s.room=true)(o:AO):du (s.new o) (s'.new o) X/\bQ s (s.new o):=by
 have a7:0<16000000:=by omega
 have hd:s.next+1<2^depth s.next:=deep (by omega);have hXn:X s.next=none:=by
  cases hx:X s.next with
  |none=>rfl
  |some o' =>have:=(h.free _ o' hx).2;omega
 refine⟨⟨by simp only[au.new,h.next],fun j o1 hj=> ?_,fun j=> ?_⟩,⟨by simp only[au.new];omega,fun j hj hn=> ?_,fun j hj=> ?_,by omega,fun j o1 hj=> ?_⟩⟩
 ·obtain⟨h1,h2⟩:=h.free j o1 hj;have gD:s.next≠j:=by omega
  refine⟨?_,by simp only[au.new];omega⟩;simp only[au.new,Tr.cK _ _ _ _ _ gD];exact h1
 ·by_cases gD:s.next=j
  ·subst gD;simp only[au.new,h.next,Tr.bF _ _ _ _ hd,hXn]
  simp only[au.new,h.next,Tr.cK _ _ _ _ _ gD];exact h.get j
 ·have gD:s.next≠j:=by omega
  simp only[au.new,Tr.cK _ _ _ _ _ gD];exact hn
 ·have gD:s.next≠j:=fun e=>by
   have:s.heap.get j=none:=by
    cases hg:s.heap.get j with
    |none=>rfl
    |some o1=>have:=hw.bound j o1 hg;omega
   exact hj this
  simp only[au.new,Tr.cK _ _ _ _ _ gD];exact hj
 by_cases gD:s.next=j
 ·subst gD;simp only[au.new];omega
 simp only[au.new,Tr.cK _ _ _ _ _ gD] at hj;have:=hw.bound j o1 hj;simp only[au.new];omega
theorem du.room (_:du s s' X):s'.room=s.room:=rfl
def Fr (s:au)(X:av->aY AO)(v:aC)(t:au)(r:aY (aC×au)):Prop:=∃t',r=some (v,t')/\du t t' X/\bQ s t
theorem GD (h:du s s' X)(hw:WF s){cs:aR aC}{mD:av}{v:aC}{t:au}(hn:iE s cs mD=some (v,t)):Fr s X v t (iE s' cs mD):=by
 unfold iE at*;rw[h.room,h.next];split at hn
 ·rename_i hr;injection hn with hn;injection hn with e1 e2;subst e1;subst e2
  rw[bb hr];exact⟨_,rfl,h.new hw hr _⟩
 cases hn
theorem j8 (h:du s s' X)(hw:WF s){cs:aR aC}{len mD:av}{v:aC}{t:au}(hn:a6 s cs len mD=some (v,t)):Fr s X v t (a6 s' cs len mD):=by
 unfold a6 at*;rw[h.room,h.next];split at hn
 ·rename_i hr;injection hn with hn;injection hn with e1 e2;subst e1;subst e2
  rw[bb hr];exact⟨_,rfl,h.new hw hr _⟩
 cases hn
theorem wT (h:du s s' X)(hw:WF s){i off c:av}{vs:aR aC}{t:au}(hs:s.storeAt i off c vs=some t):∃t',s'.storeAt i off c vs=some t' /\du t t' X/\bQ s t:=by
 unfold au.storeAt at*;split at hs
 ·rename_i b hb;rw[h.eE hb];simp only;split at hs
  ·rename_i hc;rw[bb hc];split at hs
   ·cases hs
   split at hs
   ·rename_i l hl;obtain rfl:=af hs;exact⟨_,rfl,h.put hw (r9 hb)⟩
   cases hs
  cases hs
 cases hs
theorem Qq {P:an}(h:du s s' X)(hw:WF s){ty:cz}{a v:aC}{t:au}(hs:fw P s ty a v=some t):∃t',fw P s' ty a v=some t' /\du t t' X/\bQ s t:=by
 unfold fw at*;split at hs
 ·split at hs
  ·rename_i hc;obtain rfl:=af hs;refine⟨s',?_,h,bQ.refl hw⟩;rw[bb hc]
  cases hs
 ·rename_i cE;split at hs
  ·rename_i hc;rw[bb hc];exact wT h hw hs
  cases hs
 cases hs
theorem C2 {P:an}(h:du s s' X)(hw:WF s){ty:cz}{n:av}{ps:aR (av×aC)}{v:aC}{t:au}(hn:bp P s ty n ps=some (v,t)):Fr s X v t (bp P s' ty n ps):=by
 unfold bp at*;split at hn
 ·split at hn
  ·split at hn
   ·rename_i hc;rw[bb hc];split at hn
    ·exact j8 h hw hn
    cases hn
   cases hn
  cases hn
 cases hn
theorem FN {P:an}(h:du s s' X)(hw:WF s){ty:cz}{x y v:aC}{t:au}(hn:dq P s ty x y=some (v,t)):Fr s X v t (dq P s' ty x y):=by
 unfold dq at*;split at hn
 ·split at hn
  ·split at hn
   ·rename_i hc;rw[bb hc];exact j8 h hw hn
   cases hn
  cases hn
 cases hn
theorem S6 {P:an}(h:du s s' X)(hw:WF s){a b:cz}{x v:aC}{t:au}(hc:ir P s a b x=some (v,t)):Fr s X v t (ir P s' a b x):=by
 unfold ir at*;split at hc
 ·injection hc with hc;injection hc with e1 e2;subst e1;subst e2;exact⟨_,rfl,h,bQ.refl hw⟩
 ·injection hc with hc;injection hc with e1 e2;subst e1;subst e2;exact⟨_,rfl,h,bQ.refl hw⟩
 ·split at hc
  ·rename_i hq;rw[bb hq];exact j8 h hw hc
  cases hc
 ·split at hc
  ·cases hc
  split at hc
  ·rename_i b0 hb;rw[h.eE hb];simp only;split at hc
   ·rename_i hq;rw[bb hq];injection hc with hc;injection hc with e1 e2;subst e1;subst e2
    exact⟨_,rfl,h.put hw (r9 hb)⟩
   cases hc
  cases hc
 ·split at hc
  ·rename_i hq;rw[bb hq];injection hc with hc;injection hc with e1 e2;subst e1;subst e2;exact⟨_,rfl,h,bQ.refl hw⟩
  cases hc
 ·split at hc
  ·rename_i hq;rw[bb hq];split at hc
   ·injection hc with hc;injection hc with e1 e2;subst e1;subst e2;exact⟨_,rfl,h,bQ.refl hw⟩
   split at hc
   ·rename_i l hl;rw[h.cells hl];simp only;split at hc
    ·injection hc with hc;injection hc with e1 e2;subst e1;subst e2;exact⟨_,rfl,h,bQ.refl hw⟩
    cases hc
   cases hc
  cases hc
 cases hc
theorem AF (h:du s s' X){z:av}{y:aC}{r:av×aR aC}(hs:dU s z y=some r):dU s' z y=some r:=by
 unfold dU at*;split at hs
 ·exact hs
 ·split at hs
  ·exact hs
  split at hs
  ·rename_i l hl;rw[h.cells hl];exact hs
  cases hs
 ·exact hs
 cases hs
theorem WM (h:du s s' X){z kH:av}{zv y:aC}{xd:TypeDesc}{r:av×aR aC}(hs:CB s z kH zv xd y=some r):CB s' z kH zv xd y=some r:=by
 unfold CB at*;split at hs
 ·exact hs
 exact AF h hs
theorem My {P:an}(h:du s s' X)(hw:WF s){st xt:cz}{x y v:aC}{t:au}(ha:eT P s st xt x y=some (v,t)):Fr s X v t (eT P s' st xt x y):=by
 unfold eT at*;split at ha
 case h_2=>cases ha
 split at ha
 case h_1=>cases ha
 split at ha
 case h_2=>cases ha
 split at ha
 case h_2=>cases ha
 rename_i n new Ik;rw[WM h Ik];simp only;split at ha
 case h_2=>cases ha
 split at ha
 case isFalse=>cases ha
 rename_i hc;rw[bb hc];split at ha
 ·injection ha with ha;injection ha with e1 e2;subst e1;subst e2;exact⟨_,rfl,h,bQ.refl hw⟩
 split at ha
 ·split at ha
  ·rename_i hq;rw[bb hq];exact j8 h hw ha
  cases ha
 ·split at ha
  ·split at ha
   ·rename_i hq;rw[bb hq];exact j8 h hw ha
   cases ha
  split at ha
  case h_2=>cases ha
  rename_i b hb;rw[h.eE hb];simp only;split at ha
  case isFalse=>cases ha
  rename_i hq;rw[bb hq];split at ha
  ·rename_i Cg;rw[bb Cg];injection ha with ha;injection ha with e1 e2;subst e1;subst e2
   exact⟨_,rfl,h.put hw (r9 hb)⟩
  rename_i Cg;rw[ck Cg];split at ha
  ·rename_i old hl;rw[h.cells hl];simp only;obtain⟨h1,h2⟩:=h.put (o:= .eE (Cl.kill b)) hw (r9 hb);obtain⟨t',k1,k2,k3⟩:=j8 h1 h2.wf ha;exact⟨t',k1,k2,h2.trans k3⟩
  cases ha
 cases ha
theorem S7 {P:an}(h:du s s' X)(hw:WF s){dt:cz}{x y v:aC}{t:au}(ha:CC P s dt x y=some (v,t)):Fr s X v t (CC P s' dt x y):=by
 unfold CC at*;split at ha
 case h_2=>cases ha
 split at ha
 case h_2=>cases ha
 split at ha
 ·injection ha with ha;injection ha with e1 e2;subst e1;subst e2;exact⟨_,rfl,h,bQ.refl hw⟩
 split at ha
 case h_2=>cases ha
 rename_i k2 new i off hs;rw[AF h hs];simp only;split at ha
 case h_2=>cases ha
 rename_i u hk aF;injection ha with ha;injection ha with e1 e2;subst e1;subst e2
 obtain⟨t',k1,k2,k3⟩:=wT h hw aF;rw[hk,k1];exact⟨_,rfl,k2,k3⟩
theorem Qr {P:an}(h:du s s' X)(hw:WF s){ty:cz}{x v:aC}{t:au}(ha:zG P s ty x=some (v,t)):Fr s X v t (zG P s' ty x):=by
 unfold zG at*;split at ha
 ·injection ha with ha;injection ha with e1 e2;subst e1;subst e2;exact⟨_,rfl,h,bQ.refl hw⟩
 ·split at ha
  ·injection ha with ha;injection ha with e1 e2;subst e1;subst e2;exact⟨_,rfl,h,bQ.refl hw⟩
  split at ha
  case h_2=>cases ha
  rename_i m z zv hz qu;split at ha
  case isFalse=>cases ha
  rename_i hc;split at ha
  case h_2=>cases ha
  rename_i s1 aF;injection ha with ha;injection ha with e1 e2;subst e1;subst e2
  obtain⟨t',k1,k2,k3⟩:=wT h hw aF;rw[bb hc,k1];exact⟨_,rfl,k2,k3⟩
 cases ha
theorem FO {P:an}(h:du s s' X)(hw:WF s){ty:cz}{m k v:aC}{t:au}(hu:lM P s ty m k v=some t):∃t',lM P s' ty m k v=some t' /\du t t' X/\bQ s t:=by
 unfold lM at*;split at hu
 ·split at hu
  ·rename_i es he hk;rw[h.map he];simp only[hk];split at hu
   ·obtain rfl:=af hu;exact⟨_,rfl,h.put hw (Mx he)⟩
   cases hu
  cases hu
 cases hu
theorem J2 {P:an}(h:du s s' X){ty:cz}{a v:aC}(hl:aN P s ty a=some v):aN P s' ty a=some v:=by
 unfold aN at*;split at hl
 ·split at hl
  ·split at hl
   ·rename_i l hc;rw[h.cells hc];exact hl
   cases hl
  ·split at hl
   ·rename_i v0 r0 hc;rw[h.cells hc];exact hl
   cases hl
  cases hl
 cases hl
theorem J3 (h:du s s' X){i c z:av}(he:l5 s i c z=true):l5 s' i c z=true:=by
 unfold l5 at*;split at he
 ·rfl
 split at he
 ·rename_i b hb;rw[h.eE hb];exact he
 cases he
theorem Qs {P:an}(h:du s s' X){ty:cz}{x v:aC}{lo hi mx:aY aC}(hs:fa P s ty x lo hi mx=some v):fa P s' ty x lo hi mx=some v:=by
 unfold fa at*;split at hs
 ·exact hs
 ·split at hs
  ·split at hs
   ·rename_i hc;rw[bb hc];split at hs
    ·split at hs
     ·exact hs
     ·split at hs
      ·rename_i he;rw[bb (J3 h he)];exact hs
      cases hs
     cases hs
    split at hs
    ·split at hs
     ·rename_i j6;rw[bb j6];split at hs
      ·exact hs
      ·split at hs
       ·rename_i he;rw[bb (J3 h he)];exact hs
       cases hs
      cases hs
     cases hs
    cases hs
   cases hs
  cases hs
 ·split at hs
  ·rename_i l hh z b q1 q2 q3 hb;rw[q1,q2,q3,h.eE hb];exact hs
  cases hs
 cases hs
theorem WN {P:an}(h:du s s' X){ty:cz}{x v:aC}(hl:aQ P s ty x=some v):aQ P s' ty x=some v:=by
 unfold aQ at*;split at hl<;>try exact hl
 split at hl
 ·rename_i es he;rw[h.map he];exact hl
 cases hl
theorem Mz {P:an}(h:du s s' X){ty:cz}{m k v:aC}{ok:cT}(hl:rW P s ty m k ok=some v):rW P s' ty m k ok=some v:=by
 unfold rW at*;split at hl
 case h_2=>cases hl
 split at hl
 case h_2=>cases hl
 rename_i z hz hk;split at hl
 case isFalse=>cases hl
 rename_i hp;rw[bb hp];cases m<;>try (simp at hl;done)
 rename_i r;cases r with
 |none=>exact hl
 |some r=>
  simp only at hl|-
  cases he:s.fj r with
  |none=>rw[he] at hl;simp at hl
  |some es=>rw[h.map he];rw[he] at hl;exact hl
end
def MA (P:an)(o:bw)(f:aZ)(s s' :au)(X:av->aY AO):AR->Prop
 | .val v t=>∃t',cV P o f s' =some (.val v t')/\du t t' X/\bQ s t
 | .call g args=>cV P o f s' =some (.call g args)
theorem kN {s s' :au}{X:av->aY AO}(h:du s s' X)(hw:WF s){r r' :aY aC}(hr:∀v,r=some v->r' =some v){x:AR}(hx:qo s r=some x):
  ∃v t t',x= .val v t/\qo s' r' =some (.val v t')/\du t t' X/\bQ s t:=by
 cases r with
 |none=>simp[qo] at hx
 |some v=>
  simp only[qo] at hx;obtain rfl:=af hx;exact⟨v,s,s',rfl,by rw[hr v rfl];rfl,h,bQ.refl hw⟩
theorem tZ {s:au}{X:av->aY AO}{r r' :aY (aC×au)}(hr:∀v t,r=some (v,t)->Fr s X v t r'){x:AR}(hx:oU r=some x):
  ∃v t t',x= .val v t/\oU r' =some (.val v t')/\du t t' X/\bQ s t:=by
 cases r with
 |none=>simp[oU] at hx
 |some p=>
  obtain⟨v,t⟩:=p;simp only[oU] at hx;obtain rfl:=af hx;obtain⟨t',k1,k2,k3⟩:=hr v t rfl;exact⟨v,t,t',rfl,by rw[k1];rfl,k2,k3⟩
theorem S8 {s:au}{X:av->aY AO}{r r' :aY au}(hr:∀t,r=some t->∃t',r' =some t' /\du t t' X/\bQ s t){x:AR}(hx:Fk r=some x):
  ∃v t t',x= .val v t/\Fk r' =some (.val v t')/\du t t' X/\bQ s t:=by
 cases r with
 |none=>simp[Fk] at hx
 |some t=>
  simp only[Fk] at hx;obtain rfl:=af hx;obtain⟨t',k1,k2,k3⟩:=hr t rfl;exact⟨undef,t,t',rfl,by rw[k1];rfl,k2,k3⟩
theorem mK {P:an}{o:bw}{f:aZ}{s s' :au}{X:av->aY AO}(h:du s s' X)(hw:WF s){x:AR}(hx:cV P o f s=some x):MA P o f s s' X x:=by
 have fin:(∃v t t',x= .val v t/\cV P o f s' =some (.val v t')/\du t t' X/\bQ s t)->MA P o f s s' X x:=by
  rintro ⟨v,t,t',rfl,k1,k2,k3⟩;exact⟨t',k1,k2,k3⟩
 obtain⟨dst,op,type,pos,after,guard⟩:=o;cases op<;>(try simp only[cV] at hx fin|-)<;>(try (cases hx;done))
 case move y=>exact fin (kN h hw (fun v hv=>hv) hx)
 case assign y=>exact fin (kN h hw (fun v hv=>hv) hx)
 case pick c y z=>
  apply fin;split at hx
  ·rename_i t u v h1 h2 h3;obtain rfl:=af hx;exact⟨_,s,s',rfl,rfl,h,bQ.refl hw⟩
  cases hx
 case alloc e=>
  apply fin;split at hx
  ·split at hx
   ·rename_i hp;rw[bb hp];exact tZ (fun v t hv=>GD h hw hv) hx
   cases hx
  cases hx
 case box e y=>
  apply fin;split at hx
  ·exact tZ (fun v t hv=>GD h hw hv) hx
  cases hx
 case build t ps=>
  apply fin;split at hx
  ·exact kN h hw (fun v hv=>hv) hx
  cases hx
 case buildSlice t n ps=>
  apply fin;split at hx
  ·exact tZ (fun v t hv=>C2 h hw hv) hx
  cases hx
 case load t y=>
  apply fin;split at hx
  ·exact kN h hw (fun v hv=>J2 h hv) hx
  cases hx
 case store t y z=>
  apply fin;split at hx
  ·exact S8 (fun t ht=>Qq h hw ht) hx
  cases hx
 case nilCheck y=>
  apply fin;split at hx
  ·obtain rfl:=af hx;exact⟨_,s,s',rfl,rfl,h,bQ.refl hw⟩
  ·obtain rfl:=af hx;exact⟨_,s,s',rfl,rfl,h,bQ.refl hw⟩
  cases hx
 case binOp op t y z yt=>
  apply fin;split at hx
  ·exact kN h hw (fun v hv=>hv) hx
  cases hx
 case unOp op t y=>
  apply fin;split at hx
  ·exact kN h hw (fun v hv=>hv) hx
  cases hx
 case convert a b y=>
  apply fin;split at hx
  ·exact tZ (fun v t hv=>S6 h hw hv) hx
  cases hx
 case makeFunc fn ars bs=>
  cases fn<;>simp only at hx fin|- <;>try (cases hx;done)
  apply fin;split at hx
  ·obtain rfl:=af hx;exact⟨_,s,s',rfl,rfl,h,bQ.refl hw⟩
  cases hx
 case makeMap t r=>
  cases r with
  |some _=>simp at hx
  |none=>
   simp only at hx fin|-
   apply fin;rw[h.room,h.next];split at hx
   ·rename_i hr;rw[bb hr];obtain rfl:=af hx;obtain⟨h1,h2⟩:=h.new hw hr (.map []);exact⟨_,_,_,rfl,rfl,h1,h2⟩
   cases hx
 case makeSlice t y z=>
  apply fin;split at hx
  ·exact tZ (fun v t hv=>FN h hw hv) hx
  cases hx
 case makeInterface t y=>
  apply fin;split at hx
  ·cases hx
  ·obtain rfl:=af hx;exact⟨_,s,s',rfl,rfl,h,bQ.refl hw⟩
  cases hx
 case slice t y lo hi mx=>
  apply fin;split at hx
  ·exact kN h hw (fun v hv=>Qs h hv) hx
  cases hx
 case fieldAddr t y i=>
  apply fin;split at hx
  ·exact kN h hw (fun v hv=>hv) hx
  cases hx
 case field t y i=>
  apply fin;split at hx
  ·exact kN h hw (fun v hv=>hv) hx
  cases hx
 case indexAddr t y z=>
  apply fin;split at hx
  ·exact kN h hw (fun v hv=>hv) hx
  cases hx
 case index t y z=>
  apply fin;split at hx
  ·exact kN h hw (fun v hv=>hv) hx
  cases hx
 case lookup t y z ok=>
  apply fin;split at hx
  ·exact kN h hw (fun v hv=>Mz h hv) hx
  cases hx
 case mapUpdate t y z u=>
  apply fin;split at hx
  ·exact S8 (fun t ht=>FO h hw ht) hx
  cases hx
 case extract y i=>
  apply fin;split at hx
  ·exact kN h hw (fun v hv=>hv) hx
  cases hx
 case call c=>
  obtain⟨callee,args,ts⟩:=c;split at hx
  case h_2=>cases hx
  rename_i l hl;cases callee with
  |invoke y m=>cases hx
  |value y=>
   simp only at hx;split at hx
   ·rename_i g ars bs hy;obtain rfl:=af hx;simp only[MA,cV,hl,hy]
   cases hx
  |builtin b=>
   simp only[hl] at hx fin;apply fin;unfold jU at hx|-
   split at hx
   ·exact kN h hw (fun v hv=>WN h hv) hx
   ·exact tZ (fun v t hv=>My h hw hv) hx
   ·exact tZ (fun v t hv=>S7 h hw hv) hx
   ·exact tZ (fun v t hv=>Qr h hw hv) hx
   ·exact kN h hw (fun v hv=>hv) hx
   ·exact kN h hw (fun v hv=>hv) hx
   cases hx
abbrev Call:=eb->aR aC->au->aY (aC×au)
def om (call:Call):Prop:=∀(s s' :au) (X:av->aY AO) (g:eb) (args:aR aC) (v:aC) (t:au),du s s' X->WF s->call g args s=some (v,t)->∃t',call g args s' =some (v,t')/\du t t' X/\bQ s t
theorem Qt {P:an}{call:Call}(hc:om call)(all:aR bw):∀(l:aR bw) {f f1:aZ} {s s' t:au} {X:av->aY AO},du s s' X->WF s->jW P call all l f s=some (f1,t)->∃t',jW P call all l f s' =some (f1,t')/\du t t' X/\bQ s t:=by
 intro l
 induction l with
 |nil=>
  intro f f1 s s' t X h hw hr;simp only[jW] at hr;injection hr with hr;injection hr with e1 e2;subst e1;subst e2
  exact⟨s',rfl,h,bQ.refl hw⟩
 |cons o l ih=>
  intro f f1 s s' t X h hw hr;simp only[jW] at hr|-
  split at hr
  ·rename_i pV;rw[bb pV];split at hr
   ·rename_i v s1 er;obtain⟨t1,k1,k2,k3⟩:=mK h hw er;rw[k1];split at hr
    ·rename_i f2 hp;obtain⟨t',j1,j2,j3⟩:=ih k2 k3.wf hr;exact⟨t',by simp only[hp];exact j1,j2,k3.trans j3⟩
    cases hr
   ·rename_i g args er;have k1:=mK h hw er;simp only[MA] at k1;rw[k1];split at hr
    ·rename_i v s1 iz;obtain⟨t1,c1,c2,c3⟩:=hc _ _ _ _ _ _ _ h hw iz;split at hr
     ·rename_i f2 hp;obtain⟨t',j1,j2,j3⟩:=ih c2 c3.wf hr;exact⟨t',by simp only[c1,hp];exact j1,j2,c3.trans j3⟩
     cases hr
    cases hr
   cases hr
  rename_i pV;rw[ck pV];split at hr
  ·rename_i f2 hp;obtain⟨t',j1,j2,j3⟩:=ih h hw hr;exact⟨t',j1,j2,j3⟩
  cases hr
abbrev Made:=aR (av×av×kM)
def OM (p:av->cT):Made->av->aY AO
 |[],_=>none
 |(j,id,b)::r,i=>if p j=true/\id=i then some (.eE b) else OM p r i
theorem ym (p:av->cT):∀(ars:Made) (T:au),(∀x∈ars,0<16000001)->(fill p T ars).next=T.next/\∀i,(fill p T ars).heap.get i=match T.heap.get i with
  |some o=>some o
  |none=>OM p ars i:=by
 intro ars
 induction ars with
 |nil=>intro T _;refine⟨rfl,fun i=> ?_⟩;simp only[fill,OM];cases T.heap.get i<;>rfl
 |cons x r ih=>
  intro T hb;obtain⟨j,id,b⟩:=x;have fM:=hb (j,id,b) (bk ..);have hr:∀x∈r,0<16000001:=fun x hx=>hb x (bl _ hx)
  simp only[fill];split
  ·rename_i hp hg;obtain⟨h1,h2⟩:=ih (T.put id (.eE b)) hr;refine⟨h1,fun i=> ?_⟩;rw[h2 i];by_cases hi:id=i
   ·subst hi;simp only[au.put,Tr.bF _ _ _ _ (deep fM),hg,OM,hp,and_self,ec]
   rw[au.bo _ _ _ _ hi];simp only[OM,hi,and_false,c9]
  rename_i cE;obtain⟨h1,h2⟩:=ih T hr;refine⟨h1,fun i=> ?_⟩;rw[h2 i];cases hg:T.heap.get i with
  |some o=>rfl
  |none=>
   simp only[OM];split
   ·rename_i SU;obtain⟨hp,rfl⟩:=SU;exact bA hg (cE hp)
   rfl
theorem C3 {p:av->cT}:∀{ars:Made} {i:av},(∀x∈ars,x.2.1≠i)->OM p ars i=none
 |[],_,_=>rfl
 |(j,id,b)::r,i,h=>by
  have h1:=h (j,id,b) (bk ..);simp only[OM,ck (fun e=>h1 e.2:¬(p j=true/\id=i))];exact C3 (fun x hx=>h x (bl _ hx))
theorem yn {p:av->cT}:∀{ars:Made} {i:av} {o:AO},OM p ars i=some o->∃j b,(j,i,b)∈ars/\p j=true/\o= .eE b
 |[],_,_,h=>by cases h
 |(j,id,b)::r,i,o,h=>by
  simp only[OM] at h;split at h
  ·rename_i hp;obtain⟨hp,rfl⟩:=hp;injection h with h;exact⟨j,b,bk ..,hp,h.symm⟩
  obtain⟨j',b',h1,h2,h3⟩:=yn h;exact⟨j',b',bl _ h1,h2,h3⟩
theorem du.fill {T T' :au}{X:av->aY AO}(h:du T T' X)(hw:WF T){ars:Made}(fM:∀x∈ars,x.2.1<T.next/\X x.2.1=none)(p:av->cT):du (fill p T ars) (fill p T' ars) X:=by
 have hs:∀x∈ars,0<16000001:=fun x hx=>by have:=(fM x hx).1;have:=hw.room;omega
 obtain⟨n1,g1⟩:=ym p ars T hs;obtain⟨n2,g2⟩:=ym p ars T' hs;refine⟨by rw[n1,n2,h.next],fun j o hj=> ?_,fun j=> ?_⟩
 ·obtain⟨h1,h2⟩:=h.free j o hj;refine⟨?_,by rw[n1];exact h2⟩;rw[g1 j,h1];exact C3 fun x hx e=>by have:=(fM x hx).2;rw[e] at this;rw[hj] at this;cases this
 rw[g2 j,g1 j,h.get j];cases hx:X j with
 |some o=>rfl
 |none=>rfl
structure gO (B:av) (s t:au):Prop where
 next:s.next<=t.next
 gone:∀j,j<B->s.heap.get j=none->t.heap.get j=none
 here:∀j,s.heap.get j≠none->t.heap.get j≠none
 wf:WF t
theorem gO.trans {B:av}{s t u:au}(h:gO B s t)(k:gO B t u):gO B s u:=
 ⟨c0 h.next k.next,fun j hj hn=>k.gone j hj (h.gone j hj hn),fun j hj=>k.here j (h.here j hj),k.wf⟩
theorem gO.refl {B:av}{s:au}(h:WF s):gO B s s:=⟨a3 _,fun _ _ h=>h,fun _ h=>h,h⟩
theorem bQ.toB {B:av}{s t:au}(h:bQ s t)(hB:B<=s.next):gO B s t:=⟨h.next,fun j hj=>h.gone j (by omega),h.here,h.wf⟩
theorem gO.fill {B:av}{T:au}(hw:WF T){ars:Made}(fM:∀x∈ars,B<=x.2.1/\x.2.1<T.next)(p:av->cT):gO B T (fill p T ars):=by
 have hs:∀x∈ars,0<16000001:=fun x hx=>by have:=(fM x hx).2;have:=hw.room;omega
 obtain⟨n1,g1⟩:=ym p ars T hs;refine⟨by rw[n1];exact a3 _,fun j hj hn=> ?_,fun j hj=> ?_,⟨hw.room,fun j o hj=> ?_⟩⟩
 ·rw[g1 j,hn];exact C3 fun x hx e=>by have:=(fM x hx).1;omega
 ·rw[g1 j];cases hg:T.heap.get j with
  |none=>exact bA hg hj
  |some o=>simp
 rw[g1 j] at hj;rw[n1];cases hg:T.heap.get j with
 |some o=>exact hw.bound j o hg
 |none=>
  rw[hg] at hj;obtain⟨j',b,h1,_,_⟩:=yn hj;exact(fM _ h1).2
def EvR (X:av->aY AO)(B:av)(T:au):Ev->Ev->Prop
 | .skip,.skip=>True
 | .quiet v,.quiet u=>v=u
 | .made v i b,.made v' i' b' =>v=v' /\i=i' /\b=b'
 | .BH v s,.BH v' s' =>v=v' /\du s s' X/\gO B T s
 |_,_=>False
theorem Qu {P:an}{call:Call}(hc:om call){all:aR bw}{m id:av}{ars:Made}{o:bw}{f:aZ}{T T' :au}{X:av->aY AO}{B:av}{e:Ev}
  (h:du T T' X) (hw:WF T) (hB:B<=T.next) (fM:∀x∈ars,B<=x.2.1/\x.2.1<T.next/\X x.2.1=none) (hd:dH P call all m id ars o f T=some e):
  ∃e',dH P call all m id ars o f T' =some e' /\EvR X B T e e' :=by
 have hf:=h.fill hw (fun x hx=>(fM x hx).2) (ab m);have kf:=gO.fill (B:=B) hw (fun x hx=>⟨(fM x hx).1,(fM x hx).2.1⟩) (ab m);have hBn:B<=(fill (ab m) T ars).next:=c0 hB kf.next;unfold dH at*;split at hd
 ·injection hd with hd;subst hd;exact⟨.skip,rfl,trivial⟩
 split at hd
 ·rename_i hq;split at hd
  ·rename_i v t er;injection hd with hd;subst hd
   obtain⟨t',k1,_,_⟩:=mK hf kf.wf er;exact⟨.quiet v,by simp only[k1],rfl⟩
  cases hd
 ·exact⟨e,hd,by
   split at hd
   ·split at hd
    ·injection hd with hd;subst hd;exact⟨rfl,rfl,rfl⟩
    cases hd
   cases hd⟩
 split at hd
 ·rename_i v t er;injection hd with hd;subst hd
  obtain⟨t',k1,k2,k3⟩:=mK hf kf.wf er;exact⟨.BH v t',by simp only[k1],rfl,k2,kf.trans (k3.toB hBn)⟩
 ·rename_i g args er;have k1:=mK hf kf.wf er;simp only[MA] at k1;split at hd
  ·rename_i v t iz;injection hd with hd;subst hd
   obtain⟨t1,c1,c2,c3⟩:=hc _ _ _ _ _ _ _ hf kf.wf iz;exact⟨.BH v t1,by simp only[k1,c1],rfl,c2,kf.trans (c3.toB hBn)⟩
  cases hd
 cases hd
theorem EvR.val {X:av->aY AO}{B:av}{T:au}{e e' :Ev}(h:EvR X B T e e'):e'.val=e.val:=by
 cases e<;>cases e' <;>simp_all[EvR,Ev.val]
def EvS:Ev->Ev->Prop
 | .skip,.skip=>True
 | .quiet v,.quiet u=>v=u
 | .made v i b,.made v' i' b' =>v=v' /\i=i' /\b=b'
 | .BH v _,.BH v' _=>v=v'
 |_,_=>False
def EsS:aR Ev->aR Ev->Prop
 |[],[]=>True
 |e::r,e' ::r' =>EvS e e' /\EsS r r'
 |_,_=>False
def GF (X:av->aY AO)(B:av)(T:au):aR au->aR au->Prop
 |[],[]=>True
 |s::r,s' ::r' =>(du s s' X/\gO B T s)/\GF X B T r r'
 |_,_=>False
theorem GF.mono {X:av->aY AO}{B:av}{T U:au}(h:gO B T U):∀{l l' :aR au},GF X B U l l' ->GF X B T l l'
 |[],[],_=>trivial
 |_::_,_::_,⟨⟨h1,h2⟩,h3⟩=>⟨⟨h1,h.trans h2⟩,GF.mono h h3⟩
 |[],_::_,k=>k
 |_::_,[],k=>k
theorem GF.take {X:av->aY AO}{B:av}{T:au}:∀(n:av) {l l' :aR au},GF X B T l l' ->GF X B T (l.take n) (l'.take n)
 |0,_,_,_=>trivial
 |_+1,[],[],_=>trivial
 |n+1,_::_,_::_,⟨h1,h2⟩=>⟨h1,GF.take n h2⟩
 |_+1,[],_::_,k=>k
 |_+1,_::_,[],k=>k
theorem GF.drop {X:av->aY AO}{B:av}{T:au}:∀(n:av) {l l' :aR au},GF X B T l l' ->GF X B T (l.drop n) (l'.drop n)
 |0,_,_,h=>h
 |_+1,[],[],_=>trivial
 |n+1,_::_,_::_,⟨_,h2⟩=>GF.drop n h2
 |_+1,[],_::_,k=>k.elim
 |_+1,_::_,[],k=>k.elim
theorem GF.last {X:av->aY AO}{B:av}{T:au}:∀{l l' :aR au} {d d' :au},GF X B T l l' ->du d d' X->gO B T d->du (l.getLastD d) (l'.getLastD d') X/\gO B T (l.getLastD d)
 |[],[],_,_,_,h,k=>⟨h,k⟩
 |s::r,s' ::r',d,d',⟨h1,h2⟩,_,_=>by
  rw[bq,bq];exact GF.last h2 h1.1 h1.2
 |[],_::_,_,_,k,_,_=>k.elim
 |_::_,[],_,_,k,_,_=>k.elim
theorem MB {P:an}{call:Call}(hc:om call){all:aR bw}{X:av->aY AO}{B:av}(hX:∀j o,X j=some o->j<B):∀(ms:aR av) (ops:aR bw) (i id:av) (f:aZ) (T T' :au) (ars:Made) (es:aR Ev),
  du T T' X->WF T->B<=id->id+aO P ops<=T.next->(∀x∈ars,B<=x.2.1/\x.2.1<T.next)->cf P call all ms ops i id f T ars=some es->
  ∃hJ,cf P call all ms ops i id f T' ars=some hJ/\EsS es hJ/\GF X B T (aE P ops es T) (aE P ops hJ T')/\∀x∈madeOf es i,B<=x.2.1/\x.2.1<id+aO P ops:=by
 intro ms
 induction ms with
 |nil=>
  intro ops i id f T T' ars es h hw _ _ _ hd;cases ops<;>(simp only[cf] at hd|-;injection hd with hd;subst hd;exact⟨[],rfl,trivial,⟨⟨h,gO.refl hw⟩,trivial⟩,fun x hx=>by cases hx⟩)
 |cons m ms ih=>
  intro ops i id f T T' ars es h hw hB hn has hd;cases ops with
  |nil=>simp only[cf] at hd|-;injection hd with hd;subst hd;exact⟨[],rfl,trivial,⟨⟨h,gO.refl hw⟩,trivial⟩,fun x hx=>by cases hx⟩
  |cons o ops=>
   simp only[cf] at hd|-
   have hXn:∀k,B<=k->X k=none:=fun k hk=>by
    cases hx:X k with
    |none=>rfl
    |some o=>have:=hX k o hx;omega
   split at hd
   ·rename_i e he;split at hd
    ·rename_i f' hp;split at hd
     ·rename_i JK yp;injection hd with hd;subst hd
      have hBT:B<=T.next:=by omega
      obtain⟨e',Mh,hr⟩:=Qu hc h hw hBT (fun x hx=>⟨(has x hx).1,(has x hx).2,hXn _ (has x hx).1⟩) he;rw[Mh];simp only[hr.val,hp];have YN:∀v d b,e= .made v d b->d=id/\aJ P o=true:=by
       intro v d b hee;subst hee;unfold dH at he;split at he
       ·cases he
       split at he
       ·split at he<;>cases he
       ·rename_i _ ha;split at he
        ·split at he
         ·injection he with he;injection he with _ e2 _;exact⟨e2.symm,ha⟩
         cases he
        cases he
       split at he
       ·cases he
       ·split at he<;>cases he
       cases he
      have hal:aO P (o::ops)=if aJ P o then aO P ops+1 else aO P ops:=rfl
      have ua:B<=(if aJ P o then id+1 else id):=by split<;>omega
      have S9:(if aJ P o then id+1 else id)+aO P ops=id+aO P (o::ops):=by rw[hal];split<;>omega
      have fL:∀{x:av×av×kM},(B<=x.2.1/\x.2.1<(if aJ P o then id+1 else id)+aO P ops)->B<=x.2.1/\x.2.1<id+aO P (o::ops):=fun h=>⟨h.1,by rw[<-S9];exact h.2⟩
      cases e with
      |skip=>
       cases e' <;>try exact hr.elim
       obtain⟨hJ,j1,j2,j3,j4⟩:=ih ops (i+1) _ f' T T' ars JK h hw ua (by rw[S9];exact hn) has yp;simp only[j1];refine⟨_,rfl,⟨trivial,j2⟩,?_,fun x hx=>fL (j4 x hx)⟩;simp only[aE];split
       ·exact⟨⟨h,gO.refl hw⟩,j3⟩
       exact j3
      |quiet v=>
       cases e' <;>try exact hr.elim
       obtain⟨hJ,j1,j2,j3,j4⟩:=ih ops (i+1) _ f' T T' ars JK h hw ua (by rw[S9];exact hn) has yp;simp only[j1];refine⟨_,rfl,⟨hr,j2⟩,?_,fun x hx=>fL (j4 x hx)⟩;simp only[aE];split
       ·exact⟨⟨h,gO.refl hw⟩,j3⟩
       exact j3
      |made v d b=>
       cases e' <;>try exact hr.elim
       obtain⟨rfl,rfl,rfl⟩:=hr;obtain⟨rfl,ha⟩:=YN v d b rfl;have adD:d<d+aO P (o::ops):=by rw[hal,bb ha];omega
       have gM:B<=d/\d<T.next:=⟨hB,by omega⟩;obtain⟨hJ,j1,j2,j3,j4⟩:=ih ops (i+1) _ f' T T' (ars++[(i,d,b)]) JK h hw ua (by rw[S9];exact hn) (fun x hx=>by
        rcases ds.1 hx with h' |h'
        ·exact has x h'
        obtain rfl:=List.mem_singleton.1 h';exact gM) yp
       simp only[j1];refine⟨_,rfl,⟨⟨rfl,rfl,rfl⟩,j2⟩,?_,fun x hx=> ?_⟩
       ·simp only[aE];split
        ·exact⟨⟨h,gO.refl hw⟩,j3⟩
        exact j3
       simp only[madeOf] at hx;rcases cL.1 hx with rfl|hx
       ·exact⟨hB,adD⟩
       exact fL (j4 x hx)
      |BH v s=>
       cases e' <;>try exact hr.elim
       rename_i v' s';obtain⟨rfl,vK,fe⟩:=hr;have mf:T.next<=s.next:=fe.next;obtain⟨hJ,j1,j2,j3,j4⟩:=ih ops (i+1) _ f' s s' ars JK vK fe.wf ua (by rw[S9];omega) (fun x hx=>⟨(has x hx).1,by have:=(has x hx).2;omega⟩) yp;simp only[j1];refine⟨_,rfl,⟨rfl,j2⟩,?_,fun x hx=>fL (j4 x hx)⟩;simp only[aE];exact⟨⟨h,gO.refl hw⟩,j3.mono fe⟩
     cases hd
    cases hd
   cases hd
theorem GG:∀{es hJ:aR Ev} (i:av),EsS es hJ->madeOf hJ i=madeOf es i
 |[],[],_,_=>rfl
 |e::r,e' ::r',i,⟨h1,h2⟩=>by
  have:=GG (i+1) h2;cases e<;>cases e' <;>first
   |exact h1.elim
   |(obtain⟨rfl,rfl,rfl⟩:=h1;simp only[madeOf,this])
   |simp only[madeOf,this]
 |[],_::_,_,h=>h.elim
 |_::_,[],_,h=>h.elim
theorem EvS.val {e e' :Ev}(h:EvS e e'):e'.val=e.val:=by
 cases e<;>cases e' <;>simp_all[EvS,Ev.val]
theorem AG:∀{es hJ:aR Ev} (ops:aR bw) (f:aZ),EsS es hJ->bV ops hJ f=bV ops es f
 |[],[],ops,f,_=>rfl
 |e::r,e' ::r',[],f,_=>rfl
 |e::r,e' ::r',o::ops,f,⟨h1,h2⟩=>by
  simp only[bV,h1.val];cases my f o.dst e.val with
  |none=>rfl
  |some f' =>exact AG ops f' h2
 |[],_::_,_,_,h=>h.elim
 |_::_,[],_,_,h=>h.elim
theorem GH {P:an}{m:av}{ars:Made}{o:bw}{f:aZ}{v:aC}{X:av->aY AO}{B:av}{T:au}(fM:∀x∈ars,B<=x.2.1/\x.2.1<T.next/\X x.2.1=none):∀{l l' :aR au},GF X B T l l' ->sameAt P m ars o f v l=true->sameAt P m ars o f v l' =true
 |[],[],_,h=>h
 |s::r,s' ::r',⟨⟨h1,h2⟩,h3⟩,h=>by
  have BP:∀x∈ars,B<=x.2.1/\x.2.1<s.next/\X x.2.1=none:=fun x hx=>⟨(fM x hx).1,by have:=(fM x hx).2.1;have:=h2.next;omega,(fM x hx).2.2⟩
  have hf:=h1.fill h2.wf (fun x hx=>(BP x hx).2) (ab m);have kf:=gO.fill (B:=B) h2.wf (fun x hx=>⟨(BP x hx).1,(BP x hx).2.1⟩) (ab m);simp only[sameAt] at h|-
  split at h
  ·rename_i u t er;obtain⟨t',k1,_,_⟩:=mK hf kf.wf er;simp only[k1];rw[ao] at h|-
   exact⟨h.1,GH fM h3 h.2⟩
  cases h
 |[],_::_,h,_=>h.elim
 |_::_,[],h,_=>h.elim
theorem J4 {P:an}{all:aR bw}{ms:aR av}{ars:Made}{X:av->aY AO}{B:av}{T:au}(fM:∀x∈ars,B<=x.2.1/\x.2.1<T.next/\X x.2.1=none){l l' :aR au}(aF:GF X B T l l'):
  ∀(mr:aR av) (ops:aR bw) (es hJ:aR Ev) (i:av) (f:aZ),EsS es hJ->bO P all ms ars l mr ops es i f=true->bO P all ms ars l' mr ops hJ i f=true:=by
 intro mr
 induction mr with
 |nil=>intro ops es hJ i f _ h;simp only[bO]
 |cons m mr ih=>
  intro ops es hJ i f vY h;cases ops with
  |nil=>simp only[bO]
  |cons o ops=>
   cases es with
   |nil=>cases hJ with
    |nil=>exact h
    |cons _ _=>exact vY.elim
   |cons e es=>
    cases hJ with
    |nil=>exact vY.elim
    |cons e' hJ=>
     obtain⟨h1,h2⟩:=vY;simp only[bO,ao] at h|-
     rw[h1.val];obtain⟨ha,hb⟩:=h;refine⟨?_,?_⟩
     ·cases e<;>cases e' <;>first
       |exact h1.elim
       |rfl
       |skip
      rename_i v v';obtain rfl:v=v' :=h1;exact GH fM ((aF.take _).drop _) ha
     cases hp:my f o.dst e.val with
     |none=>rw[hp] at hb;cases hb
     |some f' =>rw[hp] at hb;exact ih ops es hJ (i+1) f' h2 hb
theorem du.up {s s' :au}{X:av->aY AO}(h:du s s' X)(n:av):du ⟨s.heap,s.next+n⟩ ⟨s'.heap,s'.next+n⟩ X:=
 ⟨by simp only[h.next],fun j o hj=>⟨(h.free j o hj).1,by have:=(h.free j o hj).2;simp only;omega⟩,h.get⟩
theorem C4 {P:an}{call:Call}(hc:om call){ops:aR bw}{f f1:aZ}{s s' t:au}{X:av->aY AO}(h:du s s' X)(hw:WF s)(hr:iC P call ops f s=some (f1,t)):
  ∃t',iC P call ops f s' =some (f1,t')/\du t t' X/\bQ s t:=by
 unfold iC at*;rw[h.next];split at hr
 ·cases hr
 rename_i hle;split at hr
 case h_2=>cases hr
 rename_i es hd;split at hr
 case h_2=>cases hr
 rename_i Jy;injection hr with hr;injection hr with e1 e2;subst e1;subst e2
 have adm:0<=16000000:=by omega
 have hwu:WF ⟨s.heap,s.next+aO P ops⟩:=⟨adm,fun j o hj=>by have:=hw.bound j o hj;simp only;omega⟩;have hup:=h.up (aO P ops);rw[h.next] at hup;have hX:∀j o,X j=some o->j<s.next:=fun j o hj=>(h.free j o hj).2
 obtain⟨hJ,k1,k2,k3,k4⟩:=MB hc hX _ ops 0 s.next f _ _ [] es hup hwu (a3 _) (a3 _) (fun x hx=>by cases hx) hd;have hXn:∀k,s.next<=k->X k=none:=fun k hk=>by
  cases hx:X k with
  |none=>rfl
  |some o=>have:=hX k o hx;omega
 have fM:∀x∈madeOf es 0,s.next<=x.2.1/\x.2.1<(⟨s.heap,s.next+aO P ops⟩:au).next/\X x.2.1=none:=fun x hx=>⟨(k4 x hx).1,(k4 x hx).2,hXn _ (k4 x hx).1⟩
 simp only[k1,GG 0 k2,J4 fM k3 _ ops es hJ 0 f k2 Jy,AG ops f k2];have hlen:∀(ops:aR bw) (es:aR Ev) (T:au),aE P ops es T≠[]:=by
  intro ops
  induction ops with
  |nil=>intro es T;cases es<;>simp[aE]
  |cons o ops ih=>
   intro es T;cases es with
   |nil=>simp[aE]
   |cons e es=>
    simp only[aE];cases e<;>first
     |(simp;done)
     |(dsimp only;split<;>first|(simp;done)|exact ih _ _)
 obtain⟨a1,a2⟩:du ((aE P ops es ⟨s.heap,s.next+aO P ops⟩).getLastD s) ((aE P ops hJ ⟨s'.heap,s.next+aO P ops⟩).getLastD s') X/\gO s.next ⟨s.heap,s.next+aO P ops⟩ ((aE P ops es ⟨s.heap,s.next+aO P ops⟩).getLastD s):=by
  have:=hlen ops es ⟨s.heap,s.next+aO P ops⟩;have:=hlen ops hJ ⟨s'.heap,s.next+aO P ops⟩;generalize aE P ops es ⟨s.heap,s.next+aO P ops⟩=l at*;generalize aE P ops hJ ⟨s'.heap,s.next+aO P ops⟩=l' at*;cases l with
  |nil=>contradiction
  |cons x r=>
   cases l' with
   |nil=>contradiction
   |cons x' r' =>
    rw[bq,bq];exact GF.last k3.2 k3.1.1 k3.1.2
 have sd:∀x∈madeOf es 0,s.next<=x.2.1/\x.2.1<((aE P ops es ⟨s.heap,s.next+aO P ops⟩).getLastD s).next:=fun x hx=>⟨(fM x hx).1,c8 (fM x hx).2.1 a2.next⟩
 refine⟨_,rfl,a1.fill a2.wf (fun x hx=>⟨(sd x hx).2,(fM x hx).2.2⟩) _,?_⟩;have kk:=a2.trans (gO.fill a2.wf sd (fun _=>true));exact⟨c0 (Nat.le_add_right _ _) kk.next,kk.gone,kk.here,kk.wf⟩
def Ta (ex:ed->aZ->au->Out):Prop:=∀(c:ed) (f f1:aZ) (x:AX) (s s' t:au) (X:av->aY AO),du s s' X->WF s->ex c f s=some (x,f1,t)->∃t',ex c f s' =some (x,f1,t')/\du t t' X/\bQ s t
theorem ub {P:an}{f:aZ}{s s' :au}{X:av->aY AO}(h:du s s' X):∀{l:aR ResultVar} {vs:aR aC},dj P f s l=some vs->dj P f s' l=some vs:=by
 intro l
 induction l with
 |nil=>intro vs hv;exact hv
 |cons r l ih=>
  intro vs hv;cases r with
  |tmp t=>
   simp only[dj] at hv|-
   split at hv
   ·rename_i ht;rw[bb ht];split at hv
    ·rename_i m hm;rw[ih hm];exact hv
    cases hv
   cases hv
  |cell a t=>
   simp only[dj] at hv|-
   split at hv
   ·rename_i ht;rw[bb ht];split at hv
    ·rename_i v m h1 h2;rw[J2 h h1,ih h2];exact hv
    cases hv
   cases hv
def C5 (p:Prim):Prop:=∀(s s' :au) (X:av->aY AO) (args:aR aC) (v:aC) (t:au),du s s' X->WF s->p args s=some (v,t)->∃t',p args s' =some (v,t')/\du t t' X/\bQ s t
def pW (lib:aD):Prop:=∀g p,lib.at g=some p->C5 p
theorem pW.nil:pW []:=fun _ _ h=>by cases h
theorem AH {P:an}{lib:aD}(hl:pW lib){ex:ed->aZ->au->Out}(he:Ta ex):om (iF P lib ex):=by
 intro s s' X g args v t h hw hc;unfold iF at*;split at hc
 ·rename_i p hp;exact hl g p hp _ _ _ _ _ _ h hw hc
 split at hc
 case h_2=>cases hc
 split at hc
 case h_2=>cases hc
 split at hc
 ·rename_i f s1 hx;obtain⟨t',k1,k2,k3⟩:=he _ _ _ _ _ _ _ _ h hw hx;simp only[k1];split at hc
  ·rename_i l hl;injection hc with hc;injection hc with e1 e2;subst e1;subst e2
   exact⟨t',by rw[ub k2 hl],k2,k3⟩
  cases hc
 ·rename_i f s1 hx;obtain⟨t',k1,k2,k3⟩:=he _ _ _ _ _ _ _ _ h hw hx;simp only[k1];split at hc
  ·rename_i l hl;injection hc with hc;injection hc with e1 e2;subst e1;subst e2
   exact⟨t',by rw[ub k2 hl],k2,k3⟩
  cases hc
 cases hc
theorem WO {P:an}{lib:aD}(hl:pW lib):∀n,Ta (exec P lib n):=by
 intro n
 induction n with
 |zero=>intro c f f1 x s s' t X _ _ h;simp[exec] at h
 |succ n ih=>
  have hc:=AH (P:=P) hl ih;intro c f f1 x s s' t X h hw hx;have leaf:∀y,some (y,f,s)=some (x,f1,t)->∃t',some (y,f,s')=some (x,f1,t')/\du t t' X/\bQ s t:=by
   intro y e;injection e with e;injection e with e1 e2;injection e2 with e2 e3;subst e1;subst e2;subst e3
   exact⟨s',rfl,h,bQ.refl hw⟩
  have two:∀(a b:ed),(match exec P lib n a f s with
    |some (.normal,f',s')=>exec P lib n b f' s'
    |r=>r)=some (x,f1,t)->∃t',(match exec P lib n a f s' with
    |some (.normal,f',s')=>exec P lib n b f' s'
    |r=>r)=some (x,f1,t')/\du t t' X/\bQ s t:=by
   intro a b hx;split at hx
   ·rename_i f2 s2 h1;obtain⟨t2,k1,k2,k3⟩:=ih _ _ _ _ _ _ _ _ h hw h1;obtain⟨t',j1,j2,j3⟩:=ih _ _ _ _ _ _ _ _ k2 k3.wf hx;exact⟨t',by simp only[k1];exact j1,j2,k3.trans j3⟩
   rename_i hn;obtain⟨t',k1,k2,k3⟩:=ih _ _ _ _ _ _ _ _ h hw hx;refine⟨t',?_,k2,k3⟩;rw[k1];cases x with
   |normal=>exact bA hx (hn _ _)
   |exit _=>rfl
   |ret=>rfl
  cases c<;>simp only[exec,step] at hx|-
  case skip=>exact leaf _ hx
  case label l=>exact leaf _ hx
  case exit id=>exact leaf _ hx
  case ret=>exact leaf _ hx
  case region id ops d=>
   cases d with
   |false=>
    simp only at hx|-
    split at hx
    ·rename_i f2 s2 h1;injection hx with e;injection e with e1 e2;injection e2 with e2 e3;subst e1;subst e2;subst e3
     obtain⟨t',k1,k2,k3⟩:=Qt hc _ _ h hw h1;exact⟨t',by rw[k1],k2,k3⟩
    cases hx
   |true=>
    simp only at hx|-
    split at hx
    ·rename_i f2 s2 h1;injection hx with e;injection e with e1 e2;injection e2 with e2 e3;subst e1;subst e2;subst e3
     obtain⟨t',k1,k2,k3⟩:=C4 hc h hw h1;exact⟨t',by rw[k1],k2,k3⟩
    cases hx
  case seq a b=>exact two a b hx
  case loop a=>exact two a _ hx
  case scope a=>exact ih _ _ _ _ _ _ _ _ h hw hx
  case cond y a b=>
   split at hx
   ·rename_i b0 hy;split at hx<;>exact ih _ _ _ _ _ _ _ _ h hw hx
   cases hx
  case block id a=>
   split at hx
   ·rename_i j f2 s2 h1;obtain⟨t2,k1,k2,k3⟩:=ih _ _ _ _ _ _ _ _ h hw h1;simp only[k1];split at hx<;>
    ·rename_i hj;injection hx with e;injection e with e1 e2;injection e2 with e2 e3;subst e1;subst e2;subst e3
     exact⟨t2,by simp only[hj,ec,c9,cA],k2,k3⟩
   rename_i hn;obtain⟨t',k1,k2,k3⟩:=ih _ _ _ _ _ _ _ _ h hw hx;refine⟨t',?_,k2,k3⟩;rw[k1];cases x with
   |normal=>rfl
   |exit _=>exact bA hx (hn _ _ _)
   |ret=>rfl
  all_goals cases hx
end Go.Cl
namespace Go.Cl
open Go.RowKit
theorem J5 {f g:aZ}(hn:f.n=g.n){x:dA}(h:∀t:av,x= .tmp t->f.get t=g.get t):a5 f x=a5 g x:=by
 cases x with
 |tmp t=>simp only[a5,hn,h t rfl]
 |const v=>rfl
 |global v=>rfl
 |func v=>rfl
theorem nP {f g:aZ}:∀{l:aR dA},(∀x∈l,a5 f x=a5 g x)->ad f l=ad g l
 |[],_=>rfl
 |x::r,h=>by
  simp only[ad,h x (bk ..),nP (fun y hy=>h y (bl _ hy))]
theorem se {f g:aZ}:∀{l:aR (av×dA)},(∀x∈l,a5 f x.2=a5 g x.2)->ae f l=ae g l
 |[],_=>rfl
 |x::r,h=>by
  obtain⟨i,x⟩:=x;simp only[ae,h (i,x) (bk ..),se (fun y hy=>h y (bl _ hy))]
theorem wU {f g:aZ}{x:aY dA}(h:∀y,x=some y->a5 f y=a5 g y):ai f x=ai g x:=by
 cases x with
 |none=>rfl
 |some y=>simp only[ai,h y rfl]
theorem Qv {P:an}{o:bw}{f g:aZ}(hn:f.n=g.n)(h:∀t:av,Operand.tmp t∈o.op.operands.toList->f.get t=g.get t)(s:au):cV P o f s=cV P o g s:=by
 have ev:∀x∈o.op.operands.toList,a5 f x=a5 g x:=fun x hx=>J5 hn (fun t ht=>h t (by rw[<-ht];exact hx))
 clear h;obtain⟨dst,op,type,pos,after,guard⟩:=o;cases op<;>simp only[Op.operands] at ev
 case call c=>
  obtain⟨callee,args,ts⟩:=c;have ea:ad f args.toList=ad g args.toList:=nP (fun x hx=>ev x (by simp only[Call.operands,cm];exact c6 _ hx));cases callee with
  |value y=>
   have ey:=ev y (by simp[Call.operands]);simp only[cV,ea,ey]
  |builtin b=>simp only[cV,ea]
  |invoke y m=>simp only[cV,ea]
 case makeFunc fn first captured=>
  have e1:ad f first.toList=ad g first.toList:=nP (fun x hx=>ev x (by rw[cm];exact List.mem_append_left _ hx));have e2:ad f captured.toList=ad g captured.toList:=nP (fun x hx=>ev x (by rw[cm];exact c6 _ hx));cases fn<;>simp only[cV,e1,e2]
 case build t ps=>
  have e1:ae f ps.toList=ae g ps.toList:=se (fun x hx=>ev x.2 (by simpa using⟨x.1,by simpa using hx⟩));simp only[cV,e1]
 case buildSlice t n ps=>
  have e1:ae f ps.toList=ae g ps.toList:=se (fun x hx=>ev x.2 (by simpa using⟨x.1,by simpa using hx⟩));simp only[cV,e1]
 case slice t x l hi m=>
  have e0:=ev x (by simp);have e1:ai f l=ai g l:=wU (fun y hy=>ev y (by simp[hy]));have e2:ai f hi=ai g hi:=wU (fun y hy=>ev y (by simp[hy]));have e3:ai f m=ai g m:=wU (fun y hy=>ev y (by simp[hy]));simp only[cV,e0,e1,e2,e3]
 all_goals first
  |rfl
  |(simp only[cV];simp at ev;simp only[ev];done)
  |(simp at ev;obtain⟨e1,e2⟩:=ev;simp only[cV,e1,e2];done)
  |(simp at ev;obtain⟨e1,e2,e3⟩:=ev;simp only[cV,e1,e2,e3];done)
  |(rename_i r;cases r<;>rfl)
theorem FP {ops:aR bw}{o:bw}{f g:aZ}(hn:f.n=g.n)(h:∀t:av,t∈zH ops o->f.get t=g.get t):cH ops o f=cH ops o g:=by
 unfold cH;cases hg:o.guard with
 |none=>rfl
 |some p=>
  obtain⟨j,want⟩:=p;have:rX ops f j=rX ops g j:=by
   unfold rX;cases hd:ops.drop j with
   |nil=>rfl
   |cons p r=>
    simp only;cases hpd:p.dst with
    |none=>rfl
    |some d=>
     simp only[hn];rw[h d (by simp[zH,hg,hd,hpd])]
  simp only[this]
theorem Tb {P:an}{base:av}{S:St}(h:SR base S){f:aZ}{a:Act}(hf:FR S f a){o:bw}(ha:aJ P o=true){id:av}(dI:oI S id S.s.next){v:aC}{s1:au}{b:kM}
  (hx:cV P o f ⟨.nil,id⟩=some (.val v s1)) (hb:s1.bL id=some b):
  ∃T v',T.s=S.s.put id (.eE b)/\VR T v v' /\Good base S T/\(execOp a.eval o).run P S.w= .ok (.value v') T.w:=by
 have fM:0<16000001:=by have:=dI.lt;have:=h.room;omega
 have fin:∀(m:Sem aC),execOp a.eval o=(do pure (Next.value (<-m)))->tU P base S m v ⟨.nil,id⟩ s1 S.s.next->∃T v',T.s=S.s.put id (.eE b)/\VR T v v' /\Good base S T/\(execOp a.eval o).run P S.w= .ok (.value v') T.w:=by
  intro m he hd;obtain⟨b',e,T,v',h1,h2,h3,h4⟩:=hd;have jL:s1.bL id=some b' :=by rw[e];simp only[au.bL,au.new,Tr.bF _ _ _ _ (deep fM)]
  rw[hb] at jL;obtain rfl:=af jL;exact⟨T,v',h1,h3,h4,by rw[he];exact OL h2⟩
 have Tc:∀r,oU r=some (.val v s1)->r=some (v,s1):=by
  intro r hr;cases r with
  |none=>simp[oU] at hr
  |some p=>
   obtain⟨v2,s2⟩:=p;simp only[oU] at hr;injection hr with hr;injection hr with e1 e2;rw[e1,e2]
 obtain⟨dst,op,type,pos,after,guard⟩:=o;cases op<;>try (cases ha;done)
 case alloc e=>
  simp only[cV] at hx;split at hx
  ·rename_i z hz;split at hx
   ·rename_i hp;exact fin _ rfl (JV h (s0:=⟨.nil,id⟩) dI hz hp (Tc _ hx))
   cases hx
  cases hx
 case box e y=>
  simp only[cV] at hx;split at hx
  ·rename_i u hu;exact fin _ rfl (SQ h (s0:=⟨.nil,id⟩) dI (bM hf hu) (Tc _ hx))
  cases hx
 case buildSlice t n ps=>
  simp only[cV] at hx;split at hx
  ·rename_i l hl;have nj:bp P ⟨.nil,id⟩ t n l=some (v,s1):=Tc _ hx;have:=tX (P:=P) h (s0:=⟨.nil,id⟩) (next:=S.s.next) dI (zP hf hl) nj;have e:(ps.map fun(x:av×dA)=>(x.1,a.eval x.2))=(ps.toList.map fun x=>(x.1,a.eval x.2)).toArray:=by rw[<-b8];simp
   refine fin (Instr.buildSlice t n (ps.map fun(i,x)=>(i,a.eval x))) (by simp only[execOp]) ?_;rw[e];exact this
  cases hx
 case convert s d y=>
  simp only[cV] at hx;simp only[aJ] at ha;split at hx
  ·rename_i u hu;exact fin _ rfl (AA h (s0:=⟨.nil,id⟩) dI (bM hf hu) (Tc _ hx) ha)
  cases hx
 case makeSlice t y z=>
  simp only[cV] at hx;split at hx
  ·rename_i u w hu hw;exact fin (Instr.makeSlice t (a.eval y) (a.eval z)) rfl (we h (s0:=⟨.nil,id⟩) dI (bM hf hu) (bM hf hw) (Tc _ hx))
  cases hx
theorem C6 {acc:aR av}:∀{l:aR Edge} {m x:av},ab (rY acc l m) x=true->ab m x=true\/∃e∈l,Region.binds .any e=true/\(x=e.on\/ab (cW acc e.on) x=true)
 |[],_,_,h=> .inl h
 |e::r,m,x,h=>by
  simp only[rY] at h;rcases C6 h with h1|⟨e',h1,h2⟩
  ·split at h1
   ·rename_i hb;simp only[Nat.testBit_or,dv,Nat.testBit_two_pow,decide_eq_true_eq] at h1;rcases h1 with (h1|h1)|h1
    ·exact .inl h1
    ·exact .inr ⟨e,bk ..,hb,.inl h1.symm⟩
    exact .inr ⟨e,bk ..,hb,.inr h1⟩
   exact .inl h1
  exact .inr ⟨e',bl _ h1,h2⟩
theorem J6 (l m:aR av):∀i,i<l.length->cW (l++m) i=cW l i:=by
 induction l with
 |nil=>intro i h;simp at h
 |cons x r ih=>
  intro i h;cases i with
  |zero=>rfl
  |succ k=>exact ih k (by simpa using h)
theorem WQ (l:aR av)(x:av)(m:aR av):cW (l++x::m) l.length=x:=by
 induction l with
 |nil=>rfl
 |cons _ r ih=>exact ih
theorem mg:∀(ops:aR bw) (acc:aR av),∃r,b9 ops acc=acc++r/\r.length=ops.length
 |[],acc=>⟨[],by simp[b9],rfl⟩
 |o::ops,acc=>by
  obtain⟨r,h1,h2⟩:=mg ops (acc++[rY acc o.after.toList 0]);exact⟨rY acc o.after.toList 0::r,by simp[b9,h1],by simp[h2]⟩
theorem C7:∀(ops:aR bw) (acc:aR av) (k:av) (o:bw),ops[k]?=some o->∃Td,(∀j,j<acc.length+k->cW Td j=cW (b9 ops acc) j)/\cW (b9 ops acc) (acc.length+k)=rY Td o.after.toList 0
 |[],_,_,_,h=>by simp at h
 |p::ops,acc,0,o,h=>by
  simp only[bt,cc] at h;subst h;obtain⟨r,h1,h2⟩:=mg ops (acc++[rY acc p.after.toList 0]);refine⟨acc,fun j hj=> ?_,?_⟩
  ·simp only[b9,h1,dc];rw[J6 _ _ _ (by simpa using hj)]
  simp only[b9,h1,dc,ee];exact WQ _ _ _
 |p::ops,acc,k+1,o,h=>by
  simp only[ca] at h;obtain⟨Td,h1,h2⟩:=C7 ops (acc++[rY acc p.after.toList 0]) k o h;simp only[List.length_append,List.length_singleton] at h1 h2;refine⟨Td,fun j hj=> ?_,?_⟩
  ·simp only[b9];exact h1 j (by omega)
  simp only[b9];rw[<-h2];congr 1;omega
theorem pX:∀(ops:aR bw) {P:an} (k k' :av) {o:bw},ops[k]?=some o->aJ P o=true->k<k' ->aO P (ops.take k)<aO P (ops.take k')
 |[],_,_,_,_,h,_,_=>by simp at h
 |p::ops,P,0,k' +1,o,h,ha,_=>by
  simp only[bt,cc] at h;subst h;simp[aO,ha]
 |p::ops,P,k+1,k' +1,o,h,ha,hk=>by
  simp only[ca] at h;have:=pX ops k k' h ha (by omega);simp only[cp,aO];split<;>omega
 |_::_,_,_,0,_,_,_,h=>by omega
theorem uc {P:an}{p:av->cT}:∀(ops:aR bw) (i:av),(∀j,i<=j->p j=false)->countP p P ops i=0
 |[],_,_=>rfl
 |o::r,i,h=>by simp only[countP,h i (a3 _),Bool.and_false,cA,c9];exact uc r (i+1) (fun j hj=>h j (by omega))
theorem ud {P:an}{p q:av->cT}:∀(ops:aR bw) (i:av),(∀k o,ops[k]?=some o->bh P o=true->p (i+k)=true->q (i+k)=true)->countP p P ops i<=countP q P ops i
 |[],_,_=>a3 _
 |o::r,i,h=>by
  have ih:=ud (p:=p) (q:=q) r (i+1) (fun k o ho he hp=>by have:=h (k+1) o (by simpa using ho) he (by rw[show i+(k+1)=i+1+k by omega];exact hp);rwa [show i+(k+1)=i+1+k by omega] at this);have h0:=h 0 o rfl;simp only[countP];cases he:bh P o with
  |false=>simpa [he] using ih
  |true=>
   cases hp:p i with
   |false=>simp only[Bool.true_and,cA,c9];split<;>omega
   |true=>
    have:=h0 he hp;simp only[ee] at this;simp[this];exact ih
theorem Te {f f' :aZ}{d:aY Tmp}{v:aC}(h:my f d v=some f'):f'.n=f.n:=by
 unfold my at h;split at h
 ·split at h
  ·injection h with h;subst h;rfl
  cases h
 injection h with h;subst h;rfl
def Ev.after (e:Ev)(T:au):au:=
 match e with
 | .BH _ s=>s
 |_=>T
def Ev.more (e:Ev)(i:av)(ars:Made):Made:=
 match e with
 | .made _ d b=>ars++[(i,d,b)]
 |_=>ars
theorem GI {i j:av}(h:i<=j):cd j i=false:=by
 cases hb:cd j i
 ·rfl
 rw[b4] at hb;omega
theorem Iq {P:an}{call:Call}{all:aR bw}:∀(ops:aR bw) (ms:aR av) (i id:av) (f:aZ) (T:au) (ars:Made) (es:aR Ev),ms.length=ops.length->cf P call all ms ops i id f T ars=some es->
  es.length=ops.length/\∃(F:av->aZ) (G:av->au),F 0=f/\G 0=T/\bV ops es f=F ops.length/\
   (∀p,p<=ops.length->(aE P ops es T)[countP (fun j=>cd j (i+p)) P ops i]?=some (G p))/\(∀d,(aE P ops es T).getLastD d=G ops.length)/\
   ∀k o,ops[k]?=some o->∃e,es[k]?=some e/\dH P call all (cW ms k) (id+aO P (ops.take k)) (ars++madeOf (es.take k) i) o (F k) (G k)=some e/\
    my (F k) o.dst e.val=some (F (k+1))/\G (k+1)=e.after (G k):=by
 intro ops
 induction ops with
 |nil=>
  intro ms i id f T ars es hl hd;cases ms with
  |cons _ _=>simp at hl
  |nil=>
   simp only[cf] at hd;injection hd with hd;subst hd
   exact⟨rfl,fun _=>f,fun _=>T,rfl,rfl,rfl,fun p hp=>rfl,fun d=>rfl,fun k o h=>by simp at h⟩
 |cons o ops ih=>
  intro ms i id f T ars es hl hd;cases ms with
  |nil=>simp at hl
  |cons m ms=>
   simp only[cf] at hd;split at hd
   ·rename_i e he;split at hd
    ·rename_i f' hp;split at hd
     ·rename_i JK yp;injection hd with hd;subst hd
      obtain⟨h1,F,G,h2,h3,h4,h5,h6,h7⟩:=ih ms (i+1) _ f' (e.after T) _ JK (by simpa using hl) yp;have Ir:∀v s,e= .BH v s->bh P o=true:=by
       intro v s hee;subst hee;unfold dH at he;split at he
       ·cases he
       split at he
       ·split at he<;>cases he
       ·split at he
        ·split at he<;>cases he
        cases he
       rename_i hq ha;simp[bh,hq,ha]
      refine⟨by simp[h1],fun k=>match k with|0=>f|k+1=>F k,fun k=>match k with|0=>T|k+1=>G k,rfl,rfl,?_,?_,?_,?_⟩
      ·simp only[bV,hp,dr];exact h4
      ·intro p Tf;have aF:aE P (o::ops) (e::JK) T=if bh P o then T::aE P ops JK (e.after T) else aE P ops JK (e.after T):=by
        cases e with
        |BH v s=>simp only[aE,Ir v s rfl,ec];rfl
        |skip=>rfl
        |quiet _=>rfl
        |made _ _ _=>rfl
       cases p with
       |zero=>
        have h0:=uc (P:=P) (p:=fun j=>cd j (i+0)) (o::ops) i (fun j hj=>GI (by omega));rw[h0,aF];split
        ·rfl
        have e0:(e.after T)=T:=by
         rename_i cE;cases e<;>try rfl
         exact bA (Ir _ _ rfl) cE
        have:=h5 0 (cB _);rw[uc (P:=P) (p:=fun j=>cd j (i+1+0)) ops (i+1) (fun j hj=>GI (by omega))] at this;rw[this,h3,e0]
       |succ p=>
        have:=h5 p (by simpa using Tf);have hc:countP (fun j=>cd j (i+(p+1))) P (o::ops) i=if bh P o then countP (fun j=>cd j (i+1+p)) P ops (i+1)+1 else countP (fun j=>cd j (i+1+p)) P ops (i+1):=by
         have e1:(fun j=>cd j (i+(p+1)))=fun j=>cd j (i+1+p):=by rw[show i+(p+1)=i+1+p by omega]
         rw[e1];simp only[countP];have:cd i (i+1+p)=true:=by simp[b4];omega
         simp only[this,Bool.and_true]
        rw[hc,aF];split
        ·simp only[ca];exact this
        exact this
      ·intro d;simp only[dr];rw[<-h6 d];have cE:aE P ops JK (e.after T)≠[]:=by
        intro hn;have:=h5 0 (cB _);rw[hn] at this;simp at this
       have iG:∀x:au,(x::aE P ops JK (e.after T)).getLastD d=(aE P ops JK (e.after T)).getLastD d:=by
        intro x;rw[bq];generalize aE P ops JK (e.after T)=l at cE;cases l with
        |nil=>exact bA rfl cE
        |cons y r=>rw[bq,bq]
       simp only[aE];cases e<;>simp only at iG|- <;>first
        |exact iG T
        |(split
          ·exact iG T
          rfl)
      intro k o' hk;cases k with
      |zero=>
       simp only[bt,cc] at hk;subst hk;exact⟨e,rfl,by simpa [cW,aO,madeOf] using he,by simpa [h2] using hp,by simpa using h3⟩
      |succ k=>
       simp only[ca] at hk;obtain⟨e',k1,k2,k3,k4⟩:=h7 k o' hk;refine⟨e',by simpa using k1,?_,k3,k4⟩;have ea:(if aJ P o then id+1 else id)+aO P (ops.take k)=id+aO P ((o::ops).take (k+1)):=by
        simp only[cp,aO];split<;>omega
       have em:e.more i ars++madeOf (JK.take k) (i+1)=ars++madeOf ((e::JK).take (k+1)) i:=by
        simp only[cp];cases e<;>simp[madeOf,Ev.more]
       rw[<-ea,<-em];exact k2
     cases hd
    cases hd
   cases hd
theorem FQ {P:an}{all:aR bw}{ms:aR av}{ars:Made}{jn:aR au}:∀(k:av) (mr:aR av) (ops:aR bw) (es:aR Ev) (i:av) (F:av->aZ),mr.length=ops.length->bO P all ms ars jn mr ops es i (F 0)=true->
  (∀k o e,ops[k]?=some o->es[k]?=some e->my (F k) o.dst e.val=some (F (k+1)))->∀o v,ops[k]?=some o->es[k]?=some (.quiet v)->
  sameAt P (cW mr k) ars o (F k) v ((jn.take (countP (fun j=> !Nat.testBit (cW ms j) (i+k)) P all 0+1)).drop (countP (ab (cW mr k)) P all 0))=true:=by
 intro k
 induction k with
 |zero=>
  intro mr ops es i F hl h hF o v ho he;cases ops with
  |nil=>simp at ho
  |cons p ops=>
   cases mr with
   |nil=>simp at hl
   |cons m mr=>
    cases es with
    |nil=>simp at he
    |cons e es=>
     simp only[bt,cc] at ho he;subst ho;subst he
     simp only[bO,ao] at h;exact h.1
 |succ k ih=>
  intro mr ops es i F hl h hF o v ho he;cases ops with
  |nil=>simp at ho
  |cons p ops=>
   cases mr with
   |nil=>simp at hl
   |cons m mr=>
    cases es with
    |nil=>simp at he
    |cons e es=>
     have h0:=hF 0 p e rfl rfl;simp only[bO,ao,h0] at h;have:=ih mr ops es (i+1) (fun k=>F (k+1)) (by simpa using hl) h.2 (fun k o e ho he=>hF (k+1) o e (by simpa using ho) (by simpa using he)) o v (by simpa using ho) (by simpa using he);rw[show i+1+k=i+(k+1) by omega] at this;exact this
theorem C8 {P:an}{m:av}{ars:Made}{o:bw}{f:aZ}{v:aC}:∀{l:aR au} {T:au},sameAt P m ars o f v l=true->T∈l->∃u t,cV P o f (fill (ab m) T ars)=some (.val u t)/\bI v u=true
 |[],_,_,h=>by cases h
 |s::r,T,h,hT=>by
  simp only[sameAt] at h;split at h
  ·rename_i u t er;rw[ao] at h;rcases cL.1 hT with rfl|hT
   ·exact⟨u,t,er,h.1⟩
   exact C8 h.2 hT
  cases h
theorem zS {a b:aC}(h:cw a b=true):a=b:=by
 cases a<;>cases b<;>simp only[cw] at h<;>try (cases h;done)
 all_goals try rfl
 case bool a b=>simpa using h
 case int k a k' b=>
  rw[ao] at h;obtain⟨h1,h2⟩:=h;split at h1
  ·rename_i e;subst e;rw[beq_iff_eq] at h2;rw[h2]
  cases h1
 case string a b=>
  rw[beq_iff_eq] at h;obtain⟨⟨a⟩⟩:=a;obtain⟨⟨b⟩⟩:=b;simp only at h;rw[h]
 case pointer a b=>split at h<;>first|(rename_i e;rw[e])|cases h
 case map a b=>split at h<;>first|(rename_i e;rw[e])|cases h
 case slice a n c b m d=>
  simp only[ao] at h;obtain⟨⟨h1,h2⟩,h3⟩:=h;split at h1
  ·rename_i e;rw[e,ch h2,ch h3]
  cases h1
theorem qQ:∀{a b:aR aC},fc a b=true->a=b
 |[],[],_=>rfl
 |x::r,y::q,h=>by
  simp only[fc,ao] at h;rw[zS h.1,qQ h.2]
 |[],_::_,h=>by cases h
 |_::_,[],h=>by cases h
theorem Qw {a b:aC}(h:wJ a b=true):a=b:=by
 unfold wJ at h;split at h
 ·rw[b8.1 (qQ h)]
 exact zS h
theorem GJ:∀{a b:aR aC},qp a b=true->a=b
 |[],[],_=>rfl
 |a::r,b::q,h=>by
  simp only[qp,ao] at h;rw[Qw h.1,GJ h.2]
 |[],_::_,h=>by simp[qp] at h
 |_::_,[],h=>by simp[qp] at h
theorem Tg {a b:aC}(h:bI a b=true):a=b:=by
 unfold bI at h;split at h
 ·rw[b8.1 (qQ h)]
 ·rw[b8.1 (GJ h)]
 ·simp only[ao] at h;obtain⟨⟨h1,h2⟩,h3⟩:=h;have MD:=ch h1;rw[b8.1 (qQ h2),b8.1 (qQ h3)];exact congrArg (fun x=>Value.func (Fn.func x) _ _) MD
 exact zS h
abbrev jR (s t:au):Prop:=du s t (fun _=>none)
theorem jR.refl (s:au):jR s s:=⟨rfl,(fun _ _ h=>by cases h),fun _=>rfl⟩
theorem SR.wf {base:av}{S:St}(h:SR base S):WF S.s:=⟨h.room,h.bound⟩
theorem jR.wf {s t:au}(h:jR s t)(hw:WF t):WF s:=⟨hw.room,fun j o hj=>by rw[<-h.next];exact hw.bound j o (by rw[h.get j];exact hj)⟩
def Is (P:an)(Pre:av->b7->Prop)(g:eb)(p:Prim):Prop:=
 ∀(base:av) (S:St) (s:au) (args:aR aC) (v:aC) (s' :au),jR s S.s->SR base S->Pre base S.w->p args s=some (v,s')->∀args' :cD aC,ft S args args'.toList->
  ((∀w,(callFunc g args').run P w= .ok (.enter g args') w)/\Calls P g args' S.w fun e w' =>∃T v',jR s' T.s/\T.w=w' /\e= .returned v' /\VR T v v' /\Good base S T)\/
  ∃T v',(callFunc g args').run P S.w= .ok (.value v') T.w/\jR s' T.s/\VR T v v' /\Good base S T
def zT (P:an)(Pre:av->b7->Prop)(call:Call):Prop:=∀g,Is P Pre g (call g)
def C9 (Pre:av->b7->Prop):Prop:=∀base w w',Below base w w' ->Pre base w->Pre base w'
theorem FR.put {S:St}{f f' :aZ}{a:Act}{d:aY Tmp}{v v' :aC}(hf:FR S f a)(hv:VR S v v')(h:my f d v=some f'):FR S f' (a.put d v'):=by
 unfold my at h;split at h
 ·rename_i t0;obtain⟨t,rfl⟩:∃t:av,t=t0:=⟨t0,rfl⟩
  split at h
  ·rename_i ht;obtain rfl:=af h;have Sp:t<f.n:=by simpa [b4] using ht
   have hn:=hf.n;refine⟨by simp[aZ.put,Act.put,hf.n],hf.small,fun u hu=> ?_⟩;have hu' :u<f.n:=hu;have hts:0<16000001:=by have:=hf.small;omega
   have cX:t<a.tmps.size:=by omega
   by_cases htu:t=u
   ·subst htu;have e1:(f.put t v).get t=v:=by simp only[aZ.get,aZ.put,Tr.bF _ _ _ _ (deep hts)]
    have e2:(a.put (some t) v').tmps.getD t undef=v' :=by
     simp[Act.put,cX]
    rw[e1,e2];exact hv
   have e1:(f.put t v).get u=f.get u:=by simp only[aZ.get,aZ.put,Tr.cK _ _ _ _ _ htu]
   have e2:(a.put (some t) v').tmps.getD u undef=a.tmps.getD u undef:=by
    simp[Act.put,Array.getElem?_setIfInBounds_ne htu]
   rw[e1,e2];exact hf.get u hu'
  cases h
 obtain rfl:=af h;exact hf
theorem put_defers (a:Act)(d:aY Tmp)(v:aC):(a.put d v).defers=a.defers:=by cases d<;>rfl
theorem Th {S:St}{f:aZ}{a:Act}(hf:FR S f a)(ops:aR bw)(j:av):rX ops f j=yielded ops.toArray a.tmps j:=by
 have hj:(ops.toArray)[j]?=(ops.drop j).head?:=by rw[b5,List.head?_drop]
 unfold rX yielded;rw[hj];cases ops.drop j with
 |nil=>rfl
 |cons o r=>
  simp only[List.head?_cons,Option.bind_some];cases o.dst with
  |none=>rfl
  |some d0=>
   obtain⟨d,rfl⟩:∃d:av,d=d0:=⟨d0,rfl⟩
   simp only[Option.bind_some];by_cases hd:d<f.n
   ·rw[bb (by simpa [b4] using hd)];have hv:=hf.get d hd;have cX:d<a.tmps.size:=by rw[<-hf.n];exact hd
    have e:a.tmps[d]?=some (a.tmps.getD d undef):=by simp[cX]
    rw[e];generalize a.tmps.getD d undef=v' at hv;generalize f.get d=v0 at hv;cases hv<;>rfl
   rw[ck (by simpa [b4] using hd)];have e:a.tmps[d]?=none:=Array.getElem?_eq_none (by have:=hf.n;omega);rw[e]
theorem GK {S:St}{f:aZ}{a:Act}(hf:FR S f a)(ops:aR bw)(o:bw):cH ops o f=Region.wanted o (yielded ops.toArray a.tmps):=by
 unfold cH Region.wanted;cases o.guard with
 |none=>rfl
 |some p=>
  obtain⟨j,want⟩:=p;simp only[Th hf];cases yielded ops.toArray a.tmps j<;>rfl
def eH (es:aR Ev)(j i:av)(b:kM):Prop:=∃v,es[j]?=some (.made v i b)
theorem lO:∀{es:aR Ev} {n:av} {x:av×av×kM},x∈madeOf es n->∃j,x.1=n+j/\eH es j x.2.1 x.2.2
 |[],_,_,h=>by cases h
 |e::r,n,x,h=>by
  have rest:x∈madeOf r (n+1)->∃j,x.1=n+j/\eH (e::r) j x.2.1 x.2.2:=fun h=>by
   obtain⟨j,h1,v,h2⟩:=lO h;exact⟨j+1,by omega,v,by simpa using h2⟩
  cases e with
  |made v i b=>
   simp only[madeOf] at h;rcases cL.1 h with rfl|h
   ·exact⟨0,rfl,v,rfl⟩
   exact rest h
  |skip=>exact rest h
  |quiet v=>exact rest h
  |BH v s=>exact rest h
theorem sf:∀{es:aR Ev} {n j i:av} {b:kM},eH es j i b->(n+j,i,b)∈madeOf es n
 |[],_,_,_,_,⟨v,h⟩=>by simp at h
 |e::r,n,0,i,b,⟨v,h⟩=>by
  simp only[bt,cc] at h;subst h;exact bk ..
 |e::r,n,j+1,i,b,⟨v,h⟩=>by
  have:=sf (es:=r) (n:=n+1) (j:=j) ⟨v,by simpa using h⟩;rw[show n+1+j=n+(j+1) by omega] at this;cases e<;>simp only[madeOf]<;>first
   |exact bl _ this
   |exact this
structure BQ (es:aR Ev) (T:au) (q:av->Prop) (s:au):Prop where
 next:s.next=T.next
 old:∀i o,T.heap.get i=some o->s.heap.get i=some o
 new:∀i j b,T.heap.get i=none->eH es j i b->q j->s.heap.get i=some (.eE b)
 gone:∀i,T.heap.get i=none->(∀j b,eH es j i b->¬q j)->s.heap.get i=none
def diff (s s' :au)(i:av):aY AO:=
 match s.heap.get i with
 |some _=>none
 |none=>s'.heap.get i
theorem BQ.adF {es:aR Ev}{T s s' :au}{q q' :av->Prop}(hb:∀j i b,eH es j i b->i<T.next)(h:BQ es T q s)(h' :BQ es T q' s')(hq:∀j,q j->q' j):du s s' (diff s s'):=by
 refine⟨by rw[h.next,h'.next],fun j o hj=> ?_,fun j=> ?_⟩
 ·unfold diff at hj;split at hj
  ·cases hj
  rename_i hs;refine⟨hs,?_⟩;rw[h.next];cases hT:T.heap.get j with
  |some o' =>rw[h.old j o' hT] at hs;cases hs
  |none=>
   by_cases hx:∃jj b,eH es jj j b
   ·obtain⟨jj,b,hx⟩:=hx;exact hb _ _ _ hx
   rw[h'.gone j hT (fun jj b hm=>bA ⟨jj,b,hm⟩ hx)] at hj;cases hj
 unfold diff;cases hs:s.heap.get j with
 |none=>simp only;cases s'.heap.get j<;>rfl
 |some o=>
  simp only;cases hT:T.heap.get j with
  |some o' =>rw[h'.old j o' hT,<-hs,h.old j o' hT]
  |none=>
   by_cases hx:∃jj b,eH es jj j b/\q jj
   ·obtain⟨jj,b,hx,L7⟩:=hx;rw[h'.new j jj b hT hx (hq jj L7),<-hs,h.new j jj b hT hx L7]
   rw[h.gone j hT (fun jj b hm L7=>hx ⟨jj,b,hm,L7⟩)] at hs;cases hs
theorem Ti {p:av->cT}:∀{ars:Made} {j i:av} {b:kM},(j,i,b)∈ars->p j=true->OM p ars i≠none
 |[],_,_,_,h,_=>by cases h
 |(j',i',b')::r,j,i,b,h,hp=>by
  simp only[OM];split
  ·simp
  rename_i hn;rcases cL.1 h with e|h
  ·injection e with e1 e2;injection e2 with e2 e3;subst e1;subst e2
   exact bA ⟨hp,rfl⟩ hn
  exact Ti h hp
theorem Da {es:aR Ev}{p:av->cT}{T:au}{ars:Made}(hb:∀x∈ars,0<16000001)(h1:∀j i b,eH es j i b->p j=true->(j,i,b)∈ars)(h2:∀x∈ars,eH es x.1 x.2.1 x.2.2)
  (hu:∀j j' i b b',eH es j i b->eH es j' i b' ->j=j' /\b=b'):BQ es T (fun j=>p j=true) (fill p T ars):=by
 obtain⟨n1,g1⟩:=ym p ars T hb;refine⟨n1,fun i o hi=>by rw[g1,hi],fun i j b hi hm hp=> ?_,fun i hi hn=> ?_⟩
 ·rw[g1,hi];cases hs:OM p ars i with
  |none=>exact bA hs (Ti (h1 j i b hm hp) hp)
  |some o=>
   obtain⟨j',b',k1,_,rfl⟩:=yn hs;obtain⟨_,rfl⟩:=hu _ _ _ _ _ hm (h2 _ k1);rfl
 rw[g1,hi];cases hs:OM p ars i with
 |none=>rfl
 |some o=>
  obtain⟨j',b',k1,k2,rfl⟩:=yn hs;exact bA k2 (hn _ _ (h2 _ k1))
theorem BQ.step {es:aR Ev}{T s t s1 t' :au}{q q' :av->Prop}(h:BQ es T q s)(h' :BQ es T q' t)(ha:du s1 t' (diff s t))(hk:bQ s s1):BQ es s1 q' t' :=by
 have GL:∀i,s1.heap.get i=none->s.heap.get i=none/\T.heap.get i=none:=fun i hi=>by
  have e1:s.heap.get i=none:=by
   cases hs:s.heap.get i with
   |none=>rfl
   |some o=>exact bA hi (hk.here i (by rw[hs];simp))
  refine⟨e1,?_⟩;cases hT:T.heap.get i with
  |none=>rfl
  |some o=>rw[h.old i o hT] at e1;cases e1
 refine⟨ha.next,fun i o hi=>ha.same hi,fun i j b hi hm hq=> ?_,fun i hi hn=> ?_⟩
 ·obtain⟨e1,e2⟩:=GL i hi;rw[ha.get i];simp only[diff,e1,h'.new i j b e2 hm hq]
 obtain⟨e1,e2⟩:=GL i hi;rw[ha.get i];simp only[diff,e1,h'.gone i e2 hn,hi]
theorem BQ.same {es:aR Ev}{T s s' :au}{q:av->Prop}(h:BQ es T q s)(hs:jR s s'):BQ es T q s' :=
 ⟨by rw[hs.next,h.next],fun i o hi=>by rw[hs.get i];exact h.old i o hi,fun i j b hi hm hq=>by rw[hs.get i];exact h.new i j b hi hm hq,fun i hi hn=>by rw[hs.get i];exact h.gone i hi hn⟩
theorem BQ.congr {es:aR Ev}{T s:au}{q q' :av->Prop}(h:BQ es T q s)(hq:∀j i b,eH es j i b->(q' j↔q j)):BQ es T q' s:=
 ⟨h.next,h.old,fun i j b hi hm L7=>h.new i j b hi hm ((hq j i b hm).1 L7),fun i hi hn=>h.gone i hi (fun j b hm L7=>hn j b hm ((hq j i b hm).2 L7))⟩
theorem BQ.put {es:aR Ev}{T s:au}{q q' :av->Prop}(h:BQ es T q s){j i:av}{b:kM}(hm:eH es j i b)(hi:s.heap.get i=none)(a7:0<16000001)
  (hu:∀j j' i b b',eH es j i b->eH es j' i b' ->j=j' /\b=b') (hq:∀k,q' k↔k=j\/q k):BQ es T q' (s.put i (.eE b)):=by
 have self:(s.put i (.eE b)).heap.get i=some (.eE b):=by simp only[au.put,Tr.bF _ _ _ _ (deep a7)]
 refine⟨h.next,fun k o hk=> ?_,fun k j' b' hk ME L7=> ?_,fun k hk hn=> ?_⟩
 ·have SH:i≠k:=fun e=>by subst e;rw[h.old _ o hk] at hi;cases hi
  rw[au.bo _ _ _ _ SH];exact h.old k o hk
 ·by_cases SH:i=k
  ·subst SH;obtain⟨_,rfl⟩:=hu _ _ _ _ _ hm ME;exact self
  rw[au.bo _ _ _ _ SH];refine h.new k j' b' hk ME ?_;rcases(hq j').1 L7 with rfl|h'
  ·obtain⟨v,e1⟩:=hm;obtain⟨v',e2⟩:=ME;rw[e1] at e2;injection e2 with e2;injection e2 with _ e3 _
   exact bA e3 SH
  exact h'
 have SH:i≠k:=fun e=>by subst e;exact hn j b hm ((hq j).2 (.inl rfl))
 rw[au.bo _ _ _ _ SH];exact h.gone k hk (fun j' b' ME L7=>hn j' b' ME ((hq j').2 (.inr L7)))
theorem sg {P:an}{call:Call}{all:aR bw}{m id:av}{ars:Made}{o:bw}{f:aZ}{T:au}{e:Ev}(h:dH P call all m id ars o f T=some e):
  (cH all o f=false/\e= .skip)\/(cH all o f=true/\((aS P o=true/\∃v,e= .quiet v)\/
   (aS P o=false/\aJ P o=true/\∃v s1 b,e= .made v id b/\cV P o f ⟨.nil,id⟩=some (.val v s1)/\s1.bL id=some b)\/
   (bh P o=true/\∃v s1,e= .BH v s1/\(cV P o f (fill (ab m) T ars)=some (.val v s1)\/∃g args,cV P o f (fill (ab m) T ars)=some (.call g args)/\call g args (fill (ab m) T ars)=some (v,s1))))):=by
 unfold dH at h;split at h
 ·rename_i hw;injection h with h;exact .inl ⟨hw,h.symm⟩
 rename_i hw;refine .inr ⟨hw,?_⟩;split at h
 ·rename_i hq;split at h
  ·injection h with h;exact .inl ⟨hq,_,h.symm⟩
  cases h
 ·rename_i hq ha;split at h
  ·rename_i v s1 er;split at h
   ·rename_i b hb;injection h with h;exact .inr (.inl ⟨hq,ha,v,s1,b,h.symm,er,hb⟩)
   cases h
  cases h
 rename_i hq ha;have he:bh P o=true:=by simp[bh,hq,ha]
 split at h
 ·rename_i v s1 er;injection h with h;exact .inr (.inr ⟨he,v,s1,h.symm,.inl er⟩)
 ·rename_i g args er;split at h
  ·rename_i v s1 hc;injection h with h;exact .inr (.inr ⟨he,v,s1,h.symm,.inr ⟨g,args,er,hc⟩⟩)
  cases h
 cases h
structure mh (P:an) (call:Call) (ops:aR bw) (f0:aZ) (s0:au) (es:aR Ev) (F:av->aZ) (G:av->au):Prop where
 len:es.length=ops.length
 F0:F 0=f0
 G0:G 0=⟨s0.heap,s0.next+aO P ops⟩
 room:0<=16000000
 op:∀k o,ops[k]?=some o->∃e,es[k]?=some e/\dH P call ops (cW (b9 ops []) k) (s0.next+aO P (ops.take k)) (madeOf (es.take k) 0) o (F k) (G k)=some e/\
  my (F k) o.dst e.val=some (F (k+1))/\G (k+1)=e.after (G k)
 same:∀k o v p,ops[k]?=some o->es[k]?=some (.quiet v)->p<=ops.length->(∀x o',ops[x]?=some o' ->bh P o' =true->ab (cW (b9 ops []) k) x=true->x<p)->
  (∀x o',ops[x]?=some o' ->bh P o' =true->x<p->ab (cW (b9 ops []) x) k=false)->
  ∃t,cV P o (F k) (fill (ab (cW (b9 ops []) k)) (G p) (madeOf es 0))=some (.val v t)
theorem FT {P:an}{call:Call}{ops:aR bw}{f f' :aZ}{s s' :au}(h:iC P call ops f s=some (f',s')):
  ∃es F G,mh P call ops f s es F G/\f' =F ops.length/\s' =fill (fun _=>true) (G ops.length) (madeOf es 0):=by
 unfold iC at h;split at h
 ·cases h
 rename_i hle;split at h
 case h_2=>cases h
 rename_i es hd;split at h
 case h_2=>cases h
 rename_i Jy;injection h with h;injection h with e1 e2;subst e1;subst e2
 have Ci:(b9 ops []).length=ops.length:=by
  obtain⟨r,h1,h2⟩:=mg ops [];rw[h1];simpa using h2
 obtain⟨h1,F,G,h2,h3,h4,h5,h6,h7⟩:=Iq ops (b9 ops []) 0 s.next f _ [] es Ci hd;refine⟨es,F,G,⟨h1,h2,h3,by omega,fun k o ho=>by simpa using h7 k o ho,?_⟩,h4,by rw[h6]⟩;intro k o v p ho he hp mA Sn;rw[<-h2] at Jy;have hs:=FQ k (b9 ops []) ops es 0 F Ci Jy (fun k o e ho he=>by
  obtain⟨e',k1,_,k3,_⟩:=h7 k o ho;rw[he] at k1;injection k1 with k1;subst k1;exact k3) o v ho he
 have aF:=h5 p hp;simp only[cx] at aF hs;have c1:countP (ab (cW (b9 ops []) k)) P ops 0<=countP (fun j=>cd j p) P ops 0:=ud ops 0 (fun x o' Cj Mh hx=>by
  simp only[cx] at hx|-
  rw[b4];exact mA x o' Cj Mh hx)
 have c2:countP (fun j=>cd j p) P ops 0<=countP (fun j=> !Nat.testBit (cW (b9 ops []) j) k) P ops 0:=ud ops 0 (fun x o' Cj Mh hx=>by
  simp only[cx,b4] at hx|-
  rw[Sn x o' Cj Mh hx];rfl)
 generalize countP (fun j=>cd j p) P ops 0=c at*;generalize countP (ab (cW (b9 ops []) k)) P ops 0=lo at*;generalize countP (fun j=> !Nat.testBit (cW (b9 ops []) j) k) P ops 0=hi at*;have mB:G p∈(((aE P ops es ⟨s.heap,s.next+aO P ops⟩).take (hi+1)).drop lo):=by
  refine List.mem_of_getElem? (i:=c-lo) ?_;rw[List.getElem?_drop,show lo+(c-lo)=c by omega,cg,bb (by omega),aF]
 obtain⟨u,t,k1,k2⟩:=C8 hs mB;rw[Tg k2];exact⟨t,k1⟩
section
variable {P:an} {call:Call} {ops:aR bw} {f0:aZ} {s0:au} {es:aR Ev} {F:av->aZ} {G:av->au}
theorem mh.made (h:mh P call ops f0 s0 es F G){j i:av}{b:kM}(hm:eH es j i b):∃o,ops[j]?=some o/\aJ P o=true/\aS P o=false/\i=s0.next+aO P (ops.take j):=by
 obtain⟨v,hm⟩:=hm;have a7:j<ops.length:=by rw[<-h.len];exact(a8.1 hm).1
 obtain⟨e,h1,h2,_,_⟩:=h.op j ops[j] (ax a7);rw[hm] at h1;injection h1 with h1;subst h1
 refine⟨ops[j],ax a7,?_⟩;rcases sg h2 with ⟨_,e⟩|⟨_,⟨_,v',e⟩|⟨hq,ha,v',s1,b',e,_⟩|⟨_,v',s1,e,_⟩⟩
 ·cases e
 ·cases e
 ·injection e with _ e _;exact⟨ha,hq,e⟩
 cases e
theorem mh.uniq (h:mh P call ops f0 s0 es F G):∀j j' i b b',eH es j i b->eH es j' i b' ->j=j' /\b=b' :=by
 intro j j' i b b' h1 h2;obtain⟨o,k1,k2,_,k3⟩:=h.made h1;obtain⟨o',l1,l2,_,l3⟩:=h.made h2;have hj:j=j' :=by
  rcases dg j j' with a7|e|a7
  ·have:=pX ops j j' k1 k2 a7;omega
  ·exact e
  have:=pX ops j' j l1 l2 a7;omega
 subst hj;obtain⟨v,e1⟩:=h1;obtain⟨v',e2⟩:=h2;rw[e1] at e2;injection e2 with e2;injection e2 with _ _ e3
 exact⟨rfl,e3⟩
theorem mh.bound (h:mh P call ops f0 s0 es F G){j i:av}{b:kM}(hm:eH es j i b):s0.next<=i/\i<s0.next+aO P ops:=by
 obtain⟨o,k1,k2,_,k3⟩:=h.made hm;have:=pX ops j ops.length k1 k2 (a8.1 k1).1;rw[List.take_length] at this;omega
theorem mh.adG (h:mh P call ops f0 s0 es F G)(hc:om call)(hw:WF s0):∀k,k<=ops.length->gO s0.next (G 0) (G k):=by
 have mI:WF (G 0):=by rw[h.G0];exact⟨h.room,fun j o hj=>by have:=hw.bound j o hj;show j<s0.next+_;omega⟩
 intro k
 induction k with
 |zero=>intro _;exact gO.refl mI
 |succ k ih=>
  intro hk;have ik:=ih (by omega);obtain⟨e,h1,h2,_,h4⟩:=h.op k ops[k] (ax (by omega));have WR:(G 0).next=s0.next+aO P ops:=by rw[h.G0]
  have fM:∀x∈madeOf (es.take k) 0,s0.next<=x.2.1/\x.2.1<(G k).next:=fun x hx=>by
   obtain⟨j,hj,v,hm⟩:=lO hx;have ME:eH es j x.2.1 x.2.2:=⟨v,by
    rw[cg] at hm;split at hm
    ·exact hm
    cases hm⟩
   have:=h.bound ME;have:=ik.next;omega
  have kf:=gO.fill ik.wf fM (ab (cW (b9 ops []) k));have hB:s0.next<=(fill (ab (cW (b9 ops []) k)) (G k) (madeOf (es.take k) 0)).next:=by
   have:=kf.next;have:=ik.next;omega
  rw[h4];rcases sg h2 with ⟨_,e⟩|⟨_,⟨_,v',e⟩|⟨hq,ha,v',s1,b',e,_⟩|⟨_,v',s1,e,he⟩⟩<;>subst e
  ·exact ik
  ·exact ik
  ·exact ik
  refine ik.trans (kf.trans ?_);rcases he with er|⟨g,args,er,iz⟩
  ·obtain⟨_,_,_,k3⟩:=mK (jR.refl _) kf.wf er;exact k3.toB hB
  obtain⟨_,_,_,k3⟩:=hc _ _ _ _ _ _ _ (jR.refl _) kf.wf iz;exact k3.toB hB
theorem mh.Gc (h:mh P call ops f0 s0 es F G)(a:av):∀b,a<=b->b<=ops.length->(∀x o,a<=x->x<b->ops[x]?=some o->bh P o=false)->G b=G a:=by
 intro b
 induction b with
 |zero=>intro Fm _ _;rw[eg.1 Fm]
 |succ b ih=>
  intro Fm hb hx;by_cases aag:a=b+1
  ·rw[aag]
  obtain⟨e,h1,h2,_,h4⟩:=h.op b ops[b] (ax (by omega));have cE:=hx b _ (by omega) (by omega) (ax (show b<ops.length by omega));rw[h4,<-ih (by omega) (by omega) (fun x o h1 h2 h3=>hx x o h1 (by omega) h3)];rcases sg h2 with ⟨_,e⟩|⟨_,⟨_,v',e⟩|⟨hq,ha,v',s1,b',e,_⟩|⟨he,_⟩⟩
  ·subst e;rfl
  ·subst e;rfl
  ·subst e;rfl
  rw[cE] at he;cases he
theorem mh.Geq (h:mh P call ops f0 s0 es F G){a b:av}(ha:a<=ops.length)(hb:b<=ops.length)(hx:∀x o,ops[x]?=some o->bh P o=true->(x<a↔x<b)):G a=G b:=by
 rcases Nat.le_total a b with Fm|Fm
 ·refine(h.Gc a b Fm hb (fun x o h1 h2 h3=> ?_)).symm;cases he:bh P o with
  |false=>rfl
  |true=>have:=(hx x o h3 he).2 h2;omega
 refine h.Gc b a Fm ha (fun x o h1 h2 h3=> ?_);cases he:bh P o with
 |false=>rfl
 |true=>have:=(hx x o h3 he).1 h2;omega
theorem AJ {f f' :aZ}{d:aY Tmp}{v:aC}{t:av}(h:my f d v=some f')(hd:d≠some t):f'.get t=f.get t:=by
 unfold my at h;split at h
 ·split at h
  ·injection h with h;subst h
   rename_i u _;have hu:u≠t:=fun e=>hd (by rw[e])
   simp only[aZ.get,aZ.put,Tr.cK _ _ _ _ _ hu]
  cases h
 injection h with h;subst h;rfl
theorem wh {f f' :aZ}{v:aC}{t:av}(h:my f (some t) v=some f')(_:f.n<=16000000):f'.get t=v:=by
 unfold my at h;simp only at h;split at h
 ·rename_i ht;have Sp:t<f.n:=by simpa [b4] using ht
  injection h with h;subst h
  simp only[aZ.get,aZ.put,Tr.bF _ _ _ _ (deep (show 0<16000001 by omega))]
 cases h
theorem Qx {f g f' :aZ}{d:aY Tmp}{v:aC}(h:my f d v=some f')(hn:g.n=f.n):∃g',my g d v=some g' :=by
 unfold my at*;cases d with
 |none=>exact⟨g,rfl⟩
 |some t=>
  simp only at h|-
  rw[hn];split at h
  ·rename_i ht;rw[bb ht];exact⟨_,rfl⟩
  cases h
theorem mh.Fn (h:mh P call ops f0 s0 es F G):∀k,k<=ops.length->(F k).n=f0.n:=by
 intro k
 induction k with
 |zero=>intro _;rw[h.F0]
 |succ k ih=>
  intro hk;obtain⟨e,_,_,h3,_⟩:=h.op k ops[k] (ax (by omega));rw[Te h3];exact ih (by omega)
theorem mh.Fc (h:mh P call ops f0 s0 es F G)(t a:av):∀b,a<=b->b<=ops.length->(∀x o,a<=x->x<b->ops[x]?=some o->o.dst≠some t)->(F b).get t=(F a).get t:=by
 intro b
 induction b with
 |zero=>intro Fm _ _;rw[eg.1 Fm]
 |succ b ih=>
  intro Fm hb hx;by_cases aag:a=b+1
  ·rw[aag]
  obtain⟨e,h1,_,h3,_⟩:=h.op b ops[b] (ax (by omega));have cE:=hx b _ (by omega) (by omega) (ax (show b<ops.length by omega));rw[AJ h3 cE];exact ih (by omega) (by omega) (fun x o h1 h2 h3=>hx x o h1 (by omega) h3)
theorem pY (h:tJ P ops=true){y:av}{o:bw}(ho:ops[y]?=some o){e:Edge}(he:e∈o.after.toList)(hb:Region.binds .any e=true):e.on<y:=by
 simp only[tJ,cU,ao] at h;have:=(h (o,y) (by rw[bz];simpa using ho)).1 e he
 simpa [hb,b4] using this
theorem GM (h:tJ P ops=true){x y:av}{ox oy:bw}(hx:ops[x]?=some ox)(hy:ops[y]?=some oy)(a7:x<y)(hd:oH P ops ox oy=true):ab (cW (b9 ops []) y) x=true:=by
 simp only[tJ,cU,ao] at h;have:=(h (oy,y) (by rw[bz];simpa using hy)).2 (ox,x) (by rw[bz];simpa using hx);have hb:cd x y=true:=by rw[b4];exact a7
 simpa [hb,hd] using this
def zU (ops:aR bw)(L:av->Prop):Prop:=∀y o,ops[y]?=some o->L y->∀e∈o.after.toList,Region.binds .any e=true->L e.on
theorem anc (h:tJ P ops=true){L:av->Prop}(hc:zU ops L):∀y o,ops[y]?=some o->(∀e∈o.after.toList,Region.binds .any e=true->L e.on)->∀x,ab (cW (b9 ops []) y) x=true->L x:=by
 intro y
 induction y using dw with
 |ind y ih=>
  intro o ho he x hx;obtain⟨Td,h1,h2⟩:=C7 ops [] y o ho;simp only[List.length_nil,cx] at h1 h2;rw[h2] at hx;rcases C6 hx with h0|⟨e,e1,e2,e3⟩
  ·simp at h0
  have a7:=pY h ho e1 e2;have hL:=he e e1 e2;rcases e3 with rfl|e3
  ·exact hL
  rw[h1 _ a7] at e3;have tD:=(a8.1 ho).1;have hoe:ops[e.on]?=some ops[e.on]:=ax (show e.on<ops.length by omega);exact ih e.on a7 _ hoe (hc _ _ hoe hL) x e3
theorem WS (h:tJ P ops=true){y:av}{o:bw}(ho:ops[y]?=some o){x:av}(hx:ab (cW (b9 ops []) y) x=true):x<y:=
 anc h (L:=fun x=>x<y) (fun _ _ hz hL _ he hb=>Nat.lt_trans (pY h hz he hb) hL) y o ho (fun _ he hb=>pY h ho he hb) x hx
theorem rel (h:tJ P ops=true){L:av->Prop}(hc:zU ops L){i:av}{o:bw}(ho:ops[i]?=some o)(hn:¬L i)(he:∀e∈o.after.toList,Region.binds .any e=true->L e.on)
  {x:av} {ox:bw} (hx:ops[x]?=some ox) (h1:x<i->oH P ops ox o=true) (h2:i<x->oH P ops o ox=true):x<i↔L x:=by
 rcases dg x i with a7|e|a7
 ·exact⟨fun _=>anc h hc i o ho he x (GM h hx ho a7 (h1 a7)),fun _=>a7⟩
 ·subst e;exact⟨fun hl=>bA hl (Nat.lt_irrefl _),fun hl=>bA hl hn⟩
 refine⟨fun hl=>by omega,fun hl=> ?_⟩;exact bA (anc h hc x ox hx (hc x ox hx hl) i (GM h ho hx a7 (h2 a7))) hn
def Inv (P:an)(base:av)(S0:St)(a0:Act)(ops:aR bw)(es:aR Ev)(F:av->aZ)(G:av->au)(L:av->Prop)(a:Act)(w:b7):Prop:=
 ∃(S:St) (g:aZ) (p:av),S.w=w/\Good base S0 S/\FR S g a/\a.defers=a0.defers/\g.n=(F 0).n/\p<=ops.length/\(∀x o,ops[x]?=some o->bh P o=true->(x<p↔L x))/\BQ es (G p) L S.s/\
  (∀j i b,eH es j i b->¬L j->S.s.heap.get i=none)/\(∀i,i<=ops.length->∀t:av,(∀x o,ops[x]?=some o->o.dst=some t->(x<i↔L x))->g.get t=(F i).get t)
theorem zV {l:aR av}{d:aY Tmp}{t:av}(hd:d=some t)(ht:t∈l):P5 l d=true:=by
 subst hd;simp only[P5,List.any_eq_true];exact⟨t,ht,Nat.beq_refl t⟩
theorem Tj (h:mh P call ops f0 s0 es F G)(zW:tJ P ops=true)(hc:om call){Pre:av->b7->Prop}(gF:zT P Pre call){base:av}{S0:St}{a0:Act}(YO:WF s0)(aF:C9 Pre)(jI:Pre base S0.w){L L' :av->Prop}(iz:zU ops L){a:Act}{w:b7}(hinv:Inv P base S0 a0 ops es F G L a w)
  {i:av} {o:bw} (ho:ops[i]?=some o) (hn:¬L i) (he:∀e∈o.after.toList,Region.binds .any e=true->L e.on) (J7:∀j,L' j↔j=i\/L j) {K:Act->b7->Prop} {Q:Exit->Act->b7->Prop}
  (hK:∀a w,Inv P base S0 a0 ops es F G L' a w->K a w):wpOp P ops.toArray Q i K a w:=by
 obtain⟨S,g,p,rfl,hg,hf,had,hgn,hp,Ir,ue,jg,wL⟩:=hinv;obtain⟨ev,WT,hdo,jA,hG⟩:=h.op i o ho;have V8:i<ops.length:=(a8.1 ho).1;have hgF:g.n=(F i).n:=by rw[hgn,h.F0,h.Fn i (by omega)]
 obtain⟨g',Tk⟩:=Qx jA hgF;have zQ:=hf.small;have hkp:=h.adG hc YO p hp;have ahT:(G 0).next=s0.next+aO P ops:=by rw[h.G0]
 have Tl:∀j k b,eH es j k b->k<(G p).next:=fun j k b hm=>by have:=(h.bound hm).2;have:=hkp.next;omega
 have m8:∀t:av,t∈zH ops o->g.get t=(F i).get t:=fun t ht=>wL i (by omega) t (fun x ox hx hd=>rel zW iz ho hn he hx
  (fun _=>by simp only[oH,zV hd ht,dk,c5])
  (fun _=>by simp only[oH,zV hd ht,dk,c5]))
 have adH:∀t:av,Operand.tmp t∈o.op.operands.toList->(F i).get t=g.get t:=fun t ht=>(m8 t (by
  simp only[zH,ds,List.mem_filterMap];exact .inl ⟨_,ht,rfl⟩)).symm
 have adI:cH ops o g=cH ops o (F i):=FP hgF m8;have It:∀s,cV P o (F i) s=cV P o g s:=fun s=>Qv hgF.symm adH s
 have aai:∀i',i' <=ops.length->∀t:av,(∀x ox,ops[x]?=some ox->ox.dst=some t->(x<i' ↔L' x))->g'.get t=(F i').get t:=by
  intro i' sO t ht;by_cases hd:o.dst=some t
  ·have hii:i<i' :=(ht i o ho hd).2 ((J7 i).2 (.inl rfl));have e1:g'.get t=ev.val:=by rw[hd] at Tk;exact wh Tk zQ
   have e2:(F (i+1)).get t=ev.val:=by rw[hd] at jA;exact wh jA (by rw[<-hgF];exact zQ)
   rw[e1,<-e2];refine(h.Fc t (i+1) i' (by omega) sO (fun x ox h1 h2 h3 h4=> ?_)).symm;have hLx:L x:=by
    rcases(J7 x).1 ((ht x ox h3 h4).1 h2) with e|hl
    ·omega
    exact hl
   have:=(rel zW iz ho hn he h3 (fun _=>by omega) (fun _=>by
    have:P5 o.dst.toList ox.dst=true:=zV h4 (by rw[hd];simp);simp only[oH,this,dk])).2 hLx
   omega
  rw[AJ Tk hd];refine wL i' sO t (fun x ox hx Sq=> ?_);rw[ht x ox hx Sq,J7 x];have:x≠i:=fun e=>by subst e;rw[ho] at hx;injection hx with hx;subst hx;exact hd Sq
  simp[this]
 have ahU:g'.n=(F 0).n:=by rw[Te Tk,hgn]
 have fin:∀(T:St) (v' :aC) (p' :av),Good base S T->VR T ev.val v' ->p' <=ops.length->(∀x ox,ops[x]?=some ox->bh P ox=true->(x<p' ↔L' x))->BQ es (G p') L' T.s->
   (∀j k b,eH es j k b->¬L' j->T.s.heap.get k=none)->K (a.put o.dst v') T.w:=by
  intro T v' p' Qy hv Tf adJ adK Iu;exact hK _ _ ⟨T,g',p',rfl,hg.trans Qy,(hf.mono Qy.ext).put hv Tk,(put_defers _ _ _).trans had,ahU,Tf,adJ,adK,Iu,aai⟩
 have MF:bh P o=false->∀x ox,ops[x]?=some ox->bh P ox=true->(x<p↔L' x):=fun cE x ox hx hex=>by
  rw[Ir x ox hx hex,J7 x];have:x≠i:=fun e=>by subst e;rw[ho] at hx;injection hx with hx;subst hx;rw[cE] at hex;cases hex
  simp[this]
 have YP:bh P o=true->∀x ox,ops[x]?=some ox->bh P ox=true->(x<i↔L x):=fun cE x ox hx hex=>rel zW iz ho hn he hx
  (fun _=>by simp only[oH,hex,cE,dT,c5]) (fun _=>by simp only[oH,hex,cE,dT,c5])
 have YQ:bh P o=true->∀x ox,ops[x]?=some ox->bh P ox=true->(x<i+1↔L' x):=fun cE x ox hx hex=>by
  rw[J7 x,<-YP cE x ox hx hex];omega
 have adL:bh P o=true->G p=G i:=fun cE=>h.Geq hp (by omega) (fun x ox hx hex=>by rw[Ir x ox hx hex,YP cE x ox hx hex])
 have hnm:(∀v k b,ev≠ .made v k b)->∀j k b,eH es j k b->(L' j↔L j):=fun cE j k b hm=>by
  rw[J7 j];have:j≠i:=fun e=>by
   subst e;obtain⟨v,hm⟩:=hm;rw[WT] at hm;injection hm with hm
   exact cE _ _ _ hm
  simp[this]
 unfold wpOp;have hoa:ops.toArray[i]?=some o:=by rw[b5];exact ho
 simp only[hoa];rw[<-GK hf,adI];rcases sg hdo with ⟨pV,rfl⟩|⟨pV,ON⟩
 ·rw[ck (by rw[pV];simp)];have Qz:=hnm (fun _ _ _=>by simp);have Iu:∀j k b,eH es j k b->¬L' j->S.s.heap.get k=none:=fun j k b hm hl=>jg j k b hm (fun zq=>hl ((J7 j).2 (.inr zq)))
  cases OO:bh P o with
  |false=>exact fin S undef p (Good.refl hg.sr) (VR.tK S) hp (MF OO) (ue.congr Qz) Iu
  |true=>
   refine fin S undef (i+1) (Good.refl hg.sr) (VR.tK S) (by omega) (YQ OO) ?_ Iu;have:G (i+1)=G p:=by rw[hG,adL OO];rfl
   rw[this];exact ue.congr Qz
 rw[bb pV];refine .inl ?_;rcases ON with ⟨hq,v,rfl⟩|⟨hq,ha,v,s1,b,rfl,er,hb⟩|⟨OO,v,s1,rfl,ON⟩
 ·have Qz:=hnm (fun _ _ _=>by simp);obtain⟨t,er⟩:=h.same i o v p ho WT hp (fun x ox hx hex hb=>(Ir x ox hx hex).2 (anc zW iz i o ho he x hb)) (fun x ox hx hex hxp=>by
   cases hb:ab (cW (b9 ops []) x) i with
   |false=>rfl
   |true=>exact bA (anc zW iz x ox hx (iz x ox hx ((Ir x ox hx hex).1 hxp)) i hb) hn)
  have Iv:∀x∈madeOf es 0,s0.next<=x.2.1/\x.2.1<(G p).next:=fun x hx=>by
   obtain⟨j,_,hm⟩:=lO hx;exact⟨(h.bound hm).1,Tl _ _ _ hm⟩
  have kf:=gO.fill hkp.wf Iv (ab (cW (b9 ops []) i));have vK:BQ es (G p) (fun j=>ab (cW (b9 ops []) i) j=true) (fill (ab (cW (b9 ops []) i)) (G p) (madeOf es 0)):=Da (fun x hx=>by have:=(Iv x hx).2;have:=hkp.wf.room;omega)
   (fun j k b hm _=>by have:=sf (n:=0) hm;simpa using this) (fun x hx=>by obtain⟨j,hj,hm⟩:=lO hx;rw[show x.1=j by omega];exact hm) h.uniq
  have Tm:=vK.adF Tl ue (fun j hj=>anc zW iz i o ho he j hj);obtain⟨t',k1,_,_⟩:=mK Tm kf.wf er;rw[It] at k1;obtain⟨v2,e,v',hv,kC⟩:=GB hg.sr hf hq _ k1;injection e with e1 e2;subst e1;unfold Oper.wp;rw[kC];have OO:bh P o=false:=by simp[bh,hq]
  exact fin S v' p (Good.refl hg.sr) hv hp (MF OO) (ue.congr Qz) (fun j k b hm hl=>jg j k b hm (fun zq=>hl ((J7 j).2 (.inr zq))))
 ·have hm:eH es i (s0.next+aO P (ops.take i)) b:=⟨v,WT⟩;have adM:=jg _ _ _ hm hn;have a7:s0.next+aO P (ops.take i)<S.s.next:=by rw[ue.next];exact Tl _ _ _ hm
  have gw:=hg.sr.room;rw[It] at er;obtain⟨T,v',hT,hv,Qy,kC⟩:=Tb hg.sr hf ha ⟨adM,a7,a3 _,gw,.inl a7⟩ er hb;unfold Oper.wp;rw[kC];have OO:bh P o=false:=by simp[bh,hq,ha]
  refine fin T v' p Qy hv hp (MF OO) ?_ ?_
  ·rw[hT];exact ue.put hm adM (by omega) h.uniq J7
  intro j k b' ME hl;rw[hT];have gD:j≠i:=fun e=>hl ((J7 j).2 (.inl e))
  have hk:s0.next+aO P (ops.take i)≠k:=fun e=>by
   subst e;exact gD (h.uniq _ _ _ _ _ ME hm).1
  rw[au.bo _ _ _ _ hk];exact jg j k b' ME (fun zq=>hl ((J7 j).2 (.inr zq)))
 have Qz:=hnm (fun _ _ _=>by simp);have hGp:=adL OO;have Iv:∀x∈madeOf (es.take i) 0,eH es x.1 x.2.1 x.2.2:=fun x hx=>by
  obtain⟨j,hj,v,hm⟩:=lO hx;rw[show x.1=j by omega];refine⟨v,?_⟩;rw[cg] at hm;split at hm
  ·exact hm
  cases hm
 have kf:=gO.fill hkp.wf (fun x hx=>⟨(h.bound (Iv x hx)).1,Tl _ _ _ (Iv x hx)⟩) (ab (cW (b9 ops []) i));have vK:BQ es (G p) (fun j=>ab (cW (b9 ops []) i) j=true) (fill (ab (cW (b9 ops []) i)) (G p) (madeOf (es.take i) 0)):=Da (fun x hx=>by have:=Tl _ _ _ (Iv x hx);have:=hkp.wf.room;omega)
  (fun j k b hm hj=>by
   have a7:=WS zW ho hj;have:eH (es.take i) j k b:=by
    obtain⟨v,hm⟩:=hm;exact⟨v,by rw[cg,bb a7];exact hm⟩
   have:=sf (n:=0) this;simpa using this) Iv h.uniq
 have Tm:=vK.adF Tl ue (fun j hj=>anc zW iz i o ho he j hj);have YR:=hg.sr.wf;rw[<-hGp] at ON;have hG1:G (i+1)=s1:=by rw[hG];rfl
 have last:∀(T:St) (v' :aC) (t' :au),jR t' T.s->du s1 t' (diff (fill (ab (cW (b9 ops []) i)) (G p) (madeOf (es.take i) 0)) S.s)->bQ (fill (ab (cW (b9 ops []) i)) (G p) (madeOf (es.take i) 0)) s1->bQ S.s t' ->VR T v v' ->Good base S T->K (a.put o.dst v') T.w:=by
  intro T v' t' QA k2 k3 k4 hv Qy;refine fin T v' (i+1) Qy hv (by omega) (YQ OO) ?_ ?_
  ·rw[hG1];exact((vK.step ue k2 k3).same QA).congr Qz
  intro j k b hm hl;rw[QA.get k];exact k4.gone k (by rw[ue.next];exact Tl _ _ _ hm) (jg j k b hm (fun zq=>hl ((J7 j).2 (.inr zq))))
 rcases ON with er|⟨gf,args,er,ahW⟩
 ·obtain⟨t',k1,k2,k3⟩:=mK Tm kf.wf er;obtain⟨_,_,_,k4⟩:=mK (jR.refl _) YR k1;rw[It] at k1;obtain⟨T,v',QA,hv,Qy,kC⟩:=Ip hg.sr hf _ k1;unfold Oper.wp;rcases kC with kC|⟨kC,rfl⟩
  ·rw[kC];exact last T v' t' (by rw[QA];exact jR.refl _) k2 k3 k4 hv Qy
  rw[kC];exact last T undef t' (by rw[QA];exact jR.refl _) k2 k3 k4 hv Qy
 have k1:=mK Tm kf.wf er;simp only[MA] at k1;rw[It] at k1;obtain⟨t',c1,c2,c3⟩:=hc _ _ _ _ _ _ _ Tm kf.wf ahW;obtain⟨_,_,_,c4⟩:=hc _ _ _ _ _ _ _ (jR.refl _) YR c1;obtain⟨args',L8,hex⟩:=Ip hg.sr hf _ k1;unfold Oper.wp;rw[hex];rcases gF gf base S S.s args v t' (jR.refl _) hg.sr (aF base _ _ hg.below jI) c1 args' L8 with ⟨kC,Db⟩|⟨T,v',kC,QA,hv,Qy⟩
 ·rw[kC];refine Calls.mono Db ?_;rintro e w' ⟨T,v',QA,rfl,rfl,hv,Qy⟩;exact last T v' t' QA c2 c3 c4 hv Qy
 rw[kC];exact last T v' t' QA c2 c3 c4 hv Qy
end
def Sr (listed:cD cT):av->av
 |0=>0
 |n+1=>Sr listed n+(if listed.getD n true=true then 0 else 1)
theorem J8 {listed:cD cT}:∀{n:av},Sr listed n=0->∀j,j<n->listed.getD j true=true
 |0,_,j,hj=>by omega
 |n+1,h,j,hj=>by
  simp only[Sr] at h;by_cases YS:j=n
  ·subst YS;by_cases hl:listed.getD j true=true
   ·exact hl
   rw[ck hl] at h;omega
  exact J8 (n:=n) (by omega) j (by omega)
theorem Dc {listed:cD cT}{i:av}:∀{n:av},n<=i->Sr (listed.setIfInBounds i true) n=Sr listed n
 |0,_=>rfl
 |n+1,h=>by
  simp only[Sr,Dc (n:=n) (by omega:n<=i),getD_set_ne true (show i≠n by omega)]
theorem OP {listed:cD cT}{i:av}(hi:i<listed.size)(hf:listed.getD i true=false):∀{n:av},i<n->Sr (listed.setIfInBounds i true) n+1=Sr listed n
 |0,h=>by omega
 |n+1,h=>by
  simp only[Sr];by_cases tm:i=n
  ·subst tm;rw[Dc (a3 _),hf];have:(listed.setIfInBounds i true).getD i true=true:=by simp[hi]
   rw[this];simp
  have:=OP hi hf (n:=n) (by omega);rw[getD_set_ne true tm];omega
theorem BQ.unique {es:aR Ev}{T s s' :au}{q:av->Prop}(h:BQ es T q s)(h' :BQ es T q s'):jR s s' :=by
 refine⟨by rw[h.next,h'.next],(fun _ _ h=>by cases h),fun i=> ?_⟩;show s'.heap.get i=s.heap.get i;cases hT:T.heap.get i with
 |some o=>rw[h.old i o hT,h'.old i o hT]
 |none=>
  by_cases hx:∃j b,eH es j i b/\q j
  ·obtain⟨j,b,hm,hq⟩:=hx;rw[h.new i j b hT hm hq,h'.new i j b hT hm hq]
  rw[h.gone i hT (fun j b hm hq=>hx ⟨j,b,hm,hq⟩),h'.gone i hT (fun j b hm hq=>hx ⟨j,b,hm,hq⟩)]
def MG (listed:cD cT)(j:av):Prop:=listed.getD j false=true
section
variable {P:an} {call:Call} {ops:aR bw} {f0:aZ} {s0:au} {es:aR Ev} {F:av->aZ} {G:av->au}
theorem WU (h:mh P call ops f0 s0 es F G)(hc:om call)(YO:WF s0){base:av}{S0:St}{a0:Act}{L:av->Prop}{a:Act}{w:b7}(hinv:Inv P base S0 a0 ops es F G L a w)(kE:∀j,j<ops.length->L j):
  ∃S,S.w=w/\Good base S0 S/\FR S (F ops.length) a/\a.defers=a0.defers/\jR (fill (fun _=>true) (G ops.length) (madeOf es 0)) S.s:=by
 obtain⟨S,g,p,rfl,hg,hf,had,hgn,hp,Ir,ue,jg,wL⟩:=hinv;have a7:∀x (ox:bw),ops[x]?=some ox->x<ops.length:=fun x ox hx=>(a8.1 hx).1
 have hG:G p=G ops.length:=h.Geq hp (a3 _) (fun x ox hx hex=>by rw[Ir x ox hx hex];exact⟨fun _=>a7 x ox hx,fun hl=>kE x hl⟩);have hk:=h.adG hc YO ops.length (a3 _);have ahT:(G 0).next=s0.next+aO P ops:=by rw[h.G0]
 have Iv:∀x∈madeOf es 0,0<16000001:=fun x hx=>by
  obtain⟨j,_,hm⟩:=lO hx;have:=(h.bound hm).2;have:=hk.next;have:=hk.wf.room;omega
 have vK:BQ es (G ops.length) (fun _=>true=true) (fill (fun _=>true) (G ops.length) (madeOf es 0)):=Da Iv (fun j k b hm _=>by have:=sf (n:=0) hm;simpa using this)
  (fun x hx=>by obtain⟨j,hj,hm⟩:=lO hx;rw[show x.1=j by omega];exact hm) h.uniq
 rw[hG] at ue;have fe:=ue.congr (q' :=fun _=>true=true) (fun j k b hm=>⟨fun _=>by obtain⟨o,k1,_⟩:=h.made hm;exact kE j (a7 j o k1),fun _=>rfl⟩);refine⟨S,rfl,hg,?_,had,vK.unique fe⟩;have hn:g.n=(F ops.length).n:=by rw[hgn,h.F0,h.Fn _ (a3 _)]
 refine⟨by rw[<-hn];exact hf.n,by rw[<-hn];exact hf.small,fun t ht=> ?_⟩;rw[<-wL ops.length (a3 _) t (fun x ox hx _=>⟨fun hl=>kE x hl,fun _=>a7 x ox hx⟩)];exact hf.get t (by rw[hn];exact ht)
theorem aaj (h:mh P call ops f0 s0 es F G)(zW:tJ P ops=true)(hc:om call){Pre:av->b7->Prop}(gF:zT P Pre call)(YO:WF s0)(aF:C9 Pre){base:av}{S0:St}(jI:Pre base S0.w){a0:Act}{Q:Exit->Act->b7->Prop}
  (hQ:∀T a',jR (fill (fun _=>true) (G ops.length) (madeOf es 0)) T.s->Good base S0 T->FR T (F ops.length) a' ->a'.defers=a0.defers->Q .normal a' T.w):
  ∀(fuel:av) (listed:cD cT) (a:Act) (w:b7),listed.size=ops.length->Sr listed ops.length<=fuel->zU ops (MG listed)->Inv P base S0 a0 ops es F G (MG listed) a w->wpAny P .any ops.toArray Q fuel listed a w:=by
 have ending:∀(listed:cD cT) (a:Act) (w:b7),Inv P base S0 a0 ops es F G (MG listed) a w->(∀j,j<ops.length->MG listed j)->Q .normal a w:=by
  intro listed a w hinv kE;obtain⟨S,rfl,h1,h2,h3,h4⟩:=WU h hc YO hinv kE;exact hQ S a h4 h1 h2 h3
 have Qm:∀(listed:cD cT) j,listed.size=ops.length->j<ops.length->(listed.getD j true=true↔MG listed j):=by
  intro listed j cX hj;have:j<listed.size:=by omega
  simp[MG,this]
 have WV:∀(listed:cD cT),listed.size=ops.length->Region.ready .any ops.toArray listed=[]->∀j,j<ops.length->MG listed j:=by
  intro listed cX J1 j
  induction j using dw with
  |ind j ih=>
   intro hj;by_cases hl:listed.getD j true=true
   ·exact(Qm listed j cX hj).1 hl
   exfalso;have hoj:ops[j]?=some ops[j]:=ax hj;have:j∈Region.ready .any ops.toArray listed:=mem_ready.2 ⟨by simpa using hl,ops[j],by rw[b5];exact hoj,fun e he hb=>by
    have a7:=pY zW hoj (by simpa using he) hb;exact ih e.on a7 (by omega)⟩
   rw[J1] at this;cases this
 intro fuel
 induction fuel with
 |zero=>
  intro listed a w cX ahX iz hinv;have kE:∀j,j<ops.length->MG listed j:=fun j hj=>(Qm listed j cX hj).1 (J8 (by omega) j hj)
  refine⟨?_,ending listed a w hinv kE⟩;cases hr:Region.ready .any ops.toArray listed with
  |nil=>rfl
  |cons j r=>
   have hj:j∈Region.ready .any ops.toArray listed:=by rw[hr];exact bk ..
   obtain⟨h1,o,h2,_⟩:=mem_ready.1 hj;have a7:j<ops.length:=by rw[b5] at h2;exact(a8.1 h2).1
   have:=(Qm listed j cX a7).2 (kE j a7);rw[h1] at this;cases this
 |succ fuel ih=>
  intro listed a w cX ahX iz hinv;refine⟨fun J1=>ending listed a w hinv (WV listed cX J1),fun i hi=> ?_⟩;obtain⟨h1,o,h2,h3⟩:=mem_ready.1 hi;have ho:ops[i]?=some o:=by rw[b5] at h2;exact h2
  have a7:i<ops.length:=(a8.1 ho).1;have hn:¬MG listed i:=fun hl=>by have:=(Qm listed i cX a7).2 hl;rw[h1] at this;cases this
  have J7:∀j,MG (listed.setIfInBounds i true) j↔j=i\/MG listed j:=by
   intro j;by_cases Dd:i=j
   ·subst Dd;have:i<listed.size:=by omega
    simp[MG,this]
   unfold MG;rw[getD_set_ne false Dd];constructor
   ·exact fun h=> .inr h
   rintro (e|h)
   ·exact bA e.symm Dd
   exact h
  refine Tj h zW hc gF YO aF jI iz hinv ho hn (fun e he hb=>h3 e (by simpa using he) hb) J7 (fun a' w' adO=> ?_);refine ih _ a' w' (by simpa using cX) ?_ ?_ adO
  ·have:=OP (listed:=listed) (i:=i) (by omega) h1 (n:=ops.length) a7;omega
  intro y oy hy hly e he hb;rcases(J7 y).1 hly with rfl|hl
  ·rw[ho] at hy;injection hy with hy;subst hy
   exact(J7 _).2 (.inr (h3 e (by simpa using he) hb))
  exact(J7 _).2 (.inr (iz y oy hy hl e he hb))
end
theorem Good.aak {base:av}{S:St}(h:SR base S)(n:av)(hn:0<=16000000):Good base S ⟨⟨S.s.heap,S.s.next+n⟩,S.e,S.w.drew⟩:=by
 have tL:Ext S ⟨⟨S.s.heap,S.s.next+n⟩,S.e,S.w.drew⟩:=⟨fun _ b hb=>⟨b,hb,a3 _,a3 _,rfl,fun _ _ _=>rfl⟩,fun _ es he=>⟨⟨es,he⟩,rfl⟩,fun _ arr _ fr hk=>⟨arr,fr,hk,rfl⟩⟩;refine⟨⟨hn,fun i o hi=>by have:=h.bound i o hi;show i<S.s.next+n;omega,h.low,fun i b hb c hc p hp=> ?_,h.own,fun r es he=> ?_,h.Ia,h.size,h.Ib⟩,tL,(Below.refl _ _).drew⟩
 ·obtain⟨v,h1,h2⟩:=h.cell i b hb c hc p hp;exact⟨v,h1,h2.mono tL⟩
 obtain⟨h1,hJ,tj,h2,h3⟩:=h.map r es he;exact⟨h1,hJ,tj,h2,h3.mono tL⟩
theorem MH {P:an}{call:Call}(hc:om call){Pre:av->b7->Prop}(gF:zT P Pre call)(aF:C9 Pre)(hm:P.follows .mixedOrders=true){id:av}{ops:cD bw}(zW:tJ P ops.toList=true){base:av}{f f' :aZ}{s s' :au}{S:St}{a:Act}
  {Q:Exit->Act->b7->Prop} (hs:jR s S.s) (sr:SR base S) (jI:Pre base S.w) (hf:FR S f a) (hr:iC P call ops.toList f s=some (f',s')) (hq:∀T a',jR s' T.s->Good base S T->FR T f' a' ->a'.defers=a.defers->Q .normal a' T.w):
  (Code.region id ops true).wp P Q a S.w:=by
 have YR:=sr.wf;obtain⟨t',C0,fN,_⟩:=C4 hc hs (hs.wf YR) hr;obtain⟨es,F,G,tr,rfl,rfl⟩:=FT C0;have e:ops=ops.toList.toArray:=by simp
 rw[e];refine wp_region_any hm ?_;have hg:=Good.aak sr (aO P ops.toList) tr.room;have hL:∀j,¬MG (cb ops.toList.toArray.size false) j:=by
  intro j hj;simp only[MG,Array.getD_eq_getD_getElem?,cM] at hj;split at hj<;>simp at hj
 refine aaj tr zW hc gF YR aF (base:=base) (S0:=S) (a0:=a) jI (fun T a' h1 h2 h3 h4=>hq T a' ?_ h2 h3 h4) _ _ a _ (by simp) ?_ (fun y o _ hl=>bA hl (hL y)) ?_
 ·exact⟨by rw[h1.next,fN.next],(fun _ _ h=>by cases h),fun i=>by show T.s.heap.get i=s'.heap.get i;rw[h1.get i,fN.get i]⟩
 ·have:∀n m,Sr (cb m false) n<=n:=by
   intro n m
   induction n with
   |zero=>exact a3 _
   |succ n ih=>simp only[Sr];split<;>omega
  have:=this ops.toList.length ops.toList.toArray.size
  simpa using this
 refine⟨_,f,0,rfl,hg,hf.mono hg.ext,rfl,by rw[tr.F0],cB _,fun x o _ _=>⟨fun h=>by omega,fun h=>bA h (hL x)⟩,?_,?_,?_⟩
 ·rw[tr.G0];exact⟨rfl,fun i o h=>h,fun i j b _ _ h=>bA h (hL j),fun i h _=>h⟩
 ·intro j i b hm _;have hb:=(tr.bound hm).1;show S.s.heap.get i=none;cases hgi:S.s.heap.get i with
  |none=>rfl
  |some o=>have:=YR.bound i o hgi;omega
 intro i hi t ht;rw[tr.Fc t 0 i (cB _) hi (fun x o _ hx h1 h2=>bA ((ht x o h1 h2).1 hx) (hL x)),tr.F0]
theorem QB {P:an}{call:Call}{Pre:av->b7->Prop}(GN:zT P Pre call)(aF:C9 Pre)(all:aR bw)(base:av):∀(l:aR bw) (f:aZ) (s:au) (S:St) (f' :aZ) (s' :au) (a:Act) (Q:Exit->Act->b7->Prop),
  jW P call all l f s=some (f',s')->jR s S.s->SR base S->Pre base S.w->FR S f a->(∀T a',jR s' T.s->Good base S T->FR T f' a' ->a'.defers=a.defers->Q .normal a' T.w)->wpList P all.toArray Q l a S.w:=by
 intro l
 induction l with
 |nil=>
  intro f s S f' s' a Q hr jJ hs jI hf hq;simp only[jW] at hr;injection hr with hr;injection hr with e1 e2;subst e1;subst e2
  exact hq S a jJ (Good.refl hs) hf rfl
 |cons o l ih=>
  intro f s S f' s' a Q hr jJ hs jI hf hq;simp only[jW] at hr;unfold wpList;rw[<-GK hf];split at hr
  ·rename_i hw;rw[bb hw];refine .inl ?_;unfold Oper.wp;split at hr
   ·rename_i v s1 er;split at hr
    ·rename_i f1 hp;obtain⟨t1,k1,k2,_⟩:=mK jJ (jJ.wf hs.wf) er;obtain⟨T,v',rfl,hv,hg,kC⟩:=Ip hs hf _ k1;have BL:=(hf.mono hg.ext).put hv hp;have next:=ih f1 s1 T f' s' (a.put o.dst v') Q hr k2 hg.sr (aF _ _ _ hg.below jI) BL (fun U a' e g jt hd=>hq U a' e (hg.trans g) jt (hd.trans (put_defers _ _ _)));rcases kC with kC|⟨kC,rfl⟩
     ·rw[kC];exact next
     rw[kC];exact next
    cases hr
   ·rename_i g args er;split at hr
    ·rename_i v s1 hc;split at hr
     ·rename_i f1 hp;have k1:=mK jJ (jJ.wf hs.wf) er;simp only[MA] at k1;obtain⟨args',L8,he⟩:=Ip hs hf _ k1;rw[he];have fin:∀(T:St) (v' :aC),jR s1 T.s->VR T v v' ->Good base S T->wpList P all.toArray Q l (a.put o.dst v') T.w:=by
       intro T v' hT hv hg;have BL:=(hf.mono hg.ext).put hv hp;exact ih f1 s1 T f' s' (a.put o.dst v') Q hr hT hg.sr (aF _ _ _ hg.below jI) BL (fun U a' e g jt hd=>hq U a' e (hg.trans g) jt (hd.trans (put_defers _ _ _)))
      rcases GN g base S s args v s1 jJ hs jI hc args' L8 with ⟨kC,Db⟩|⟨T,v',kC,hT,hv,hg⟩
      ·rw[kC];refine Calls.mono Db ?_;rintro e w' ⟨T,v',hT,rfl,rfl,hv,hg⟩;exact fin T v' hT hv hg
      rw[kC];exact fin T v' hT hv hg
     cases hr
    cases hr
   cases hr
  rename_i hw;rw[ck hw];split at hr
  ·rename_i f1 hp;exact ih f1 s S f' s' (a.put o.dst undef) Q hr jJ hs jI (hf.put (VR.tK S) hp) (fun U a' e g jt hd=>hq U a' e g jt (hd.trans (put_defers _ _ _)))
  cases hr
theorem QC {P:an}{call:Call}(hc:om call){Pre:av->b7->Prop}(GN:zT P Pre call)(aF:C9 Pre)(hm:P.follows .mixedOrders=true){id:av}{ops:cD bw}{d:cT}{base:av}{f:aZ}{s:au}{S:St}{f' :aZ}{s' :au}{a:Act}
  {Q:Exit->Act->b7->Prop} (hr:(match d with
   |false=>jW P call ops.toList ops.toList f s
   |true=>iC P call ops.toList f s)=some (f',s')) (gF:codeOk P (.region id ops d)=true) (jJ:jR s S.s) (hs:SR base S) (jI:Pre base S.w) (hf:FR S f a) (hq:∀T a',jR s' T.s->Good base S T->FR T f' a' ->a'.defers=a.defers->Q .normal a' T.w):
  (Code.region id ops d).wp P Q a S.w:=by
 cases d with
 |false=>
  refine wp_region_list ?_;have:=QB GN aF ops.toList base ops.toList f s S f' s' a Q hr jJ hs jI hf hq
  simpa using this
 |true=>exact MH hc GN aF hm gF jJ hs jI hf hr hq
def Iw:AX->Exit
 | .normal=> .normal
 | .exit id=> .exit id
 | .ret=> .ret
def MI (P:an)(Pre:av->b7->Prop)(ex:ed->aZ->au->Out):Prop:=
 ∀(c:ed) (base:av) (f:aZ) (s:au) (S:St) (x:AX) (f' :aZ) (s' :au) (a:Act) (Q:Exit->Act->b7->Prop),codeOk P c=true->ex c f s=some (x,f',s')->jR s S.s->SR base S->Pre base S.w->FR S f a->
  (∀T a',jR s' T.s->Good base S T->FR T f' a' ->a'.defers=a.defers->Q (Iw x) a' T.w)->c.wp P Q a S.w
def Tn (P:an)(Pre:av->b7->Prop)(ex:ed->aZ->au->Out)(n:av):Prop:=
 ∀(c:ed) (base:av) (f:aZ) (s:au) (S:St) (x:AX) (f' :aZ) (s' :au) (a:Act) (Q:Exit->Act->b7->Prop),codeOk P c=true->ex (.loop c) f s=some (x,f',s')->jR s S.s->SR base S->Pre base S.w->FR S f a->
  (∀T a',jR s' T.s->Good base S T->FR T f' a' ->a'.defers=a.defers->Q (Iw x) a' T.w)->Code.rounds P c Q n a S.w
theorem De:∀(vs:aR aC) (t:Tr aC) (i j:av),0<=16000000->(CD t i vs).get j=if i<=j/\j<i+vs.length then some (vs.getD (j-i) undef) else t.get j:=by
 intro vs
 induction vs with
 |nil=>intro t i j _;rw[CD,ck (by simp)]
 |cons v r ih=>
  intro t i j h;rw[CD,ih _ _ _ (by omega)];by_cases hj:i+1<=j/\j<i+1+r.length
  ·rw[bb hj,bb (by simp;omega),show j-i=(j-(i+1))+1 by omega,List.getD_cons_succ]
  rw[ck hj];by_cases Dd:i=j
  ·subst Dd;rw[Tr.bF _ _ _ _ (deep (by omega)),bb (by simp),Nat.sub_self,List.getD_cons_zero]
  rw[Tr.cK _ _ _ _ _ Dd,ck (by simp;omega)]
theorem FR.enter {S:St}{fn:Func}{args:aR aC}{args' :cD aC}(hv:ft S args args'.toList)(iW:args.length+(fn.ntmps-args.length)<=16000000):
  FR S (pa fn args) {tmps:=args' ++cb (fn.ntmps-args'.size) undef,defers:=[]}:=by
 have hl:args.length=args'.size:=by have:=hv.1;simpa using this
 refine⟨by simp[pa,hl],iW,fun t ht=> ?_⟩;have jq:(pa fn args).get t=if t<args.length then args.getD t undef else undef:=by
  simp only[pa,aZ.get,De args .nil 0 t (by omega),cB,true_and,cx,Nat.sub_zero];by_cases h:t<args.length
  ·simp only[bb h]
  simp only[ck h,Tr.get]
 rw[jq];by_cases h:t<args.length
 ·rw[bb h];have e:(args' ++cb (fn.ntmps-args'.size) undef).getD t undef=args'.toList.getD t undef:=by
   have h2:t<args'.size:=by omega
   simp[c7,h2]
  rw[e];exact hv.2 t h
 rw[ck h];have e:(args' ++cb (fn.ntmps-args'.size) undef).getD t undef=undef:=by
  have h2:¬t<args'.size:=by omega
  simp[c7,h2,cM];by_cases h3:t-args'.size<fn.ntmps-args'.size
  ·rw[bb h3];rfl
  rw[ck h3];rfl
 rw[e];exact VR.tK S
theorem J9 {P:an}{base:av}{S:St}(hs:SR base S){f:aZ}{a:Act}(hf:FR S f a):∀{rs:aR ResultVar} {l:aR aC},dj P f S.s rs=some l->
  ∃l',(rs.mapM fun(r:ResultVar)=>(match r with| .tmp t=>pure (a.tmps.getD t undef)| .cell x t=>do loadVar t (<-asAddr (a.tmps.getD x undef)):Sem aC)).run P S.w= .ok l' S.w/\ft S l l' :=by
 intro rs
 induction rs with
 |nil=>intro l h;simp only[dj] at h;obtain rfl:=af h;exact⟨[],by simp,ft.nil⟩
 |cons r rs ih=>
  intro l h;cases r with
  |tmp t=>
   simp only[dj] at h;split at h
   ·rename_i ht;split at h
    ·rename_i m hm;obtain rfl:=af h;obtain⟨l',h1,h2⟩:=ih hm;refine⟨a.tmps.getD t undef::l',?_,ft.cons (hf.get t (by simpa [b4] using ht)) h2⟩;rw[dK];simp only[Sem.run_bind,Sem.run_pure,cJ,h1]
    cases h
   cases h
  |cell x t=>
   simp only[dj] at h;split at h
   ·rename_i hx;split at h
    ·rename_i v m hv hm;obtain rfl:=af h;obtain⟨l',h1,h2⟩:=ih hm;have hp:=hf.get x (by simpa [b4] using hx);obtain⟨v',h3,h4⟩:=JO hs hp hv;unfold aN at hv;split at hv
     ·rename_i i off c hpe;rw[hpe] at hp;obtain⟨a1,e1,_⟩:=hp.r5;rw[e1] at h3;simp only[Instr.loadAt,Instr.sureAddr,pure_bind] at h3;refine⟨v' ::l',?_,ft.cons h4 h2⟩;rw[dK];have ea:asAddr (a.tmps.getD x undef)=pure a1:=by rw[e1];rfl
      simp only[ea,Sem.run_bind,Sem.run_pure,cJ,h3,h1]
     cases hv
    cases h
   cases h
def qR (P:an)(Pre:av->b7->Prop)(lib:aD):Prop:=∀g p,lib.at g=some p->Is P Pre g p
theorem qR.nil (P:an)(Pre:av->b7->Prop):qR P Pre []:=fun _ _ h=>by cases h
theorem AK {P:an}{Pre:av->b7->Prop}{lib:aD}{ex:ed->aZ->au->Out}(To:∀g fn,P.funcs[g]?=some fn->P6 P lib g fn=true)(hex:MI P Pre ex){g:eb}(fF:lib.at g=none)
  (base:av) (S:St) (s:au) (args:aR aC) (v:aC) (s' :au) (jJ:jR s S.s) (hs:SR base S) (jI:Pre base S.w) (hc:iF P lib ex g args s=some (v,s')) (args' :cD aC) (L8:ft S args args'.toList):
  (∀w,(callFunc g args').run P w= .ok (.enter g args') w)/\Calls P g args' S.w fun e w' =>∃T v',jR s' T.s/\T.w=w' /\e= .returned v' /\VR T v v' /\Good base S T:=by
 unfold iF at hc;rw[fF] at hc;simp only at hc;split at hc
 case h_2=>cases hc
 rename_i fn hg;split at hc
 case h_2=>cases hc
 rename_i c hb iW;have hk:=To g fn hg;simp only[P6,ao,dv,fF,hb,bne_iff_ne,ne_eq] at hk;obtain⟨xY,adP⟩:=hk;have aal:codeOk P c=true:=by simpa using adP
 refine⟨fun w=> ?_,?_⟩
 ·simp[callFunc,hg,xY,hb]
 have wL:FR S (pa fn args) {tmps:=args' ++cb (fn.ntmps-args'.size) undef,defers:=[]}:=FR.enter L8 (by simpa [Nat.ble_eq] using iW);have fin:∀(x:AX) (f:aZ) (l:aR aC),(x= .normal\/x= .ret)->ex c (pa fn args) s=some (x,f,s')->dj P f s' fn.results.toList=some l->v=oneOf l->
   Calls P g args' S.w fun e w' =>∃T v',jR s' T.s/\T.w=w' /\e= .returned v' /\VR T v v' /\Good base S T:=by
  intro x f l hx he hl hv;refine calls_of_wp hg hb (hex c base _ s S x f s' _ _ aal he jJ hs jI wL ?_);intro T a' QA kI jt JA;obtain⟨l',h1,h2⟩:=J9 kI.sr jt (ub QA hl);have hlen:=h2.1;have aam:∃v',(results fn a'.tmps).run P T.w= .ok v' T.w/\VR T v v' :=by
   have hm:(results fn a'.tmps).run P T.w= .ok (if h:l'.toArray.size=1 then l'.toArray[0] else .tuple l'.toArray) T.w:=by
    unfold results;rw[Array.mapM_eq_mapM_toList];simp only[Sem.run_bind,Sem.run_map];refine(congrArg (fun r=>dP (dP r _) _) h1).trans ?_;simp only[cJ,Sem.run_pure]
   refine⟨_,hm,?_⟩;subst hv;cases l with
   |nil=>rw[h2.lI];exact ft.tuple ft.nil
   |cons v0 r=>
    obtain⟨v1,r',rfl,h3,h4⟩:=h2.cons_inv;cases r with
    |nil=>
     rw[h4.lI]
     simpa [oneOf] using h3
    |cons v2 r2=>
     obtain⟨v3,r3,rfl,h5,h6⟩:=h4.cons_inv;have:=ft.tuple (ft.cons h3 (ft.cons h5 h6))
     simpa [oneOf] using this
  obtain⟨v',h3,h4⟩:=aam;rcases hx with rfl|rfl
  ·exact⟨JA,v',h3,T,v',QA,rfl,rfl,h4,kI⟩
  exact⟨JA,v',h3,T,v',QA,rfl,rfl,h4,kI⟩
 split at hc
 ·rename_i f s1 he;split at hc
  ·rename_i l hl;injection hc with hc;injection hc with e1 e2;subst e1;subst e2
   exact fin .normal f l (.inl rfl) he hl rfl
  cases hc
 ·rename_i f s1 he;split at hc
  ·rename_i l hl;injection hc with hc;injection hc with e1 e2;subst e1;subst e2
   exact fin .ret f l (.inr rfl) he hl rfl
  cases hc
 cases hc
theorem WW {P:an}{Pre:av->b7->Prop}{lib:aD}(Tp:qR P Pre lib){ex:ed->aZ->au->Out}(To:∀g fn,P.funcs[g]?=some fn->P6 P lib g fn=true)(hex:MI P Pre ex):zT P Pre (iF P lib ex):=by
 intro g base S s args v s' jJ hs jI hc args' L8;cases hg:lib.at g with
 |some p=>
  unfold iF at hc;rw[hg] at hc;exact Tp g p hg base S s args v s' jJ hs jI hc args' L8
 |none=>exact .inl (AK To hex hg base S s args v s' jJ hs jI hc args' L8)
theorem WX {P:an}{Pre:av->b7->Prop}(aF:C9 Pre){lib:aD}(sR:pW lib)(Tp:qR P Pre lib)(hm:P.follows .mixedOrders=true)(To:∀g fn,P.funcs[g]?=some fn->P6 P lib g fn=true):∀n,MI P Pre (exec P lib n)/\Tn P Pre (exec P lib n) n:=by
 intro n
 induction n with
 |zero=>exact⟨fun c base f s S x f' s' a Q _ h=>(by simp[exec] at h),fun c base f s S x f' s' a Q _ h=>(by simp[exec] at h)⟩
 |succ n ih=>
  obtain⟨Ss,FU⟩:=ih;have GN:=WW Tp To Ss;have ahY:om (iF P lib (exec P lib n)):=AH sR (WO sR n);have YT:Tn P Pre (exec P lib (n+1)) (n+1):=by
   intro c base f s S x f' s' a Q gF h jJ hs jI hf hq;simp only[exec,step] at h;rw[rounds_succ];split at h
   ·rename_i f1 s1 h1;refine Ss c base f s S .normal f1 s1 a _ gF h1 jJ hs jI hf (fun T a' hT hg jt JA=> ?_);exact FU c base f1 s1 T x f' s' a' Q gF h hT hg.sr (aF _ _ _ hg.below jI) jt (fun U a2 e g xT wi=>hq U a2 e (hg.trans g) xT (wi.trans JA))
   rename_i h1;refine Ss c base f s S x f' s' a _ gF h jJ hs jI hf (fun T a' hT hg jt JA=> ?_);have cE:x≠ .normal:=fun e=>h1 _ _ (by rw[<-e];exact h)
   have:=hq T a' hT hg jt JA;cases x with
   |normal=>exact bA rfl cE
   |exit id=>exact this
   |ret=>exact this
  refine⟨?_,YT⟩;intro c base f s S x f' s' a Q gF h jJ hs jI hf hq;cases c with
  |loop c=>
   refine wp_loop_rounds (n+1) (YT c base f s S x f' s' a Q (by simpa [codeOk] using gF) h jJ hs jI hf hq)
  |skip=>
   simp only[exec,step] at h;injection h with h;injection h with e1 e2;injection e2 with e2 e3;subst e1;subst e2;subst e3
   exact wp_skip (hq S a jJ (Good.refl hs) hf rfl)
  |label l=>
   simp only[exec,step] at h;injection h with h;injection h with e1 e2;injection e2 with e2 e3;subst e1;subst e2;subst e3
   exact wp_label (hq S a jJ (Good.refl hs) hf rfl)
  |exit id=>
   simp only[exec,step] at h;injection h with h;injection h with e1 e2;injection e2 with e2 e3;subst e1;subst e2;subst e3
   exact wp_exit (hq S a jJ (Good.refl hs) hf rfl)
  |ret=>
   simp only[exec,step] at h;injection h with h;injection h with e1 e2;injection e2 with e2 e3;subst e1;subst e2;subst e3
   exact wp_ret (hq S a jJ (Good.refl hs) hf rfl)
  |region id ops d=>
   simp only[exec,step] at h;split at h
   ·rename_i f1 s1 h1;injection h with h;injection h with e1 e2;injection e2 with e2 e3;subst e1;subst e2;subst e3
    exact QC ahY GN aF hm h1 gF jJ hs jI hf hq
   cases h
  |seq p q=>
   simp only[codeOk,ao] at gF;simp only[exec,step] at h;refine wp_seq ?_;split at h
   ·rename_i f1 s1 h1;refine Ss p base f s S .normal f1 s1 a _ gF.1 h1 jJ hs jI hf (fun T a' hT hg jt JA=> ?_);exact Ss q base f1 s1 T x f' s' a' Q gF.2 h hT hg.sr (aF _ _ _ hg.below jI) jt (fun U a2 e g xT wi=>hq U a2 e (hg.trans g) xT (wi.trans JA))
   rename_i h1;refine Ss p base f s S x f' s' a _ gF.1 h jJ hs jI hf (fun T a' hT hg jt JA=> ?_);have cE:x≠ .normal:=fun e=>h1 _ _ (by rw[<-e];exact h)
   have:=hq T a' hT hg jt JA;cases x with
   |normal=>exact bA rfl cE
   |exit id=>exact this
   |ret=>exact this
  |cond y p q=>
   simp only[codeOk,ao] at gF;simp only[exec,step] at h;split at h
   ·rename_i t hy;have hv:=bM hf hy;generalize x9:a.eval y=cv at hv;cases hv;split at h
    ·exact wp_cond_true x9 (Ss p base f s S x f' s' a Q gF.1 h jJ hs jI hf hq)
    exact wp_cond_false x9 (Ss q base f s S x f' s' a Q gF.2 h jJ hs jI hf hq)
   cases h
  |block id p=>
   simp only[codeOk] at gF;simp only[exec,step] at h;refine wp_block ?_;split at h
   ·rename_i j f1 s1 h1;split at h
    ·rename_i hj;have V1:j=id:=by simpa [eh] using hj
     injection h with h;injection h with e1 e2;injection e2 with e2 e3;subst e1;subst e2;subst e3
     refine Ss p base f s S (.exit j) f1 s1 a _ gF h1 jJ hs jI hf (fun T a' hT hg jt JA=> ?_);simp only[Iw,Exit.inBlock,V1,ec];exact hq T a' hT hg jt JA
    rename_i hj;have V1:¬j=id:=by simpa [eh] using hj
    injection h with h;injection h with e1 e2;injection e2 with e2 e3;subst e1;subst e2;subst e3
    refine Ss p base f s S (.exit j) f1 s1 a _ gF h1 jJ hs jI hf (fun T a' hT hg jt JA=> ?_);simp only[Iw,Exit.inBlock,V1,c9];exact hq T a' hT hg jt JA
   rename_i h1;refine Ss p base f s S x f' s' a _ gF h jJ hs jI hf (fun T a' hT hg jt JA=> ?_);have:=hq T a' hT hg jt JA;cases x with
   |normal=>exact this
   |exit j=>exact bA h (h1 _ _ _)
   |ret=>exact this
  |scope p=>
   simp only[codeOk] at gF;simp only[exec,step] at h;refine wp_scope_straight ?_;refine Ss p base f s S x f' s' a _ gF h jJ hs jI hf (fun T a' hT hg jt JA=> ?_);have:=hq T a' hT hg jt JA;cases x<;>exact this
  |rangeFunc y ps p q=>simp[exec,step] at h
  |goto l=>simp[exec,step] at h
  |refuse w=>simp[exec,step] at h
theorem Ka {P:an}{lib:aD}(h:CE P lib=true):P.follows .mixedOrders=true/\∀g fn,P.funcs[g]?=some fn->P6 P lib g fn=true:=by
 simp only[CE,ao,cU] at h;refine⟨h.1,fun g fn hg=> ?_⟩;refine h.2 (fn,g) ?_;rw[bz]
 simpa using hg
theorem Ix {P:an}{Pre:av->b7->Prop}(aF:C9 Pre){lib:aD}(sR:pW lib)(Tp:qR P Pre lib)(h:CE P lib=true)(n:av){g:eb}(hg:lib.at g=none)
  (base:av) (S:St) (s:au) (args:aR aC) (v:aC) (s' :au) (jJ:jR s S.s) (hs:SR base S) (jI:Pre base S.w) (hc:iZ P lib n g args s=some (v,s')) (args' :cD aC) (L8:ft S args args'.toList):
  Calls P g args' S.w fun e w' =>∃T v',jR s' T.s/\T.w=w' /\e= .returned v' /\VR T v v' /\Good base S T:=by
 obtain⟨hm,To⟩:=Ka h;exact(AK To (WX aF sR Tp hm To n).1 hg base S s args v s' jJ hs jI hc args' L8).2
def St.start (w:b7):St:=⟨au.empty,⟨fun _ _=>(0,0),fun _=>0⟩,w⟩
theorem SR.start (w:b7):SR w.heap.size (St.start w):=by
 refine⟨by omega,?_,?_,?_,?_,?_,?_,a3 _,?_⟩<;>intros<;>simp_all[St.start,au.empty,au.bL,au.fj,Tr.get]
end Go.Cl