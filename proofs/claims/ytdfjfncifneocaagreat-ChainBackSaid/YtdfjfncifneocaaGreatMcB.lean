/-
 The clean machine, second part: frames, statements whose order is open, calls.
-/
import Derived.Test.YtdfjfncifneocaaGreatMcA
open Nat renaming testBit->ab,le_refl->a6,blt_eq->bq,blt->ca,eq_of_beq_eq_true->cc,zero_add->cp,zero_le->cA,le_trans->c8,lt_of_lt_of_le->dv,lt_trichotomy->dE,strongRecOn->dY,add_zero->en,le_zero->eo,beq_eq->ep
open Option.some renaming inj->af,injEq->b8
open Go renaming Program->an,Value->a3,Oper->bl,World->bC,TypeId->cx,Operand->eb,FuncId->eg,Code->ek
open Bool renaming and_eq_true->ao,false_eq_true->cz,true_or->c9,or_true->dI,or_eq_true->dX,and_self->ee
open _root_ renaming Nat->av,List->a4,Option->a5,if_pos->a8,absurd->bo,if_neg->cd,Array->cB,Bool->c6,if_false->dx,if_true->eh
open List renaming getElem?_eq_getElem->aR,getElem?_eq_some_iff->a7,mem_cons_self->a9,mem_cons_of_mem->bb,getLastD_cons->bg,getElem?_cons_zero->bk,mem_zipIdx_iff_getElem?->bn,getElem?_toArray->bz,getElem?_cons_succ->b5,getElem?_take->cb,take_succ_cons->cm,mem_cons->c0,all_eq_true->c7,mem_append_right->dc,append_assoc->dD,length_cons->dT,mem_append->dU,mapM_cons->ec
open Array renaming toList_inj->b4,replicate->b7,toList_append->cg,getElem?_replicate->c5,getElem?_append->ds
open Go.Result renaming andThen_ok->cR,andThen->ed
namespace Go.Cl
structure WF (s:aq):Prop where
 room:0<=16000000
 bound:∀j o,s.heap.get j=some o->j<s.next
structure cI (s s' :aq) (X:av->a5 AO):Prop where
 next:s'.next=s.next
 free:∀j o,X j=some o->s.heap.get j=none/\j<s.next
 get:∀j,s'.heap.get j=match X j with
  |some o=>some o
  |none=>s.heap.get j
structure bW (s t:aq):Prop where
 next:s.next<=t.next
 gone:∀j,j<s.next->s.heap.get j=none->t.heap.get j=none
 here:∀j,s.heap.get j≠none->t.heap.get j≠none
 wf:WF t
theorem bW.refl {s:aq}(h:WF s):bW s s:=⟨a6 _,fun _ _ h=>h,fun _ h=>h,h⟩
theorem bW.trans {s t u:aq}(h:bW s t)(k:bW t u):bW s u:=
 ⟨c8 h.next k.next,fun j hj hn=>k.gone j (dv hj h.next) (h.gone j hj hn),fun j hj=>k.here j (h.here j hj),k.wf⟩
section
variable {s s' :aq} {X:av->a5 AO}
theorem cI.same (h:cI s s' X){j:av}{o:AO}(hj:s.heap.get j=some o):s'.heap.get j=some o:=by
 rw[h.get j]
 cases hx:X j with
 |none=>exact hj
 |some o' =>have:=(h.free j o' hx).1;rw[hj] at this;cases this
theorem cI.dZ (h:cI s s' X){i:av}{b:jZ}(hb:s.bR i=some b):s'.bR i=some b:=by
 unfold aq.bR at*
 split at hb
 ·rename_i b0 hg;rw[h.same hg];exact hb
 ·cases hb
theorem cI.map (h:cI s s' X){i:av}{es:a4 (a3×a3)}(hb:s.dN i=some es):s'.dN i=some es:=by
 unfold aq.dN at*
 split at hb
 ·rename_i b0 hg;rw[h.same hg];exact hb
 ·cases hb
theorem cI.cells (h:cI s s' X){i off c n:av}{l:a4 a3}(hc:s.dr i off c n=some l):s'.dr i off c n=some l:=by
 unfold aq.dr at*
 split at hc
 ·rename_i b hb;rw[h.dZ hb];exact hc
 ·cases hc
theorem qM {i:av}{b:jZ}(hb:s.bR i=some b):s.heap.get i=some (.dZ b):=by
 unfold aq.bR at hb
 split at hb
 ·rename_i b0 hg;rw[hg];rw[af hb]
 ·cases hb
theorem NS {i:av}{es:a4 (a3×a3)}(hb:s.dN i=some es):s.heap.get i=some (.map es):=by
 unfold aq.dN at hb
 split at hb
 ·rename_i b0 hg;rw[hg];rw[af hb]
 ·cases hb
theorem cI.put (h:cI s s' X)(hw:WF s){i:av}{o0 o:AO}(hi:s.heap.get i=some o0):cI (s.put i o) (s'.put i o) X/\bW s (s.put i o):=by
 have bd:=hw.bound i o0 hi
 have hr:=hw.room
 have hd:i+1<2^depth i:=deep (by omega)
 have hX:X i=none:=by
  cases hx:X i with
  |none=>rfl
  |some o' =>have:=(h.free i o' hx).1;rw[hi] at this;cases this
 refine⟨⟨h.next,fun j o1 hj=> ?_,fun j=> ?_⟩,⟨a6 _,fun j hj hn=> ?_,fun j hj=> ?_,hr,fun j o1 hj=> ?_⟩⟩
 ·have gR:i≠j:=fun e=>by rw[e] at hX;rw[hX] at hj;cases hj
  simp only[aq.put,Tr.ch _ _ _ _ _ gR]
  exact h.free j o1 hj
 ·by_cases gR:i=j
  ·subst gR
   simp only[aq.put,Tr.bD _ _ _ _ hd,hX]
  ·simp only[aq.put,Tr.ch _ _ _ _ _ gR]
   exact h.get j
 ·have gR:i≠j:=fun e=>by rw[e] at hi;rw[hi] at hn;cases hn
  simp only[aq.put,Tr.ch _ _ _ _ _ gR];exact hn
 ·by_cases gR:i=j
  ·subst gR;simp[aq.put,Tr.bD _ _ _ _ hd]
  ·simp only[aq.put,Tr.ch _ _ _ _ _ gR];exact hj
 ·by_cases gR:i=j
  ·subst gR;exact bd
  ·simp only[aq.put,Tr.ch _ _ _ _ _ gR] at hj
   exact hw.bound j o1 hj
theorem cI.new (h:cI s s' X)(hw:WF s)(dd:s.room=true)(o:AO):cI (s.new o) (s'.new o) X/\bW s (s.new o):=by
 have bd:0<16000000:=by omega
 have hd:s.next+1<2^depth s.next:=deep (by omega)
 have hXn:X s.next=none:=by
  cases hx:X s.next with
  |none=>rfl
  |some o' =>have:=(h.free _ o' hx).2;omega
 refine⟨⟨by simp only[aq.new,h.next],fun j o1 hj=> ?_,fun j=> ?_⟩,⟨by simp only[aq.new];omega,fun j hj hn=> ?_,fun j hj=> ?_,by omega,fun j o1 hj=> ?_⟩⟩
 ·obtain⟨h1,h2⟩:=h.free j o1 hj
  have gR:s.next≠j:=by omega
  refine⟨?_,by simp only[aq.new];omega⟩
  simp only[aq.new,Tr.ch _ _ _ _ _ gR];exact h1
 ·by_cases gR:s.next=j
  ·subst gR
   simp only[aq.new,h.next,Tr.bD _ _ _ _ hd,hXn]
  ·simp only[aq.new,h.next,Tr.ch _ _ _ _ _ gR]
   exact h.get j
 ·have gR:s.next≠j:=by omega
  simp only[aq.new,Tr.ch _ _ _ _ _ gR];exact hn
 ·have gR:s.next≠j:=fun e=>by
   have:s.heap.get j=none:=by
    cases hg:s.heap.get j with
    |none=>rfl
    |some o1=>have:=hw.bound j o1 hg;omega
   exact hj this
  simp only[aq.new,Tr.ch _ _ _ _ _ gR];exact hj
 ·by_cases gR:s.next=j
  ·subst gR;simp only[aq.new];omega
  ·simp only[aq.new,Tr.ch _ _ _ _ _ gR] at hj
   have:=hw.bound j o1 hj
   simp only[aq.new];omega
theorem cI.room (_:cI s s' X):s'.room=s.room:=rfl
def Fr (s:aq)(X:av->a5 AO)(v:a3)(t:aq)(r:a5 (a3×aq)):Prop:=∃t',r=some (v,t')/\cI t t' X/\bW s t
theorem Gp (h:cI s s' X)(hw:WF s){cs:a4 a3}{mM:av}{v:a3}{t:aq}(hn:fm s cs mM=some (v,t)):Fr s X v t (fm s' cs mM):=by
 unfold fm at*
 rw[h.room,h.next]
 split at hn
 ·rename_i hr
  injection hn with hn;injection hn with e1 e2;subst e1;subst e2
  rw[a8 hr]
  exact⟨_,rfl,h.new hw hr _⟩
 ·cases hn
theorem iz (h:cI s s' X)(hw:WF s){cs:a4 a3}{len mM:av}{v:a3}{t:aq}(hn:aZ s cs len mM=some (v,t)):Fr s X v t (aZ s' cs len mM):=by
 unfold aZ at*
 rw[h.room,h.next]
 split at hn
 ·rename_i hr
  injection hn with hn;injection hn with e1 e2;subst e1;subst e2
  rw[a8 hr]
  exact⟨_,rfl,h.new hw hr _⟩
 ·cases hn
theorem vy (h:cI s s' X)(hw:WF s){i off c:av}{vs:a4 a3}{t:aq}(hs:s.storeAt i off c vs=some t):∃t',s'.storeAt i off c vs=some t' /\cI t t' X/\bW s t:=by
 unfold aq.storeAt at*
 split at hs
 ·rename_i b hb
  rw[h.dZ hb]
  simp only
  split at hs
  ·rename_i hc
   rw[a8 hc]
   split at hs
   ·cases hs
   ·split at hs
    ·rename_i l hl
     obtain rfl:=af hs
     exact⟨_,rfl,h.put hw (qM hb)⟩
    ·cases hs
  ·cases hs
 ·cases hs
theorem Sb {P:an}(h:cI s s' X)(hw:WF s){ty:cx}{a v:a3}{t:aq}(hs:dR P s ty a v=some t):∃t',dR P s' ty a v=some t' /\cI t t' X/\bW s t:=by
 unfold dR at*
 split at hs
 ·split at hs
  ·rename_i hc
   obtain rfl:=af hs
   refine⟨s',?_,h,bW.refl hw⟩
   rw[a8 hc]
  ·cases hs
 ·rename_i cH
  split at hs
  ·rename_i hc;rw[a8 hc];exact vy h hw hs
  ·cases hs
 ·cases hs
theorem Ci {P:an}(h:cI s s' X)(hw:WF s){ty:cx}{n:av}{ps:a4 (av×a3)}{v:a3}{t:aq}(hn:aO P s ty n ps=some (v,t)):Fr s X v t (aO P s' ty n ps):=by
 unfold aO at*
 split at hn
 ·split at hn
  ·split at hn
   ·rename_i hc
    rw[a8 hc]
    split at hn
    ·exact iz h hw hn
    ·cases hn
   ·cases hn
  ·cases hn
 ·cases hn
theorem Fp {P:an}(h:cI s s' X)(hw:WF s){ty:cx}{x y v:a3}{t:aq}(hn:ef P s ty x y=some (v,t)):Fr s X v t (ef P s' ty x y):=by
 unfold ef at*
 split at hn
 ·split at hn
  ·split at hn
   ·rename_i hc;rw[a8 hc];exact iz h hw hn
   ·cases hn
  ·cases hn
 ·cases hn
theorem Ve {P:an}(h:cI s s' X)(hw:WF s){a b:cx}{x v:a3}{t:aq}(hc:gw P s a b x=some (v,t)):Fr s X v t (gw P s' a b x):=by
 unfold gw at*
 split at hc
 ·injection hc with hc;injection hc with e1 e2;subst e1;subst e2;exact⟨_,rfl,h,bW.refl hw⟩
 ·injection hc with hc;injection hc with e1 e2;subst e1;subst e2;exact⟨_,rfl,h,bW.refl hw⟩
 ·split at hc
  ·rename_i hq;rw[a8 hq];exact iz h hw hc
  ·cases hc
 ·split at hc
  ·cases hc
  ·split at hc
   ·rename_i b0 hb
    rw[h.dZ hb]
    simp only
    split at hc
    ·rename_i hq
     rw[a8 hq]
     injection hc with hc;injection hc with e1 e2;subst e1;subst e2
     exact⟨_,rfl,h.put hw (qM hb)⟩
    ·cases hc
   ·cases hc
 ·split at hc
  ·rename_i hq;rw[a8 hq];injection hc with hc;injection hc with e1 e2;subst e1;subst e2;exact⟨_,rfl,h,bW.refl hw⟩
  ·cases hc
 ·split at hc
  ·rename_i hq
   rw[a8 hq]
   split at hc
   ·injection hc with hc;injection hc with e1 e2;subst e1;subst e2;exact⟨_,rfl,h,bW.refl hw⟩
   ·split at hc
    ·rename_i l hl
     rw[h.cells hl]
     simp only
     split at hc
     ·injection hc with hc;injection hc with e1 e2;subst e1;subst e2;exact⟨_,rfl,h,bW.refl hw⟩
     ·cases hc
    ·cases hc
  ·cases hc
 ·cases hc
theorem zX (h:cI s s' X){z:av}{y:a3}{r:av×a4 a3}(hs:dV s z y=some r):dV s' z y=some r:=by
 unfold dV at*
 split at hs
 ·exact hs
 ·split at hs
  ·exact hs
  ·split at hs
   ·rename_i l hl;rw[h.cells hl];exact hs
   ·cases hs
 ·exact hs
 ·cases hs
theorem Zr (h:cI s s' X){z oo:av}{zv y:a3}{xd:TypeDesc}{r:av×a4 a3}(hs:Im s z oo zv xd y=some r):Im s' z oo zv xd y=some r:=by
 unfold Im at*
 split at hs
 ·exact hs
 ·exact zX h hs
theorem NT {P:an}(h:cI s s' X)(hw:WF s){st xt:cx}{x y v:a3}{t:aq}(ha:gW P s st xt x y=some (v,t)):Fr s X v t (gW P s' st xt x y):=by
 unfold gW at*
 split at ha
 case h_2=>cases ha
 split at ha
 case h_1=>cases ha
 split at ha
 case h_2=>cases ha
 split at ha
 case h_2=>cases ha
 rename_i n new Iy
 rw[Zr h Iy]
 simp only
 split at ha
 case h_2=>cases ha
 split at ha
 case isFalse=>cases ha
 rename_i hc
 rw[a8 hc]
 split at ha
 ·injection ha with ha;injection ha with e1 e2;subst e1;subst e2;exact⟨_,rfl,h,bW.refl hw⟩
 ·split at ha
  ·split at ha
   ·rename_i hq;rw[a8 hq];exact iz h hw ha
   ·cases ha
  ·split at ha
   ·split at ha
    ·rename_i hq;rw[a8 hq];exact iz h hw ha
    ·cases ha
   ·split at ha
    case h_2=>cases ha
    rename_i b hb
    rw[h.dZ hb]
    simp only
    split at ha
    case isFalse=>cases ha
    rename_i hq
    rw[a8 hq]
    split at ha
    ·rename_i Bq
     rw[a8 Bq]
     injection ha with ha;injection ha with e1 e2;subst e1;subst e2
     exact⟨_,rfl,h.put hw (qM hb)⟩
    ·rename_i Bq
     rw[cd Bq]
     split at ha
     ·rename_i old hl
      rw[h.cells hl]
      simp only
      obtain⟨h1,h2⟩:=h.put (o:= .dZ (Cl.kill b)) hw (qM hb)
      obtain⟨t',k1,k2,k3⟩:=iz h1 h2.wf ha
      exact⟨t',k1,k2,h2.trans k3⟩
     ·cases ha
  ·cases ha
theorem Vf {P:an}(h:cI s s' X)(hw:WF s){dt:cx}{x y v:a3}{t:aq}(ha:mN P s dt x y=some (v,t)):Fr s X v t (mN P s' dt x y):=by
 unfold mN at*
 split at ha
 case h_2=>cases ha
 split at ha
 case h_2=>cases ha
 split at ha
 ·injection ha with ha;injection ha with e1 e2;subst e1;subst e2;exact⟨_,rfl,h,bW.refl hw⟩
 ·split at ha
  case h_2=>cases ha
  rename_i k2 new i off hs
  rw[zX h hs]
  simp only
  split at ha
  case h_2=>cases ha
  rename_i u hk aE
  injection ha with ha;injection ha with e1 e2;subst e1;subst e2
  obtain⟨t',k1,k2,k3⟩:=vy h hw aE
  rw[hk,k1]
  exact⟨_,rfl,k2,k3⟩
theorem Sc {P:an}(h:cI s s' X)(hw:WF s){ty:cx}{x v:a3}{t:aq}(ha:nG P s ty x=some (v,t)):Fr s X v t (nG P s' ty x):=by
 unfold nG at*
 split at ha
 ·injection ha with ha;injection ha with e1 e2;subst e1;subst e2;exact⟨_,rfl,h,bW.refl hw⟩
 ·split at ha
  ·injection ha with ha;injection ha with e1 e2;subst e1;subst e2;exact⟨_,rfl,h,bW.refl hw⟩
  ·split at ha
   case h_2=>cases ha
   rename_i m z zv hz uP
   split at ha
   case isFalse=>cases ha
   rename_i hc
   split at ha
   case h_2=>cases ha
   rename_i s1 aE
   injection ha with ha;injection ha with e1 e2;subst e1;subst e2
   obtain⟨t',k1,k2,k3⟩:=vy h hw aE
   rw[a8 hc,k1]
   exact⟨_,rfl,k2,k3⟩
 ·cases ha
theorem Fq {P:an}(h:cI s s' X)(hw:WF s){ty:cx}{m k v:a3}{t:aq}(hu:fO P s ty m k v=some t):∃t',fO P s' ty m k v=some t' /\cI t t' X/\bW s t:=by
 unfold fO at*
 split at hu
 ·split at hu
  ·rename_i es he hk
   rw[h.map he]
   simp only[hk]
   split at hu
   ·obtain rfl:=af hu
    exact⟨_,rfl,h.put hw (NS he)⟩
   ·cases hu
  ·cases hu
 ·cases hu
theorem Kz {P:an}(h:cI s s' X){ty:cx}{a v:a3}(hl:aJ P s ty a=some v):aJ P s' ty a=some v:=by
 unfold aJ at*
 split at hl
 ·split at hl
  ·split at hl
   ·rename_i l hc;rw[h.cells hc];exact hl
   ·cases hl
  ·split at hl
   ·rename_i v0 r0 hc;rw[h.cells hc];exact hl
   ·cases hl
  ·cases hl
 ·cases hl
theorem KA (h:cI s s' X){i c z:av}(he:kv s i c z=true):kv s' i c z=true:=by
 unfold kv at*
 split at he
 ·rfl
 ·split at he
  ·rename_i b hb;rw[h.dZ hb];exact he
  ·cases he
theorem Sd {P:an}(h:cI s s' X){ty:cx}{x v:a3}{lo hi mx:a5 a3}(hs:dj P s ty x lo hi mx=some v):dj P s' ty x lo hi mx=some v:=by
 unfold dj at*
 split at hs
 ·exact hs
 ·split at hs
  ·split at hs
   ·rename_i hc
    rw[a8 hc]
    split at hs
    ·split at hs
     ·exact hs
     ·split at hs
      ·rename_i he;rw[a8 (KA h he)];exact hs
      ·cases hs
     ·cases hs
    ·split at hs
     ·split at hs
      ·rename_i kY
       rw[a8 kY]
       split at hs
       ·exact hs
       ·split at hs
        ·rename_i he;rw[a8 (KA h he)];exact hs
        ·cases hs
       ·cases hs
      ·cases hs
     ·cases hs
   ·cases hs
  ·cases hs
 ·split at hs
  ·rename_i l hh z b q1 q2 q3 hb
   rw[q1,q2,q3,h.dZ hb]
   exact hs
  ·cases hs
 ·cases hs
theorem Zt {P:an}(h:cI s s' X){ty:cx}{x v:a3}(hl:bm P s ty x=some v):bm P s' ty x=some v:=by
 unfold bm at*
 split at hl<;>try exact hl
 ·split at hl
  ·rename_i es he;rw[h.map he];exact hl
  ·cases hl
theorem NU {P:an}(h:cI s s' X){ty:cx}{m k v:a3}{ok:c6}(hl:mT P s ty m k ok=some v):mT P s' ty m k ok=some v:=by
 unfold mT at*
 split at hl
 case h_2=>cases hl
 split at hl
 case h_2=>cases hl
 rename_i z hz hk
 split at hl
 case isFalse=>cases hl
 rename_i hp
 rw[a8 hp]
 cases m<;>try (simp at hl;done)
 rename_i r
 cases r with
 |none=>exact hl
 |some r=>
  simp only at hl|-
  cases he:s.dN r with
  |none=>rw[he] at hl;simp at hl
  |some es=>rw[h.map he];rw[he] at hl;exact hl
end
def NV (P:an)(o:bl)(f:aW)(s s' :aq)(X:av->a5 AO):AR->Prop
 | .val v t=>∃t',cS P o f s' =some (.val v t')/\cI t t' X/\bW s t
 | .call g args=>cS P o f s' =some (.call g args)
theorem jk {s s' :aq}{X:av->a5 AO}(h:cI s s' X)(hw:WF s){r r' :a5 a3}(hr:∀v,r=some v->r' =some v){x:AR}(hx:pO s r=some x):
  ∃v t t',x= .val v t/\pO s' r' =some (.val v t')/\cI t t' X/\bW s t:=by
 cases r with
 |none=>simp[pO] at hx
 |some v=>
  simp only[pO] at hx
  obtain rfl:=af hx
  exact⟨v,s,s',rfl,by rw[hr v rfl];rfl,h,bW.refl hw⟩
theorem sS {s:aq}{X:av->a5 AO}{r r' :a5 (a3×aq)}(hr:∀v t,r=some (v,t)->Fr s X v t r'){x:AR}(hx:oF r=some x):
  ∃v t t',x= .val v t/\oF r' =some (.val v t')/\cI t t' X/\bW s t:=by
 cases r with
 |none=>simp[oF] at hx
 |some p=>
  obtain⟨v,t⟩:=p
  simp only[oF] at hx
  obtain rfl:=af hx
  obtain⟨t',k1,k2,k3⟩:=hr v t rfl
  exact⟨v,t,t',rfl,by rw[k1];rfl,k2,k3⟩
theorem Vg {s:aq}{X:av->a5 AO}{r r' :a5 aq}(hr:∀t,r=some t->∃t',r' =some t' /\cI t t' X/\bW s t){x:AR}(hx:BN r=some x):
  ∃v t t',x= .val v t/\BN r' =some (.val v t')/\cI t t' X/\bW s t:=by
 cases r with
 |none=>simp[BN] at hx
 |some t=>
  simp only[BN] at hx
  obtain rfl:=af hx
  obtain⟨t',k1,k2,k3⟩:=hr t rfl
  exact⟨undef,t,t',rfl,by rw[k1];rfl,k2,k3⟩
theorem kE {P:an}{o:bl}{f:aW}{s s' :aq}{X:av->a5 AO}(h:cI s s' X)(hw:WF s){x:AR}(hx:cS P o f s=some x):NV P o f s s' X x:=by
 have fin:(∃v t t',x= .val v t/\cS P o f s' =some (.val v t')/\cI t t' X/\bW s t)->NV P o f s s' X x:=by
  rintro ⟨v,t,t',rfl,k1,k2,k3⟩
  exact⟨t',k1,k2,k3⟩
 obtain⟨dst,op,type,pos,after,guard⟩:=o
 cases op<;>(try simp only[cS] at hx fin|-)<;>(try (cases hx;done))
 case move y=>exact fin (jk h hw (fun v hv=>hv) hx)
 case assign y=>exact fin (jk h hw (fun v hv=>hv) hx)
 case pick c y z=>
  apply fin
  split at hx
  ·rename_i t u v h1 h2 h3
   obtain rfl:=af hx
   exact⟨_,s,s',rfl,rfl,h,bW.refl hw⟩
  ·cases hx
 case alloc e=>
  apply fin
  split at hx
  ·split at hx
   ·rename_i hp;rw[a8 hp];exact sS (fun v t hv=>Gp h hw hv) hx
   ·cases hx
  ·cases hx
 case box e y=>
  apply fin
  split at hx
  ·exact sS (fun v t hv=>Gp h hw hv) hx
  ·cases hx
 case build t ps=>
  apply fin
  split at hx
  ·exact jk h hw (fun v hv=>hv) hx
  ·cases hx
 case buildSlice t n ps=>
  apply fin
  split at hx
  ·exact sS (fun v t hv=>Ci h hw hv) hx
  ·cases hx
 case load t y=>
  apply fin
  split at hx
  ·exact jk h hw (fun v hv=>Kz h hv) hx
  ·cases hx
 case store t y z=>
  apply fin
  split at hx
  ·exact Vg (fun t ht=>Sb h hw ht) hx
  ·cases hx
 case nilCheck y=>
  apply fin
  split at hx
  ·obtain rfl:=af hx;exact⟨_,s,s',rfl,rfl,h,bW.refl hw⟩
  ·obtain rfl:=af hx;exact⟨_,s,s',rfl,rfl,h,bW.refl hw⟩
  ·cases hx
 case binOp op t y z yt=>
  apply fin
  split at hx
  ·exact jk h hw (fun v hv=>hv) hx
  ·cases hx
 case unOp op t y=>
  apply fin
  split at hx
  ·exact jk h hw (fun v hv=>hv) hx
  ·cases hx
 case convert a b y=>
  apply fin
  split at hx
  ·exact sS (fun v t hv=>Ve h hw hv) hx
  ·cases hx
 case makeFunc fn ava bs=>
  cases fn<;>simp only at hx fin|- <;>try (cases hx;done)
  apply fin
  split at hx
  ·obtain rfl:=af hx;exact⟨_,s,s',rfl,rfl,h,bW.refl hw⟩
  ·cases hx
 case makeMap t r=>
  cases r with
  |some _=>simp at hx
  |none=>
   simp only at hx fin|-
   apply fin
   rw[h.room,h.next]
   split at hx
   ·rename_i hr
    rw[a8 hr]
    obtain rfl:=af hx
    obtain⟨h1,h2⟩:=h.new hw hr (.map [])
    exact⟨_,_,_,rfl,rfl,h1,h2⟩
   ·cases hx
 case makeSlice t y z=>
  apply fin
  split at hx
  ·exact sS (fun v t hv=>Fp h hw hv) hx
  ·cases hx
 case makeInterface t y=>
  apply fin
  split at hx
  ·cases hx
  ·obtain rfl:=af hx;exact⟨_,s,s',rfl,rfl,h,bW.refl hw⟩
  ·cases hx
 case slice t y lo hi mx=>
  apply fin
  split at hx
  ·exact jk h hw (fun v hv=>Sd h hv) hx
  ·cases hx
 case fieldAddr t y i=>
  apply fin
  split at hx
  ·exact jk h hw (fun v hv=>hv) hx
  ·cases hx
 case field t y i=>
  apply fin
  split at hx
  ·exact jk h hw (fun v hv=>hv) hx
  ·cases hx
 case indexAddr t y z=>
  apply fin
  split at hx
  ·exact jk h hw (fun v hv=>hv) hx
  ·cases hx
 case index t y z=>
  apply fin
  split at hx
  ·exact jk h hw (fun v hv=>hv) hx
  ·cases hx
 case lookup t y z ok=>
  apply fin
  split at hx
  ·exact jk h hw (fun v hv=>NU h hv) hx
  ·cases hx
 case mapUpdate t y z u=>
  apply fin
  split at hx
  ·exact Vg (fun t ht=>Fq h hw ht) hx
  ·cases hx
 case extract y i=>
  apply fin
  split at hx
  ·exact jk h hw (fun v hv=>hv) hx
  ·cases hx
 case call c=>
  obtain⟨callee,args,ts⟩:=c
  split at hx
  case h_2=>cases hx
  rename_i l hl
  cases callee with
  |invoke y m=>cases hx
  |value y=>
   simp only at hx
   split at hx
   ·rename_i g ava bs hy
    obtain rfl:=af hx
    simp only[NV,cS,hl,hy]
   ·cases hx
  |builtin b=>
   simp only[hl] at hx fin
   apply fin
   unfold ju at hx|-
   split at hx
   ·exact jk h hw (fun v hv=>Zt h hv) hx
   ·exact sS (fun v t hv=>NT h hw hv) hx
   ·exact sS (fun v t hv=>Vf h hw hv) hx
   ·exact sS (fun v t hv=>Sc h hw hv) hx
   ·exact jk h hw (fun v hv=>hv) hx
   ·exact jk h hw (fun v hv=>hv) hx
   ·cases hx
abbrev Call:=eg->a4 a3->aq->a5 (a3×aq)
def lu (call:Call):Prop:=∀(s s' :aq) (X:av->a5 AO) (g:eg) (args:a4 a3) (v:a3) (t:aq),cI s s' X->WF s->call g args s=some (v,t)->∃t',call g args s' =some (v,t')/\cI t t' X/\bW s t
theorem Se {P:an}{call:Call}(hc:lu call)(all:a4 bl):∀(l:a4 bl) {f f1:aW} {s s' t:aq} {X:av->a5 AO},cI s s' X->WF s->gh P call all l f s=some (f1,t)->∃t',gh P call all l f s' =some (f1,t')/\cI t t' X/\bW s t:=by
 intro l
 induction l with
 |nil=>
  intro f f1 s s' t X h hw hr
  simp only[gh] at hr
  injection hr with hr;injection hr with e1 e2;subst e1;subst e2
  exact⟨s',rfl,h,bW.refl hw⟩
 |cons o l ih=>
  intro f f1 s s' t X h hw hr
  simp only[gh] at hr|-
  split at hr
  ·rename_i yA
   rw[a8 yA]
   split at hr
   ·rename_i v s1 fY
    obtain⟨t1,k1,k2,k3⟩:=kE h hw fY
    rw[k1]
    split at hr
    ·rename_i f2 hp
     obtain⟨t',j1,j2,j3⟩:=ih k2 k3.wf hr
     exact⟨t',by simp only[hp];exact j1,j2,k3.trans j3⟩
    ·cases hr
   ·rename_i g args fY
    have k1:=kE h hw fY
    simp only[NV] at k1
    rw[k1]
    split at hr
    ·rename_i v s1 jS
     obtain⟨t1,c1,c2,c3⟩:=hc _ _ _ _ _ _ _ h hw jS
     split at hr
     ·rename_i f2 hp
      obtain⟨t',j1,j2,j3⟩:=ih c2 c3.wf hr
      exact⟨t',by simp only[c1,hp];exact j1,j2,c3.trans j3⟩
     ·cases hr
    ·cases hr
   ·cases hr
  ·rename_i yA
   rw[cd yA]
   split at hr
   ·rename_i f2 hp
    obtain⟨t',j1,j2,j3⟩:=ih h hw hr
    exact⟨t',j1,j2,j3⟩
   ·cases hr
abbrev Made:=a4 (av×av×jZ)
def Qg (p:av->c6):Made->av->a5 AO
 |[],_=>none
 |(j,id,b)::r,i=>if p j=true/\id=i then some (.dZ b) else Qg p r i
theorem wY (p:av->c6):∀(ava:Made) (T:aq),(∀x∈ava,0<16000001)->(fill p T ava).next=T.next/\∀i,(fill p T ava).heap.get i=match T.heap.get i with
  |some o=>some o
  |none=>Qg p ava i:=by
 intro ava
 induction ava with
 |nil=>intro T _;refine⟨rfl,fun i=> ?_⟩;simp only[fill,Qg];cases T.heap.get i<;>rfl
 |cons x r ih=>
  intro T hb
  obtain⟨j,id,b⟩:=x
  have gz:=hb (j,id,b) (a9 ..)
  have hr:∀x∈r,0<16000001:=fun x hx=>hb x (bb _ hx)
  simp only[fill]
  split
  ·rename_i hp hg
   obtain⟨h1,h2⟩:=ih (T.put id (.dZ b)) hr
   refine⟨h1,fun i=> ?_⟩
   rw[h2 i]
   by_cases hi:id=i
   ·subst hi
    simp only[aq.put,Tr.bD _ _ _ _ (deep gz),hg,Qg,hp,and_self,eh]
   ·rw[aq.bP _ _ _ _ hi]
    simp only[Qg,hi,and_false,dx]
  ·rename_i cH
   obtain⟨h1,h2⟩:=ih T hr
   refine⟨h1,fun i=> ?_⟩
   rw[h2 i]
   cases hg:T.heap.get i with
   |some o=>rfl
   |none=>
    simp only[Qg]
    split
    ·rename_i Qb
     obtain⟨hp,rfl⟩:=Qb
     exact bo hg (cH hp)
    ·rfl
theorem Cj {p:av->c6}:∀{ava:Made} {i:av},(∀x∈ava,x.2.1≠i)->Qg p ava i=none
 |[],_,_=>rfl
 |(j,id,b)::r,i,h=>by
  have h1:=h (j,id,b) (a9 ..)
  simp only[Qg,cd (fun e=>h1 e.2:¬(p j=true/\id=i))]
  exact Cj (fun x hx=>h x (bb _ hx))
theorem wZ {p:av->c6}:∀{ava:Made} {i:av} {o:AO},Qg p ava i=some o->∃j b,(j,i,b)∈ava/\p j=true/\o= .dZ b
 |[],_,_,h=>by cases h
 |(j,id,b)::r,i,o,h=>by
  simp only[Qg] at h
  split at h
  ·rename_i hp
   obtain⟨hp,rfl⟩:=hp
   injection h with h
   exact⟨j,b,a9 ..,hp,h.symm⟩
  ·obtain⟨j',b',h1,h2,h3⟩:=wZ h
   exact⟨j',b',bb _ h1,h2,h3⟩
theorem cI.fill {T T' :aq}{X:av->a5 AO}(h:cI T T' X)(hw:WF T){ava:Made}(gz:∀x∈ava,x.2.1<T.next/\X x.2.1=none)(p:av->c6):cI (fill p T ava) (fill p T' ava) X:=by
 have hs:∀x∈ava,0<16000001:=fun x hx=>by have:=(gz x hx).1;have:=hw.room;omega
 obtain⟨n1,g1⟩:=wY p ava T hs
 obtain⟨n2,g2⟩:=wY p ava T' hs
 refine⟨by rw[n1,n2,h.next],fun j o hj=> ?_,fun j=> ?_⟩
 ·obtain⟨h1,h2⟩:=h.free j o hj
  refine⟨?_,by rw[n1];exact h2⟩
  rw[g1 j,h1]
  exact Cj fun x hx e=>by have:=(gz x hx).2;rw[e] at this;rw[hj] at this;cases this
 ·rw[g2 j,g1 j,h.get j]
  cases hx:X j with
  |some o=>rfl
  |none=>rfl
structure fI (B:av) (s t:aq):Prop where
 next:s.next<=t.next
 gone:∀j,j<B->s.heap.get j=none->t.heap.get j=none
 here:∀j,s.heap.get j≠none->t.heap.get j≠none
 wf:WF t
theorem fI.trans {B:av}{s t u:aq}(h:fI B s t)(k:fI B t u):fI B s u:=
 ⟨c8 h.next k.next,fun j hj hn=>k.gone j hj (h.gone j hj hn),fun j hj=>k.here j (h.here j hj),k.wf⟩
theorem fI.refl {B:av}{s:aq}(h:WF s):fI B s s:=⟨a6 _,fun _ _ h=>h,fun _ h=>h,h⟩
theorem bW.toB {B:av}{s t:aq}(h:bW s t)(hB:B<=s.next):fI B s t:=⟨h.next,fun j hj=>h.gone j (by omega),h.here,h.wf⟩
theorem fI.fill {B:av}{T:aq}(hw:WF T){ava:Made}(gz:∀x∈ava,B<=x.2.1/\x.2.1<T.next)(p:av->c6):fI B T (fill p T ava):=by
 have hs:∀x∈ava,0<16000001:=fun x hx=>by have:=(gz x hx).2;have:=hw.room;omega
 obtain⟨n1,g1⟩:=wY p ava T hs
 refine⟨by rw[n1];exact a6 _,fun j hj hn=> ?_,fun j hj=> ?_,⟨hw.room,fun j o hj=> ?_⟩⟩
 ·rw[g1 j,hn]
  exact Cj fun x hx e=>by have:=(gz x hx).1;omega
 ·rw[g1 j]
  cases hg:T.heap.get j with
  |none=>exact bo hg hj
  |some o=>simp
 ·rw[g1 j] at hj
  rw[n1]
  cases hg:T.heap.get j with
  |some o=>exact hw.bound j o hg
  |none=>
   rw[hg] at hj
   obtain⟨j',b,h1,_,_⟩:=wZ hj
   exact(gz _ h1).2
def EvR (X:av->a5 AO)(B:av)(T:aq):Ev->Ev->Prop
 | .skip,.skip=>True
 | .quiet v,.quiet u=>v=u
 | .made v i b,.made v' i' b' =>v=v' /\i=i' /\b=b'
 | .E9 v s,.E9 v' s' =>v=v' /\cI s s' X/\fI B T s
 |_,_=>False
theorem Sf {P:an}{call:Call}(hc:lu call){all:a4 bl}{m id:av}{ava:Made}{o:bl}{f:aW}{T T' :aq}{X:av->a5 AO}{B:av}{e:Ev}
  (h:cI T T' X) (hw:WF T) (hB:B<=T.next) (gz:∀x∈ava,B<=x.2.1/\x.2.1<T.next/\X x.2.1=none) (hd:ei P call all m id ava o f T=some e):
  ∃e',ei P call all m id ava o f T' =some e' /\EvR X B T e e' :=by
 have hf:=h.fill hw (fun x hx=>(gz x hx).2) (ab m)
 have kf:=fI.fill (B:=B) hw (fun x hx=>⟨(gz x hx).1,(gz x hx).2.1⟩) (ab m)
 have hBn:B<=(fill (ab m) T ava).next:=c8 hB kf.next
 unfold ei at*
 split at hd
 ·injection hd with hd;subst hd;exact⟨.skip,rfl,trivial⟩
 ·split at hd
  ·rename_i hq
   split at hd
   ·rename_i v t fY
    injection hd with hd;subst hd
    obtain⟨t',k1,_,_⟩:=kE hf kf.wf fY
    exact⟨.quiet v,by simp only[k1],rfl⟩
   ·cases hd
  ·exact⟨e,hd,by
    split at hd
    ·split at hd
     ·injection hd with hd;subst hd;exact⟨rfl,rfl,rfl⟩
     ·cases hd
    ·cases hd⟩
  ·split at hd
   ·rename_i v t fY
    injection hd with hd;subst hd
    obtain⟨t',k1,k2,k3⟩:=kE hf kf.wf fY
    exact⟨.E9 v t',by simp only[k1],rfl,k2,kf.trans (k3.toB hBn)⟩
   ·rename_i g args fY
    have k1:=kE hf kf.wf fY
    simp only[NV] at k1
    split at hd
    ·rename_i v t jS
     injection hd with hd;subst hd
     obtain⟨t1,c1,c2,c3⟩:=hc _ _ _ _ _ _ _ hf kf.wf jS
     exact⟨.E9 v t1,by simp only[k1,c1],rfl,c2,kf.trans (c3.toB hBn)⟩
    ·cases hd
   ·cases hd
theorem EvR.val {X:av->a5 AO}{B:av}{T:aq}{e e' :Ev}(h:EvR X B T e e'):e'.val=e.val:=by
 cases e<;>cases e' <;>simp_all[EvR,Ev.val]
def EvS:Ev->Ev->Prop
 | .skip,.skip=>True
 | .quiet v,.quiet u=>v=u
 | .made v i b,.made v' i' b' =>v=v' /\i=i' /\b=b'
 | .E9 v _,.E9 v' _=>v=v'
 |_,_=>False
def EsS:a4 Ev->a4 Ev->Prop
 |[],[]=>True
 |e::r,e' ::r' =>EvS e e' /\EsS r r'
 |_,_=>False
def Gq (X:av->a5 AO)(B:av)(T:aq):a4 aq->a4 aq->Prop
 |[],[]=>True
 |s::r,s' ::r' =>(cI s s' X/\fI B T s)/\Gq X B T r r'
 |_,_=>False
theorem Gq.mono {X:av->a5 AO}{B:av}{T U:aq}(h:fI B T U):∀{l l' :a4 aq},Gq X B U l l' ->Gq X B T l l'
 |[],[],_=>trivial
 |_::_,_::_,⟨⟨h1,h2⟩,h3⟩=>⟨⟨h1,h.trans h2⟩,Gq.mono h h3⟩
 |[],_::_,k=>k
 |_::_,[],k=>k
theorem Gq.take {X:av->a5 AO}{B:av}{T:aq}:∀(n:av) {l l' :a4 aq},Gq X B T l l' ->Gq X B T (l.take n) (l'.take n)
 |0,_,_,_=>trivial
 |_+1,[],[],_=>trivial
 |n+1,_::_,_::_,⟨h1,h2⟩=>⟨h1,Gq.take n h2⟩
 |_+1,[],_::_,k=>k
 |_+1,_::_,[],k=>k
theorem Gq.drop {X:av->a5 AO}{B:av}{T:aq}:∀(n:av) {l l' :a4 aq},Gq X B T l l' ->Gq X B T (l.drop n) (l'.drop n)
 |0,_,_,h=>h
 |_+1,[],[],_=>trivial
 |n+1,_::_,_::_,⟨_,h2⟩=>Gq.drop n h2
 |_+1,[],_::_,k=>k.elim
 |_+1,_::_,[],k=>k.elim
theorem Gq.last {X:av->a5 AO}{B:av}{T:aq}:∀{l l' :a4 aq} {d d' :aq},Gq X B T l l' ->cI d d' X->fI B T d->cI (l.getLastD d) (l'.getLastD d') X/\fI B T (l.getLastD d)
 |[],[],_,_,_,h,k=>⟨h,k⟩
 |s::r,s' ::r',d,d',⟨h1,h2⟩,_,_=>by
  rw[bg,bg]
  exact Gq.last h2 h1.1 h1.2
 |[],_::_,_,_,k,_,_=>k.elim
 |_::_,[],_,_,k,_,_=>k.elim
theorem NW {P:an}{call:Call}(hc:lu call){all:a4 bl}{X:av->a5 AO}{B:av}(hX:∀j o,X j=some o->j<B):∀(ms:a4 av) (ops:a4 bl) (i id:av) (f:aW) (T T' :aq) (ava:Made) (es:a4 Ev),
  cI T T' X->WF T->B<=id->id+aT P ops<=T.next->(∀x∈ava,B<=x.2.1/\x.2.1<T.next)->cO P call all ms ops i id f T ava=some es->
  ∃fP,cO P call all ms ops i id f T' ava=some fP/\EsS es fP/\Gq X B T (aH P ops es T) (aH P ops fP T')/\∀x∈madeOf es i,B<=x.2.1/\x.2.1<id+aT P ops:=by
 intro ms
 induction ms with
 |nil=>
  intro ops i id f T T' ava es h hw _ _ _ hd
  cases ops<;>(simp only[cO] at hd|-;injection hd with hd;subst hd;exact⟨[],rfl,trivial,⟨⟨h,fI.refl hw⟩,trivial⟩,fun x hx=>by cases hx⟩)
 |cons m ms ih=>
  intro ops i id f T T' ava es h hw hB hn has hd
  cases ops with
  |nil=>simp only[cO] at hd|-;injection hd with hd;subst hd;exact⟨[],rfl,trivial,⟨⟨h,fI.refl hw⟩,trivial⟩,fun x hx=>by cases hx⟩
  |cons o ops=>
   simp only[cO] at hd|-
   have hXn:∀k,B<=k->X k=none:=fun k hk=>by
    cases hx:X k with
    |none=>rfl
    |some o=>have:=hX k o hx;omega
   split at hd
   ·rename_i e he
    split at hd
    ·rename_i f' hp
     split at hd
     ·rename_i JZ uR
      injection hd with hd;subst hd
      have hBT:B<=T.next:=by omega
      obtain⟨e',A6,hr⟩:=Sf hc h hw hBT (fun x hx=>⟨(has x hx).1,(has x hx).2,hXn _ (has x hx).1⟩) he
      rw[A6]
      simp only[hr.val,hp]
      have hmk:∀v d b,e= .made v d b->d=id/\aM P o=true:=by
       intro v d b hee
       subst hee
       unfold ei at he
       split at he
       ·cases he
       ·split at he
        ·split at he<;>cases he
        ·rename_i _ ha
         split at he
         ·split at he
          ·injection he with he;injection he with _ e2 _;exact⟨e2.symm,ha⟩
          ·cases he
         ·cases he
        ·split at he
         ·cases he
         ·split at he<;>cases he
         ·cases he
      have Vh:aT P (o::ops)=if aM P o then aT P ops+1 else aT P ops:=rfl
      have EZ:B<=(if aM P o then id+1 else id):=by split<;>omega
      have Vi:(if aM P o then id+1 else id)+aT P ops=id+aT P (o::ops):=by rw[Vh];split<;>omega
      have kC:∀{x:av×av×jZ},(B<=x.2.1/\x.2.1<(if aM P o then id+1 else id)+aT P ops)->B<=x.2.1/\x.2.1<id+aT P (o::ops):=fun h=>⟨h.1,by rw[<-Vi];exact h.2⟩
      cases e with
      |skip=>
       cases e' <;>try exact hr.elim
       obtain⟨fP,j1,j2,j3,j4⟩:=ih ops (i+1) _ f' T T' ava JZ h hw EZ (by rw[Vi];exact hn) has uR
       simp only[j1]
       refine⟨_,rfl,⟨trivial,j2⟩,?_,fun x hx=>kC (j4 x hx)⟩
       simp only[aH]
       split
       ·exact⟨⟨h,fI.refl hw⟩,j3⟩
       ·exact j3
      |quiet v=>
       cases e' <;>try exact hr.elim
       obtain⟨fP,j1,j2,j3,j4⟩:=ih ops (i+1) _ f' T T' ava JZ h hw EZ (by rw[Vi];exact hn) has uR
       simp only[j1]
       refine⟨_,rfl,⟨hr,j2⟩,?_,fun x hx=>kC (j4 x hx)⟩
       simp only[aH]
       split
       ·exact⟨⟨h,fI.refl hw⟩,j3⟩
       ·exact j3
      |made v d b=>
       cases e' <;>try exact hr.elim
       obtain⟨rfl,rfl,rfl⟩:=hr
       obtain⟨rfl,ha⟩:=hmk v d b rfl
       have agO:d<d+aT P (o::ops):=by rw[Vh,a8 ha];omega
       have mA:B<=d/\d<T.next:=⟨hB,by omega⟩
       obtain⟨fP,j1,j2,j3,j4⟩:=ih ops (i+1) _ f' T T' (ava++[(i,d,b)]) JZ h hw EZ (by rw[Vi];exact hn) (fun x hx=>by
        rcases dU.1 hx with h' |h'
        ·exact has x h'
        ·obtain rfl:=List.mem_singleton.1 h';exact mA) uR
       simp only[j1]
       refine⟨_,rfl,⟨⟨rfl,rfl,rfl⟩,j2⟩,?_,fun x hx=> ?_⟩
       ·simp only[aH]
        split
        ·exact⟨⟨h,fI.refl hw⟩,j3⟩
        ·exact j3
       ·simp only[madeOf] at hx
        rcases c0.1 hx with rfl|hx
        ·exact⟨hB,agO⟩
        ·exact kC (j4 x hx)
      |E9 v s=>
       cases e' <;>try exact hr.elim
       rename_i v' s'
       obtain⟨rfl,pd,gx⟩:=hr
       have g9:T.next<=s.next:=gx.next
       obtain⟨fP,j1,j2,j3,j4⟩:=ih ops (i+1) _ f' s s' ava JZ pd gx.wf EZ (by rw[Vi];omega) (fun x hx=>⟨(has x hx).1,by have:=(has x hx).2;omega⟩) uR
       simp only[j1]
       refine⟨_,rfl,⟨rfl,j2⟩,?_,fun x hx=>kC (j4 x hx)⟩
       simp only[aH]
       exact⟨⟨h,fI.refl hw⟩,j3.mono gx⟩
     ·cases hd
    ·cases hd
   ·cases hd
theorem Gr:∀{es fP:a4 Ev} (i:av),EsS es fP->madeOf fP i=madeOf es i
 |[],[],_,_=>rfl
 |e::r,e' ::r',i,⟨h1,h2⟩=>by
  have:=Gr (i+1) h2
  cases e<;>cases e' <;>first
   |exact h1.elim
   |(obtain⟨rfl,rfl,rfl⟩:=h1;simp only[madeOf,this])
   |simp only[madeOf,this]
 |[],_::_,_,h=>h.elim
 |_::_,[],_,h=>h.elim
theorem EvS.val {e e' :Ev}(h:EvS e e'):e'.val=e.val:=by
 cases e<;>cases e' <;>simp_all[EvS,Ev.val]
theorem zY:∀{es fP:a4 Ev} (ops:a4 bl) (f:aW),EsS es fP->cU ops fP f=cU ops es f
 |[],[],ops,f,_=>rfl
 |e::r,e' ::r',[],f,_=>rfl
 |e::r,e' ::r',o::ops,f,⟨h1,h2⟩=>by
  simp only[cU,h1.val]
  cases kX f o.dst e.val with
  |none=>rfl
  |some f' =>exact zY ops f' h2
 |[],_::_,_,_,h=>h.elim
 |_::_,[],_,_,h=>h.elim
theorem Gs {P:an}{m:av}{ava:Made}{o:bl}{f:aW}{v:a3}{X:av->a5 AO}{B:av}{T:aq}(gz:∀x∈ava,B<=x.2.1/\x.2.1<T.next/\X x.2.1=none):∀{l l' :a4 aq},Gq X B T l l' ->sameAt P m ava o f v l=true->sameAt P m ava o f v l' =true
 |[],[],_,h=>h
 |s::r,s' ::r',⟨⟨h1,h2⟩,h3⟩,h=>by
  have vz:∀x∈ava,B<=x.2.1/\x.2.1<s.next/\X x.2.1=none:=fun x hx=>⟨(gz x hx).1,by have:=(gz x hx).2.1;have:=h2.next;omega,(gz x hx).2.2⟩
  have hf:=h1.fill h2.wf (fun x hx=>(vz x hx).2) (ab m)
  have kf:=fI.fill (B:=B) h2.wf (fun x hx=>⟨(vz x hx).1,(vz x hx).2.1⟩) (ab m)
  simp only[sameAt] at h|-
  split at h
  ·rename_i u t fY
   obtain⟨t',k1,_,_⟩:=kE hf kf.wf fY
   simp only[k1]
   rw[ao] at h|-
   exact⟨h.1,Gs gz h3 h.2⟩
  ·cases h
 |[],_::_,h,_=>h.elim
 |_::_,[],h,_=>h.elim
theorem KB {P:an}{all:a4 bl}{ms:a4 av}{ava:Made}{X:av->a5 AO}{B:av}{T:aq}(gz:∀x∈ava,B<=x.2.1/\x.2.1<T.next/\X x.2.1=none){l l' :a4 aq}(aE:Gq X B T l l'):
  ∀(mr:a4 av) (ops:a4 bl) (es fP:a4 Ev) (i:av) (f:aW),EsS es fP->cE P all ms ava l mr ops es i f=true->cE P all ms ava l' mr ops fP i f=true:=by
 intro mr
 induction mr with
 |nil=>intro ops es fP i f _ h;simp only[cE]
 |cons m mr ih=>
  intro ops es fP i f zN h
  cases ops with
  |nil=>simp only[cE]
  |cons o ops=>
   cases es with
   |nil=>cases fP with
    |nil=>exact h
    |cons _ _=>exact zN.elim
   |cons e es=>
    cases fP with
    |nil=>exact zN.elim
    |cons e' fP=>
     obtain⟨h1,h2⟩:=zN
     simp only[cE,ao] at h|-
     rw[h1.val]
     obtain⟨ha,hb⟩:=h
     refine⟨?_,?_⟩
     ·cases e<;>cases e' <;>first
       |exact h1.elim
       |rfl
       |skip
      rename_i v v'
      obtain rfl:v=v' :=h1
      exact Gs gz ((aE.take _).drop _) ha
     ·cases hp:kX f o.dst e.val with
      |none=>rw[hp] at hb;cases hb
      |some f' =>rw[hp] at hb;exact ih ops es fP (i+1) f' h2 hb
theorem cI.up {s s' :aq}{X:av->a5 AO}(h:cI s s' X)(n:av):cI ⟨s.heap,s.next+n⟩ ⟨s'.heap,s'.next+n⟩ X:=
 ⟨by simp only[h.next],fun j o hj=>⟨(h.free j o hj).1,by have:=(h.free j o hj).2;simp only;omega⟩,h.get⟩
theorem Ck {P:an}{call:Call}(hc:lu call){ops:a4 bl}{f f1:aW}{s s' t:aq}{X:av->a5 AO}(h:cI s s' X)(hw:WF s)(hr:fH P call ops f s=some (f1,t)):
  ∃t',fH P call ops f s' =some (f1,t')/\cI t t' X/\bW s t:=by
 unfold fH at*
 rw[h.next]
 split at hr
 ·cases hr
 rename_i hle
 split at hr
 case h_2=>cases hr
 rename_i es hd
 split at hr
 case h_2=>cases hr
 rename_i J3
 injection hr with hr;injection hr with e1 e2;subst e1;subst e2
 have agx:0<=16000000:=by omega
 have hwu:WF ⟨s.heap,s.next+aT P ops⟩:=⟨agx,fun j o hj=>by have:=hw.bound j o hj;simp only;omega⟩
 have hup:=h.up (aT P ops)
 rw[h.next] at hup
 have hX:∀j o,X j=some o->j<s.next:=fun j o hj=>(h.free j o hj).2
 obtain⟨fP,k1,k2,k3,k4⟩:=NW hc hX _ ops 0 s.next f _ _ [] es hup hwu (a6 _) (a6 _) (fun x hx=>by cases hx) hd
 have hXn:∀k,s.next<=k->X k=none:=fun k hk=>by
  cases hx:X k with
  |none=>rfl
  |some o=>have:=hX k o hx;omega
 have gz:∀x∈madeOf es 0,s.next<=x.2.1/\x.2.1<(⟨s.heap,s.next+aT P ops⟩:aq).next/\X x.2.1=none:=fun x hx=>⟨(k4 x hx).1,(k4 x hx).2,hXn _ (k4 x hx).1⟩
 simp only[k1,Gr 0 k2,KB gz k3 _ ops es fP 0 f k2 J3,zY ops f k2]
 have hlen:∀(ops:a4 bl) (es:a4 Ev) (T:aq),aH P ops es T≠[]:=by
  intro ops
  induction ops with
  |nil=>intro es T;cases es<;>simp[aH]
  |cons o ops ih=>
   intro es T
   cases es with
   |nil=>simp[aH]
   |cons e es=>
    simp only[aH]
    cases e<;>first
     |(simp;done)
     |(dsimp only;split<;>first|(simp;done)|exact ih _ _)
 obtain⟨a1,a2⟩:cI ((aH P ops es ⟨s.heap,s.next+aT P ops⟩).getLastD s) ((aH P ops fP ⟨s'.heap,s.next+aT P ops⟩).getLastD s') X/\fI s.next ⟨s.heap,s.next+aT P ops⟩ ((aH P ops es ⟨s.heap,s.next+aT P ops⟩).getLastD s):=by
  have:=hlen ops es ⟨s.heap,s.next+aT P ops⟩
  have:=hlen ops fP ⟨s'.heap,s.next+aT P ops⟩
  generalize aH P ops es ⟨s.heap,s.next+aT P ops⟩=l at*
  generalize aH P ops fP ⟨s'.heap,s.next+aT P ops⟩=l' at*
  cases l with
  |nil=>contradiction
  |cons x r=>
   cases l' with
   |nil=>contradiction
   |cons x' r' =>
    rw[bg,bg]
    exact Gq.last k3.2 k3.1.1 k3.1.2
 have qN:∀x∈madeOf es 0,s.next<=x.2.1/\x.2.1<((aH P ops es ⟨s.heap,s.next+aT P ops⟩).getLastD s).next:=fun x hx=>⟨(gz x hx).1,dv (gz x hx).2.1 a2.next⟩
 refine⟨_,rfl,a1.fill a2.wf (fun x hx=>⟨(qN x hx).2,(gz x hx).2.2⟩) _,?_⟩
 have kk:=a2.trans (fI.fill a2.wf qN (fun _=>true))
 exact⟨c8 (Nat.le_add_right _ _) kk.next,kk.gone,kk.here,kk.wf⟩
def Vj (ex:ek->aW->aq->Out):Prop:=∀(c:ek) (f f1:aW) (x:AX) (s s' t:aq) (X:av->a5 AO),cI s s' X->WF s->ex c f s=some (x,f1,t)->∃t',ex c f s' =some (x,f1,t')/\cI t t' X/\bW s t
theorem sU {P:an}{f:aW}{s s' :aq}{X:av->a5 AO}(h:cI s s' X):∀{l:a4 ResultVar} {vs:a4 a3},cL P f s l=some vs->cL P f s' l=some vs:=by
 intro l
 induction l with
 |nil=>intro vs hv;exact hv
 |cons r l ih=>
  intro vs hv
  cases r with
  |tmp t=>
   simp only[cL] at hv|-
   split at hv
   ·rename_i ht
    rw[a8 ht]
    split at hv
    ·rename_i m hm;rw[ih hm];exact hv
    ·cases hv
   ·cases hv
  |cell a t=>
   simp only[cL] at hv|-
   split at hv
   ·rename_i ht
    rw[a8 ht]
    split at hv
    ·rename_i v m h1 h2;rw[Kz h h1,ih h2];exact hv
    ·cases hv
   ·cases hv
def yQ (p:Prim):Prop:=∀(s s' :aq) (X:av->a5 AO) (args:a4 a3) (v:a3) (t:aq),cI s s' X->WF s->p args s=some (v,t)->∃t',p args s' =some (v,t')/\cI t t' X/\bW s t
def lZ (lib:aA):Prop:=∀g p,lib.at g=some p->yQ p
theorem lZ.nil:lZ []:=fun _ _ h=>by cases h
theorem sV {P:an}{lib:aA}(hl:lZ lib){ex:ek->aW->aq->Out}(he:Vj ex):lu (eF P lib ex):=by
 intro s s' X g args v t h hw hc
 unfold eF at*
 split at hc
 ·rename_i p hp
  exact hl g p hp _ _ _ _ _ _ h hw hc
 split at hc
 case h_2=>cases hc
 split at hc
 case h_2=>cases hc
 split at hc
 ·rename_i f s1 hx
  obtain⟨t',k1,k2,k3⟩:=he _ _ _ _ _ _ _ _ h hw hx
  simp only[k1]
  split at hc
  ·rename_i l hl
   injection hc with hc;injection hc with e1 e2;subst e1;subst e2
   exact⟨t',by rw[sU k2 hl],k2,k3⟩
  ·cases hc
 ·rename_i f s1 hx
  obtain⟨t',k1,k2,k3⟩:=he _ _ _ _ _ _ _ _ h hw hx
  simp only[k1]
  split at hc
  ·rename_i l hl
   injection hc with hc;injection hc with e1 e2;subst e1;subst e2
   exact⟨t',by rw[sU k2 hl],k2,k3⟩
  ·cases hc
 ·cases hc
theorem Qh {P:an}{lib:aA}(hl:lZ lib):∀n,Vj (exec P lib n):=by
 intro n
 induction n with
 |zero=>intro c f f1 x s s' t X _ _ h;simp[exec] at h
 |succ n ih=>
  have hc:=sV (P:=P) hl ih
  intro c f f1 x s s' t X h hw hx
  have leaf:∀y,some (y,f,s)=some (x,f1,t)->∃t',some (y,f,s')=some (x,f1,t')/\cI t t' X/\bW s t:=by
   intro y e
   injection e with e;injection e with e1 e2;injection e2 with e2 e3;subst e1;subst e2;subst e3
   exact⟨s',rfl,h,bW.refl hw⟩
  have two:∀(a b:ek),(match exec P lib n a f s with
    |some (.normal,f',s')=>exec P lib n b f' s'
    |r=>r)=some (x,f1,t)->∃t',(match exec P lib n a f s' with
    |some (.normal,f',s')=>exec P lib n b f' s'
    |r=>r)=some (x,f1,t')/\cI t t' X/\bW s t:=by
   intro a b hx
   split at hx
   ·rename_i f2 s2 h1
    obtain⟨t2,k1,k2,k3⟩:=ih _ _ _ _ _ _ _ _ h hw h1
    obtain⟨t',j1,j2,j3⟩:=ih _ _ _ _ _ _ _ _ k2 k3.wf hx
    exact⟨t',by simp only[k1];exact j1,j2,k3.trans j3⟩
   ·rename_i hn
    obtain⟨t',k1,k2,k3⟩:=ih _ _ _ _ _ _ _ _ h hw hx
    refine⟨t',?_,k2,k3⟩
    rw[k1]
    cases x with
    |normal=>exact bo hx (hn _ _)
    |exit _=>rfl
    |ret=>rfl
  cases c<;>simp only[exec,step] at hx|-
  case skip=>exact leaf _ hx
  case label l=>exact leaf _ hx
  case exit id=>exact leaf _ hx
  case ret=>exact leaf _ hx
  case region id ops d=>
   cases d with
   |false=>
    simp only at hx|-
    split at hx
    ·rename_i f2 s2 h1
     injection hx with e;injection e with e1 e2;injection e2 with e2 e3;subst e1;subst e2;subst e3
     obtain⟨t',k1,k2,k3⟩:=Se hc _ _ h hw h1
     exact⟨t',by rw[k1],k2,k3⟩
    ·cases hx
   |true=>
    simp only at hx|-
    split at hx
    ·rename_i f2 s2 h1
     injection hx with e;injection e with e1 e2;injection e2 with e2 e3;subst e1;subst e2;subst e3
     obtain⟨t',k1,k2,k3⟩:=Ck hc h hw h1
     exact⟨t',by rw[k1],k2,k3⟩
    ·cases hx
  case seq a b=>exact two a b hx
  case loop a=>exact two a _ hx
  case scope a=>exact ih _ _ _ _ _ _ _ _ h hw hx
  case cond y a b=>
   split at hx
   ·rename_i b0 hy
    split at hx<;>exact ih _ _ _ _ _ _ _ _ h hw hx
   ·cases hx
  case block id a=>
   split at hx
   ·rename_i j f2 s2 h1
    obtain⟨t2,k1,k2,k3⟩:=ih _ _ _ _ _ _ _ _ h hw h1
    simp only[k1]
    split at hx<;>
    ·rename_i hj
     injection hx with e;injection e with e1 e2;injection e2 with e2 e3;subst e1;subst e2;subst e3
     exact⟨t2,by simp only[hj,eh,dx,cz],k2,k3⟩
   ·rename_i hn
    obtain⟨t',k1,k2,k3⟩:=ih _ _ _ _ _ _ _ _ h hw hx
    refine⟨t',?_,k2,k3⟩
    rw[k1]
    cases x with
    |normal=>rfl
    |exit _=>exact bo hx (hn _ _ _)
    |ret=>rfl
  all_goals cases hx
theorem KC {P:an}{lib:aA}(hl:lZ lib)(n:av):lu (gX P lib n):=sV hl (Qh hl n)
end Go.Cl
namespace Go.Cl
open Go.RowKit
theorem KD {f g:aW}(hn:f.n=g.n){x:eb}(h:∀t:av,x= .tmp t->f.get t=g.get t):aS f x=aS g x:=by
 cases x with
 |tmp t=>simp only[aS,hn,h t rfl]
 |const v=>rfl
 |global v=>rfl
 |func v=>rfl
theorem lR {f g:aW}:∀{l:a4 eb},(∀x∈l,aS f x=aS g x)->aa f l=aa g l
 |[],_=>rfl
 |x::r,h=>by
  simp only[aa,h x (a9 ..),lR (fun y hy=>h y (bb _ hy))]
theorem qO {f g:aW}:∀{l:a4 (av×eb)},(∀x∈l,aS f x.2=aS g x.2)->ae f l=ae g l
 |[],_=>rfl
 |x::r,h=>by
  obtain⟨i,x⟩:=x
  simp only[ae,h (i,x) (a9 ..),qO (fun y hy=>h y (bb _ hy))]
theorem vA {f g:aW}{x:a5 eb}(h:∀y,x=some y->aS f y=aS g y):ai f x=ai g x:=by
 cases x with
 |none=>rfl
 |some y=>simp only[ai,h y rfl]
theorem Sg {P:an}{o:bl}{f g:aW}(hn:f.n=g.n)(h:∀t:av,Operand.tmp t∈o.op.operands.toList->f.get t=g.get t)(s:aq):cS P o f s=cS P o g s:=by
 have ev:∀x∈o.op.operands.toList,aS f x=aS g x:=fun x hx=>KD hn (fun t ht=>h t (by rw[<-ht];exact hx))
 clear h
 obtain⟨dst,op,type,pos,after,guard⟩:=o
 cases op<;>simp only[Op.operands] at ev
 case call c=>
  obtain⟨callee,args,ts⟩:=c
  have ea:aa f args.toList=aa g args.toList:=lR (fun x hx=>ev x (by simp only[Call.operands,cg];exact dc _ hx))
  cases callee with
  |value y=>
   have ey:=ev y (by simp[Call.operands])
   simp only[cS,ea,ey]
  |builtin b=>simp only[cS,ea]
  |invoke y m=>simp only[cS,ea]
 case makeFunc fn first captured=>
  have e1:aa f first.toList=aa g first.toList:=lR (fun x hx=>ev x (by rw[cg];exact List.mem_append_left _ hx))
  have e2:aa f captured.toList=aa g captured.toList:=lR (fun x hx=>ev x (by rw[cg];exact dc _ hx))
  cases fn<;>simp only[cS,e1,e2]
 case build t ps=>
  have e1:ae f ps.toList=ae g ps.toList:=qO (fun x hx=>ev x.2 (by simpa using⟨x.1,by simpa using hx⟩))
  simp only[cS,e1]
 case buildSlice t n ps=>
  have e1:ae f ps.toList=ae g ps.toList:=qO (fun x hx=>ev x.2 (by simpa using⟨x.1,by simpa using hx⟩))
  simp only[cS,e1]
 case slice t x l hi m=>
  have e0:=ev x (by simp)
  have e1:ai f l=ai g l:=vA (fun y hy=>ev y (by simp[hy]))
  have e2:ai f hi=ai g hi:=vA (fun y hy=>ev y (by simp[hy]))
  have e3:ai f m=ai g m:=vA (fun y hy=>ev y (by simp[hy]))
  simp only[cS,e0,e1,e2,e3]
 all_goals first
  |rfl
  |(simp only[cS];simp at ev;simp only[ev];done)
  |(simp at ev;obtain⟨e1,e2⟩:=ev;simp only[cS,e1,e2];done)
  |(simp at ev;obtain⟨e1,e2,e3⟩:=ev;simp only[cS,e1,e2,e3];done)
  |(rename_i r;cases r<;>rfl)
theorem Fs {ops:a4 bl}{o:bl}{f g:aW}(hn:f.n=g.n)(h:∀t:av,t∈yG ops o->f.get t=g.get t):cT ops o f=cT ops o g:=by
 unfold cT
 cases hg:o.guard with
 |none=>rfl
 |some p=>
  obtain⟨j,want⟩:=p
  have:qG ops f j=qG ops g j:=by
   unfold qG
   cases hd:ops.drop j with
   |nil=>rfl
   |cons p r=>
    simp only
    cases hpd:p.dst with
    |none=>rfl
    |some d=>
     simp only[hn]
     rw[h d (by simp[yG,hg,hd,hpd])]
  simp only[this]
theorem Vk {P:an}{base:av}{S:St}(h:SR base S){f:aW}{a:Act}(hf:FR S f a){o:bl}(ha:aM P o=true){id:av}(dC:mV S id S.s.next){v:a3}{s1:aq}{b:jZ}
  (hx:cS P o f ⟨.nil,id⟩=some (.val v s1)) (hb:s1.bR id=some b):
  ∃T v',T.s=S.s.put id (.dZ b)/\VR T v v' /\Good base S T/\(execOp a.eval o).run P S.w= .ok (.value v') T.w:=by
 have gz:0<16000001:=by have:=dC.lt;have:=h.room;omega
 have fin:∀(m:Sem a3),execOp a.eval o=(do pure (Next.value (<-m)))->sK P base S m v ⟨.nil,id⟩ s1 S.s.next->∃T v',T.s=S.s.put id (.dZ b)/\VR T v v' /\Good base S T/\(execOp a.eval o).run P S.w= .ok (.value v') T.w:=by
  intro m he hd
  obtain⟨b',e,T,v',h1,h2,h3,h4⟩:=hd
  have pL:s1.bR id=some b' :=by rw[e];simp only[aq.bR,aq.new,Tr.bD _ _ _ _ (deep gz)]
  rw[hb] at pL
  obtain rfl:=af pL
  exact⟨T,v',h1,h3,h4,by rw[he];exact Qf h2⟩
 have Vl:∀r,oF r=some (.val v s1)->r=some (v,s1):=by
  intro r hr
  cases r with
  |none=>simp[oF] at hr
  |some p=>
   obtain⟨v2,s2⟩:=p
   simp only[oF] at hr
   injection hr with hr;injection hr with e1 e2;rw[e1,e2]
 obtain⟨dst,op,type,pos,after,guard⟩:=o
 cases op<;>try (cases ha;done)
 case alloc e=>
  simp only[cS] at hx
  split at hx
  ·rename_i z hz
   split at hx
   ·rename_i hp
    exact fin _ rfl (Kt h (s0:=⟨.nil,id⟩) dC hz hp (Vl _ hx))
   ·cases hx
  ·cases hx
 case box e y=>
  simp only[cS] at hx
  split at hx
  ·rename_i u hu
   exact fin _ rfl (UZ h (s0:=⟨.nil,id⟩) dC (bJ hf hu) (Vl _ hx))
  ·cases hx
 case buildSlice t n ps=>
  simp only[cS] at hx
  split at hx
  ·rename_i l hl
   have oA:aO P ⟨.nil,id⟩ t n l=some (v,s1):=Vl _ hx
   have:=sO (P:=P) h (s0:=⟨.nil,id⟩) (next:=S.s.next) dC (yN hf hl) oA
   have e:(ps.map fun(x:av×eb)=>(x.1,a.eval x.2))=(ps.toList.map fun x=>(x.1,a.eval x.2)).toArray:=by rw[<-b4];simp
   refine fin (Instr.buildSlice t n (ps.map fun(i,x)=>(i,a.eval x))) (by simp only[execOp]) ?_
   rw[e];exact this
  ·cases hx
 case convert s d y=>
  simp only[cS] at hx
  simp only[aM] at ha
  split at hx
  ·rename_i u hu
   exact fin _ rfl (zR h (s0:=⟨.nil,id⟩) dC (bJ hf hu) (Vl _ hx) ha)
  ·cases hx
 case makeSlice t y z=>
  simp only[cS] at hx
  split at hx
  ·rename_i u w hu hw
   exact fin (Instr.makeSlice t (a.eval y) (a.eval z)) rfl (uO h (s0:=⟨.nil,id⟩) dC (bJ hf hu) (bJ hf hw) (Vl _ hx))
  ·cases hx
theorem Cm {acc:a4 av}:∀{l:a4 Edge} {m x:av},ab (qH acc l m) x=true->ab m x=true\/∃e∈l,Region.binds .any e=true/\(x=e.on\/ab (dg acc e.on) x=true)
 |[],_,_,h=> .inl h
 |e::r,m,x,h=>by
  simp only[qH] at h
  rcases Cm h with h1|⟨e',h1,h2⟩
  ·split at h1
   ·rename_i hb
    simp only[Nat.testBit_or,dX,Nat.testBit_two_pow,decide_eq_true_eq] at h1
    rcases h1 with (h1|h1)|h1
    ·exact .inl h1
    ·exact .inr ⟨e,a9 ..,hb,.inl h1.symm⟩
    ·exact .inr ⟨e,a9 ..,hb,.inr h1⟩
   ·exact .inl h1
  ·exact .inr ⟨e',bb _ h1,h2⟩
theorem KE (l m:a4 av):∀i,i<l.length->dg (l++m) i=dg l i:=by
 induction l with
 |nil=>intro i h;simp at h
 |cons x r ih=>
  intro i h
  cases i with
  |zero=>rfl
  |succ k=>exact ih k (by simpa using h)
theorem Zu (l:a4 av)(x:av)(m:a4 av):dg (l++x::m) l.length=x:=by
 induction l with
 |nil=>rfl
 |cons _ r ih=>exact ih
theorem nm:∀(ops:a4 bl) (acc:a4 av),∃r,cD ops acc=acc++r/\r.length=ops.length
 |[],acc=>⟨[],by simp[cD],rfl⟩
 |o::ops,acc=>by
  obtain⟨r,h1,h2⟩:=nm ops (acc++[qH acc o.after.toList 0])
  exact⟨qH acc o.after.toList 0::r,by simp[cD,h1],by simp[h2]⟩
theorem Cn:∀(ops:a4 bl) (acc:a4 av) (k:av) (o:bl),ops[k]?=some o->∃Vm,(∀j,j<acc.length+k->dg Vm j=dg (cD ops acc) j)/\dg (cD ops acc) (acc.length+k)=qH Vm o.after.toList 0
 |[],_,_,_,h=>by simp at h
 |p::ops,acc,0,o,h=>by
  simp only[bk,b8] at h
  subst h
  obtain⟨r,h1,h2⟩:=nm ops (acc++[qH acc p.after.toList 0])
  refine⟨acc,fun j hj=> ?_,?_⟩
  ·simp only[cD,h1,dD]
   rw[KE _ _ _ (by simpa using hj)]
  ·simp only[cD,h1,dD,en]
   exact Zu _ _ _
 |p::ops,acc,k+1,o,h=>by
  simp only[b5] at h
  obtain⟨Vm,h1,h2⟩:=Cn ops (acc++[qH acc p.after.toList 0]) k o h
  simp only[List.length_append,List.length_singleton] at h1 h2
  refine⟨Vm,fun j hj=> ?_,?_⟩
  ·simp only[cD];exact h1 j (by omega)
  ·simp only[cD];rw[<-h2];congr 1;omega
theorem oL:∀(ops:a4 bl) {P:an} (k k' :av) {o:bl},ops[k]?=some o->aM P o=true->k<k' ->aT P (ops.take k)<aT P (ops.take k')
 |[],_,_,_,_,h,_,_=>by simp at h
 |p::ops,P,0,k' +1,o,h,ha,_=>by
  simp only[bk,b8] at h
  subst h
  simp[aT,ha]
 |p::ops,P,k+1,k' +1,o,h,ha,hk=>by
  simp only[b5] at h
  have:=oL ops k k' h ha (by omega)
  simp only[cm,aT]
  split<;>omega
 |_::_,_,_,0,_,_,_,h=>by omega
theorem sW {P:an}{p:av->c6}:∀(ops:a4 bl) (i:av),(∀j,i<=j->p j=false)->countP p P ops i=0
 |[],_,_=>rfl
 |o::r,i,h=>by simp only[countP,h i (a6 _),Bool.and_false,cz,dx];exact sW r (i+1) (fun j hj=>h j (by omega))
theorem sX {P:an}{p q:av->c6}:∀(ops:a4 bl) (i:av),(∀k o,ops[k]?=some o->bp P o=true->p (i+k)=true->q (i+k)=true)->countP p P ops i<=countP q P ops i
 |[],_,_=>a6 _
 |o::r,i,h=>by
  have ih:=sX (p:=p) (q:=q) r (i+1) (fun k o ho he hp=>by have:=h (k+1) o (by simpa using ho) he (by rw[show i+(k+1)=i+1+k by omega];exact hp);rwa [show i+(k+1)=i+1+k by omega] at this)
  have h0:=h 0 o rfl
  simp only[countP]
  cases he:bp P o with
  |false=>simpa [he] using ih
  |true=>
   cases hp:p i with
   |false=>simp only[Bool.true_and,cz,dx];split<;>omega
   |true=>
    have:=h0 he hp
    simp only[en] at this
    simp[this];exact ih
theorem Vn {f f' :aW}{d:a5 Tmp}{v:a3}(h:kX f d v=some f'):f'.n=f.n:=by
 unfold kX at h
 split at h
 ·split at h
  ·injection h with h;subst h;rfl
  ·cases h
 ·injection h with h;subst h;rfl
def Ev.after (e:Ev)(T:aq):aq:=
 match e with
 | .E9 _ s=>s
 |_=>T
def Ev.more (e:Ev)(i:av)(ava:Made):Made:=
 match e with
 | .made _ d b=>ava++[(i,d,b)]
 |_=>ava
theorem Gt {i j:av}(h:i<=j):ca j i=false:=by
 cases hb:ca j i
 ·rfl
 ·rw[bq] at hb;omega
theorem IE {P:an}{call:Call}{all:a4 bl}:∀(ops:a4 bl) (ms:a4 av) (i id:av) (f:aW) (T:aq) (ava:Made) (es:a4 Ev),ms.length=ops.length->cO P call all ms ops i id f T ava=some es->
  es.length=ops.length/\∃(F:av->aW) (G:av->aq),F 0=f/\G 0=T/\cU ops es f=F ops.length/\
   (∀p,p<=ops.length->(aH P ops es T)[countP (fun j=>ca j (i+p)) P ops i]?=some (G p))/\(∀d,(aH P ops es T).getLastD d=G ops.length)/\
   ∀k o,ops[k]?=some o->∃e,es[k]?=some e/\ei P call all (dg ms k) (id+aT P (ops.take k)) (ava++madeOf (es.take k) i) o (F k) (G k)=some e/\
    kX (F k) o.dst e.val=some (F (k+1))/\G (k+1)=e.after (G k):=by
 intro ops
 induction ops with
 |nil=>
  intro ms i id f T ava es hl hd
  cases ms with
  |cons _ _=>simp at hl
  |nil=>
   simp only[cO] at hd
   injection hd with hd;subst hd
   exact⟨rfl,fun _=>f,fun _=>T,rfl,rfl,rfl,fun p hp=>rfl,fun d=>rfl,fun k o h=>by simp at h⟩
 |cons o ops ih=>
  intro ms i id f T ava es hl hd
  cases ms with
  |nil=>simp at hl
  |cons m ms=>
   simp only[cO] at hd
   split at hd
   ·rename_i e he
    split at hd
    ·rename_i f' hp
     split at hd
     ·rename_i JZ uR
      injection hd with hd;subst hd
      obtain⟨h1,F,G,h2,h3,h4,h5,h6,h7⟩:=ih ms (i+1) _ f' (e.after T) _ JZ (by simpa using hl) uR
      have IF:∀v s,e= .E9 v s->bp P o=true:=by
       intro v s hee
       subst hee
       unfold ei at he
       split at he
       ·cases he
       ·split at he
        ·split at he<;>cases he
        ·split at he
         ·split at he<;>cases he
         ·cases he
        ·rename_i hq ha;simp[bp,hq,ha]
      refine⟨by simp[h1],fun k=>match k with|0=>f|k+1=>F k,fun k=>match k with|0=>T|k+1=>G k,rfl,rfl,?_,?_,?_,?_⟩
      ·simp only[cU,hp,dT];exact h4
      ·intro p Vo
       have aE:aH P (o::ops) (e::JZ) T=if bp P o then T::aH P ops JZ (e.after T) else aH P ops JZ (e.after T):=by
        cases e with
        |E9 v s=>simp only[aH,IF v s rfl,eh];rfl
        |skip=>rfl
        |quiet _=>rfl
        |made _ _ _=>rfl
       cases p with
       |zero=>
        have h0:=sW (P:=P) (p:=fun j=>ca j (i+0)) (o::ops) i (fun j hj=>Gt (by omega))
        rw[h0,aE]
        split
        ·rfl
        ·have e0:(e.after T)=T:=by
          rename_i cH
          cases e<;>try rfl
          exact bo (IF _ _ rfl) cH
         have:=h5 0 (cA _)
         rw[sW (P:=P) (p:=fun j=>ca j (i+1+0)) ops (i+1) (fun j hj=>Gt (by omega))] at this
         rw[this,h3,e0]
       |succ p=>
        have:=h5 p (by simpa using Vo)
        have hc:countP (fun j=>ca j (i+(p+1))) P (o::ops) i=if bp P o then countP (fun j=>ca j (i+1+p)) P ops (i+1)+1 else countP (fun j=>ca j (i+1+p)) P ops (i+1):=by
         have e1:(fun j=>ca j (i+(p+1)))=fun j=>ca j (i+1+p):=by rw[show i+(p+1)=i+1+p by omega]
         rw[e1]
         simp only[countP]
         have:ca i (i+1+p)=true:=by simp[bq];omega
         simp only[this,Bool.and_true]
        rw[hc,aE]
        split
        ·simp only[b5];exact this
        ·exact this
      ·intro d
       simp only[dT]
       rw[<-h6 d]
       have cH:aH P ops JZ (e.after T)≠[]:=by
        intro hn
        have:=h5 0 (cA _)
        rw[hn] at this;simp at this
       have g7:∀x:aq,(x::aH P ops JZ (e.after T)).getLastD d=(aH P ops JZ (e.after T)).getLastD d:=by
        intro x
        rw[bg]
        generalize aH P ops JZ (e.after T)=l at cH
        cases l with
        |nil=>exact bo rfl cH
        |cons y r=>rw[bg,bg]
       simp only[aH]
       cases e<;>simp only at g7|- <;>first
        |exact g7 T
        |(split
          ·exact g7 T
          ·rfl)
      ·intro k o' hk
       cases k with
       |zero=>
        simp only[bk,b8] at hk
        subst hk
        exact⟨e,rfl,by simpa [dg,aT,madeOf] using he,by simpa [h2] using hp,by simpa using h3⟩
       |succ k=>
        simp only[b5] at hk
        obtain⟨e',k1,k2,k3,k4⟩:=h7 k o' hk
        refine⟨e',by simpa using k1,?_,k3,k4⟩
        have ea:(if aM P o then id+1 else id)+aT P (ops.take k)=id+aT P ((o::ops).take (k+1)):=by
         simp only[cm,aT];split<;>omega
        have em:e.more i ava++madeOf (JZ.take k) (i+1)=ava++madeOf ((e::JZ).take (k+1)) i:=by
         simp only[cm]
         cases e<;>simp[madeOf,Ev.more]
        rw[<-ea,<-em]
        exact k2
     ·cases hd
    ·cases hd
   ·cases hd
theorem Ft {P:an}{all:a4 bl}{ms:a4 av}{ava:Made}{pQ:a4 aq}:∀(k:av) (mr:a4 av) (ops:a4 bl) (es:a4 Ev) (i:av) (F:av->aW),mr.length=ops.length->cE P all ms ava pQ mr ops es i (F 0)=true->
  (∀k o e,ops[k]?=some o->es[k]?=some e->kX (F k) o.dst e.val=some (F (k+1)))->∀o v,ops[k]?=some o->es[k]?=some (.quiet v)->
  sameAt P (dg mr k) ava o (F k) v ((pQ.take (countP (fun j=> !Nat.testBit (dg ms j) (i+k)) P all 0+1)).drop (countP (ab (dg mr k)) P all 0))=true:=by
 intro k
 induction k with
 |zero=>
  intro mr ops es i F hl h hF o v ho he
  cases ops with
  |nil=>simp at ho
  |cons p ops=>
   cases mr with
   |nil=>simp at hl
   |cons m mr=>
    cases es with
    |nil=>simp at he
    |cons e es=>
     simp only[bk,b8] at ho he
     subst ho;subst he
     simp only[cE,ao] at h
     exact h.1
 |succ k ih=>
  intro mr ops es i F hl h hF o v ho he
  cases ops with
  |nil=>simp at ho
  |cons p ops=>
   cases mr with
   |nil=>simp at hl
   |cons m mr=>
    cases es with
    |nil=>simp at he
    |cons e es=>
     have h0:=hF 0 p e rfl rfl
     simp only[cE,ao,h0] at h
     have:=ih mr ops es (i+1) (fun k=>F (k+1)) (by simpa using hl) h.2 (fun k o e ho he=>hF (k+1) o e (by simpa using ho) (by simpa using he)) o v (by simpa using ho) (by simpa using he)
     rw[show i+1+k=i+(k+1) by omega] at this
     exact this
theorem Co {P:an}{m:av}{ava:Made}{o:bl}{f:aW}{v:a3}:∀{l:a4 aq} {T:aq},sameAt P m ava o f v l=true->T∈l->∃u t,cS P o f (fill (ab m) T ava)=some (.val u t)/\bZ v u=true
 |[],_,_,h=>by cases h
 |s::r,T,h,hT=>by
  simp only[sameAt] at h
  split at h
  ·rename_i u t fY
   rw[ao] at h
   rcases c0.1 hT with rfl|hT
   ·exact⟨u,t,fY,h.1⟩
   ·exact Co h.2 hT
  ·cases h
theorem yR {a b:a3}(h:cN a b=true):a=b:=by
 cases a<;>cases b<;>simp only[cN] at h<;>try (cases h;done)
 all_goals try rfl
 case bool a b=>simpa using h
 case int k a k' b=>
  rw[ao] at h
  obtain⟨h1,h2⟩:=h
  split at h1
  ·rename_i e;subst e;rw[beq_iff_eq] at h2;rw[h2]
  ·cases h1
 case string a b=>
  rw[beq_iff_eq] at h
  obtain⟨⟨a⟩⟩:=a
  obtain⟨⟨b⟩⟩:=b
  simp only at h
  rw[h]
 case pointer a b=>split at h<;>first|(rename_i e;rw[e])|cases h
 case map a b=>split at h<;>first|(rename_i e;rw[e])|cases h
 case slice a n c b m d=>
  simp only[ao] at h
  obtain⟨⟨h1,h2⟩,h3⟩:=h
  split at h1
  ·rename_i e;rw[e,cc h2,cc h3]
  ·cases h1
theorem pU:∀{a b:a4 a3},fp a b=true->a=b
 |[],[],_=>rfl
 |x::r,y::q,h=>by
  simp only[fp,ao] at h
  rw[yR h.1,pU h.2]
 |[],_::_,h=>by cases h
 |_::_,[],h=>by cases h
theorem Sh {a b:a3}(h:yH a b=true):a=b:=by
 unfold yH at h
 split at h
 ·rw[b4.1 (pU h)]
 ·exact yR h
theorem Gu:∀{a b:a4 a3},qI a b=true->a=b
 |[],[],_=>rfl
 |a::r,b::q,h=>by
  simp only[qI,ao] at h
  rw[Sh h.1,Gu h.2]
 |[],_::_,h=>by simp[qI] at h
 |_::_,[],h=>by simp[qI] at h
theorem Vp {a b:a3}(h:bZ a b=true):a=b:=by
 unfold bZ at h
 split at h
 ·rw[b4.1 (pU h)]
 ·rw[b4.1 (Gu h)]
 ·simp only[ao] at h
  obtain⟨⟨h1,h2⟩,h3⟩:=h
  have Zv:=cc h1
  rw[b4.1 (pU h2),b4.1 (pU h3)]
  exact congrArg (fun x=>Value.func (Fn.func x) _ _) Zv
 ·exact yR h
abbrev il (s t:aq):Prop:=cI s t (fun _=>none)
theorem il.refl (s:aq):il s s:=⟨rfl,(fun _ _ h=>by cases h),fun _=>rfl⟩
theorem SR.wf {base:av}{S:St}(h:SR base S):WF S.s:=⟨h.room,h.bound⟩
theorem il.wf {s t:aq}(h:il s t)(hw:WF t):WF s:=⟨hw.room,fun j o hj=>by rw[<-h.next];exact hw.bound j o (by rw[h.get j];exact hj)⟩
def IG (P:an)(Pre:av->bC->Prop)(g:eg)(p:Prim):Prop:=
 ∀(base:av) (S:St) (s:aq) (args:a4 a3) (v:a3) (s' :aq),il s S.s->SR base S->Pre base S.w->p args s=some (v,s')->∀args' :cB a3,eR S args args'.toList->
  ((∀w,(callFunc g args').run P w= .ok (.enter g args') w)/\Calls P g args' S.w fun e w' =>∃T v',il s' T.s/\T.w=w' /\e= .returned v' /\VR T v v' /\Good base S T)\/
  ∃T v',(callFunc g args').run P S.w= .ok (.value v') T.w/\il s' T.s/\VR T v v' /\Good base S T
def yS (P:an)(Pre:av->bC->Prop)(call:Call):Prop:=∀g,IG P Pre g (call g)
def Cp (Pre:av->bC->Prop):Prop:=∀base w w',Below base w w' ->Pre base w->Pre base w'
theorem FR.put {S:St}{f f' :aW}{a:Act}{d:a5 Tmp}{v v' :a3}(hf:FR S f a)(hv:VR S v v')(h:kX f d v=some f'):FR S f' (a.put d v'):=by
 unfold kX at h
 split at h
 ·rename_i t0
  obtain⟨t,rfl⟩:∃t:av,t=t0:=⟨t0,rfl⟩
  split at h
  ·rename_i ht
   obtain rfl:=af h
   have Nl:t<f.n:=by simpa [bq] using ht
   have hn:=hf.n
   refine⟨by simp[aW.put,Act.put,hf.n],hf.small,fun u hu=> ?_⟩
   have YO:u<f.n:=hu
   have hts:0<16000001:=by have:=hf.small;omega
   have cf:t<a.tmps.size:=by omega
   by_cases htu:t=u
   ·subst htu
    have e1:(f.put t v).get t=v:=by simp only[aW.get,aW.put,Tr.bD _ _ _ _ (deep hts)]
    have e2:(a.put (some t) v').tmps.getD t undef=v' :=by
     simp[Act.put,cf]
    rw[e1,e2];exact hv
   ·have e1:(f.put t v).get u=f.get u:=by simp only[aW.get,aW.put,Tr.ch _ _ _ _ _ htu]
    have e2:(a.put (some t) v').tmps.getD u undef=a.tmps.getD u undef:=by
     simp[Act.put,Array.getElem?_setIfInBounds_ne htu]
    rw[e1,e2];exact hf.get u YO
  ·cases h
 ·obtain rfl:=af h
  exact hf
theorem put_defers (a:Act)(d:a5 Tmp)(v:a3):(a.put d v).defers=a.defers:=by cases d<;>rfl
theorem Vq {S:St}{f:aW}{a:Act}(hf:FR S f a)(ops:a4 bl)(j:av):qG ops f j=yielded ops.toArray a.tmps j:=by
 have hj:(ops.toArray)[j]?=(ops.drop j).head?:=by rw[bz,List.head?_drop]
 unfold qG yielded
 rw[hj]
 cases ops.drop j with
 |nil=>rfl
 |cons o r=>
  simp only[List.head?_cons,Option.bind_some]
  cases o.dst with
  |none=>rfl
  |some d0=>
   obtain⟨d,rfl⟩:∃d:av,d=d0:=⟨d0,rfl⟩
   simp only[Option.bind_some]
   by_cases hd:d<f.n
   ·rw[a8 (by simpa [bq] using hd)]
    have hv:=hf.get d hd
    have cf:d<a.tmps.size:=by rw[<-hf.n];exact hd
    have e:a.tmps[d]?=some (a.tmps.getD d undef):=by simp[cf]
    rw[e]
    generalize a.tmps.getD d undef=v' at hv
    generalize f.get d=v0 at hv
    cases hv<;>rfl
   ·rw[cd (by simpa [bq] using hd)]
    have e:a.tmps[d]?=none:=Array.getElem?_eq_none (by have:=hf.n;omega)
    rw[e]
theorem Gv {S:St}{f:aW}{a:Act}(hf:FR S f a)(ops:a4 bl)(o:bl):cT ops o f=Region.wanted o (yielded ops.toArray a.tmps):=by
 unfold cT Region.wanted
 cases o.guard with
 |none=>rfl
 |some p=>
  obtain⟨j,want⟩:=p
  simp only[Vq hf]
  cases yielded ops.toArray a.tmps j<;>rfl
def dA (es:a4 Ev)(j i:av)(b:jZ):Prop:=∃v,es[j]?=some (.made v i b)
theorem jT:∀{es:a4 Ev} {n:av} {x:av×av×jZ},x∈madeOf es n->∃j,x.1=n+j/\dA es j x.2.1 x.2.2
 |[],_,_,h=>by cases h
 |e::r,n,x,h=>by
  have rest:x∈madeOf r (n+1)->∃j,x.1=n+j/\dA (e::r) j x.2.1 x.2.2:=fun h=>by
   obtain⟨j,h1,v,h2⟩:=jT h
   exact⟨j+1,by omega,v,by simpa using h2⟩
  cases e with
  |made v i b=>
   simp only[madeOf] at h
   rcases c0.1 h with rfl|h
   ·exact⟨0,rfl,v,rfl⟩
   ·exact rest h
  |skip=>exact rest h
  |quiet v=>exact rest h
  |E9 v s=>exact rest h
theorem qP:∀{es:a4 Ev} {n j i:av} {b:jZ},dA es j i b->(n+j,i,b)∈madeOf es n
 |[],_,_,_,_,⟨v,h⟩=>by simp at h
 |e::r,n,0,i,b,⟨v,h⟩=>by
  simp only[bk,b8] at h
  subst h
  exact a9 ..
 |e::r,n,j+1,i,b,⟨v,h⟩=>by
  have:=qP (es:=r) (n:=n+1) (j:=j) ⟨v,by simpa using h⟩
  rw[show n+1+j=n+(j+1) by omega] at this
  cases e<;>simp only[madeOf]<;>first
   |exact bb _ this
   |exact this
structure A9 (es:a4 Ev) (T:aq) (q:av->Prop) (s:aq):Prop where
 next:s.next=T.next
 old:∀i o,T.heap.get i=some o->s.heap.get i=some o
 new:∀i j b,T.heap.get i=none->dA es j i b->q j->s.heap.get i=some (.dZ b)
 gone:∀i,T.heap.get i=none->(∀j b,dA es j i b->¬q j)->s.heap.get i=none
def diff (s s' :aq)(i:av):a5 AO:=
 match s.heap.get i with
 |some _=>none
 |none=>s'.heap.get i
theorem A9.agP {es:a4 Ev}{T s s' :aq}{q q' :av->Prop}(hb:∀j i b,dA es j i b->i<T.next)(h:A9 es T q s)(h' :A9 es T q' s')(hq:∀j,q j->q' j):cI s s' (diff s s'):=by
 refine⟨by rw[h.next,h'.next],fun j o hj=> ?_,fun j=> ?_⟩
 ·unfold diff at hj
  split at hj
  ·cases hj
  ·rename_i hs
   refine⟨hs,?_⟩
   rw[h.next]
   cases hT:T.heap.get j with
   |some o' =>rw[h.old j o' hT] at hs;cases hs
   |none=>
    by_cases hx:∃jj b,dA es jj j b
    ·obtain⟨jj,b,hx⟩:=hx;exact hb _ _ _ hx
    ·rw[h'.gone j hT (fun jj b hm=>bo ⟨jj,b,hm⟩ hx)] at hj;cases hj
 ·unfold diff
  cases hs:s.heap.get j with
  |none=>simp only;cases s'.heap.get j<;>rfl
  |some o=>
   simp only
   cases hT:T.heap.get j with
   |some o' =>rw[h'.old j o' hT,<-hs,h.old j o' hT]
   |none=>
    by_cases hx:∃jj b,dA es jj j b/\q jj
    ·obtain⟨jj,b,hx,Nm⟩:=hx
     rw[h'.new j jj b hT hx (hq jj Nm),<-hs,h.new j jj b hT hx Nm]
    ·rw[h.gone j hT (fun jj b hm Nm=>hx ⟨jj,b,hm,Nm⟩)] at hs;cases hs
theorem Vr {p:av->c6}:∀{ava:Made} {j i:av} {b:jZ},(j,i,b)∈ava->p j=true->Qg p ava i≠none
 |[],_,_,_,h,_=>by cases h
 |(j',i',b')::r,j,i,b,h,hp=>by
  simp only[Qg]
  split
  ·simp
  ·rename_i hn
   rcases c0.1 h with e|h
   ·injection e with e1 e2;injection e2 with e2 e3;subst e1;subst e2
    exact bo ⟨hp,rfl⟩ hn
   ·exact Vr h hp
theorem Cq {es:a4 Ev}{p:av->c6}{T:aq}{ava:Made}(hb:∀x∈ava,0<16000001)(h1:∀j i b,dA es j i b->p j=true->(j,i,b)∈ava)(h2:∀x∈ava,dA es x.1 x.2.1 x.2.2)
  (hu:∀j j' i b b',dA es j i b->dA es j' i b' ->j=j' /\b=b'):A9 es T (fun j=>p j=true) (fill p T ava):=by
 obtain⟨n1,g1⟩:=wY p ava T hb
 refine⟨n1,fun i o hi=>by rw[g1,hi],fun i j b hi hm hp=> ?_,fun i hi hn=> ?_⟩
 ·rw[g1,hi]
  cases hs:Qg p ava i with
  |none=>exact bo hs (Vr (h1 j i b hm hp) hp)
  |some o=>
   obtain⟨j',b',k1,_,rfl⟩:=wZ hs
   obtain⟨_,rfl⟩:=hu _ _ _ _ _ hm (h2 _ k1)
   rfl
 ·rw[g1,hi]
  cases hs:Qg p ava i with
  |none=>rfl
  |some o=>
   obtain⟨j',b',k1,k2,rfl⟩:=wZ hs
   exact bo k2 (hn _ _ (h2 _ k1))
theorem A9.step {es:a4 Ev}{T s t s1 t' :aq}{q q' :av->Prop}(h:A9 es T q s)(h' :A9 es T q' t)(ha:cI s1 t' (diff s t))(hk:bW s s1):A9 es s1 q' t' :=by
 have Qi:∀i,s1.heap.get i=none->s.heap.get i=none/\T.heap.get i=none:=fun i hi=>by
  have e1:s.heap.get i=none:=by
   cases hs:s.heap.get i with
   |none=>rfl
   |some o=>exact bo hi (hk.here i (by rw[hs];simp))
  refine⟨e1,?_⟩
  cases hT:T.heap.get i with
  |none=>rfl
  |some o=>rw[h.old i o hT] at e1;cases e1
 refine⟨ha.next,fun i o hi=>ha.same hi,fun i j b hi hm hq=> ?_,fun i hi hn=> ?_⟩
 ·obtain⟨e1,e2⟩:=Qi i hi
  rw[ha.get i]
  simp only[diff,e1,h'.new i j b e2 hm hq]
 ·obtain⟨e1,e2⟩:=Qi i hi
  rw[ha.get i]
  simp only[diff,e1,h'.gone i e2 hn,hi]
theorem A9.same {es:a4 Ev}{T s s' :aq}{q:av->Prop}(h:A9 es T q s)(hs:il s s'):A9 es T q s' :=
 ⟨by rw[hs.next,h.next],fun i o hi=>by rw[hs.get i];exact h.old i o hi,fun i j b hi hm hq=>by rw[hs.get i];exact h.new i j b hi hm hq,fun i hi hn=>by rw[hs.get i];exact h.gone i hi hn⟩
theorem A9.congr {es:a4 Ev}{T s:aq}{q q' :av->Prop}(h:A9 es T q s)(hq:∀j i b,dA es j i b->(q' j↔q j)):A9 es T q' s:=
 ⟨h.next,h.old,fun i j b hi hm Nm=>h.new i j b hi hm ((hq j i b hm).1 Nm),fun i hi hn=>h.gone i hi (fun j b hm Nm=>hn j b hm ((hq j i b hm).2 Nm))⟩
theorem A9.put {es:a4 Ev}{T s:aq}{q q' :av->Prop}(h:A9 es T q s){j i:av}{b:jZ}(hm:dA es j i b)(hi:s.heap.get i=none)(bd:0<16000001)
  (hu:∀j j' i b b',dA es j i b->dA es j' i b' ->j=j' /\b=b') (hq:∀k,q' k↔k=j\/q k):A9 es T q' (s.put i (.dZ b)):=by
 have self:(s.put i (.dZ b)).heap.get i=some (.dZ b):=by simp only[aq.put,Tr.bD _ _ _ _ (deep bd)]
 refine⟨h.next,fun k o hk=> ?_,fun k j' b' hk YQ Nm=> ?_,fun k hk hn=> ?_⟩
 ·have UL:i≠k:=fun e=>by subst e;rw[h.old _ o hk] at hi;cases hi
  rw[aq.bP _ _ _ _ UL];exact h.old k o hk
 ·by_cases UL:i=k
  ·subst UL
   obtain⟨_,rfl⟩:=hu _ _ _ _ _ hm YQ
   exact self
  ·rw[aq.bP _ _ _ _ UL]
   refine h.new k j' b' hk YQ ?_
   rcases(hq j').1 Nm with rfl|h'
   ·obtain⟨v,e1⟩:=hm
    obtain⟨v',e2⟩:=YQ
    rw[e1] at e2
    injection e2 with e2;injection e2 with _ e3 _
    exact bo e3 UL
   ·exact h'
 ·have UL:i≠k:=fun e=>by subst e;exact hn j b hm ((hq j).2 (.inl rfl))
  rw[aq.bP _ _ _ _ UL]
  exact h.gone k hk (fun j' b' YQ Nm=>hn j' b' YQ ((hq j').2 (.inr Nm)))
theorem qQ {P:an}{call:Call}{all:a4 bl}{m id:av}{ava:Made}{o:bl}{f:aW}{T:aq}{e:Ev}(h:ei P call all m id ava o f T=some e):
  (cT all o f=false/\e= .skip)\/(cT all o f=true/\((aP P o=true/\∃v,e= .quiet v)\/
   (aP P o=false/\aM P o=true/\∃v s1 b,e= .made v id b/\cS P o f ⟨.nil,id⟩=some (.val v s1)/\s1.bR id=some b)\/
   (bp P o=true/\∃v s1,e= .E9 v s1/\(cS P o f (fill (ab m) T ava)=some (.val v s1)\/∃g args,cS P o f (fill (ab m) T ava)=some (.call g args)/\call g args (fill (ab m) T ava)=some (v,s1))))):=by
 unfold ei at h
 split at h
 ·rename_i hw;injection h with h;exact .inl ⟨hw,h.symm⟩
 ·rename_i hw
  refine .inr ⟨hw,?_⟩
  split at h
  ·rename_i hq
   split at h
   ·injection h with h;exact .inl ⟨hq,_,h.symm⟩
   ·cases h
  ·rename_i hq ha
   split at h
   ·rename_i v s1 fY
    split at h
    ·rename_i b hb
     injection h with h;exact .inr (.inl ⟨hq,ha,v,s1,b,h.symm,fY,hb⟩)
    ·cases h
   ·cases h
  ·rename_i hq ha
   have he:bp P o=true:=by simp[bp,hq,ha]
   split at h
   ·rename_i v s1 fY
    injection h with h;exact .inr (.inr ⟨he,v,s1,h.symm,.inl fY⟩)
   ·rename_i g args fY
    split at h
    ·rename_i v s1 hc
     injection h with h;exact .inr (.inr ⟨he,v,s1,h.symm,.inr ⟨g,args,fY,hc⟩⟩)
    ·cases h
   ·cases h
structure j7 (P:an) (call:Call) (ops:a4 bl) (f0:aW) (s0:aq) (es:a4 Ev) (F:av->aW) (G:av->aq):Prop where
 len:es.length=ops.length
 F0:F 0=f0
 G0:G 0=⟨s0.heap,s0.next+aT P ops⟩
 room:0<=16000000
 op:∀k o,ops[k]?=some o->∃e,es[k]?=some e/\ei P call ops (dg (cD ops []) k) (s0.next+aT P (ops.take k)) (madeOf (es.take k) 0) o (F k) (G k)=some e/\
  kX (F k) o.dst e.val=some (F (k+1))/\G (k+1)=e.after (G k)
 same:∀k o v p,ops[k]?=some o->es[k]?=some (.quiet v)->p<=ops.length->(∀x o',ops[x]?=some o' ->bp P o' =true->ab (dg (cD ops []) k) x=true->x<p)->
  (∀x o',ops[x]?=some o' ->bp P o' =true->x<p->ab (dg (cD ops []) x) k=false)->
  ∃t,cS P o (F k) (fill (ab (dg (cD ops []) k)) (G p) (madeOf es 0))=some (.val v t)
theorem Fu {P:an}{call:Call}{ops:a4 bl}{f f' :aW}{s s' :aq}(h:fH P call ops f s=some (f',s')):
  ∃es F G,j7 P call ops f s es F G/\f' =F ops.length/\s' =fill (fun _=>true) (G ops.length) (madeOf es 0):=by
 unfold fH at h
 split at h
 ·cases h
 rename_i hle
 split at h
 case h_2=>cases h
 rename_i es hd
 split at h
 case h_2=>cases h
 rename_i J3
 injection h with h;injection h with e1 e2;subst e1;subst e2
 have Qj:(cD ops []).length=ops.length:=by
  obtain⟨r,h1,h2⟩:=nm ops []
  rw[h1];simpa using h2
 obtain⟨h1,F,G,h2,h3,h4,h5,h6,h7⟩:=IE ops (cD ops []) 0 s.next f _ [] es Qj hd
 refine⟨es,F,G,⟨h1,h2,h3,by omega,fun k o ho=>by simpa using h7 k o ho,?_⟩,h4,by rw[h6]⟩
 intro k o v p ho he hp oI Uv
 rw[<-h2] at J3
 have hs:=Ft k (cD ops []) ops es 0 F Qj J3 (fun k o e ho he=>by
  obtain⟨e',k1,_,k3,_⟩:=h7 k o ho
  rw[he] at k1;injection k1 with k1;subst k1;exact k3) o v ho he
 have aE:=h5 p hp
 simp only[cp] at aE hs
 have c1:countP (ab (dg (cD ops []) k)) P ops 0<=countP (fun j=>ca j p) P ops 0:=sX ops 0 (fun x o' pM A6 hx=>by
  simp only[cp] at hx|-
  rw[bq];exact oI x o' pM A6 hx)
 have c2:countP (fun j=>ca j p) P ops 0<=countP (fun j=> !Nat.testBit (dg (cD ops []) j) k) P ops 0:=sX ops 0 (fun x o' pM A6 hx=>by
  simp only[cp,bq] at hx|-
  rw[Uv x o' pM A6 hx];rfl)
 generalize countP (fun j=>ca j p) P ops 0=c at*
 generalize countP (ab (dg (cD ops []) k)) P ops 0=lo at*
 generalize countP (fun j=> !Nat.testBit (dg (cD ops []) j) k) P ops 0=hi at*
 have pT:G p∈(((aH P ops es ⟨s.heap,s.next+aT P ops⟩).take (hi+1)).drop lo):=by
  refine List.mem_of_getElem? (i:=c-lo) ?_
  rw[List.getElem?_drop,show lo+(c-lo)=c by omega,cb,a8 (by omega),aE]
 obtain⟨u,t,k1,k2⟩:=Co hs pT
 rw[Vp k2]
 exact⟨t,k1⟩
section
variable {P:an} {call:Call} {ops:a4 bl} {f0:aW} {s0:aq} {es:a4 Ev} {F:av->aW} {G:av->aq}
theorem j7.made (h:j7 P call ops f0 s0 es F G){j i:av}{b:jZ}(hm:dA es j i b):∃o,ops[j]?=some o/\aM P o=true/\aP P o=false/\i=s0.next+aT P (ops.take j):=by
 obtain⟨v,hm⟩:=hm
 have bd:j<ops.length:=by rw[<-h.len];exact(a7.1 hm).1
 obtain⟨e,h1,h2,_,_⟩:=h.op j ops[j] (aR bd)
 rw[hm] at h1;injection h1 with h1;subst h1
 refine⟨ops[j],aR bd,?_⟩
 rcases qQ h2 with ⟨_,e⟩|⟨_,⟨_,v',e⟩|⟨hq,ha,v',s1,b',e,_⟩|⟨_,v',s1,e,_⟩⟩
 ·cases e
 ·cases e
 ·injection e with _ e _;exact⟨ha,hq,e⟩
 ·cases e
theorem j7.uniq (h:j7 P call ops f0 s0 es F G):∀j j' i b b',dA es j i b->dA es j' i b' ->j=j' /\b=b' :=by
 intro j j' i b b' h1 h2
 obtain⟨o,k1,k2,_,k3⟩:=h.made h1
 obtain⟨o',l1,l2,_,l3⟩:=h.made h2
 have hj:j=j' :=by
  rcases dE j j' with bd|e|bd
  ·have:=oL ops j j' k1 k2 bd;omega
  ·exact e
  ·have:=oL ops j' j l1 l2 bd;omega
 subst hj
 obtain⟨v,e1⟩:=h1
 obtain⟨v',e2⟩:=h2
 rw[e1] at e2;injection e2 with e2;injection e2 with _ _ e3
 exact⟨rfl,e3⟩
theorem j7.bound (h:j7 P call ops f0 s0 es F G){j i:av}{b:jZ}(hm:dA es j i b):s0.next<=i/\i<s0.next+aT P ops:=by
 obtain⟨o,k1,k2,_,k3⟩:=h.made hm
 have:=oL ops j ops.length k1 k2 (a7.1 k1).1
 rw[List.take_length] at this
 omega
theorem j7.uz (h:j7 P call ops f0 s0 es F G)(hc:lu call)(hw:WF s0):∀k,k<=ops.length->fI s0.next (G 0) (G k):=by
 have sG:WF (G 0):=by rw[h.G0];exact⟨h.room,fun j o hj=>by have:=hw.bound j o hj;show j<s0.next+_;omega⟩
 intro k
 induction k with
 |zero=>intro _;exact fI.refl sG
 |succ k ih=>
  intro hk
  have ik:=ih (by omega)
  obtain⟨e,h1,h2,_,h4⟩:=h.op k ops[k] (aR (by omega))
  have hn0:(G 0).next=s0.next+aT P ops:=by rw[h.G0]
  have gz:∀x∈madeOf (es.take k) 0,s0.next<=x.2.1/\x.2.1<(G k).next:=fun x hx=>by
   obtain⟨j,hj,v,hm⟩:=jT hx
   have YQ:dA es j x.2.1 x.2.2:=⟨v,by
    rw[cb] at hm
    split at hm
    ·exact hm
    ·cases hm⟩
   have:=h.bound YQ
   have:=ik.next
   omega
  have kf:=fI.fill ik.wf gz (ab (dg (cD ops []) k))
  have hB:s0.next<=(fill (ab (dg (cD ops []) k)) (G k) (madeOf (es.take k) 0)).next:=by
   have:=kf.next;have:=ik.next;omega
  rw[h4]
  rcases qQ h2 with ⟨_,e⟩|⟨_,⟨_,v',e⟩|⟨hq,ha,v',s1,b',e,_⟩|⟨_,v',s1,e,he⟩⟩<;>subst e
  ·exact ik
  ·exact ik
  ·exact ik
  ·refine ik.trans (kf.trans ?_)
   rcases he with fY|⟨g,args,fY,jS⟩
   ·obtain⟨_,_,_,k3⟩:=kE (il.refl _) kf.wf fY
    exact k3.toB hB
   ·obtain⟨_,_,_,k3⟩:=hc _ _ _ _ _ _ _ (il.refl _) kf.wf jS
    exact k3.toB hB
theorem j7.Gc (h:j7 P call ops f0 s0 es F G)(a:av):∀b,a<=b->b<=ops.length->(∀x o,a<=x->x<b->ops[x]?=some o->bp P o=false)->G b=G a:=by
 intro b
 induction b with
 |zero=>intro Iu _ _;rw[eo.1 Iu]
 |succ b ih=>
  intro Iu hb hx
  by_cases adl:a=b+1
  ·rw[adl]
  obtain⟨e,h1,h2,_,h4⟩:=h.op b ops[b] (aR (by omega))
  have cH:=hx b _ (by omega) (by omega) (aR (show b<ops.length by omega))
  rw[h4,<-ih (by omega) (by omega) (fun x o h1 h2 h3=>hx x o h1 (by omega) h3)]
  rcases qQ h2 with ⟨_,e⟩|⟨_,⟨_,v',e⟩|⟨hq,ha,v',s1,b',e,_⟩|⟨he,_⟩⟩
  ·subst e;rfl
  ·subst e;rfl
  ·subst e;rfl
  ·rw[cH] at he;cases he
theorem j7.Geq (h:j7 P call ops f0 s0 es F G){a b:av}(ha:a<=ops.length)(hb:b<=ops.length)(hx:∀x o,ops[x]?=some o->bp P o=true->(x<a↔x<b)):G a=G b:=by
 rcases Nat.le_total a b with Iu|Iu
 ·refine(h.Gc a b Iu hb (fun x o h1 h2 h3=> ?_)).symm
  cases he:bp P o with
  |false=>rfl
  |true=>have:=(hx x o h3 he).2 h2;omega
 ·refine h.Gc b a Iu ha (fun x o h1 h2 h3=> ?_)
  cases he:bp P o with
  |false=>rfl
  |true=>have:=(hx x o h3 he).1 h2;omega
theorem zZ {f f' :aW}{d:a5 Tmp}{v:a3}{t:av}(h:kX f d v=some f')(hd:d≠some t):f'.get t=f.get t:=by
 unfold kX at h
 split at h
 ·split at h
  ·injection h with h;subst h
   rename_i u _
   have hu:u≠t:=fun e=>hd (by rw[e])
   simp only[aW.get,aW.put,Tr.ch _ _ _ _ _ hu]
  ·cases h
 ·injection h with h;subst h;rfl
theorem uS {f f' :aW}{v:a3}{t:av}(h:kX f (some t) v=some f')(_:f.n<=16000000):f'.get t=v:=by
 unfold kX at h
 simp only at h
 split at h
 ·rename_i ht
  have Nl:t<f.n:=by simpa [bq] using ht
  injection h with h;subst h
  simp only[aW.get,aW.put,Tr.bD _ _ _ _ (deep (show 0<16000001 by omega))]
 ·cases h
theorem Si {f g f' :aW}{d:a5 Tmp}{v:a3}(h:kX f d v=some f')(hn:g.n=f.n):∃g',kX g d v=some g' :=by
 unfold kX at*
 cases d with
 |none=>exact⟨g,rfl⟩
 |some t=>
  simp only at h|-
  rw[hn]
  split at h
  ·rename_i ht;rw[a8 ht];exact⟨_,rfl⟩
  ·cases h
theorem j7.Fn (h:j7 P call ops f0 s0 es F G):∀k,k<=ops.length->(F k).n=f0.n:=by
 intro k
 induction k with
 |zero=>intro _;rw[h.F0]
 |succ k ih=>
  intro hk
  obtain⟨e,_,_,h3,_⟩:=h.op k ops[k] (aR (by omega))
  rw[Vn h3];exact ih (by omega)
theorem j7.Fc (h:j7 P call ops f0 s0 es F G)(t a:av):∀b,a<=b->b<=ops.length->(∀x o,a<=x->x<b->ops[x]?=some o->o.dst≠some t)->(F b).get t=(F a).get t:=by
 intro b
 induction b with
 |zero=>intro Iu _ _;rw[eo.1 Iu]
 |succ b ih=>
  intro Iu hb hx
  by_cases adl:a=b+1
  ·rw[adl]
  obtain⟨e,h1,_,h3,_⟩:=h.op b ops[b] (aR (by omega))
  have cH:=hx b _ (by omega) (by omega) (aR (show b<ops.length by omega))
  rw[zZ h3 cH]
  exact ih (by omega) (by omega) (fun x o h1 h2 h3=>hx x o h1 (by omega) h3)
theorem oM (h:sB P ops=true){y:av}{o:bl}(ho:ops[y]?=some o){e:Edge}(he:e∈o.after.toList)(hb:Region.binds .any e=true):e.on<y:=by
 simp only[sB,c7,ao] at h
 have:=(h (o,y) (by rw[bn];simpa using ho)).1 e he
 simpa [hb,bq] using this
theorem Gw (h:sB P ops=true){x y:av}{ox oy:bl}(hx:ops[x]?=some ox)(hy:ops[y]?=some oy)(bd:x<y)(hd:mU P ops ox oy=true):ab (dg (cD ops []) y) x=true:=by
 simp only[sB,c7,ao] at h
 have:=(h (oy,y) (by rw[bn];simpa using hy)).2 (ox,x) (by rw[bn];simpa using hx)
 have hb:ca x y=true:=by rw[bq];exact bd
 simpa [hb,hd] using this
def iA (ops:a4 bl)(L:av->Prop):Prop:=∀y o,ops[y]?=some o->L y->∀e∈o.after.toList,Region.binds .any e=true->L e.on
theorem anc (h:sB P ops=true){L:av->Prop}(hc:iA ops L):∀y o,ops[y]?=some o->(∀e∈o.after.toList,Region.binds .any e=true->L e.on)->∀x,ab (dg (cD ops []) y) x=true->L x:=by
 intro y
 induction y using dY with
 |ind y ih=>
  intro o ho he x hx
  obtain⟨Vm,h1,h2⟩:=Cn ops [] y o ho
  simp only[List.length_nil,cp] at h1 h2
  rw[h2] at hx
  rcases Cm hx with h0|⟨e,e1,e2,e3⟩
  ·simp at h0
  ·have bd:=oM h ho e1 e2
   have hL:=he e e1 e2
   rcases e3 with rfl|e3
   ·exact hL
   ·rw[h1 _ bd] at e3
    have Iv:=(a7.1 ho).1
    have hoe:ops[e.on]?=some ops[e.on]:=aR (show e.on<ops.length by omega)
    exact ih e.on bd _ hoe (hc _ _ hoe hL) x e3
theorem Zw (h:sB P ops=true){y:av}{o:bl}(ho:ops[y]?=some o){x:av}(hx:ab (dg (cD ops []) y) x=true):x<y:=
 anc h (L:=fun x=>x<y) (fun _ _ hz hL _ he hb=>Nat.lt_trans (oM h hz he hb) hL) y o ho (fun _ he hb=>oM h ho he hb) x hx
theorem rel (h:sB P ops=true){L:av->Prop}(hc:iA ops L){i:av}{o:bl}(ho:ops[i]?=some o)(hn:¬L i)(he:∀e∈o.after.toList,Region.binds .any e=true->L e.on)
  {x:av} {ox:bl} (hx:ops[x]?=some ox) (h1:x<i->mU P ops ox o=true) (h2:i<x->mU P ops o ox=true):x<i↔L x:=by
 rcases dE x i with bd|e|bd
 ·exact⟨fun _=>anc h hc i o ho he x (Gw h hx ho bd (h1 bd)),fun _=>bd⟩
 ·subst e;exact⟨fun hl=>bo hl (Nat.lt_irrefl _),fun hl=>bo hl hn⟩
 ·refine⟨fun hl=>by omega,fun hl=> ?_⟩
  exact bo (anc h hc x ox hx (hc x ox hx hl) i (Gw h ho hx bd (h2 bd))) hn
def Inv (P:an)(base:av)(S0:St)(a0:Act)(ops:a4 bl)(es:a4 Ev)(F:av->aW)(G:av->aq)(L:av->Prop)(a:Act)(w:bC):Prop:=
 ∃(S:St) (g:aW) (p:av),S.w=w/\Good base S0 S/\FR S g a/\a.defers=a0.defers/\g.n=(F 0).n/\p<=ops.length/\(∀x o,ops[x]?=some o->bp P o=true->(x<p↔L x))/\A9 es (G p) L S.s/\
  (∀j i b,dA es j i b->¬L j->S.s.heap.get i=none)/\(∀i,i<=ops.length->∀t:av,(∀x o,ops[x]?=some o->o.dst=some t->(x<i↔L x))->g.get t=(F i).get t)
theorem yT {l:a4 av}{d:a5 Tmp}{t:av}(hd:d=some t)(ht:t∈l):RP l d=true:=by
 subst hd
 simp only[RP,List.any_eq_true]
 exact⟨t,ht,Nat.beq_refl t⟩
theorem Vs (h:j7 P call ops f0 s0 es F G)(yU:sB P ops=true)(hc:lu call){Pre:av->bC->Prop}(dH:yS P Pre call){base:av}{S0:St}{a0:Act}(hw0:WF s0)(aE:Cp Pre)(gq:Pre base S0.w){L L' :av->Prop}(jS:iA ops L){a:Act}{w:bC}(hinv:Inv P base S0 a0 ops es F G L a w)
  {i:av} {o:bl} (ho:ops[i]?=some o) (hn:¬L i) (he:∀e∈o.after.toList,Region.binds .any e=true->L e.on) (KF:∀j,L' j↔j=i\/L j) {K:Act->bC->Prop} {Q:Exit->Act->bC->Prop}
  (hK:∀a w,Inv P base S0 a0 ops es F G L' a w->K a w):wpOp P ops.toArray Q i K a w:=by
 obtain⟨S,g,p,rfl,hg,hf,had,hgn,hp,IF,sY,mP,pg⟩:=hinv
 obtain⟨ev,hev,hdo,nL,hG⟩:=h.op i o ho
 have Zx:i<ops.length:=(a7.1 ho).1
 have hgF:g.n=(F i).n:=by rw[hgn,h.F0,h.Fn i (by omega)]
 obtain⟨g',hg'⟩:=Si nL hgF
 have yO:=hf.small
 have hkp:=h.uz hc hw0 p hp
 have alw:(G 0).next=s0.next+aT P ops:=by rw[h.G0]
 have hmb:∀j k b,dA es j k b->k<(G p).next:=fun j k b hm=>by have:=(h.bound hm).2;have:=hkp.next;omega
 have sZ:∀t:av,t∈yG ops o->g.get t=(F i).get t:=fun t ht=>pg i (by omega) t (fun x ox hx hd=>rel yU jS ho hn he hx
  (fun _=>by simp only[mU,yT hd ht,dI,c9])
  (fun _=>by simp only[mU,yT hd ht,dI,c9]))
 have agR:∀t:av,Operand.tmp t∈o.op.operands.toList->(F i).get t=g.get t:=fun t ht=>(sZ t (by
  simp only[yG,dU,List.mem_filterMap]
  exact .inl ⟨_,ht,rfl⟩)).symm
 have agS:cT ops o g=cT ops o (F i):=Fs hgF sZ
 have IH:∀s,cS P o (F i) s=cS P o g s:=fun s=>Sg hgF.symm agR s
 have vB:∀i',i' <=ops.length->∀t:av,(∀x ox,ops[x]?=some ox->ox.dst=some t->(x<i' ↔L' x))->g'.get t=(F i').get t:=by
  intro i' wB t ht
  by_cases hd:o.dst=some t
  ·have hii:i<i' :=(ht i o ho hd).2 ((KF i).2 (.inl rfl))
   have e1:g'.get t=ev.val:=by rw[hd] at hg';exact uS hg' yO
   have e2:(F (i+1)).get t=ev.val:=by rw[hd] at nL;exact uS nL (by rw[<-hgF];exact yO)
   rw[e1,<-e2]
   refine(h.Fc t (i+1) i' (by omega) wB (fun x ox h1 h2 h3 h4=> ?_)).symm
   have hLx:L x:=by
    rcases(KF x).1 ((ht x ox h3 h4).1 h2) with e|hl
    ·omega
    ·exact hl
   have:=(rel yU jS ho hn he h3 (fun _=>by omega) (fun _=>by
    have:RP o.dst.toList ox.dst=true:=yT h4 (by rw[hd];simp)
    simp only[mU,this,dI])).2 hLx
   omega
  ·rw[zZ hg' hd]
   refine pg i' wB t (fun x ox hx hdx=> ?_)
   rw[ht x ox hx hdx,KF x]
   have:x≠i:=fun e=>by subst e;rw[ho] at hx;injection hx with hx;subst hx;exact hd hdx
   simp[this]
 have alx:g'.n=(F 0).n:=by rw[Vn hg',hgn]
 have fin:∀(T:St) (v' :a3) (p' :av),Good base S T->VR T ev.val v' ->p' <=ops.length->(∀x ox,ops[x]?=some ox->bp P ox=true->(x<p' ↔L' x))->A9 es (G p') L' T.s->
   (∀j k b,dA es j k b->¬L' j->T.s.heap.get k=none)->K (a.put o.dst v') T.w:=by
  intro T v' p' Sj hv Vo agT agU II
  exact hK _ _ ⟨T,g',p',rfl,hg.trans Sj,(hf.mono Sj.ext).put hv hg',(put_defers _ _ _).trans had,alx,Vo,agT,agU,II,vB⟩
 have NX:bp P o=false->∀x ox,ops[x]?=some ox->bp P ox=true->(x<p↔L' x):=fun cH x ox hx hex=>by
  rw[IF x ox hx hex,KF x]
  have:x≠i:=fun e=>by subst e;rw[ho] at hx;injection hx with hx;subst hx;rw[cH] at hex;cases hex
  simp[this]
 have abR:bp P o=true->∀x ox,ops[x]?=some ox->bp P ox=true->(x<i↔L x):=fun cH x ox hx hex=>rel yU jS ho hn he hx
  (fun _=>by simp only[mU,hex,cH,ee,c9]) (fun _=>by simp only[mU,hex,cH,ee,c9])
 have abS:bp P o=true->∀x ox,ops[x]?=some ox->bp P ox=true->(x<i+1↔L' x):=fun cH x ox hx hex=>by
  rw[KF x,<-abR cH x ox hx hex]
  omega
 have agV:bp P o=true->G p=G i:=fun cH=>h.Geq hp (by omega) (fun x ox hx hex=>by rw[IF x ox hx hex,abR cH x ox hx hex])
 have hnm:(∀v k b,ev≠ .made v k b)->∀j k b,dA es j k b->(L' j↔L j):=fun cH j k b hm=>by
  rw[KF j]
  have:j≠i:=fun e=>by
   subst e
   obtain⟨v,hm⟩:=hm
   rw[hev] at hm;injection hm with hm
   exact cH _ _ _ hm
  simp[this]
 unfold wpOp
 have hoa:ops.toArray[i]?=some o:=by rw[bz];exact ho
 simp only[hoa]
 rw[<-Gv hf,agS]
 rcases qQ hdo with ⟨yA,rfl⟩|⟨yA,Qk⟩
 ·rw[cd (by rw[yA];simp)]
  have Sk:=hnm (fun _ _ _=>by simp)
  have II:∀j k b,dA es j k b->¬L' j->S.s.heap.get k=none:=fun j k b hm hl=>mP j k b hm (fun Zd=>hl ((KF j).2 (.inr Zd)))
  cases Nn:bp P o with
  |false=>exact fin S undef p (Good.refl hg.sr) (VR.sC S) hp (NX Nn) (sY.congr Sk) II
  |true=>
   refine fin S undef (i+1) (Good.refl hg.sr) (VR.sC S) (by omega) (abS Nn) ?_ II
   have:G (i+1)=G p:=by rw[hG,agV Nn];rfl
   rw[this]
   exact sY.congr Sk
 ·rw[a8 yA]
  refine .inl ?_
  rcases Qk with ⟨hq,v,rfl⟩|⟨hq,ha,v,s1,b,rfl,fY,hb⟩|⟨Nn,v,s1,rfl,Qk⟩
  ·
   have Sk:=hnm (fun _ _ _=>by simp)
   obtain⟨t,fY⟩:=h.same i o v p ho hev hp (fun x ox hx hex hb=>(IF x ox hx hex).2 (anc yU jS i o ho he x hb)) (fun x ox hx hex hxp=>by
    cases hb:ab (dg (cD ops []) x) i with
    |false=>rfl
    |true=>exact bo (anc yU jS x ox hx (jS x ox hx ((IF x ox hx hex).1 hxp)) i hb) hn)
   have IJ:∀x∈madeOf es 0,s0.next<=x.2.1/\x.2.1<(G p).next:=fun x hx=>by
    obtain⟨j,_,hm⟩:=jT hx
    exact⟨(h.bound hm).1,hmb _ _ _ hm⟩
   have kf:=fI.fill hkp.wf IJ (ab (dg (cD ops []) i))
   have pd:A9 es (G p) (fun j=>ab (dg (cD ops []) i) j=true) (fill (ab (dg (cD ops []) i)) (G p) (madeOf es 0)):=Cq (fun x hx=>by have:=(IJ x hx).2;have:=hkp.wf.room;omega)
    (fun j k b hm _=>by have:=qP (n:=0) hm;simpa using this) (fun x hx=>by obtain⟨j,hj,hm⟩:=jT hx;rw[show x.1=j by omega];exact hm) h.uniq
   have Vt:=pd.agP hmb sY (fun j hj=>anc yU jS i o ho he j hj)
   obtain⟨t',k1,_,_⟩:=kE Vt kf.wf fY
   rw[IH] at k1
   obtain⟨v2,e,v',hv,gp⟩:=Gm hg.sr hf hq _ k1
   injection e with e1 e2
   subst e1
   unfold Oper.wp
   rw[gp]
   have Nn:bp P o=false:=by simp[bp,hq]
   exact fin S v' p (Good.refl hg.sr) hv hp (NX Nn) (sY.congr Sk) (fun j k b hm hl=>mP j k b hm (fun Zd=>hl ((KF j).2 (.inr Zd))))
  ·
   have hm:dA es i (s0.next+aT P (ops.take i)) b:=⟨v,hev⟩
   have agX:=mP _ _ _ hm hn
   have bd:s0.next+aT P (ops.take i)<S.s.next:=by rw[sY.next];exact hmb _ _ _ hm
   have dd:=hg.sr.room
   rw[IH] at fY
   obtain⟨T,v',hT,hv,Sj,gp⟩:=Vk hg.sr hf ha ⟨agX,bd,a6 _,dd,.inl bd⟩ fY hb
   unfold Oper.wp
   rw[gp]
   have Nn:bp P o=false:=by simp[bp,hq,ha]
   refine fin T v' p Sj hv hp (NX Nn) ?_ ?_
   ·rw[hT]
    exact sY.put hm agX (by omega) h.uniq KF
   ·intro j k b' YQ hl
    rw[hT]
    have gR:j≠i:=fun e=>hl ((KF j).2 (.inl e))
    have hk:s0.next+aT P (ops.take i)≠k:=fun e=>by
     subst e
     exact gR (h.uniq _ _ _ _ _ YQ hm).1
    rw[aq.bP _ _ _ _ hk]
    exact mP j k b' YQ (fun Zd=>hl ((KF j).2 (.inr Zd)))
  ·
   have Sk:=hnm (fun _ _ _=>by simp)
   have hGp:=agV Nn
   have IJ:∀x∈madeOf (es.take i) 0,dA es x.1 x.2.1 x.2.2:=fun x hx=>by
    obtain⟨j,hj,v,hm⟩:=jT hx
    rw[show x.1=j by omega]
    refine⟨v,?_⟩
    rw[cb] at hm
    split at hm
    ·exact hm
    ·cases hm
   have kf:=fI.fill hkp.wf (fun x hx=>⟨(h.bound (IJ x hx)).1,hmb _ _ _ (IJ x hx)⟩) (ab (dg (cD ops []) i))
   have pd:A9 es (G p) (fun j=>ab (dg (cD ops []) i) j=true) (fill (ab (dg (cD ops []) i)) (G p) (madeOf (es.take i) 0)):=Cq (fun x hx=>by have:=hmb _ _ _ (IJ x hx);have:=hkp.wf.room;omega)
    (fun j k b hm hj=>by
     have bd:=Zw yU ho hj
     have:dA (es.take i) j k b:=by
      obtain⟨v,hm⟩:=hm
      exact⟨v,by rw[cb,a8 bd];exact hm⟩
     have:=qP (n:=0) this;simpa using this) IJ h.uniq
   have Vt:=pd.agP hmb sY (fun j hj=>anc yU jS i o ho he j hj)
   have hwS:=hg.sr.wf
   rw[<-hGp] at Qk
   have hG1:G (i+1)=s1:=by rw[hG];rfl
   have last:∀(T:St) (v' :a3) (t' :aq),il t' T.s->cI s1 t' (diff (fill (ab (dg (cD ops []) i)) (G p) (madeOf (es.take i) 0)) S.s)->bW (fill (ab (dg (cD ops []) i)) (G p) (madeOf (es.take i) 0)) s1->bW S.s t' ->VR T v v' ->Good base S T->K (a.put o.dst v') T.w:=by
    intro T v' t' Sl k2 k3 k4 hv Sj
    refine fin T v' (i+1) Sj hv (by omega) (abS Nn) ?_ ?_
    ·rw[hG1]
     exact((pd.step sY k2 k3).same Sl).congr Sk
    ·intro j k b hm hl
     rw[Sl.get k]
     exact k4.gone k (by rw[sY.next];exact hmb _ _ _ hm) (mP j k b hm (fun Zd=>hl ((KF j).2 (.inr Zd))))
   rcases Qk with fY|⟨gf,args,fY,aly⟩
   ·obtain⟨t',k1,k2,k3⟩:=kE Vt kf.wf fY
    obtain⟨_,_,_,k4⟩:=kE (il.refl _) hwS k1
    rw[IH] at k1
    obtain⟨T,v',Sl,hv,Sj,gp⟩:=ID hg.sr hf _ k1
    unfold Oper.wp
    rcases gp with gp|⟨gp,rfl⟩
    ·rw[gp]
     exact last T v' t' (by rw[Sl];exact il.refl _) k2 k3 k4 hv Sj
    ·rw[gp]
     exact last T undef t' (by rw[Sl];exact il.refl _) k2 k3 k4 hv Sj
   ·have k1:=kE Vt kf.wf fY
    simp only[NV] at k1
    rw[IH] at k1
    obtain⟨t',c1,c2,c3⟩:=hc _ _ _ _ _ _ _ Vt kf.wf aly
    obtain⟨_,_,_,c4⟩:=hc _ _ _ _ _ _ _ (il.refl _) hwS c1
    obtain⟨args',Np,hex⟩:=ID hg.sr hf _ k1
    unfold Oper.wp
    rw[hex]
    rcases dH gf base S S.s args v t' (il.refl _) hg.sr (aE base _ _ hg.below gq) c1 args' Np with ⟨gp,Cr⟩|⟨T,v',gp,Sl,hv,Sj⟩
    ·rw[gp]
     refine Calls.mono Cr ?_
     rintro e w' ⟨T,v',Sl,rfl,rfl,hv,Sj⟩
     exact last T v' t' Sl c2 c3 c4 hv Sj
    ·rw[gp]
     exact last T v' t' Sl c2 c3 c4 hv Sj
end
def Uz (listed:cB c6):av->av
 |0=>0
 |n+1=>Uz listed n+(if listed.getD n true=true then 0 else 1)
theorem KG {listed:cB c6}:∀{n:av},Uz listed n=0->∀j,j<n->listed.getD j true=true
 |0,_,j,hj=>by omega
 |n+1,h,j,hj=>by
  simp only[Uz] at h
  by_cases hjn:j=n
  ·subst hjn
   by_cases hl:listed.getD j true=true
   ·exact hl
   ·rw[cd hl] at h;omega
  ·exact KG (n:=n) (by omega) j (by omega)
theorem Cs {listed:cB c6}{i:av}:∀{n:av},n<=i->Uz (listed.setIfInBounds i true) n=Uz listed n
 |0,_=>rfl
 |n+1,h=>by
  simp only[Uz,Cs (n:=n) (by omega:n<=i),getD_set_ne true (show i≠n by omega)]
theorem Ql {listed:cB c6}{i:av}(hi:i<listed.size)(hf:listed.getD i true=false):∀{n:av},i<n->Uz (listed.setIfInBounds i true) n+1=Uz listed n
 |0,h=>by omega
 |n+1,h=>by
  simp only[Uz]
  by_cases Kl:i=n
  ·subst Kl
   rw[Cs (a6 _),hf]
   have:(listed.setIfInBounds i true).getD i true=true:=by simp[hi]
   rw[this];simp
  ·have:=Ql hi hf (n:=n) (by omega)
   rw[getD_set_ne true Kl]
   omega
theorem A9.unique {es:a4 Ev}{T s s' :aq}{q:av->Prop}(h:A9 es T q s)(h' :A9 es T q s'):il s s' :=by
 refine⟨by rw[h.next,h'.next],(fun _ _ h=>by cases h),fun i=> ?_⟩
 show s'.heap.get i=s.heap.get i
 cases hT:T.heap.get i with
 |some o=>rw[h.old i o hT,h'.old i o hT]
 |none=>
  by_cases hx:∃j b,dA es j i b/\q j
  ·obtain⟨j,b,hm,hq⟩:=hx
   rw[h.new i j b hT hm hq,h'.new i j b hT hm hq]
  ·rw[h.gone i hT (fun j b hm hq=>hx ⟨j,b,hm,hq⟩),h'.gone i hT (fun j b hm hq=>hx ⟨j,b,hm,hq⟩)]
def NY (listed:cB c6)(j:av):Prop:=listed.getD j false=true
section
variable {P:an} {call:Call} {ops:a4 bl} {f0:aW} {s0:aq} {es:a4 Ev} {F:av->aW} {G:av->aq}
theorem Zy (h:j7 P call ops f0 s0 es F G)(hc:lu call)(hw0:WF s0){base:av}{S0:St}{a0:Act}{L:av->Prop}{a:Act}{w:bC}(hinv:Inv P base S0 a0 ops es F G L a w)(eC:∀j,j<ops.length->L j):
  ∃S,S.w=w/\Good base S0 S/\FR S (F ops.length) a/\a.defers=a0.defers/\il (fill (fun _=>true) (G ops.length) (madeOf es 0)) S.s:=by
 obtain⟨S,g,p,rfl,hg,hf,had,hgn,hp,IF,sY,mP,pg⟩:=hinv
 have bd:∀x (ox:bl),ops[x]?=some ox->x<ops.length:=fun x ox hx=>(a7.1 hx).1
 have hG:G p=G ops.length:=h.Geq hp (a6 _) (fun x ox hx hex=>by rw[IF x ox hx hex];exact⟨fun _=>bd x ox hx,fun hl=>eC x hl⟩)
 have hk:=h.uz hc hw0 ops.length (a6 _)
 have alw:(G 0).next=s0.next+aT P ops:=by rw[h.G0]
 have IJ:∀x∈madeOf es 0,0<16000001:=fun x hx=>by
  obtain⟨j,_,hm⟩:=jT hx
  have:=(h.bound hm).2
  have:=hk.next
  have:=hk.wf.room
  omega
 have pd:A9 es (G ops.length) (fun _=>true=true) (fill (fun _=>true) (G ops.length) (madeOf es 0)):=Cq IJ (fun j k b hm _=>by have:=qP (n:=0) hm;simpa using this)
  (fun x hx=>by obtain⟨j,hj,hm⟩:=jT hx;rw[show x.1=j by omega];exact hm) h.uniq
 rw[hG] at sY
 have gx:=sY.congr (q' :=fun _=>true=true) (fun j k b hm=>⟨fun _=>by obtain⟨o,k1,_⟩:=h.made hm;exact eC j (bd j o k1),fun _=>rfl⟩)
 refine⟨S,rfl,hg,?_,had,pd.unique gx⟩
 have hn:g.n=(F ops.length).n:=by rw[hgn,h.F0,h.Fn _ (a6 _)]
 refine⟨by rw[<-hn];exact hf.n,by rw[<-hn];exact hf.small,fun t ht=> ?_⟩
 rw[<-pg ops.length (a6 _) t (fun x ox hx _=>⟨fun hl=>eC x hl,fun _=>bd x ox hx⟩)]
 exact hf.get t (by rw[hn];exact ht)
theorem ado (h:j7 P call ops f0 s0 es F G)(yU:sB P ops=true)(hc:lu call){Pre:av->bC->Prop}(dH:yS P Pre call)(hw0:WF s0)(aE:Cp Pre){base:av}{S0:St}(gq:Pre base S0.w){a0:Act}{Q:Exit->Act->bC->Prop}
  (hQ:∀T a',il (fill (fun _=>true) (G ops.length) (madeOf es 0)) T.s->Good base S0 T->FR T (F ops.length) a' ->a'.defers=a0.defers->Q .normal a' T.w):
  ∀(fuel:av) (listed:cB c6) (a:Act) (w:bC),listed.size=ops.length->Uz listed ops.length<=fuel->iA ops (NY listed)->Inv P base S0 a0 ops es F G (NY listed) a w->wpAny P .any ops.toArray Q fuel listed a w:=by
 have ending:∀(listed:cB c6) (a:Act) (w:bC),Inv P base S0 a0 ops es F G (NY listed) a w->(∀j,j<ops.length->NY listed j)->Q .normal a w:=by
  intro listed a w hinv eC
  obtain⟨S,rfl,h1,h2,h3,h4⟩:=Zy h hc hw0 hinv eC
  exact hQ S a h4 h1 h2 h3
 have Nk:∀(listed:cB c6) j,listed.size=ops.length->j<ops.length->(listed.getD j true=true↔NY listed j):=by
  intro listed j cf hj
  have:j<listed.size:=by omega
  simp[NY,this]
 have Zz:∀(listed:cB c6),listed.size=ops.length->Region.ready .any ops.toArray listed=[]->∀j,j<ops.length->NY listed j:=by
  intro listed cf sk j
  induction j using dY with
  |ind j ih=>
   intro hj
   by_cases hl:listed.getD j true=true
   ·exact(Nk listed j cf hj).1 hl
   ·exfalso
    have hoj:ops[j]?=some ops[j]:=aR hj
    have:j∈Region.ready .any ops.toArray listed:=mem_ready.2 ⟨by simpa using hl,ops[j],by rw[bz];exact hoj,fun e he hb=>by
     have bd:=oM yU hoj (by simpa using he) hb
     exact ih e.on bd (by omega)⟩
    rw[sk] at this;cases this
 intro fuel
 induction fuel with
 |zero=>
  intro listed a w cf alz jS hinv
  have eC:∀j,j<ops.length->NY listed j:=fun j hj=>(Nk listed j cf hj).1 (KG (by omega) j hj)
  refine⟨?_,ending listed a w hinv eC⟩
  cases hr:Region.ready .any ops.toArray listed with
  |nil=>rfl
  |cons j r=>
   have hj:j∈Region.ready .any ops.toArray listed:=by rw[hr];exact a9 ..
   obtain⟨h1,o,h2,_⟩:=mem_ready.1 hj
   have bd:j<ops.length:=by rw[bz] at h2;exact(a7.1 h2).1
   have:=(Nk listed j cf bd).2 (eC j bd)
   rw[h1] at this;cases this
 |succ fuel ih=>
  intro listed a w cf alz jS hinv
  refine⟨fun sk=>ending listed a w hinv (Zz listed cf sk),fun i hi=> ?_⟩
  obtain⟨h1,o,h2,h3⟩:=mem_ready.1 hi
  have ho:ops[i]?=some o:=by rw[bz] at h2;exact h2
  have bd:i<ops.length:=(a7.1 ho).1
  have hn:¬NY listed i:=fun hl=>by have:=(Nk listed i cf bd).2 hl;rw[h1] at this;cases this
  have KF:∀j,NY (listed.setIfInBounds i true) j↔j=i\/NY listed j:=by
   intro j
   by_cases ua:i=j
   ·subst ua
    have:i<listed.size:=by omega
    simp[NY,this]
   ·unfold NY
    rw[getD_set_ne false ua]
    constructor
    ·exact fun h=> .inr h
    ·rintro (e|h)
     ·exact bo e.symm ua
     ·exact h
  refine Vs h yU hc dH hw0 aE gq jS hinv ho hn (fun e he hb=>h3 e (by simpa using he) hb) KF (fun a' w' agZ=> ?_)
  refine ih _ a' w' (by simpa using cf) ?_ ?_ agZ
  ·have:=Ql (listed:=listed) (i:=i) (by omega) h1 (n:=ops.length) bd
   omega
  ·intro y oy hy hly e he hb
   rcases(KF y).1 hly with rfl|hl
   ·rw[ho] at hy;injection hy with hy;subst hy
    exact(KF _).2 (.inr (h3 e (by simpa using he) hb))
   ·exact(KF _).2 (.inr (jS y oy hy hl e he hb))
end
theorem Good.adp {base:av}{S:St}(h:SR base S)(n:av)(hn:0<=16000000):Good base S ⟨⟨S.s.heap,S.s.next+n⟩,S.e,S.w.drew⟩:=by
 have mz:Ext S ⟨⟨S.s.heap,S.s.next+n⟩,S.e,S.w.drew⟩:=⟨fun _ b hb=>⟨b,hb,a6 _,a6 _,rfl,fun _ _ _=>rfl⟩,fun _ es he=>⟨⟨es,he⟩,rfl⟩,fun _ arr _ fr hk=>⟨arr,fr,hk,rfl⟩⟩
 refine⟨⟨hn,fun i o hi=>by have:=h.bound i o hi;show i<S.s.next+n;omega,h.low,fun i b hb c hc p hp=> ?_,h.own,fun r es he=> ?_,h.Io,h.size,h.Ip⟩,mz,(Below.refl _ _).drew⟩
 ·obtain⟨v,h1,h2⟩:=h.cell i b hb c hc p hp
  exact⟨v,h1,h2.mono mz⟩
 ·obtain⟨h1,fP,sf,h2,h3⟩:=h.map r es he
  exact⟨h1,fP,sf,h2,h3.mono mz⟩
theorem NZ {P:an}{call:Call}(hc:lu call){Pre:av->bC->Prop}(dH:yS P Pre call)(aE:Cp Pre)(hm:P.follows .mixedOrders=true){id:av}{ops:cB bl}(yU:sB P ops.toList=true){base:av}{f f' :aW}{s s' :aq}{S:St}{a:Act}
  {Q:Exit->Act->bC->Prop} (hs:il s S.s) (sr:SR base S) (gq:Pre base S.w) (hf:FR S f a) (hr:fH P call ops.toList f s=some (f',s')) (hq:∀T a',il s' T.s->Good base S T->FR T f' a' ->a'.defers=a.defers->Q .normal a' T.w):
  (Code.region id ops true).wp P Q a S.w:=by
 have hwS:=sr.wf
 obtain⟨t',NQ,dO,_⟩:=Ck hc hs (hs.wf hwS) hr
 obtain⟨es,F,G,tr,rfl,rfl⟩:=Fu NQ
 have e:ops=ops.toList.toArray:=by simp
 rw[e]
 refine wp_region_any hm ?_
 have hg:=Good.adp sr (aT P ops.toList) tr.room
 have hL:∀j,¬NY (b7 ops.toList.toArray.size false) j:=by
  intro j hj
  simp only[NY,Array.getD_eq_getD_getElem?,c5] at hj
  split at hj<;>simp at hj
 refine ado tr yU hc dH hwS aE (base:=base) (S0:=S) (a0:=a) gq (fun T a' h1 h2 h3 h4=>hq T a' ?_ h2 h3 h4) _ _ a _ (by simp) ?_ (fun y o _ hl=>bo hl (hL y)) ?_
 ·exact⟨by rw[h1.next,dO.next],(fun _ _ h=>by cases h),fun i=>by show T.s.heap.get i=s'.heap.get i;rw[h1.get i,dO.get i]⟩
 ·have:∀n m,Uz (b7 m false) n<=n:=by
   intro n m
   induction n with
   |zero=>exact a6 _
   |succ n ih=>simp only[Uz];split<;>omega
  have:=this ops.toList.length ops.toList.toArray.size
  simpa using this
 ·refine⟨_,f,0,rfl,hg,hf.mono hg.ext,rfl,by rw[tr.F0],cA _,fun x o _ _=>⟨fun h=>by omega,fun h=>bo h (hL x)⟩,?_,?_,?_⟩
  ·rw[tr.G0]
   exact⟨rfl,fun i o h=>h,fun i j b _ _ h=>bo h (hL j),fun i h _=>h⟩
  ·intro j i b hm _
   have hb:=(tr.bound hm).1
   show S.s.heap.get i=none
   cases hgi:S.s.heap.get i with
   |none=>rfl
   |some o=>have:=hwS.bound i o hgi;omega
  ·intro i hi t ht
   rw[tr.Fc t 0 i (cA _) hi (fun x o _ hx h1 h2=>bo ((ht x o h1 h2).1 hx) (hL x)),tr.F0]
theorem Sm {P:an}{call:Call}{Pre:av->bC->Prop}(Gx:yS P Pre call)(aE:Cp Pre)(all:a4 bl)(base:av):∀(l:a4 bl) (f:aW) (s:aq) (S:St) (f' :aW) (s' :aq) (a:Act) (Q:Exit->Act->bC->Prop),
  gh P call all l f s=some (f',s')->il s S.s->SR base S->Pre base S.w->FR S f a->(∀T a',il s' T.s->Good base S T->FR T f' a' ->a'.defers=a.defers->Q .normal a' T.w)->wpList P all.toArray Q l a S.w:=by
 intro l
 induction l with
 |nil=>
  intro f s S f' s' a Q hr mw hs gq hf hq
  simp only[gh] at hr
  injection hr with hr;injection hr with e1 e2;subst e1;subst e2
  exact hq S a mw (Good.refl hs) hf rfl
 |cons o l ih=>
  intro f s S f' s' a Q hr mw hs gq hf hq
  simp only[gh] at hr
  unfold wpList
  rw[<-Gv hf]
  split at hr
  ·rename_i hw
   rw[a8 hw]
   refine .inl ?_
   unfold Oper.wp
   split at hr
   ·rename_i v s1 fY
    split at hr
    ·rename_i f1 hp
     obtain⟨t1,k1,k2,_⟩:=kE mw (mw.wf hs.wf) fY
     obtain⟨T,v',rfl,hv,hg,gp⟩:=ID hs hf _ k1
     have BX:=(hf.mono hg.ext).put hv hp
     have next:=ih f1 s1 T f' s' (a.put o.dst v') Q hr k2 hg.sr (aE _ _ _ hg.below gq) BX (fun U a' e g Ba hd=>hq U a' e (hg.trans g) Ba (hd.trans (put_defers _ _ _)))
     rcases gp with gp|⟨gp,rfl⟩
     ·rw[gp];exact next
     ·rw[gp];exact next
    ·cases hr
   ·rename_i g args fY
    split at hr
    ·rename_i v s1 hc
     split at hr
     ·rename_i f1 hp
      have k1:=kE mw (mw.wf hs.wf) fY
      simp only[NV] at k1
      obtain⟨args',Np,he⟩:=ID hs hf _ k1
      rw[he]
      have fin:∀(T:St) (v' :a3),il s1 T.s->VR T v v' ->Good base S T->wpList P all.toArray Q l (a.put o.dst v') T.w:=by
       intro T v' hT hv hg
       have BX:=(hf.mono hg.ext).put hv hp
       exact ih f1 s1 T f' s' (a.put o.dst v') Q hr hT hg.sr (aE _ _ _ hg.below gq) BX (fun U a' e g Ba hd=>hq U a' e (hg.trans g) Ba (hd.trans (put_defers _ _ _)))
      rcases Gx g base S s args v s1 mw hs gq hc args' Np with ⟨gp,Cr⟩|⟨T,v',gp,hT,hv,hg⟩
      ·rw[gp]
       refine Calls.mono Cr ?_
       rintro e w' ⟨T,v',hT,rfl,rfl,hv,hg⟩
       exact fin T v' hT hv hg
      ·rw[gp]
       exact fin T v' hT hv hg
     ·cases hr
    ·cases hr
   ·cases hr
  ·rename_i hw
   rw[cd hw]
   split at hr
   ·rename_i f1 hp
    exact ih f1 s S f' s' (a.put o.dst undef) Q hr mw hs gq (hf.put (VR.sC S) hp) (fun U a' e g Ba hd=>hq U a' e g Ba (hd.trans (put_defers _ _ _)))
   ·cases hr
theorem Sn {P:an}{call:Call}(hc:lu call){Pre:av->bC->Prop}(Gx:yS P Pre call)(aE:Cp Pre)(hm:P.follows .mixedOrders=true){id:av}{ops:cB bl}{d:c6}{base:av}{f:aW}{s:aq}{S:St}{f' :aW}{s' :aq}{a:Act}
  {Q:Exit->Act->bC->Prop} (hr:(match d with
   |false=>gh P call ops.toList ops.toList f s
   |true=>fH P call ops.toList f s)=some (f',s')) (dH:codeOk P (.region id ops d)=true) (mw:il s S.s) (hs:SR base S) (gq:Pre base S.w) (hf:FR S f a) (hq:∀T a',il s' T.s->Good base S T->FR T f' a' ->a'.defers=a.defers->Q .normal a' T.w):
  (Code.region id ops d).wp P Q a S.w:=by
 cases d with
 |false=>
  refine wp_region_list ?_
  have:=Sm Gx aE ops.toList base ops.toList f s S f' s' a Q hr mw hs gq hf hq
  simpa using this
 |true=>exact NZ hc Gx aE hm dH mw hs gq hf hr hq
def IK:AX->Exit
 | .normal=> .normal
 | .exit id=> .exit id
 | .ret=> .ret
def N0 (P:an)(Pre:av->bC->Prop)(ex:ek->aW->aq->Out):Prop:=
 ∀(c:ek) (base:av) (f:aW) (s:aq) (S:St) (x:AX) (f' :aW) (s' :aq) (a:Act) (Q:Exit->Act->bC->Prop),codeOk P c=true->ex c f s=some (x,f',s')->il s S.s->SR base S->Pre base S.w->FR S f a->
  (∀T a',il s' T.s->Good base S T->FR T f' a' ->a'.defers=a.defers->Q (IK x) a' T.w)->c.wp P Q a S.w
def Vu (P:an)(Pre:av->bC->Prop)(ex:ek->aW->aq->Out)(n:av):Prop:=
 ∀(c:ek) (base:av) (f:aW) (s:aq) (S:St) (x:AX) (f' :aW) (s' :aq) (a:Act) (Q:Exit->Act->bC->Prop),codeOk P c=true->ex (.loop c) f s=some (x,f',s')->il s S.s->SR base S->Pre base S.w->FR S f a->
  (∀T a',il s' T.s->Good base S T->FR T f' a' ->a'.defers=a.defers->Q (IK x) a' T.w)->Code.rounds P c Q n a S.w
theorem Ct:∀(vs:a4 a3) (t:Tr a3) (i j:av),0<=16000000->(BO t i vs).get j=if i<=j/\j<i+vs.length then some (vs.getD (j-i) undef) else t.get j:=by
 intro vs
 induction vs with
 |nil=>intro t i j _;rw[BO,cd (by simp)]
 |cons v r ih=>
  intro t i j h
  rw[BO,ih _ _ _ (by omega)]
  by_cases hj:i+1<=j/\j<i+1+r.length
  ·rw[a8 hj,a8 (by simp;omega),show j-i=(j-(i+1))+1 by omega,List.getD_cons_succ]
  ·rw[cd hj]
   by_cases ua:i=j
   ·subst ua
    rw[Tr.bD _ _ _ _ (deep (by omega)),a8 (by simp),Nat.sub_self,List.getD_cons_zero]
   ·rw[Tr.ch _ _ _ _ _ ua,cd (by simp;omega)]
theorem FR.enter {S:St}{fn:Func}{args:a4 a3}{args' :cB a3}(hv:eR S args args'.toList)(nM:args.length+(fn.ntmps-args.length)<=16000000):
  FR S (nH fn args) {tmps:=args' ++b7 (fn.ntmps-args'.size) undef,defers:=[]}:=by
 have hl:args.length=args'.size:=by have:=hv.1;simpa using this
 refine⟨by simp[nH,hl],nM,fun t ht=> ?_⟩
 have ky:(nH fn args).get t=if t<args.length then args.getD t undef else undef:=by
  simp only[nH,aW.get,Ct args .nil 0 t (by omega),cA,true_and,cp,Nat.sub_zero]
  by_cases h:t<args.length
  ·simp only[a8 h]
  ·simp only[cd h,Tr.get]
 rw[ky]
 by_cases h:t<args.length
 ·rw[a8 h]
  have e:(args' ++b7 (fn.ntmps-args'.size) undef).getD t undef=args'.toList.getD t undef:=by
   have h2:t<args'.size:=by omega
   simp[ds,h2]
  rw[e]
  exact hv.2 t h
 ·rw[cd h]
  have e:(args' ++b7 (fn.ntmps-args'.size) undef).getD t undef=undef:=by
   have h2:¬t<args'.size:=by omega
   simp[ds,h2,c5]
   by_cases h3:t-args'.size<fn.ntmps-args'.size
   ·rw[a8 h3];rfl
   ·rw[cd h3];rfl
  rw[e]
  exact VR.sC S
theorem KH {P:an}{base:av}{S:St}(hs:SR base S){f:aW}{a:Act}(hf:FR S f a):∀{rs:a4 ResultVar} {l:a4 a3},cL P f S.s rs=some l->
  ∃l',(rs.mapM fun(r:ResultVar)=>(match r with| .tmp t=>pure (a.tmps.getD t undef)| .cell x t=>do loadVar t (<-asAddr (a.tmps.getD x undef)):Sem a3)).run P S.w= .ok l' S.w/\eR S l l' :=by
 intro rs
 induction rs with
 |nil=>intro l h;simp only[cL] at h;obtain rfl:=af h;exact⟨[],by simp,eR.nil⟩
 |cons r rs ih=>
  intro l h
  cases r with
  |tmp t=>
   simp only[cL] at h
   split at h
   ·rename_i ht
    split at h
    ·rename_i m hm
     obtain rfl:=af h
     obtain⟨l',h1,h2⟩:=ih hm
     refine⟨a.tmps.getD t undef::l',?_,eR.cons (hf.get t (by simpa [bq] using ht)) h2⟩
     rw[ec]
     simp only[Sem.run_bind,Sem.run_pure,cR,h1]
    ·cases h
   ·cases h
  |cell x t=>
   simp only[cL] at h
   split at h
   ·rename_i hx
    split at h
    ·rename_i v m hv hm
     obtain rfl:=af h
     obtain⟨l',h1,h2⟩:=ih hm
     have hp:=hf.get x (by simpa [bq] using hx)
     obtain⟨v',h3,h4⟩:=Km hs hp hv
     unfold aJ at hv
     split at hv
     ·rename_i i off c hpe
      rw[hpe] at hp
      obtain⟨a1,e1,_⟩:=hp.qL
      rw[e1] at h3
      simp only[Instr.loadAt,Instr.sureAddr,pure_bind] at h3
      refine⟨v' ::l',?_,eR.cons h4 h2⟩
      rw[ec]
      have ea:asAddr (a.tmps.getD x undef)=pure a1:=by rw[e1];rfl
      simp only[ea,Sem.run_bind,Sem.run_pure,cR,h3,h1]
     ·cases hv
    ·cases h
   ·cases h
def pV (P:an)(Pre:av->bC->Prop)(lib:aA):Prop:=∀g p,lib.at g=some p->IG P Pre g p
theorem pV.nil (P:an)(Pre:av->bC->Prop):pV P Pre []:=fun _ _ h=>by cases h
theorem z3 {P:an}{Pre:av->bC->Prop}{lib:aA}{ex:ek->aW->aq->Out}(Vv:∀g fn,P.funcs[g]?=some fn->RQ P lib g fn=true)(hex:N0 P Pre ex){g:eg}(kF:lib.at g=none)
  (base:av) (S:St) (s:aq) (args:a4 a3) (v:a3) (s' :aq) (mw:il s S.s) (hs:SR base S) (gq:Pre base S.w) (hc:eF P lib ex g args s=some (v,s')) (args' :cB a3) (Np:eR S args args'.toList):
  (∀w,(callFunc g args').run P w= .ok (.enter g args') w)/\Calls P g args' S.w fun e w' =>∃T v',il s' T.s/\T.w=w' /\e= .returned v' /\VR T v v' /\Good base S T:=by
 unfold eF at hc
 rw[kF] at hc
 simp only at hc
 split at hc
 case h_2=>cases hc
 rename_i fn hg
 split at hc
 case h_2=>cases hc
 rename_i c hb nM
 have hk:=Vv g fn hg
 simp only[RQ,ao,dX,kF,hb,bne_iff_ne,ne_eq] at hk
 obtain⟨B2,ag1⟩:=hk
 have adq:codeOk P c=true:=by simpa using ag1
 refine⟨fun w=> ?_,?_⟩
 ·simp[callFunc,hg,B2,hb]
 have pg:FR S (nH fn args) {tmps:=args' ++b7 (fn.ntmps-args'.size) undef,defers:=[]}:=FR.enter Np (by simpa [Nat.ble_eq] using nM)
 have fin:∀(x:AX) (f:aW) (l:a4 a3),(x= .normal\/x= .ret)->ex c (nH fn args) s=some (x,f,s')->cL P f s' fn.results.toList=some l->v=oneOf l->
   Calls P g args' S.w fun e w' =>∃T v',il s' T.s/\T.w=w' /\e= .returned v' /\VR T v v' /\Good base S T:=by
  intro x f l hx he hl hv
  refine calls_of_wp hg hb (hex c base _ s S x f s' _ _ adq he mw hs gq pg ?_)
  intro T a' Sl Gy Ba Fv
  obtain⟨l',h1,h2⟩:=KH Gy.sr Ba (sU Sl hl)
  have hlen:=h2.1
  have adr:∃v',(results fn a'.tmps).run P T.w= .ok v' T.w/\VR T v v' :=by
   have hm:(results fn a'.tmps).run P T.w= .ok (if h:l'.toArray.size=1 then l'.toArray[0] else .tuple l'.toArray) T.w:=by
    unfold results
    rw[Array.mapM_eq_mapM_toList]
    simp only[Sem.run_bind,Sem.run_map]
    refine(congrArg (fun r=>ed (ed r _) _) h1).trans ?_
    simp only[cR,Sem.run_pure]
   refine⟨_,hm,?_⟩
   subst hv
   cases l with
   |nil=>rw[h2.jK];exact eR.tuple eR.nil
   |cons v0 r=>
    obtain⟨v1,r',rfl,h3,h4⟩:=h2.cons_inv
    cases r with
    |nil=>
     rw[h4.jK]
     simpa [oneOf] using h3
    |cons v2 r2=>
     obtain⟨v3,r3,rfl,h5,h6⟩:=h4.cons_inv
     have:=eR.tuple (eR.cons h3 (eR.cons h5 h6))
     simpa [oneOf] using this
  obtain⟨v',h3,h4⟩:=adr
  rcases hx with rfl|rfl
  ·exact⟨Fv,v',h3,T,v',Sl,rfl,rfl,h4,Gy⟩
  ·exact⟨Fv,v',h3,T,v',Sl,rfl,rfl,h4,Gy⟩
 split at hc
 ·rename_i f s1 he
  split at hc
  ·rename_i l hl
   injection hc with hc;injection hc with e1 e2;subst e1;subst e2
   exact fin .normal f l (.inl rfl) he hl rfl
  ·cases hc
 ·rename_i f s1 he
  split at hc
  ·rename_i l hl
   injection hc with hc;injection hc with e1 e2;subst e1;subst e2
   exact fin .ret f l (.inr rfl) he hl rfl
  ·cases hc
 ·cases hc
theorem ZA {P:an}{Pre:av->bC->Prop}{lib:aA}(Vw:pV P Pre lib){ex:ek->aW->aq->Out}(Vv:∀g fn,P.funcs[g]?=some fn->RQ P lib g fn=true)(hex:N0 P Pre ex):yS P Pre (eF P lib ex):=by
 intro g base S s args v s' mw hs gq hc args' Np
 cases hg:lib.at g with
 |some p=>
  unfold eF at hc
  rw[hg] at hc
  exact Vw g p hg base S s args v s' mw hs gq hc args' Np
 |none=>exact .inl (z3 Vv hex hg base S s args v s' mw hs gq hc args' Np)
theorem ZB {P:an}{Pre:av->bC->Prop}(aE:Cp Pre){lib:aA}(J5:lZ lib)(Vw:pV P Pre lib)(hm:P.follows .mixedOrders=true)(Vv:∀g fn,P.funcs[g]?=some fn->RQ P lib g fn=true):∀n,N0 P Pre (exec P lib n)/\Vu P Pre (exec P lib n) n:=by
 intro n
 induction n with
 |zero=>exact⟨fun c base f s S x f' s' a Q _ h=>(by simp[exec] at h),fun c base f s S x f' s' a Q _ h=>(by simp[exec] at h)⟩
 |succ n ih=>
  obtain⟨UA,So⟩:=ih
  have Gx:=ZA Vw Vv UA
  have alB:lu (eF P lib (exec P lib n)):=sV J5 (Qh J5 n)
  have abT:Vu P Pre (exec P lib (n+1)) (n+1):=by
   intro c base f s S x f' s' a Q dH h mw hs gq hf hq
   simp only[exec,step] at h
   rw[rounds_succ]
   split at h
   ·rename_i f1 s1 h1
    refine UA c base f s S .normal f1 s1 a _ dH h1 mw hs gq hf (fun T a' hT hg Ba Fv=> ?_)
    exact So c base f1 s1 T x f' s' a' Q dH h hT hg.sr (aE _ _ _ hg.below gq) Ba (fun U a2 e g Ir vC=>hq U a2 e (hg.trans g) Ir (vC.trans Fv))
   ·rename_i h1
    refine UA c base f s S x f' s' a _ dH h mw hs gq hf (fun T a' hT hg Ba Fv=> ?_)
    have cH:x≠ .normal:=fun e=>h1 _ _ (by rw[<-e];exact h)
    have:=hq T a' hT hg Ba Fv
    cases x with
    |normal=>exact bo rfl cH
    |exit id=>exact this
    |ret=>exact this
  refine⟨?_,abT⟩
  intro c base f s S x f' s' a Q dH h mw hs gq hf hq
  cases c with
  |loop c=>
   refine wp_loop_rounds (n+1) (abT c base f s S x f' s' a Q (by simpa [codeOk] using dH) h mw hs gq hf hq)
  |skip=>
   simp only[exec,step] at h
   injection h with h;injection h with e1 e2;injection e2 with e2 e3;subst e1;subst e2;subst e3
   exact wp_skip (hq S a mw (Good.refl hs) hf rfl)
  |label l=>
   simp only[exec,step] at h
   injection h with h;injection h with e1 e2;injection e2 with e2 e3;subst e1;subst e2;subst e3
   exact wp_label (hq S a mw (Good.refl hs) hf rfl)
  |exit id=>
   simp only[exec,step] at h
   injection h with h;injection h with e1 e2;injection e2 with e2 e3;subst e1;subst e2;subst e3
   exact wp_exit (hq S a mw (Good.refl hs) hf rfl)
  |ret=>
   simp only[exec,step] at h
   injection h with h;injection h with e1 e2;injection e2 with e2 e3;subst e1;subst e2;subst e3
   exact wp_ret (hq S a mw (Good.refl hs) hf rfl)
  |region id ops d=>
   simp only[exec,step] at h
   split at h
   ·rename_i f1 s1 h1
    injection h with h;injection h with e1 e2;injection e2 with e2 e3;subst e1;subst e2;subst e3
    exact Sn alB Gx aE hm h1 dH mw hs gq hf hq
   ·cases h
  |seq p q=>
   simp only[codeOk,ao] at dH
   simp only[exec,step] at h
   refine wp_seq ?_
   split at h
   ·rename_i f1 s1 h1
    refine UA p base f s S .normal f1 s1 a _ dH.1 h1 mw hs gq hf (fun T a' hT hg Ba Fv=> ?_)
    exact UA q base f1 s1 T x f' s' a' Q dH.2 h hT hg.sr (aE _ _ _ hg.below gq) Ba (fun U a2 e g Ir vC=>hq U a2 e (hg.trans g) Ir (vC.trans Fv))
   ·rename_i h1
    refine UA p base f s S x f' s' a _ dH.1 h mw hs gq hf (fun T a' hT hg Ba Fv=> ?_)
    have cH:x≠ .normal:=fun e=>h1 _ _ (by rw[<-e];exact h)
    have:=hq T a' hT hg Ba Fv
    cases x with
    |normal=>exact bo rfl cH
    |exit id=>exact this
    |ret=>exact this
  |cond y p q=>
   simp only[codeOk,ao] at dH
   simp only[exec,step] at h
   split at h
   ·rename_i t hy
    have hv:=bJ hf hy
    generalize zS:a.eval y=cv at hv
    cases hv
    split at h
    ·exact wp_cond_true zS (UA p base f s S x f' s' a Q dH.1 h mw hs gq hf hq)
    ·exact wp_cond_false zS (UA q base f s S x f' s' a Q dH.2 h mw hs gq hf hq)
   ·cases h
  |block id p=>
   simp only[codeOk] at dH
   simp only[exec,step] at h
   refine wp_block ?_
   split at h
   ·rename_i j f1 s1 h1
    split at h
    ·rename_i hj
     have YK:j=id:=by simpa [ep] using hj
     injection h with h;injection h with e1 e2;injection e2 with e2 e3;subst e1;subst e2;subst e3
     refine UA p base f s S (.exit j) f1 s1 a _ dH h1 mw hs gq hf (fun T a' hT hg Ba Fv=> ?_)
     simp only[IK,Exit.inBlock,YK,eh]
     exact hq T a' hT hg Ba Fv
    ·rename_i hj
     have YK:¬j=id:=by simpa [ep] using hj
     injection h with h;injection h with e1 e2;injection e2 with e2 e3;subst e1;subst e2;subst e3
     refine UA p base f s S (.exit j) f1 s1 a _ dH h1 mw hs gq hf (fun T a' hT hg Ba Fv=> ?_)
     simp only[IK,Exit.inBlock,YK,dx]
     exact hq T a' hT hg Ba Fv
   ·rename_i h1
    refine UA p base f s S x f' s' a _ dH h mw hs gq hf (fun T a' hT hg Ba Fv=> ?_)
    have:=hq T a' hT hg Ba Fv
    cases x with
    |normal=>exact this
    |exit j=>exact bo h (h1 _ _ _)
    |ret=>exact this
  |scope p=>
   simp only[codeOk] at dH
   simp only[exec,step] at h
   refine wp_scope_straight ?_
   refine UA p base f s S x f' s' a _ dH h mw hs gq hf (fun T a' hT hg Ba Fv=> ?_)
   have:=hq T a' hT hg Ba Fv
   cases x<;>exact this
  |rangeFunc y ps p q=>simp[exec,step] at h
  |goto l=>simp[exec,step] at h
  |refuse w=>simp[exec,step] at h
theorem KI {P:an}{lib:aA}(h:BP P lib=true):P.follows .mixedOrders=true/\∀g fn,P.funcs[g]?=some fn->RQ P lib g fn=true:=by
 simp only[BP,ao,c7] at h
 refine⟨h.1,fun g fn hg=> ?_⟩
 refine h.2 (fn,g) ?_
 rw[bn]
 simpa using hg
theorem IL {P:an}{Pre:av->bC->Prop}(aE:Cp Pre){lib:aA}(J5:lZ lib)(Vw:pV P Pre lib)(h:BP P lib=true)(n:av){g:eg}(hg:lib.at g=none)
  (base:av) (S:St) (s:aq) (args:a4 a3) (v:a3) (s' :aq) (mw:il s S.s) (hs:SR base S) (gq:Pre base S.w) (hc:gX P lib n g args s=some (v,s')) (args' :cB a3) (Np:eR S args args'.toList):
  Calls P g args' S.w fun e w' =>∃T v',il s' T.s/\T.w=w' /\e= .returned v' /\VR T v v' /\Good base S T:=by
 obtain⟨hm,Vv⟩:=KI h
 exact(z3 Vv (ZB aE J5 Vw hm Vv n).1 hg base S s args v s' mw hs gq hc args' Np).2
def St.start (w:bC):St:=⟨aq.empty,⟨fun _ _=>(0,0),fun _=>0⟩,w⟩
theorem SR.start (w:bC):SR w.heap.size (St.start w):=by
 refine⟨by omega,?_,?_,?_,?_,?_,?_,a6 _,?_⟩<;>intros<;>simp_all[St.start,aq.empty,aq.bR,aq.dN,Tr.get]
end Go.Cl
