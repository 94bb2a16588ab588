/-
 The clean machine, second part: frames, statements whose order is open, calls.
-/
import Derived.Test.YtdfjfncifneocaaGreatMcA
namespace Go.Cl
structure WF (s:aq):Prop where
 room:0<=16000000
 bound:∀j o,s.heap.get j=some o->j<s.next
structure ct (s s' :aq) (X:Nat->Option AO):Prop where
 next:s'.next=s.next
 free:∀j o,X j=some o->s.heap.get j=none/\j<s.next
 get:∀j,s'.heap.get j=match X j with
  |some o=>some o
  |none=>s.heap.get j
structure bN (s t:aq):Prop where
 next:s.next<=t.next
 gone:∀j,j<s.next->s.heap.get j=none->t.heap.get j=none
 here:∀j,s.heap.get j≠none->t.heap.get j≠none
 wf:WF t
theorem bN.refl {s:aq}(h:WF s):bN s s:=⟨Nat.le_refl _,fun _ _ h=>h,fun _ h=>h,h⟩
theorem bN.trans {s t u:aq}(h:bN s t)(k:bN t u):bN s u:=
 ⟨Nat.le_trans h.next k.next,fun j hj hn=>k.gone j (Nat.lt_of_lt_of_le hj h.next) (h.gone j hj hn),fun j hj=>k.here j (h.here j hj),k.wf⟩
section
variable {s s' :aq} {X:Nat->Option AO}
theorem ct.same (h:ct s s' X){j:Nat}{o:AO}(hj:s.heap.get j=some o):s'.heap.get j=some o:=by
 rw[h.get j]
 cases hx:X j with
 |none=>exact hj
 |some o' =>have:=(h.free j o' hx).1;rw[hj] at this;cases this
theorem ct.dK (h:ct s s' X){i:Nat}{b:jE}(hb:s.bA i=some b):s'.bA i=some b:=by
 unfold aq.bA at*
 split at hb
 ·rename_i b0 hg;rw[h.same hg];exact hb
 ·cases hb
theorem ct.map (h:ct s s' X){i:Nat}{es:List (Value×Value)}(hb:s.dp i=some es):s'.dp i=some es:=by
 unfold aq.dp at*
 split at hb
 ·rename_i b0 hg;rw[h.same hg];exact hb
 ·cases hb
theorem ct.cells (h:ct s s' X){i off c n:Nat}{l:List Value}(hc:s.de i off c n=some l):s'.de i off c n=some l:=by
 unfold aq.de at*
 split at hc
 ·rename_i b hb;rw[h.dK hb];exact hc
 ·cases hc
theorem qa {i:Nat}{b:jE}(hb:s.bA i=some b):s.heap.get i=some (.dK b):=by
 unfold aq.bA at hb
 split at hb
 ·rename_i b0 hg;rw[hg];rw[Option.some.inj hb]
 ·cases hb
theorem Me {i:Nat}{es:List (Value×Value)}(hb:s.dp i=some es):s.heap.get i=some (.map es):=by
 unfold aq.dp at hb
 split at hb
 ·rename_i b0 hg;rw[hg];rw[Option.some.inj hb]
 ·cases hb
theorem ct.put (h:ct s s' X)(hw:WF s){i:Nat}{o0 o:AO}(hi:s.heap.get i=some o0):ct (s.put i o) (s'.put i o) X/\bN s (s.put i o):=by
 have bc:=hw.bound i o0 hi
 have hr:=hw.room
 have hd:i+1<2^depth i:=deep (by omega)
 have hX:X i=none:=by
  cases hx:X i with
  |none=>rfl
  |some o' =>have:=(h.free i o' hx).1;rw[hi] at this;cases this
 refine⟨⟨h.next,fun j o1 hj=> ?_,fun j=> ?_⟩,⟨Nat.le_refl _,fun j hj hn=> ?_,fun j hj=> ?_,hr,fun j o1 hj=> ?_⟩⟩
 ·have gz:i≠j:=fun e=>by rw[e] at hX;rw[hX] at hj;cases hj
  simp only[aq.put,Tr.bZ _ _ _ _ _ gz]
  exact h.free j o1 hj
 ·by_cases gz:i=j
  ·subst gz
   simp only[aq.put,Tr.bp _ _ _ _ hd,hX]
  ·simp only[aq.put,Tr.bZ _ _ _ _ _ gz]
   exact h.get j
 ·have gz:i≠j:=fun e=>by rw[e] at hi;rw[hi] at hn;cases hn
  simp only[aq.put,Tr.bZ _ _ _ _ _ gz];exact hn
 ·by_cases gz:i=j
  ·subst gz;simp[aq.put,Tr.bp _ _ _ _ hd]
  ·simp only[aq.put,Tr.bZ _ _ _ _ _ gz];exact hj
 ·by_cases gz:i=j
  ·subst gz;exact bc
  ·simp only[aq.put,Tr.bZ _ _ _ _ _ gz] at hj
   exact hw.bound j o1 hj
theorem ct.new (h:ct s s' X)(hw:WF s)(cY:s.room=true)(o:AO):ct (s.new o) (s'.new o) X/\bN s (s.new o):=by
 have bc:0<16000000:=by omega
 have hd:s.next+1<2^depth s.next:=deep (by omega)
 have hXn:X s.next=none:=by
  cases hx:X s.next with
  |none=>rfl
  |some o' =>have:=(h.free _ o' hx).2;omega
 refine⟨⟨by simp only[aq.new,h.next],fun j o1 hj=> ?_,fun j=> ?_⟩,⟨by simp only[aq.new];omega,fun j hj hn=> ?_,fun j hj=> ?_,by omega,fun j o1 hj=> ?_⟩⟩
 ·obtain⟨h1,h2⟩:=h.free j o1 hj
  have gz:s.next≠j:=by omega
  refine⟨?_,by simp only[aq.new];omega⟩
  simp only[aq.new,Tr.bZ _ _ _ _ _ gz];exact h1
 ·by_cases gz:s.next=j
  ·subst gz
   simp only[aq.new,h.next,Tr.bp _ _ _ _ hd,hXn]
  ·simp only[aq.new,h.next,Tr.bZ _ _ _ _ _ gz]
   exact h.get j
 ·have gz:s.next≠j:=by omega
  simp only[aq.new,Tr.bZ _ _ _ _ _ gz];exact hn
 ·have gz:s.next≠j:=fun e=>by
   have:s.heap.get j=none:=by
    cases hg:s.heap.get j with
    |none=>rfl
    |some o1=>have:=hw.bound j o1 hg;omega
   exact hj this
  simp only[aq.new,Tr.bZ _ _ _ _ _ gz];exact hj
 ·by_cases gz:s.next=j
  ·subst gz;simp only[aq.new];omega
  ·simp only[aq.new,Tr.bZ _ _ _ _ _ gz] at hj
   have:=hw.bound j o1 hj
   simp only[aq.new];omega
theorem ct.room (_:ct s s' X):s'.room=s.room:=rfl
def Fr (s:aq)(X:Nat->Option AO)(v:Value)(t:aq)(r:Option (Value×aq)):Prop:=∃t',r=some (v,t')/\ct t t' X/\bN s t
theorem EZ (h:ct s s' X)(hw:WF s){cs:List Value}{mf:Nat}{v:Value}{t:aq}(hn:eR s cs mf=some (v,t)):Fr s X v t (eR s' cs mf):=by
 unfold eR at*
 rw[h.room,h.next]
 split at hn
 ·rename_i hr
  injection hn with hn;injection hn with e1 e2;subst e1;subst e2
  rw[if_pos hr]
  exact⟨_,rfl,h.new hw hr _⟩
 ·cases hn
theorem gY (h:ct s s' X)(hw:WF s){cs:List Value}{len mf:Nat}{v:Value}{t:aq}(hn:aZ s cs len mf=some (v,t)):Fr s X v t (aZ s' cs len mf):=by
 unfold aZ at*
 rw[h.room,h.next]
 split at hn
 ·rename_i hr
  injection hn with hn;injection hn with e1 e2;subst e1;subst e2
  rw[if_pos hr]
  exact⟨_,rfl,h.new hw hr _⟩
 ·cases hn
theorem uz (h:ct s s' X)(hw:WF s){i off c:Nat}{vs:List Value}{t:aq}(hs:s.storeAt i off c vs=some t):∃t',s'.storeAt i off c vs=some t' /\ct t t' X/\bN s t:=by
 unfold aq.storeAt at*
 split at hs
 ·rename_i b hb
  rw[h.dK hb]
  simp only
  split at hs
  ·rename_i hc
   rw[if_pos hc]
   split at hs
   ·cases hs
   ·split at hs
    ·rename_i l hl
     obtain rfl:=Option.some.inj hs
     exact⟨_,rfl,h.put hw (qa hb)⟩
    ·cases hs
  ·cases hs
 ·cases hs
theorem Qz {P:Program}(h:ct s s' X)(hw:WF s){ty:TypeId}{a v:Value}{t:aq}(hs:dE P s ty a v=some t):∃t',dE P s' ty a v=some t' /\ct t t' X/\bN s t:=by
 unfold dE at*
 split at hs
 ·split at hs
  ·rename_i hc
   obtain rfl:=Option.some.inj hs
   refine⟨s',?_,h,bN.refl hw⟩
   rw[if_pos hc]
  ·cases hs
 ·rename_i ck
  split at hs
  ·rename_i hc;rw[if_pos hc];exact uz h hw hs
  ·cases hs
 ·cases hs
theorem Bu {P:Program}(h:ct s s' X)(hw:WF s){ty:TypeId}{n:Nat}{ps:List (Nat×Value)}{v:Value}{t:aq}(hn:aL P s ty n ps=some (v,t)):Fr s X v t (aL P s' ty n ps):=by
 unfold aL at*
 split at hn
 ·split at hn
  ·split at hn
   ·rename_i hc
    rw[if_pos hc]
    split at hn
    ·exact gY h hw hn
    ·cases hn
   ·cases hn
  ·cases hn
 ·cases hn
theorem D9 {P:Program}(h:ct s s' X)(hw:WF s){ty:TypeId}{x y v:Value}{t:aq}(hn:eS P s ty x y=some (v,t)):Fr s X v t (eS P s' ty x y):=by
 unfold eS at*
 split at hn
 ·split at hn
  ·split at hn
   ·rename_i hc;rw[if_pos hc];exact gY h hw hn
   ·cases hn
  ·cases hn
 ·cases hn
theorem Ti {P:Program}(h:ct s s' X)(hw:WF s){a b:TypeId}{x v:Value}{t:aq}(hc:fW P s a b x=some (v,t)):Fr s X v t (fW P s' a b x):=by
 unfold fW at*
 split at hc
 ·injection hc with hc;injection hc with e1 e2;subst e1;subst e2;exact⟨_,rfl,h,bN.refl hw⟩
 ·injection hc with hc;injection hc with e1 e2;subst e1;subst e2;exact⟨_,rfl,h,bN.refl hw⟩
 ·split at hc
  ·rename_i hq;rw[if_pos hq];exact gY h hw hc
  ·cases hc
 ·split at hc
  ·cases hc
  ·split at hc
   ·rename_i b0 hb
    rw[h.dK hb]
    simp only
    split at hc
    ·rename_i hq
     rw[if_pos hq]
     injection hc with hc;injection hc with e1 e2;subst e1;subst e2
     exact⟨_,rfl,h.put hw (qa hb)⟩
    ·cases hc
   ·cases hc
 ·split at hc
  ·rename_i hq;rw[if_pos hq];injection hc with hc;injection hc with e1 e2;subst e1;subst e2;exact⟨_,rfl,h,bN.refl hw⟩
  ·cases hc
 ·split at hc
  ·rename_i hq
   rw[if_pos hq]
   split at hc
   ·injection hc with hc;injection hc with e1 e2;subst e1;subst e2;exact⟨_,rfl,h,bN.refl hw⟩
   ·split at hc
    ·rename_i l hl
     rw[h.cells hl]
     simp only
     split at hc
     ·injection hc with hc;injection hc with e1 e2;subst e1;subst e2;exact⟨_,rfl,h,bN.refl hw⟩
     ·cases hc
    ·cases hc
  ·cases hc
 ·cases hc
theorem yX (h:ct s s' X){z:Nat}{y:Value}{r:Nat×List Value}(hs:dH s z y=some r):dH s' z y=some r:=by
 unfold dH at*
 split at hs
 ·exact hs
 ·split at hs
  ·exact hs
  ·split at hs
   ·rename_i l hl;rw[h.cells hl];exact hs
   ·cases hs
 ·exact hs
 ·cases hs
theorem Xe (h:ct s s' X){z nN:Nat}{zv y:Value}{xd:TypeDesc}{r:Nat×List Value}(hs:Hc s z nN zv xd y=some r):Hc s' z nN zv xd y=some r:=by
 unfold Hc at*
 split at hs
 ·exact hs
 ·exact yX h hs
theorem Mf {P:Program}(h:ct s s' X)(hw:WF s){st xt:TypeId}{x y v:Value}{t:aq}(ha:gD P s st xt x y=some (v,t)):Fr s X v t (gD P s' st xt x y):=by
 unfold gD at*
 split at ha
 case h_2=>cases ha
 split at ha
 case h_1=>cases ha
 split at ha
 case h_2=>cases ha
 split at ha
 case h_2=>cases ha
 rename_i n new Hp
 rw[Xe h Hp]
 simp only
 split at ha
 case h_2=>cases ha
 split at ha
 case isFalse=>cases ha
 rename_i hc
 rw[if_pos hc]
 split at ha
 ·injection ha with ha;injection ha with e1 e2;subst e1;subst e2;exact⟨_,rfl,h,bN.refl hw⟩
 ·split at ha
  ·split at ha
   ·rename_i hq;rw[if_pos hq];exact gY h hw ha
   ·cases ha
  ·split at ha
   ·split at ha
    ·rename_i hq;rw[if_pos hq];exact gY h hw ha
    ·cases ha
   ·split at ha
    case h_2=>cases ha
    rename_i b hb
    rw[h.dK hb]
    simp only
    split at ha
    case isFalse=>cases ha
    rename_i hq
    rw[if_pos hq]
    split at ha
    ·rename_i Ax
     rw[if_pos Ax]
     injection ha with ha;injection ha with e1 e2;subst e1;subst e2
     exact⟨_,rfl,h.put hw (qa hb)⟩
    ·rename_i Ax
     rw[if_neg Ax]
     split at ha
     ·rename_i old hl
      rw[h.cells hl]
      simp only
      obtain⟨h1,h2⟩:=h.put (o:= .dK (Cl.kill b)) hw (qa hb)
      obtain⟨t',k1,k2,k3⟩:=gY h1 h2.wf ha
      exact⟨t',k1,k2,h2.trans k3⟩
     ·cases ha
  ·cases ha
theorem Tj {P:Program}(h:ct s s' X)(hw:WF s){dt:TypeId}{x y v:Value}{t:aq}(ha:mh P s dt x y=some (v,t)):Fr s X v t (mh P s' dt x y):=by
 unfold mh at*
 split at ha
 case h_2=>cases ha
 split at ha
 case h_2=>cases ha
 split at ha
 ·injection ha with ha;injection ha with e1 e2;subst e1;subst e2;exact⟨_,rfl,h,bN.refl hw⟩
 ·split at ha
  case h_2=>cases ha
  rename_i k2 new i off hs
  rw[yX h hs]
  simp only
  split at ha
  case h_2=>cases ha
  rename_i u hk aD
  injection ha with ha;injection ha with e1 e2;subst e1;subst e2
  obtain⟨t',k1,k2,k3⟩:=uz h hw aD
  rw[hk,k1]
  exact⟨_,rfl,k2,k3⟩
theorem QA {P:Program}(h:ct s s' X)(hw:WF s){ty:TypeId}{x v:Value}{t:aq}(ha:mV P s ty x=some (v,t)):Fr s X v t (mV P s' ty x):=by
 unfold mV at*
 split at ha
 ·injection ha with ha;injection ha with e1 e2;subst e1;subst e2;exact⟨_,rfl,h,bN.refl hw⟩
 ·split at ha
  ·injection ha with ha;injection ha with e1 e2;subst e1;subst e2;exact⟨_,rfl,h,bN.refl hw⟩
  ·split at ha
   case h_2=>cases ha
   rename_i m z zv hz tR
   split at ha
   case isFalse=>cases ha
   rename_i hc
   split at ha
   case h_2=>cases ha
   rename_i s1 aD
   injection ha with ha;injection ha with e1 e2;subst e1;subst e2
   obtain⟨t',k1,k2,k3⟩:=uz h hw aD
   rw[if_pos hc,k1]
   exact⟨_,rfl,k2,k3⟩
 ·cases ha
theorem Ea {P:Program}(h:ct s s' X)(hw:WF s){ty:TypeId}{m k v:Value}{t:aq}(hu:fy P s ty m k v=some t):∃t',fy P s' ty m k v=some t' /\ct t t' X/\bN s t:=by
 unfold fy at*
 split at hu
 ·split at hu
  ·rename_i es he hk
   rw[h.map he]
   simp only[hk]
   split at hu
   ·obtain rfl:=Option.some.inj hu
    exact⟨_,rfl,h.put hw (Me he)⟩
   ·cases hu
  ·cases hu
 ·cases hu
theorem Ja {P:Program}(h:ct s s' X){ty:TypeId}{a v:Value}(hl:aR P s ty a=some v):aR P s' ty a=some v:=by
 unfold aR at*
 split at hl
 ·split at hl
  ·split at hl
   ·rename_i l hc;rw[h.cells hc];exact hl
   ·cases hl
  ·split at hl
   ·rename_i v0 r0 hc;rw[h.cells hc];exact hl
   ·cases hl
  ·cases hl
 ·cases hl
theorem Jb (h:ct s s' X){i c z:Nat}(he:jT s i c z=true):jT s' i c z=true:=by
 unfold jT at*
 split at he
 ·rfl
 ·split at he
  ·rename_i b hb;rw[h.dK hb];exact he
  ·cases he
theorem QB {P:Program}(h:ct s s' X){ty:TypeId}{x v:Value}{lo hi mx:Option Value}(hs:du P s ty x lo hi mx=some v):du P s' ty x lo hi mx=some v:=by
 unfold du at*
 split at hs
 ·exact hs
 ·split at hs
  ·split at hs
   ·rename_i hc
    rw[if_pos hc]
    split at hs
    ·split at hs
     ·exact hs
     ·split at hs
      ·rename_i he;rw[if_pos (Jb h he)];exact hs
      ·cases hs
     ·cases hs
    ·split at hs
     ·split at hs
      ·rename_i lI
       rw[if_pos lI]
       split at hs
       ·exact hs
       ·split at hs
        ·rename_i he;rw[if_pos (Jb h he)];exact hs
        ·cases hs
       ·cases hs
      ·cases hs
     ·cases hs
   ·cases hs
  ·cases hs
 ·split at hs
  ·rename_i l hh z b q1 q2 q3 hb
   rw[q1,q2,q3,h.dK hb]
   exact hs
  ·cases hs
 ·cases hs
theorem Xf {P:Program}(h:ct s s' X){ty:TypeId}{x v:Value}(hl:bh P s ty x=some v):bh P s' ty x=some v:=by
 unfold bh at*
 split at hl<;>try exact hl
 ·split at hl
  ·rename_i es he;rw[h.map he];exact hl
  ·cases hl
theorem Mg {P:Program}(h:ct s s' X){ty:TypeId}{m k v:Value}{ok:Bool}(hl:mo P s ty m k ok=some v):mo P s' ty m k ok=some v:=by
 unfold mo at*
 split at hl
 case h_2=>cases hl
 split at hl
 case h_2=>cases hl
 rename_i z hz hk
 split at hl
 case isFalse=>cases hl
 rename_i hp
 rw[if_pos hp]
 cases m<;>try (simp at hl;done)
 rename_i r
 cases r with
 |none=>exact hl
 |some r=>
  simp only at hl|-
  cases he:s.dp r with
  |none=>rw[he] at hl;simp at hl
  |some es=>rw[h.map he];rw[he] at hl;exact hl
end
def Mh (P:Program)(o:Oper)(f:aT)(s s' :aq)(X:Nat->Option AO):AR->Prop
 | .val v t=>∃t',cM P o f s' =some (.val v t')/\ct t t' X/\bN s t
 | .call g args=>cM P o f s' =some (.call g args)
theorem iG {s s' :aq}{X:Nat->Option AO}(h:ct s s' X)(hw:WF s){r r' :Option Value}(hr:∀v,r=some v->r' =some v){x:AR}(hx:oW s r=some x):
  ∃v t t',x= .val v t/\oW s' r' =some (.val v t')/\ct t t' X/\bN s t:=by
 cases r with
 |none=>simp[oW] at hx
 |some v=>
  simp only[oW] at hx
  obtain rfl:=Option.some.inj hx
  exact⟨v,s,s',rfl,by rw[hr v rfl];rfl,h,bN.refl hw⟩
theorem rU {s:aq}{X:Nat->Option AO}{r r' :Option (Value×aq)}(hr:∀v t,r=some (v,t)->Fr s X v t r'){x:AR}(hx:nO r=some x):
  ∃v t t',x= .val v t/\nO r' =some (.val v t')/\ct t t' X/\bN s t:=by
 cases r with
 |none=>simp[nO] at hx
 |some p=>
  obtain⟨v,t⟩:=p
  simp only[nO] at hx
  obtain rfl:=Option.some.inj hx
  obtain⟨t',k1,k2,k3⟩:=hr v t rfl
  exact⟨v,t,t',rfl,by rw[k1];rfl,k2,k3⟩
theorem Tk {s:aq}{X:Nat->Option AO}{r r' :Option aq}(hr:∀t,r=some t->∃t',r' =some t' /\ct t t' X/\bN s t){x:AR}(hx:AY r=some x):
  ∃v t t',x= .val v t/\AY r' =some (.val v t')/\ct t t' X/\bN s t:=by
 cases r with
 |none=>simp[AY] at hx
 |some t=>
  simp only[AY] at hx
  obtain rfl:=Option.some.inj hx
  obtain⟨t',k1,k2,k3⟩:=hr t rfl
  exact⟨undef,t,t',rfl,by rw[k1];rfl,k2,k3⟩
theorem j6 {P:Program}{o:Oper}{f:aT}{s s' :aq}{X:Nat->Option AO}(h:ct s s' X)(hw:WF s){x:AR}(hx:cM P o f s=some x):Mh P o f s s' X x:=by
 have fin:(∃v t t',x= .val v t/\cM P o f s' =some (.val v t')/\ct t t' X/\bN s t)->Mh P o f s s' X x:=by
  rintro ⟨v,t,t',rfl,k1,k2,k3⟩
  exact⟨t',k1,k2,k3⟩
 obtain⟨dst,op,type,pos,after,guard⟩:=o
 cases op<;>(try simp only[cM] at hx fin|-)<;>(try (cases hx;done))
 case move y=>exact fin (iG h hw (fun v hv=>hv) hx)
 case assign y=>exact fin (iG h hw (fun v hv=>hv) hx)
 case pick c y z=>
  apply fin
  split at hx
  ·rename_i t u v h1 h2 h3
   obtain rfl:=Option.some.inj hx
   exact⟨_,s,s',rfl,rfl,h,bN.refl hw⟩
  ·cases hx
 case alloc e=>
  apply fin
  split at hx
  ·split at hx
   ·rename_i hp;rw[if_pos hp];exact rU (fun v t hv=>EZ h hw hv) hx
   ·cases hx
  ·cases hx
 case box e y=>
  apply fin
  split at hx
  ·exact rU (fun v t hv=>EZ h hw hv) hx
  ·cases hx
 case build t ps=>
  apply fin
  split at hx
  ·exact iG h hw (fun v hv=>hv) hx
  ·cases hx
 case buildSlice t n ps=>
  apply fin
  split at hx
  ·exact rU (fun v t hv=>Bu h hw hv) hx
  ·cases hx
 case load t y=>
  apply fin
  split at hx
  ·exact iG h hw (fun v hv=>Ja h hv) hx
  ·cases hx
 case store t y z=>
  apply fin
  split at hx
  ·exact Tk (fun t ht=>Qz h hw ht) hx
  ·cases hx
 case nilCheck y=>
  apply fin
  split at hx
  ·obtain rfl:=Option.some.inj hx;exact⟨_,s,s',rfl,rfl,h,bN.refl hw⟩
  ·obtain rfl:=Option.some.inj hx;exact⟨_,s,s',rfl,rfl,h,bN.refl hw⟩
  ·cases hx
 case binOp op t y z yt=>
  apply fin
  split at hx
  ·exact iG h hw (fun v hv=>hv) hx
  ·cases hx
 case unOp op t y=>
  apply fin
  split at hx
  ·exact iG h hw (fun v hv=>hv) hx
  ·cases hx
 case convert a b y=>
  apply fin
  split at hx
  ·exact rU (fun v t hv=>Ti h hw hv) hx
  ·cases hx
 case makeFunc fn arv bs=>
  cases fn<;>simp only at hx fin|- <;>try (cases hx;done)
  apply fin
  split at hx
  ·obtain rfl:=Option.some.inj hx;exact⟨_,s,s',rfl,rfl,h,bN.refl hw⟩
  ·cases hx
 case makeMap t r=>
  cases r with
  |some _=>simp at hx
  |none=>
   simp only at hx fin|-
   apply fin
   rw[h.room,h.next]
   split at hx
   ·rename_i hr
    rw[if_pos hr]
    obtain rfl:=Option.some.inj hx
    obtain⟨h1,h2⟩:=h.new hw hr (.map [])
    exact⟨_,_,_,rfl,rfl,h1,h2⟩
   ·cases hx
 case makeSlice t y z=>
  apply fin
  split at hx
  ·exact rU (fun v t hv=>D9 h hw hv) hx
  ·cases hx
 case makeInterface t y=>
  apply fin
  split at hx
  ·cases hx
  ·obtain rfl:=Option.some.inj hx;exact⟨_,s,s',rfl,rfl,h,bN.refl hw⟩
  ·cases hx
 case slice t y lo hi mx=>
  apply fin
  split at hx
  ·exact iG h hw (fun v hv=>QB h hv) hx
  ·cases hx
 case fieldAddr t y i=>
  apply fin
  split at hx
  ·exact iG h hw (fun v hv=>hv) hx
  ·cases hx
 case field t y i=>
  apply fin
  split at hx
  ·exact iG h hw (fun v hv=>hv) hx
  ·cases hx
 case indexAddr t y z=>
  apply fin
  split at hx
  ·exact iG h hw (fun v hv=>hv) hx
  ·cases hx
 case index t y z=>
  apply fin
  split at hx
  ·exact iG h hw (fun v hv=>hv) hx
  ·cases hx
 case lookup t y z ok=>
  apply fin
  split at hx
  ·exact iG h hw (fun v hv=>Mg h hv) hx
  ·cases hx
 case mapUpdate t y z u=>
  apply fin
  split at hx
  ·exact Tk (fun t ht=>Ea h hw ht) hx
  ·cases hx
 case extract y i=>
  apply fin
  split at hx
  ·exact iG h hw (fun v hv=>hv) hx
  ·cases hx
 case call c=>
  obtain⟨callee,args,ts⟩:=c
  split at hx
  case h_2=>cases hx
  rename_i l hl
  cases callee with
  |invoke y m=>cases hx
  |value y=>
   simp only at hx
   split at hx
   ·rename_i g arv bs hy
    obtain rfl:=Option.some.inj hx
    simp only[Mh,cM,hl,hy]
   ·cases hx
  |builtin b=>
   simp only[hl] at hx fin
   apply fin
   unfold iP at hx|-
   split at hx
   ·exact iG h hw (fun v hv=>Xf h hv) hx
   ·exact rU (fun v t hv=>Mf h hw hv) hx
   ·exact rU (fun v t hv=>Tj h hw hv) hx
   ·exact rU (fun v t hv=>QA h hw hv) hx
   ·exact iG h hw (fun v hv=>hv) hx
   ·exact iG h hw (fun v hv=>hv) hx
   ·cases hx
end Go.Cl
namespace Go.Cl
abbrev Call:=FuncId->List Value->aq->Option (Value×aq)
def kC (call:Call):Prop:=∀(s s' :aq) (X:Nat->Option AO) (g:FuncId) (args:List Value) (v:Value) (t:aq),ct s s' X->WF s->call g args s=some (v,t)->∃t',call g args s' =some (v,t')/\ct t t' X/\bN s t
theorem QC {P:Program}{call:Call}(hc:kC call)(all:List Oper):∀(l:List Oper) {f f1:aT} {s s' t:aq} {X:Nat->Option AO},ct s s' X->WF s->fJ P call all l f s=some (f1,t)->∃t',fJ P call all l f s' =some (f1,t')/\ct t t' X/\bN s t:=by
 intro l
 induction l with
 |nil=>
  intro f f1 s s' t X h hw hr
  simp only[fJ] at hr
  injection hr with hr;injection hr with e1 e2;subst e1;subst e2
  exact⟨s',rfl,h,bN.refl hw⟩
 |cons o l ih=>
  intro f f1 s s' t X h hw hr
  simp only[fJ] at hr|-
  split at hr
  ·rename_i xy
   rw[if_pos xy]
   split at hr
   ·rename_i v s1 fE
    obtain⟨t1,k1,k2,k3⟩:=j6 h hw fE
    rw[k1]
    split at hr
    ·rename_i f2 hp
     obtain⟨t',j1,j2,j3⟩:=ih k2 k3.wf hr
     exact⟨t',by simp only[hp];exact j1,j2,k3.trans j3⟩
    ·cases hr
   ·rename_i g args fE
    have k1:=j6 h hw fE
    simp only[Mh] at k1
    rw[k1]
    split at hr
    ·rename_i v s1 jH
     obtain⟨t1,c1,c2,c3⟩:=hc _ _ _ _ _ _ _ h hw jH
     split at hr
     ·rename_i f2 hp
      obtain⟨t',j1,j2,j3⟩:=ih c2 c3.wf hr
      exact⟨t',by simp only[c1,hp];exact j1,j2,c3.trans j3⟩
     ·cases hr
    ·cases hr
   ·cases hr
  ·rename_i xy
   rw[if_neg xy]
   split at hr
   ·rename_i f2 hp
    obtain⟨t',j1,j2,j3⟩:=ih h hw hr
    exact⟨t',j1,j2,j3⟩
   ·cases hr
abbrev Made:=List (Nat×Nat×jE)
def OC (p:Nat->Bool):Made->Nat->Option AO
 |[],_=>none
 |(j,id,b)::r,i=>if p j=true/\id=i then some (.dK b) else OC p r i
theorem vM (p:Nat->Bool):∀(arv:Made) (T:aq),(∀x∈arv,0<16000001)->(fill p T arv).next=T.next/\∀i,(fill p T arv).heap.get i=match T.heap.get i with
  |some o=>some o
  |none=>OC p arv i:=by
 intro arv
 induction arv with
 |nil=>intro T _;refine⟨rfl,fun i=> ?_⟩;simp only[fill,OC];cases T.heap.get i<;>rfl
 |cons x r ih=>
  intro T hb
  obtain⟨j,id,b⟩:=x
  have gn:=hb (j,id,b) (List.mem_cons_self ..)
  have hr:∀x∈r,0<16000001:=fun x hx=>hb x (List.mem_cons_of_mem _ hx)
  simp only[fill]
  split
  ·rename_i hp hg
   obtain⟨h1,h2⟩:=ih (T.put id (.dK b)) hr
   refine⟨h1,fun i=> ?_⟩
   rw[h2 i]
   by_cases hi:id=i
   ·subst hi
    simp only[aq.put,Tr.bp _ _ _ _ (deep gn),hg,OC,hp,and_self,if_true]
   ·rw[aq.bD _ _ _ _ hi]
    simp only[OC,hi,and_false,if_false]
  ·rename_i ck
   obtain⟨h1,h2⟩:=ih T hr
   refine⟨h1,fun i=> ?_⟩
   rw[h2 i]
   cases hg:T.heap.get i with
   |some o=>rfl
   |none=>
    simp only[OC]
    split
    ·rename_i Ow
     obtain⟨hp,rfl⟩:=Ow
     exact absurd hg (ck hp)
    ·rfl
theorem Bv {p:Nat->Bool}:∀{arv:Made} {i:Nat},(∀x∈arv,x.2.1≠i)->OC p arv i=none
 |[],_,_=>rfl
 |(j,id,b)::r,i,h=>by
  have h1:=h (j,id,b) (List.mem_cons_self ..)
  simp only[OC,if_neg (fun e=>h1 e.2:¬(p j=true/\id=i))]
  exact Bv (fun x hx=>h x (List.mem_cons_of_mem _ hx))
theorem vN {p:Nat->Bool}:∀{arv:Made} {i:Nat} {o:AO},OC p arv i=some o->∃j b,(j,i,b)∈arv/\p j=true/\o= .dK b
 |[],_,_,h=>by cases h
 |(j,id,b)::r,i,o,h=>by
  simp only[OC] at h
  split at h
  ·rename_i hp
   obtain⟨hp,rfl⟩:=hp
   injection h with h
   exact⟨j,b,List.mem_cons_self ..,hp,h.symm⟩
  ·obtain⟨j',b',h1,h2,h3⟩:=vN h
   exact⟨j',b',List.mem_cons_of_mem _ h1,h2,h3⟩
theorem ct.fill {T T' :aq}{X:Nat->Option AO}(h:ct T T' X)(hw:WF T){arv:Made}(gn:∀x∈arv,x.2.1<T.next/\X x.2.1=none)(p:Nat->Bool):ct (fill p T arv) (fill p T' arv) X:=by
 have hs:∀x∈arv,0<16000001:=fun x hx=>by have:=(gn x hx).1;have:=hw.room;omega
 obtain⟨n1,g1⟩:=vM p arv T hs
 obtain⟨n2,g2⟩:=vM p arv T' hs
 refine⟨by rw[n1,n2,h.next],fun j o hj=> ?_,fun j=> ?_⟩
 ·obtain⟨h1,h2⟩:=h.free j o hj
  refine⟨?_,by rw[n1];exact h2⟩
  rw[g1 j,h1]
  exact Bv fun x hx e=>by have:=(gn x hx).2;rw[e] at this;rw[hj] at this;cases this
 ·rw[g2 j,g1 j,h.get j]
  cases hx:X j with
  |some o=>rfl
  |none=>rfl
structure fk (B:Nat) (s t:aq):Prop where
 next:s.next<=t.next
 gone:∀j,j<B->s.heap.get j=none->t.heap.get j=none
 here:∀j,s.heap.get j≠none->t.heap.get j≠none
 wf:WF t
theorem fk.trans {B:Nat}{s t u:aq}(h:fk B s t)(k:fk B t u):fk B s u:=
 ⟨Nat.le_trans h.next k.next,fun j hj hn=>k.gone j hj (h.gone j hj hn),fun j hj=>k.here j (h.here j hj),k.wf⟩
theorem fk.refl {B:Nat}{s:aq}(h:WF s):fk B s s:=⟨Nat.le_refl _,fun _ _ h=>h,fun _ h=>h,h⟩
theorem bN.toB {B:Nat}{s t:aq}(h:bN s t)(hB:B<=s.next):fk B s t:=⟨h.next,fun j hj=>h.gone j (by omega),h.here,h.wf⟩
theorem fk.fill {B:Nat}{T:aq}(hw:WF T){arv:Made}(gn:∀x∈arv,B<=x.2.1/\x.2.1<T.next)(p:Nat->Bool):fk B T (fill p T arv):=by
 have hs:∀x∈arv,0<16000001:=fun x hx=>by have:=(gn x hx).2;have:=hw.room;omega
 obtain⟨n1,g1⟩:=vM p arv T hs
 refine⟨by rw[n1];exact Nat.le_refl _,fun j hj hn=> ?_,fun j hj=> ?_,⟨hw.room,fun j o hj=> ?_⟩⟩
 ·rw[g1 j,hn]
  exact Bv fun x hx e=>by have:=(gn x hx).1;omega
 ·rw[g1 j]
  cases hg:T.heap.get j with
  |none=>exact absurd hg hj
  |some o=>simp
 ·rw[g1 j] at hj
  rw[n1]
  cases hg:T.heap.get j with
  |some o=>exact hw.bound j o hg
  |none=>
   rw[hg] at hj
   obtain⟨j',b,h1,_,_⟩:=vN hj
   exact(gn _ h1).2
def EvR (X:Nat->Option AO)(B:Nat)(T:aq):Ev->Ev->Prop
 | .skip,.skip=>True
 | .quiet v,.quiet u=>v=u
 | .made v i b,.made v' i' b' =>v=v' /\i=i' /\b=b'
 | .DV v s,.DV v' s' =>v=v' /\ct s s' X/\fk B T s
 |_,_=>False
theorem QD {P:Program}{call:Call}(hc:kC call){all:List Oper}{m id:Nat}{arv:Made}{o:Oper}{f:aT}{T T' :aq}{X:Nat->Option AO}{B:Nat}{e:Ev}
  (h:ct T T' X) (hw:WF T) (hB:B<=T.next) (gn:∀x∈arv,B<=x.2.1/\x.2.1<T.next/\X x.2.1=none) (hd:dL P call all m id arv o f T=some e):
  ∃e',dL P call all m id arv o f T' =some e' /\EvR X B T e e' :=by
 have hf:=h.fill hw (fun x hx=>(gn x hx).2) (Nat.testBit m)
 have kf:=fk.fill (B:=B) hw (fun x hx=>⟨(gn x hx).1,(gn x hx).2.1⟩) (Nat.testBit m)
 have hBn:B<=(fill (Nat.testBit m) T arv).next:=Nat.le_trans hB kf.next
 unfold dL at*
 split at hd
 ·injection hd with hd;subst hd;exact⟨.skip,rfl,trivial⟩
 ·split at hd
  ·rename_i hq
   split at hd
   ·rename_i v t fE
    injection hd with hd;subst hd
    obtain⟨t',k1,_,_⟩:=j6 hf kf.wf fE
    exact⟨.quiet v,by simp only[k1],rfl⟩
   ·cases hd
  ·exact⟨e,hd,by
    split at hd
    ·split at hd
     ·injection hd with hd;subst hd;exact⟨rfl,rfl,rfl⟩
     ·cases hd
    ·cases hd⟩
  ·split at hd
   ·rename_i v t fE
    injection hd with hd;subst hd
    obtain⟨t',k1,k2,k3⟩:=j6 hf kf.wf fE
    exact⟨.DV v t',by simp only[k1],rfl,k2,kf.trans (k3.toB hBn)⟩
   ·rename_i g args fE
    have k1:=j6 hf kf.wf fE
    simp only[Mh] at k1
    split at hd
    ·rename_i v t jH
     injection hd with hd;subst hd
     obtain⟨t1,c1,c2,c3⟩:=hc _ _ _ _ _ _ _ hf kf.wf jH
     exact⟨.DV v t1,by simp only[k1,c1],rfl,c2,kf.trans (c3.toB hBn)⟩
    ·cases hd
   ·cases hd
theorem EvR.val {X:Nat->Option AO}{B:Nat}{T:aq}{e e' :Ev}(h:EvR X B T e e'):e'.val=e.val:=by
 cases e<;>cases e' <;>simp_all[EvR,Ev.val]
def EvS:Ev->Ev->Prop
 | .skip,.skip=>True
 | .quiet v,.quiet u=>v=u
 | .made v i b,.made v' i' b' =>v=v' /\i=i' /\b=b'
 | .DV v _,.DV v' _=>v=v'
 |_,_=>False
def EsS:List Ev->List Ev->Prop
 |[],[]=>True
 |e::r,e' ::r' =>EvS e e' /\EsS r r'
 |_,_=>False
def E3 (X:Nat->Option AO)(B:Nat)(T:aq):List aq->List aq->Prop
 |[],[]=>True
 |s::r,s' ::r' =>(ct s s' X/\fk B T s)/\E3 X B T r r'
 |_,_=>False
theorem E3.mono {X:Nat->Option AO}{B:Nat}{T U:aq}(h:fk B T U):∀{l l' :List aq},E3 X B U l l' ->E3 X B T l l'
 |[],[],_=>trivial
 |_::_,_::_,⟨⟨h1,h2⟩,h3⟩=>⟨⟨h1,h.trans h2⟩,E3.mono h h3⟩
 |[],_::_,k=>k
 |_::_,[],k=>k
theorem E3.take {X:Nat->Option AO}{B:Nat}{T:aq}:∀(n:Nat) {l l' :List aq},E3 X B T l l' ->E3 X B T (l.take n) (l'.take n)
 |0,_,_,_=>trivial
 |_+1,[],[],_=>trivial
 |n+1,_::_,_::_,⟨h1,h2⟩=>⟨h1,E3.take n h2⟩
 |_+1,[],_::_,k=>k
 |_+1,_::_,[],k=>k
theorem E3.drop {X:Nat->Option AO}{B:Nat}{T:aq}:∀(n:Nat) {l l' :List aq},E3 X B T l l' ->E3 X B T (l.drop n) (l'.drop n)
 |0,_,_,h=>h
 |_+1,[],[],_=>trivial
 |n+1,_::_,_::_,⟨_,h2⟩=>E3.drop n h2
 |_+1,[],_::_,k=>k.elim
 |_+1,_::_,[],k=>k.elim
theorem E3.last {X:Nat->Option AO}{B:Nat}{T:aq}:∀{l l' :List aq} {d d' :aq},E3 X B T l l' ->ct d d' X->fk B T d->ct (l.getLastD d) (l'.getLastD d') X/\fk B T (l.getLastD d)
 |[],[],_,_,_,h,k=>⟨h,k⟩
 |s::r,s' ::r',d,d',⟨h1,h2⟩,_,_=>by
  rw[List.getLastD_cons,List.getLastD_cons]
  exact E3.last h2 h1.1 h1.2
 |[],_::_,_,_,k,_,_=>k.elim
 |_::_,[],_,_,k,_,_=>k.elim
theorem Mi {P:Program}{call:Call}(hc:kC call){all:List Oper}{X:Nat->Option AO}{B:Nat}(hX:∀j o,X j=some o->j<B):∀(ms:List Nat) (ops:List Oper) (i id:Nat) (f:aT) (T T' :aq) (arv:Made) (es:List Ev),
  ct T T' X->WF T->B<=id->id+aP P ops<=T.next->(∀x∈arv,B<=x.2.1/\x.2.1<T.next)->cG P call all ms ops i id f T arv=some es->
  ∃fz,cG P call all ms ops i id f T' arv=some fz/\EsS es fz/\E3 X B T (aF P ops es T) (aF P ops fz T')/\∀x∈madeOf es i,B<=x.2.1/\x.2.1<id+aP P ops:=by
 intro ms
 induction ms with
 |nil=>
  intro ops i id f T T' arv es h hw _ _ _ hd
  cases ops<;>(simp only[cG] at hd|-;injection hd with hd;subst hd;exact⟨[],rfl,trivial,⟨⟨h,fk.refl hw⟩,trivial⟩,fun x hx=>by cases hx⟩)
 |cons m ms ih=>
  intro ops i id f T T' arv es h hw hB hn has hd
  cases ops with
  |nil=>simp only[cG] at hd|-;injection hd with hd;subst hd;exact⟨[],rfl,trivial,⟨⟨h,fk.refl hw⟩,trivial⟩,fun x hx=>by cases hx⟩
  |cons o ops=>
   simp only[cG] at hd|-
   have hXn:∀k,B<=k->X k=none:=fun k hk=>by
    cases hx:X k with
    |none=>rfl
    |some o=>have:=hX k o hx;omega
   split at hd
   ·rename_i e he
    split at hd
    ·rename_i f' hp
     split at hd
     ·rename_i IE tT
      injection hd with hd;subst hd
      have hBT:B<=T.next:=by omega
      obtain⟨e',Ad,hr⟩:=QD hc h hw hBT (fun x hx=>⟨(has x hx).1,(has x hx).2,hXn _ (has x hx).1⟩) he
      rw[Ad]
      simp only[hr.val,hp]
      have hmk:∀v d b,e= .made v d b->d=id/\aK P o=true:=by
       intro v d b hee
       subst hee
       unfold dL at he
       split at he
       ·cases he
       ·split at he
        ·split at he<;>cases he
        ·rename_i _ ha
         split at he
         ·split at he
          ·injection he with he;injection he with _ e2 _;exact⟨e2.symm,ha⟩
          ·cases he
         ·cases he
        ·split at he
         ·cases he
         ·split at he<;>cases he
         ·cases he
      have Tl:aP P (o::ops)=if aK P o then aP P ops+1 else aP P ops:=rfl
      have Hv:B<=(if aK P o then id+1 else id):=by split<;>omega
      have Tm:(if aK P o then id+1 else id)+aP P ops=id+aP P (o::ops):=by rw[Tl];split<;>omega
      have jZ:∀{x:Nat×Nat×jE},(B<=x.2.1/\x.2.1<(if aK P o then id+1 else id)+aP P ops)->B<=x.2.1/\x.2.1<id+aP P (o::ops):=fun h=>⟨h.1,by rw[<-Tm];exact h.2⟩
      cases e with
      |skip=>
       cases e' <;>try exact hr.elim
       obtain⟨fz,j1,j2,j3,j4⟩:=ih ops (i+1) _ f' T T' arv IE h hw Hv (by rw[Tm];exact hn) has tT
       simp only[j1]
       refine⟨_,rfl,⟨trivial,j2⟩,?_,fun x hx=>jZ (j4 x hx)⟩
       simp only[aF]
       split
       ·exact⟨⟨h,fk.refl hw⟩,j3⟩
       ·exact j3
      |quiet v=>
       cases e' <;>try exact hr.elim
       obtain⟨fz,j1,j2,j3,j4⟩:=ih ops (i+1) _ f' T T' arv IE h hw Hv (by rw[Tm];exact hn) has tT
       simp only[j1]
       refine⟨_,rfl,⟨hr,j2⟩,?_,fun x hx=>jZ (j4 x hx)⟩
       simp only[aF]
       split
       ·exact⟨⟨h,fk.refl hw⟩,j3⟩
       ·exact j3
      |made v d b=>
       cases e' <;>try exact hr.elim
       obtain⟨rfl,rfl,rfl⟩:=hr
       obtain⟨rfl,ha⟩:=hmk v d b rfl
       have aev:d<d+aP P (o::ops):=by rw[Tl,if_pos ha];omega
       have lN:B<=d/\d<T.next:=⟨hB,by omega⟩
       obtain⟨fz,j1,j2,j3,j4⟩:=ih ops (i+1) _ f' T T' (arv++[(i,d,b)]) IE h hw Hv (by rw[Tm];exact hn) (fun x hx=>by
        rcases List.mem_append.1 hx with h' |h'
        ·exact has x h'
        ·obtain rfl:=List.mem_singleton.1 h';exact lN) tT
       simp only[j1]
       refine⟨_,rfl,⟨⟨rfl,rfl,rfl⟩,j2⟩,?_,fun x hx=> ?_⟩
       ·simp only[aF]
        split
        ·exact⟨⟨h,fk.refl hw⟩,j3⟩
        ·exact j3
       ·simp only[madeOf] at hx
        rcases List.mem_cons.1 hx with rfl|hx
        ·exact⟨hB,aev⟩
        ·exact jZ (j4 x hx)
      |DV v s=>
       cases e' <;>try exact hr.elim
       rename_i v' s'
       obtain⟨rfl,ou,gr⟩:=hr
       have im:T.next<=s.next:=gr.next
       obtain⟨fz,j1,j2,j3,j4⟩:=ih ops (i+1) _ f' s s' arv IE ou gr.wf Hv (by rw[Tm];omega) (fun x hx=>⟨(has x hx).1,by have:=(has x hx).2;omega⟩) tT
       simp only[j1]
       refine⟨_,rfl,⟨rfl,j2⟩,?_,fun x hx=>jZ (j4 x hx)⟩
       simp only[aF]
       exact⟨⟨h,fk.refl hw⟩,j3.mono gr⟩
     ·cases hd
    ·cases hd
   ·cases hd
theorem E4:∀{es fz:List Ev} (i:Nat),EsS es fz->madeOf fz i=madeOf es i
 |[],[],_,_=>rfl
 |e::r,e' ::r',i,⟨h1,h2⟩=>by
  have:=E4 (i+1) h2
  cases e<;>cases e' <;>first
   |exact h1.elim
   |(obtain⟨rfl,rfl,rfl⟩:=h1;simp only[madeOf,this])
   |simp only[madeOf,this]
 |[],_::_,_,h=>h.elim
 |_::_,[],_,h=>h.elim
theorem EvS.val {e e' :Ev}(h:EvS e e'):e'.val=e.val:=by
 cases e<;>cases e' <;>simp_all[EvS,Ev.val]
theorem yY:∀{es fz:List Ev} (ops:List Oper) (f:aT),EsS es fz->cL ops fz f=cL ops es f
 |[],[],ops,f,_=>rfl
 |e::r,e' ::r',[],f,_=>rfl
 |e::r,e' ::r',o::ops,f,⟨h1,h2⟩=>by
  simp only[cL,h1.val]
  cases kr f o.dst e.val with
  |none=>rfl
  |some f' =>exact yY ops f' h2
 |[],_::_,_,_,h=>h.elim
 |_::_,[],_,_,h=>h.elim
theorem E5 {P:Program}{m:Nat}{arv:Made}{o:Oper}{f:aT}{v:Value}{X:Nat->Option AO}{B:Nat}{T:aq}(gn:∀x∈arv,B<=x.2.1/\x.2.1<T.next/\X x.2.1=none):∀{l l' :List aq},E3 X B T l l' ->sameAt P m arv o f v l=true->sameAt P m arv o f v l' =true
 |[],[],_,h=>h
 |s::r,s' ::r',⟨⟨h1,h2⟩,h3⟩,h=>by
  have uA:∀x∈arv,B<=x.2.1/\x.2.1<s.next/\X x.2.1=none:=fun x hx=>⟨(gn x hx).1,by have:=(gn x hx).2.1;have:=h2.next;omega,(gn x hx).2.2⟩
  have hf:=h1.fill h2.wf (fun x hx=>(uA x hx).2) (Nat.testBit m)
  have kf:=fk.fill (B:=B) h2.wf (fun x hx=>⟨(uA x hx).1,(uA x hx).2.1⟩) (Nat.testBit m)
  simp only[sameAt] at h|-
  split at h
  ·rename_i u t fE
   obtain⟨t',k1,_,_⟩:=j6 hf kf.wf fE
   simp only[k1]
   rw[Bool.and_eq_true] at h|-
   exact⟨h.1,E5 gn h3 h.2⟩
  ·cases h
 |[],_::_,h,_=>h.elim
 |_::_,[],h,_=>h.elim
theorem Jc {P:Program}{all:List Oper}{ms:List Nat}{arv:Made}{X:Nat->Option AO}{B:Nat}{T:aq}(gn:∀x∈arv,B<=x.2.1/\x.2.1<T.next/\X x.2.1=none){l l' :List aq}(aD:E3 X B T l l'):
  ∀(mr:List Nat) (ops:List Oper) (es fz:List Ev) (i:Nat) (f:aT),EsS es fz->cr P all ms arv l mr ops es i f=true->cr P all ms arv l' mr ops fz i f=true:=by
 intro mr
 induction mr with
 |nil=>intro ops es fz i f _ h;simp only[cr]
 |cons m mr ih=>
  intro ops es fz i f Au h
  cases ops with
  |nil=>simp only[cr]
  |cons o ops=>
   cases es with
   |nil=>cases fz with
    |nil=>exact h
    |cons _ _=>exact Au.elim
   |cons e es=>
    cases fz with
    |nil=>exact Au.elim
    |cons e' fz=>
     obtain⟨h1,h2⟩:=Au
     simp only[cr,Bool.and_eq_true] at h|-
     rw[h1.val]
     obtain⟨ha,hb⟩:=h
     refine⟨?_,?_⟩
     ·cases e<;>cases e' <;>first
       |exact h1.elim
       |rfl
       |skip
      rename_i v v'
      obtain rfl:v=v' :=h1
      exact E5 gn ((aD.take _).drop _) ha
     ·cases hp:kr f o.dst e.val with
      |none=>rw[hp] at hb;cases hb
      |some f' =>rw[hp] at hb;exact ih ops es fz (i+1) f' h2 hb
theorem ct.up {s s' :aq}{X:Nat->Option AO}(h:ct s s' X)(n:Nat):ct ⟨s.heap,s.next+n⟩ ⟨s'.heap,s'.next+n⟩ X:=
 ⟨by simp only[h.next],fun j o hj=>⟨(h.free j o hj).1,by have:=(h.free j o hj).2;simp only;omega⟩,h.get⟩
theorem Bw {P:Program}{call:Call}(hc:kC call){ops:List Oper}{f f1:aT}{s s' t:aq}{X:Nat->Option AO}(h:ct s s' X)(hw:WF s)(hr:fj P call ops f s=some (f1,t)):
  ∃t',fj P call ops f s' =some (f1,t')/\ct t t' X/\bN s t:=by
 unfold fj at*
 rw[h.next]
 split at hr
 ·cases hr
 rename_i hle
 split at hr
 case h_2=>cases hr
 rename_i es hd
 split at hr
 case h_2=>cases hr
 rename_i SE
 injection hr with hr;injection hr with e1 e2;subst e1;subst e2
 have aee:0<=16000000:=by omega
 have hwu:WF ⟨s.heap,s.next+aP P ops⟩:=⟨aee,fun j o hj=>by have:=hw.bound j o hj;simp only;omega⟩
 have hup:=h.up (aP P ops)
 rw[h.next] at hup
 have hX:∀j o,X j=some o->j<s.next:=fun j o hj=>(h.free j o hj).2
 obtain⟨fz,k1,k2,k3,k4⟩:=Mi hc hX _ ops 0 s.next f _ _ [] es hup hwu (Nat.le_refl _) (Nat.le_refl _) (fun x hx=>by cases hx) hd
 have hXn:∀k,s.next<=k->X k=none:=fun k hk=>by
  cases hx:X k with
  |none=>rfl
  |some o=>have:=hX k o hx;omega
 have gn:∀x∈madeOf es 0,s.next<=x.2.1/\x.2.1<(⟨s.heap,s.next+aP P ops⟩:aq).next/\X x.2.1=none:=fun x hx=>⟨(k4 x hx).1,(k4 x hx).2,hXn _ (k4 x hx).1⟩
 simp only[k1,E4 0 k2,Jc gn k3 _ ops es fz 0 f k2 SE,yY ops f k2]
 have hlen:∀(ops:List Oper) (es:List Ev) (T:aq),aF P ops es T≠[]:=by
  intro ops
  induction ops with
  |nil=>intro es T;cases es<;>simp[aF]
  |cons o ops ih=>
   intro es T
   cases es with
   |nil=>simp[aF]
   |cons e es=>
    simp only[aF]
    cases e<;>first
     |(simp;done)
     |(dsimp only;split<;>first|(simp;done)|exact ih _ _)
 obtain⟨a1,a2⟩:ct ((aF P ops es ⟨s.heap,s.next+aP P ops⟩).getLastD s) ((aF P ops fz ⟨s'.heap,s.next+aP P ops⟩).getLastD s') X/\fk s.next ⟨s.heap,s.next+aP P ops⟩ ((aF P ops es ⟨s.heap,s.next+aP P ops⟩).getLastD s):=by
  have:=hlen ops es ⟨s.heap,s.next+aP P ops⟩
  have:=hlen ops fz ⟨s'.heap,s.next+aP P ops⟩
  generalize aF P ops es ⟨s.heap,s.next+aP P ops⟩=l at*
  generalize aF P ops fz ⟨s'.heap,s.next+aP P ops⟩=l' at*
  cases l with
  |nil=>contradiction
  |cons x r=>
   cases l' with
   |nil=>contradiction
   |cons x' r' =>
    rw[List.getLastD_cons,List.getLastD_cons]
    exact E3.last k3.2 k3.1.1 k3.1.2
 have qb:∀x∈madeOf es 0,s.next<=x.2.1/\x.2.1<((aF P ops es ⟨s.heap,s.next+aP P ops⟩).getLastD s).next:=fun x hx=>⟨(gn x hx).1,Nat.lt_of_lt_of_le (gn x hx).2.1 a2.next⟩
 refine⟨_,rfl,a1.fill a2.wf (fun x hx=>⟨(qb x hx).2,(gn x hx).2.2⟩) _,?_⟩
 have kk:=a2.trans (fk.fill a2.wf qb (fun _=>true))
 exact⟨Nat.le_trans (Nat.le_add_right _ _) kk.next,kk.gone,kk.here,kk.wf⟩
def Tn (ex:Code->aT->aq->Out):Prop:=∀(c:Code) (f f1:aT) (x:AX) (s s' t:aq) (X:Nat->Option AO),ct s s' X->WF s->ex c f s=some (x,f1,t)->∃t',ex c f s' =some (x,f1,t')/\ct t t' X/\bN s t
theorem rV {P:Program}{f:aT}{s s' :aq}{X:Nat->Option AO}(h:ct s s' X):∀{l:List ResultVar} {vs:List Value},cy P f s l=some vs->cy P f s' l=some vs:=by
 intro l
 induction l with
 |nil=>intro vs hv;exact hv
 |cons r l ih=>
  intro vs hv
  cases r with
  |tmp t=>
   simp only[cy] at hv|-
   split at hv
   ·rename_i ht
    rw[if_pos ht]
    split at hv
    ·rename_i m hm;rw[ih hm];exact hv
    ·cases hv
   ·cases hv
  |cell a t=>
   simp only[cy] at hv|-
   split at hv
   ·rename_i ht
    rw[if_pos ht]
    split at hv
    ·rename_i v m h1 h2;rw[Ja h h1,ih h2];exact hv
    ·cases hv
   ·cases hv
def xO (p:Prim):Prop:=∀(s s' :aq) (X:Nat->Option AO) (args:List Value) (v:Value) (t:aq),ct s s' X->WF s->p args s=some (v,t)->∃t',p args s' =some (v,t')/\ct t t' X/\bN s t
def ly (lib:az):Prop:=∀g p,lib.at g=some p->xO p
theorem ly.nil:ly []:=fun _ _ h=>by cases h
theorem rW {P:Program}{lib:az}(hl:ly lib){ex:Code->aT->aq->Out}(he:Tn ex):kC (dP P lib ex):=by
 intro s s' X g args v t h hw hc
 unfold dP at*
 split at hc
 ·rename_i p hp
  exact hl g p hp _ _ _ _ _ _ h hw hc
 split at hc
 case h_2=>cases hc
 split at hc
 case h_2=>cases hc
 split at hc
 ·rename_i f s1 hx
  obtain⟨t',k1,k2,k3⟩:=he _ _ _ _ _ _ _ _ h hw hx
  simp only[k1]
  split at hc
  ·rename_i l hl
   injection hc with hc;injection hc with e1 e2;subst e1;subst e2
   exact⟨t',by rw[rV k2 hl],k2,k3⟩
  ·cases hc
 ·rename_i f s1 hx
  obtain⟨t',k1,k2,k3⟩:=he _ _ _ _ _ _ _ _ h hw hx
  simp only[k1]
  split at hc
  ·rename_i l hl
   injection hc with hc;injection hc with e1 e2;subst e1;subst e2
   exact⟨t',by rw[rV k2 hl],k2,k3⟩
  ·cases hc
 ·cases hc
theorem OD {P:Program}{lib:az}(hl:ly lib):∀n,Tn (exec P lib n):=by
 intro n
 induction n with
 |zero=>intro c f f1 x s s' t X _ _ h;simp[exec] at h
 |succ n ih=>
  have hc:=rW (P:=P) hl ih
  intro c f f1 x s s' t X h hw hx
  have leaf:∀y,some (y,f,s)=some (x,f1,t)->∃t',some (y,f,s')=some (x,f1,t')/\ct t t' X/\bN s t:=by
   intro y e
   injection e with e;injection e with e1 e2;injection e2 with e2 e3;subst e1;subst e2;subst e3
   exact⟨s',rfl,h,bN.refl hw⟩
  have two:∀(a b:Code),(match exec P lib n a f s with
    |some (.normal,f',s')=>exec P lib n b f' s'
    |r=>r)=some (x,f1,t)->∃t',(match exec P lib n a f s' with
    |some (.normal,f',s')=>exec P lib n b f' s'
    |r=>r)=some (x,f1,t')/\ct t t' X/\bN s t:=by
   intro a b hx
   split at hx
   ·rename_i f2 s2 h1
    obtain⟨t2,k1,k2,k3⟩:=ih _ _ _ _ _ _ _ _ h hw h1
    obtain⟨t',j1,j2,j3⟩:=ih _ _ _ _ _ _ _ _ k2 k3.wf hx
    exact⟨t',by simp only[k1];exact j1,j2,k3.trans j3⟩
   ·rename_i hn
    obtain⟨t',k1,k2,k3⟩:=ih _ _ _ _ _ _ _ _ h hw hx
    refine⟨t',?_,k2,k3⟩
    rw[k1]
    cases x with
    |normal=>exact absurd hx (hn _ _)
    |exit _=>rfl
    |ret=>rfl
  cases c<;>simp only[exec,step] at hx|-
  case skip=>exact leaf _ hx
  case label l=>exact leaf _ hx
  case exit id=>exact leaf _ hx
  case ret=>exact leaf _ hx
  case region id ops d=>
   cases d with
   |false=>
    simp only at hx|-
    split at hx
    ·rename_i f2 s2 h1
     injection hx with e;injection e with e1 e2;injection e2 with e2 e3;subst e1;subst e2;subst e3
     obtain⟨t',k1,k2,k3⟩:=QC hc _ _ h hw h1
     exact⟨t',by rw[k1],k2,k3⟩
    ·cases hx
   |true=>
    simp only at hx|-
    split at hx
    ·rename_i f2 s2 h1
     injection hx with e;injection e with e1 e2;injection e2 with e2 e3;subst e1;subst e2;subst e3
     obtain⟨t',k1,k2,k3⟩:=Bw hc h hw h1
     exact⟨t',by rw[k1],k2,k3⟩
    ·cases hx
  case seq a b=>exact two a b hx
  case loop a=>exact two a _ hx
  case scope a=>exact ih _ _ _ _ _ _ _ _ h hw hx
  case cond y a b=>
   split at hx
   ·rename_i b0 hy
    split at hx<;>exact ih _ _ _ _ _ _ _ _ h hw hx
   ·cases hx
  case block id a=>
   split at hx
   ·rename_i j f2 s2 h1
    obtain⟨t2,k1,k2,k3⟩:=ih _ _ _ _ _ _ _ _ h hw h1
    simp only[k1]
    split at hx<;>
    ·rename_i hj
     injection hx with e;injection e with e1 e2;injection e2 with e2 e3;subst e1;subst e2;subst e3
     exact⟨t2,by simp only[hj,if_true,if_false,Bool.false_eq_true],k2,k3⟩
   ·rename_i hn
    obtain⟨t',k1,k2,k3⟩:=ih _ _ _ _ _ _ _ _ h hw hx
    refine⟨t',?_,k2,k3⟩
    rw[k1]
    cases x with
    |normal=>rfl
    |exit _=>exact absurd hx (hn _ _ _)
    |ret=>rfl
  all_goals cases hx
theorem Jd {P:Program}{lib:az}(hl:ly lib)(n:Nat):kC (gV P lib n):=rW hl (OD hl n)
end Go.Cl
namespace Go.Cl
open Go.RowKit
theorem Je {f g:aT}(hn:f.n=g.n){x:Operand}(h:∀t:Nat,x= .tmp t->f.get t=g.get t):aO f x=aO g x:=by
 cases x with
 |tmp t=>simp only[aO,hn,h t rfl]
 |const v=>rfl
 |global v=>rfl
 |func v=>rfl
theorem kY {f g:aT}:∀{l:List Operand},(∀x∈l,aO f x=aO g x)->ad f l=ad g l
 |[],_=>rfl
 |x::r,h=>by
  simp only[ad,h x (List.mem_cons_self ..),kY (fun y hy=>h y (List.mem_cons_of_mem _ hy))]
theorem qc {f g:aT}:∀{l:List (Nat×Operand)},(∀x∈l,aO f x.2=aO g x.2)->ae f l=ae g l
 |[],_=>rfl
 |x::r,h=>by
  obtain⟨i,x⟩:=x
  simp only[ae,h (i,x) (List.mem_cons_self ..),qc (fun y hy=>h y (List.mem_cons_of_mem _ hy))]
theorem uB {f g:aT}{x:Option Operand}(h:∀y,x=some y->aO f y=aO g y):ai f x=ai g x:=by
 cases x with
 |none=>rfl
 |some y=>simp only[ai,h y rfl]
theorem QE {P:Program}{o:Oper}{f g:aT}(hn:f.n=g.n)(h:∀t:Nat,Operand.tmp t∈o.op.operands.toList->f.get t=g.get t)(s:aq):cM P o f s=cM P o g s:=by
 have ev:∀x∈o.op.operands.toList,aO f x=aO g x:=fun x hx=>Je hn (fun t ht=>h t (by rw[<-ht];exact hx))
 clear h
 obtain⟨dst,op,type,pos,after,guard⟩:=o
 cases op<;>simp only[Op.operands] at ev
 case call c=>
  obtain⟨callee,args,ts⟩:=c
  have ea:ad f args.toList=ad g args.toList:=kY (fun x hx=>ev x (by simp only[Call.operands,Array.toList_append];exact List.mem_append_right _ hx))
  cases callee with
  |value y=>
   have ey:=ev y (by simp[Call.operands])
   simp only[cM,ea,ey]
  |builtin b=>simp only[cM,ea]
  |invoke y m=>simp only[cM,ea]
 case makeFunc fn first captured=>
  have e1:ad f first.toList=ad g first.toList:=kY (fun x hx=>ev x (by rw[Array.toList_append];exact List.mem_append_left _ hx))
  have e2:ad f captured.toList=ad g captured.toList:=kY (fun x hx=>ev x (by rw[Array.toList_append];exact List.mem_append_right _ hx))
  cases fn<;>simp only[cM,e1,e2]
 case build t ps=>
  have e1:ae f ps.toList=ae g ps.toList:=qc (fun x hx=>ev x.2 (by simpa using⟨x.1,by simpa using hx⟩))
  simp only[cM,e1]
 case buildSlice t n ps=>
  have e1:ae f ps.toList=ae g ps.toList:=qc (fun x hx=>ev x.2 (by simpa using⟨x.1,by simpa using hx⟩))
  simp only[cM,e1]
 case slice t x l hi m=>
  have e0:=ev x (by simp)
  have e1:ai f l=ai g l:=uB (fun y hy=>ev y (by simp[hy]))
  have e2:ai f hi=ai g hi:=uB (fun y hy=>ev y (by simp[hy]))
  have e3:ai f m=ai g m:=uB (fun y hy=>ev y (by simp[hy]))
  simp only[cM,e0,e1,e2,e3]
 all_goals first
  |rfl
  |(simp only[cM];simp at ev;simp only[ev];done)
  |(simp at ev;obtain⟨e1,e2⟩:=ev;simp only[cM,e1,e2];done)
  |(simp at ev;obtain⟨e1,e2,e3⟩:=ev;simp only[cM,e1,e2,e3];done)
  |(rename_i r;cases r<;>rfl)
theorem Eb {ops:List Oper}{o:Oper}{f g:aT}(hn:f.n=g.n)(h:∀t:Nat,t∈xE ops o->f.get t=g.get t):cK ops o f=cK ops o g:=by
 unfold cK
 cases hg:o.guard with
 |none=>rfl
 |some p=>
  obtain⟨j,want⟩:=p
  have:pZ ops f j=pZ ops g j:=by
   unfold pZ
   cases hd:ops.drop j with
   |nil=>rfl
   |cons p r=>
    simp only
    cases hpd:p.dst with
    |none=>rfl
    |some d=>
     simp only[hn]
     rw[h d (by simp[xE,hg,hd,hpd])]
  simp only[this]
theorem To {P:Program}{base:Nat}{S:St}(h:SR base S){f:aT}{a:Act}(hf:FR S f a){o:Oper}(ha:aK P o=true){id:Nat}(eI:mu S id S.s.next){v:Value}{s1:aq}{b:jE}
  (hx:cM P o f ⟨.nil,id⟩=some (.val v s1)) (hb:s1.bA id=some b):
  ∃T v',T.s=S.s.put id (.dK b)/\VR T v v' /\Good base S T/\(execOp a.eval o).run P S.w= .ok (.value v') T.w:=by
 have gn:0<16000001:=by have:=eI.lt;have:=h.room;omega
 have fin:∀(m:Sem Value),execOp a.eval o=(do pure (Next.value (<-m)))->rO P base S m v ⟨.nil,id⟩ s1 S.s.next->∃T v',T.s=S.s.put id (.dK b)/\VR T v v' /\Good base S T/\(execOp a.eval o).run P S.w= .ok (.value v') T.w:=by
  intro m he hd
  obtain⟨b',e,T,v',h1,h2,h3,h4⟩:=hd
  have oT:s1.bA id=some b' :=by rw[e];simp only[aq.bA,aq.new,Tr.bp _ _ _ _ (deep gn)]
  rw[hb] at oT
  obtain rfl:=Option.some.inj oT
  exact⟨T,v',h1,h3,h4,by rw[he];exact OB h2⟩
 have Tp:∀r,nO r=some (.val v s1)->r=some (v,s1):=by
  intro r hr
  cases r with
  |none=>simp[nO] at hr
  |some p=>
   obtain⟨v2,s2⟩:=p
   simp only[nO] at hr
   injection hr with hr;injection hr with e1 e2;rw[e1,e2]
 obtain⟨dst,op,type,pos,after,guard⟩:=o
 cases op<;>try (cases ha;done)
 case alloc e=>
  simp only[cM] at hx
  split at hx
  ·rename_i z hz
   split at hx
   ·rename_i hp
    exact fin _ rfl (I4 h (s0:=⟨.nil,id⟩) eI hz hp (Tp _ hx))
   ·cases hx
  ·cases hx
 case box e y=>
  simp only[cM] at hx
  split at hx
  ·rename_i u hu
   exact fin _ rfl (S5 h (s0:=⟨.nil,id⟩) eI (bt hf hu) (Tp _ hx))
  ·cases hx
 case buildSlice t n ps=>
  simp only[cM] at hx
  split at hx
  ·rename_i l hl
   have m8:aL P ⟨.nil,id⟩ t n l=some (v,s1):=Tp _ hx
   have:=rR (P:=P) h (s0:=⟨.nil,id⟩) (next:=S.s.next) eI (xL hf hl) m8
   have e:(ps.map fun(x:Nat×Operand)=>(x.1,a.eval x.2))=(ps.toList.map fun x=>(x.1,a.eval x.2)).toArray:=by rw[<-Array.toList_inj];simp
   refine fin (Instr.buildSlice t n (ps.map fun(i,x)=>(i,a.eval x))) (by simp only[execOp]) ?_
   rw[e];exact this
  ·cases hx
 case convert s d y=>
  simp only[cM] at hx
  simp only[aK] at ha
  split at hx
  ·rename_i u hu
   exact fin _ rfl (yS h (s0:=⟨.nil,id⟩) eI (bt hf hu) (Tp _ hx) ha)
  ·cases hx
 case makeSlice t y z=>
  simp only[cM] at hx
  split at hx
  ·rename_i u w hu hw
   exact fin (Instr.makeSlice t (a.eval y) (a.eval z)) rfl (tQ h (s0:=⟨.nil,id⟩) eI (bt hf hu) (bt hf hw) (Tp _ hx))
  ·cases hx
theorem Bx {acc:List Nat}:∀{l:List Edge} {m x:Nat},Nat.testBit (p5 acc l m) x=true->Nat.testBit m x=true\/∃e∈l,Region.binds .any e=true/\(x=e.on\/Nat.testBit (cW acc e.on) x=true)
 |[],_,_,h=> .inl h
 |e::r,m,x,h=>by
  simp only[p5] at h
  rcases Bx h with h1|⟨e',h1,h2⟩
  ·split at h1
   ·rename_i hb
    simp only[Nat.testBit_or,Bool.or_eq_true,Nat.testBit_two_pow,decide_eq_true_eq] at h1
    rcases h1 with (h1|h1)|h1
    ·exact .inl h1
    ·exact .inr ⟨e,List.mem_cons_self ..,hb,.inl h1.symm⟩
    ·exact .inr ⟨e,List.mem_cons_self ..,hb,.inr h1⟩
   ·exact .inl h1
  ·exact .inr ⟨e',List.mem_cons_of_mem _ h1,h2⟩
theorem Jf (l m:List Nat):∀i,i<l.length->cW (l++m) i=cW l i:=by
 induction l with
 |nil=>intro i h;simp at h
 |cons x r ih=>
  intro i h
  cases i with
  |zero=>rfl
  |succ k=>exact ih k (by simpa using h)
theorem Xg (l:List Nat)(x:Nat)(m:List Nat):cW (l++x::m) l.length=x:=by
 induction l with
 |nil=>rfl
 |cons _ r ih=>exact ih
theorem mM:∀(ops:List Oper) (acc:List Nat),∃r,cq ops acc=acc++r/\r.length=ops.length
 |[],acc=>⟨[],by simp[cq],rfl⟩
 |o::ops,acc=>by
  obtain⟨r,h1,h2⟩:=mM ops (acc++[p5 acc o.after.toList 0])
  exact⟨p5 acc o.after.toList 0::r,by simp[cq,h1],by simp[h2]⟩
theorem Bz:∀(ops:List Oper) (acc:List Nat) (k:Nat) (o:Oper),ops[k]?=some o->∃Tq,(∀j,j<acc.length+k->cW Tq j=cW (cq ops acc) j)/\cW (cq ops acc) (acc.length+k)=p5 Tq o.after.toList 0
 |[],_,_,_,h=>by simp at h
 |p::ops,acc,0,o,h=>by
  simp only[List.getElem?_cons_zero,Option.some.injEq] at h
  subst h
  obtain⟨r,h1,h2⟩:=mM ops (acc++[p5 acc p.after.toList 0])
  refine⟨acc,fun j hj=> ?_,?_⟩
  ·simp only[cq,h1,List.append_assoc]
   rw[Jf _ _ _ (by simpa using hj)]
  ·simp only[cq,h1,List.append_assoc,Nat.add_zero]
   exact Xg _ _ _
 |p::ops,acc,k+1,o,h=>by
  simp only[List.getElem?_cons_succ] at h
  obtain⟨Tq,h1,h2⟩:=Bz ops (acc++[p5 acc p.after.toList 0]) k o h
  simp only[List.length_append,List.length_singleton] at h1 h2
  refine⟨Tq,fun j hj=> ?_,?_⟩
  ·simp only[cq];exact h1 j (by omega)
  ·simp only[cq];rw[<-h2];congr 1;omega
theorem nR:∀(ops:List Oper) {P:Program} (k k' :Nat) {o:Oper},ops[k]?=some o->aK P o=true->k<k' ->aP P (ops.take k)<aP P (ops.take k')
 |[],_,_,_,_,h,_,_=>by simp at h
 |p::ops,P,0,k' +1,o,h,ha,_=>by
  simp only[List.getElem?_cons_zero,Option.some.injEq] at h
  subst h
  simp[aP,ha]
 |p::ops,P,k+1,k' +1,o,h,ha,hk=>by
  simp only[List.getElem?_cons_succ] at h
  have:=nR ops k k' h ha (by omega)
  simp only[List.take_succ_cons,aP]
  split<;>omega
 |_::_,_,_,0,_,_,_,h=>by omega
theorem rX {P:Program}{p:Nat->Bool}:∀(ops:List Oper) (i:Nat),(∀j,i<=j->p j=false)->countP p P ops i=0
 |[],_,_=>rfl
 |o::r,i,h=>by simp only[countP,h i (Nat.le_refl _),Bool.and_false,Bool.false_eq_true,if_false];exact rX r (i+1) (fun j hj=>h j (by omega))
theorem rY {P:Program}{p q:Nat->Bool}:∀(ops:List Oper) (i:Nat),(∀k o,ops[k]?=some o->bd P o=true->p (i+k)=true->q (i+k)=true)->countP p P ops i<=countP q P ops i
 |[],_,_=>Nat.le_refl _
 |o::r,i,h=>by
  have ih:=rY (p:=p) (q:=q) r (i+1) (fun k o ho he hp=>by have:=h (k+1) o (by simpa using ho) he (by rw[show i+(k+1)=i+1+k by omega];exact hp);rwa [show i+(k+1)=i+1+k by omega] at this)
  have h0:=h 0 o rfl
  simp only[countP]
  cases he:bd P o with
  |false=>simpa [he] using ih
  |true=>
   cases hp:p i with
   |false=>simp only[Bool.true_and,Bool.false_eq_true,if_false];split<;>omega
   |true=>
    have:=h0 he hp
    simp only[Nat.add_zero] at this
    simp[this];exact ih
theorem Ts {f f' :aT}{d:Option Tmp}{v:Value}(h:kr f d v=some f'):f'.n=f.n:=by
 unfold kr at h
 split at h
 ·split at h
  ·injection h with h;subst h;rfl
  ·cases h
 ·injection h with h;subst h;rfl
def Ev.after (e:Ev)(T:aq):aq:=
 match e with
 | .DV _ s=>s
 |_=>T
def Ev.more (e:Ev)(i:Nat)(arv:Made):Made:=
 match e with
 | .made _ d b=>arv++[(i,d,b)]
 |_=>arv
theorem E6 {i j:Nat}(h:i<=j):Nat.blt j i=false:=by
 cases hb:Nat.blt j i
 ·rfl
 ·rw[Nat.blt_eq] at hb;omega
theorem Hw {P:Program}{call:Call}{all:List Oper}:∀(ops:List Oper) (ms:List Nat) (i id:Nat) (f:aT) (T:aq) (arv:Made) (es:List Ev),ms.length=ops.length->cG P call all ms ops i id f T arv=some es->
  es.length=ops.length/\∃(F:Nat->aT) (G:Nat->aq),F 0=f/\G 0=T/\cL ops es f=F ops.length/\
   (∀p,p<=ops.length->(aF P ops es T)[countP (fun j=>Nat.blt j (i+p)) P ops i]?=some (G p))/\(∀d,(aF P ops es T).getLastD d=G ops.length)/\
   ∀k o,ops[k]?=some o->∃e,es[k]?=some e/\dL P call all (cW ms k) (id+aP P (ops.take k)) (arv++madeOf (es.take k) i) o (F k) (G k)=some e/\
    kr (F k) o.dst e.val=some (F (k+1))/\G (k+1)=e.after (G k):=by
 intro ops
 induction ops with
 |nil=>
  intro ms i id f T arv es hl hd
  cases ms with
  |cons _ _=>simp at hl
  |nil=>
   simp only[cG] at hd
   injection hd with hd;subst hd
   exact⟨rfl,fun _=>f,fun _=>T,rfl,rfl,rfl,fun p hp=>rfl,fun d=>rfl,fun k o h=>by simp at h⟩
 |cons o ops ih=>
  intro ms i id f T arv es hl hd
  cases ms with
  |nil=>simp at hl
  |cons m ms=>
   simp only[cG] at hd
   split at hd
   ·rename_i e he
    split at hd
    ·rename_i f' hp
     split at hd
     ·rename_i IE tT
      injection hd with hd;subst hd
      obtain⟨h1,F,G,h2,h3,h4,h5,h6,h7⟩:=ih ms (i+1) _ f' (e.after T) _ IE (by simpa using hl) tT
      have Hy:∀v s,e= .DV v s->bd P o=true:=by
       intro v s hee
       subst hee
       unfold dL at he
       split at he
       ·cases he
       ·split at he
        ·split at he<;>cases he
        ·split at he
         ·split at he<;>cases he
         ·cases he
        ·rename_i hq ha;simp[bd,hq,ha]
      refine⟨by simp[h1],fun k=>match k with|0=>f|k+1=>F k,fun k=>match k with|0=>T|k+1=>G k,rfl,rfl,?_,?_,?_,?_⟩
      ·simp only[cL,hp,List.length_cons];exact h4
      ·intro p Tt
       have aD:aF P (o::ops) (e::IE) T=if bd P o then T::aF P ops IE (e.after T) else aF P ops IE (e.after T):=by
        cases e with
        |DV v s=>simp only[aF,Hy v s rfl,if_true];rfl
        |skip=>rfl
        |quiet _=>rfl
        |made _ _ _=>rfl
       cases p with
       |zero=>
        have h0:=rX (P:=P) (p:=fun j=>Nat.blt j (i+0)) (o::ops) i (fun j hj=>E6 (by omega))
        rw[h0,aD]
        split
        ·rfl
        ·have e0:(e.after T)=T:=by
          rename_i ck
          cases e<;>try rfl
          exact absurd (Hy _ _ rfl) ck
         have:=h5 0 (Nat.zero_le _)
         rw[rX (P:=P) (p:=fun j=>Nat.blt j (i+1+0)) ops (i+1) (fun j hj=>E6 (by omega))] at this
         rw[this,h3,e0]
       |succ p=>
        have:=h5 p (by simpa using Tt)
        have hc:countP (fun j=>Nat.blt j (i+(p+1))) P (o::ops) i=if bd P o then countP (fun j=>Nat.blt j (i+1+p)) P ops (i+1)+1 else countP (fun j=>Nat.blt j (i+1+p)) P ops (i+1):=by
         have e1:(fun j=>Nat.blt j (i+(p+1)))=fun j=>Nat.blt j (i+1+p):=by rw[show i+(p+1)=i+1+p by omega]
         rw[e1]
         simp only[countP]
         have:Nat.blt i (i+1+p)=true:=by simp[Nat.blt_eq];omega
         simp only[this,Bool.and_true]
        rw[hc,aD]
        split
        ·simp only[List.getElem?_cons_succ];exact this
        ·exact this
      ·intro d
       simp only[List.length_cons]
       rw[<-h6 d]
       have ck:aF P ops IE (e.after T)≠[]:=by
        intro hn
        have:=h5 0 (Nat.zero_le _)
        rw[hn] at this;simp at this
       have jS:∀x:aq,(x::aF P ops IE (e.after T)).getLastD d=(aF P ops IE (e.after T)).getLastD d:=by
        intro x
        rw[List.getLastD_cons]
        generalize aF P ops IE (e.after T)=l at ck
        cases l with
        |nil=>exact absurd rfl ck
        |cons y r=>rw[List.getLastD_cons,List.getLastD_cons]
       simp only[aF]
       cases e<;>simp only at jS|- <;>first
        |exact jS T
        |(split
          ·exact jS T
          ·rfl)
      ·intro k o' hk
       cases k with
       |zero=>
        simp only[List.getElem?_cons_zero,Option.some.injEq] at hk
        subst hk
        exact⟨e,rfl,by simpa [cW,aP,madeOf] using he,by simpa [h2] using hp,by simpa using h3⟩
       |succ k=>
        simp only[List.getElem?_cons_succ] at hk
        obtain⟨e',k1,k2,k3,k4⟩:=h7 k o' hk
        refine⟨e',by simpa using k1,?_,k3,k4⟩
        have ea:(if aK P o then id+1 else id)+aP P (ops.take k)=id+aP P ((o::ops).take (k+1)):=by
         simp only[List.take_succ_cons,aP];split<;>omega
        have em:e.more i arv++madeOf (IE.take k) (i+1)=arv++madeOf ((e::IE).take (k+1)) i:=by
         simp only[List.take_succ_cons]
         cases e<;>simp[madeOf,Ev.more]
        rw[<-ea,<-em]
        exact k2
     ·cases hd
    ·cases hd
   ·cases hd
theorem Ec {P:Program}{all:List Oper}{ms:List Nat}{arv:Made}{oX:List aq}:∀(k:Nat) (mr:List Nat) (ops:List Oper) (es:List Ev) (i:Nat) (F:Nat->aT),mr.length=ops.length->cr P all ms arv oX mr ops es i (F 0)=true->
  (∀k o e,ops[k]?=some o->es[k]?=some e->kr (F k) o.dst e.val=some (F (k+1)))->∀o v,ops[k]?=some o->es[k]?=some (.quiet v)->
  sameAt P (cW mr k) arv o (F k) v ((oX.take (countP (fun j=> !Nat.testBit (cW ms j) (i+k)) P all 0+1)).drop (countP (Nat.testBit (cW mr k)) P all 0))=true:=by
 intro k
 induction k with
 |zero=>
  intro mr ops es i F hl h hF o v ho he
  cases ops with
  |nil=>simp at ho
  |cons p ops=>
   cases mr with
   |nil=>simp at hl
   |cons m mr=>
    cases es with
    |nil=>simp at he
    |cons e es=>
     simp only[List.getElem?_cons_zero,Option.some.injEq] at ho he
     subst ho;subst he
     simp only[cr,Bool.and_eq_true] at h
     exact h.1
 |succ k ih=>
  intro mr ops es i F hl h hF o v ho he
  cases ops with
  |nil=>simp at ho
  |cons p ops=>
   cases mr with
   |nil=>simp at hl
   |cons m mr=>
    cases es with
    |nil=>simp at he
    |cons e es=>
     have h0:=hF 0 p e rfl rfl
     simp only[cr,Bool.and_eq_true,h0] at h
     have:=ih mr ops es (i+1) (fun k=>F (k+1)) (by simpa using hl) h.2 (fun k o e ho he=>hF (k+1) o e (by simpa using ho) (by simpa using he)) o v (by simpa using ho) (by simpa using he)
     rw[show i+1+k=i+(k+1) by omega] at this
     exact this
theorem BA {P:Program}{m:Nat}{arv:Made}{o:Oper}{f:aT}{v:Value}:∀{l:List aq} {T:aq},sameAt P m arv o f v l=true->T∈l->∃u t,cM P o f (fill (Nat.testBit m) T arv)=some (.val u t)/\cf v u=true
 |[],_,_,h=>by cases h
 |s::r,T,h,hT=>by
  simp only[sameAt] at h
  split at h
  ·rename_i u t fE
   rw[Bool.and_eq_true] at h
   rcases List.mem_cons.1 hT with rfl|hT
   ·exact⟨u,t,fE,h.1⟩
   ·exact BA h.2 hT
  ·cases h
theorem xP {a b:Value}(h:cN a b=true):a=b:=by
 cases a<;>cases b<;>simp only[cN] at h<;>try (cases h;done)
 all_goals try rfl
 case bool a b=>simpa using h
 case int k a k' b=>
  rw[Bool.and_eq_true] at h
  obtain⟨h1,h2⟩:=h
  split at h1
  ·rename_i e;subst e;rw[beq_iff_eq] at h2;rw[h2]
  ·cases h1
 case string a b=>
  rw[beq_iff_eq] at h
  obtain⟨⟨a⟩⟩:=a
  obtain⟨⟨b⟩⟩:=b
  simp only at h
  rw[h]
 case pointer a b=>split at h<;>first|(rename_i e;rw[e])|cases h
 case map a b=>split at h<;>first|(rename_i e;rw[e])|cases h
 case slice a n c b m d=>
  simp only[Bool.and_eq_true] at h
  obtain⟨⟨h1,h2⟩,h3⟩:=h
  split at h1
  ·rename_i e;rw[e,Nat.eq_of_beq_eq_true h2,Nat.eq_of_beq_eq_true h3]
  ·cases h1
theorem o9:∀{a b:List Value},fK a b=true->a=b
 |[],[],_=>rfl
 |x::r,y::q,h=>by
  simp only[fK,Bool.and_eq_true] at h
  rw[xP h.1,o9 h.2]
 |[],_::_,h=>by cases h
 |_::_,[],h=>by cases h
theorem QF {a b:Value}(h:AZ a b=true):a=b:=by
 unfold AZ at h
 split at h
 ·rw[Array.toList_inj.1 (o9 h)]
 ·exact xP h
theorem E7:∀{a b:List Value},rE a b=true->a=b
 |[],[],_=>rfl
 |a::r,b::q,h=>by
  simp only[rE,Bool.and_eq_true] at h
  rw[QF h.1,E7 h.2]
 |[],_::_,h=>by simp[rE] at h
 |_::_,[],h=>by simp[rE] at h
theorem Tu {a b:Value}(h:cf a b=true):a=b:=by
 unfold cf at h
 split at h
 ·rw[Array.toList_inj.1 (o9 h)]
 ·rw[Array.toList_inj.1 (E7 h)]
 ·simp only[Bool.and_eq_true] at h
  obtain⟨⟨h1,h2⟩,h3⟩:=h
  have Xh:=Nat.eq_of_beq_eq_true h1
  rw[Array.toList_inj.1 (o9 h2),Array.toList_inj.1 (o9 h3)]
  exact congrArg (fun x=>Value.func (Fn.func x) _ _) Xh
 ·exact xP h
end Go.Cl
namespace Go.Cl
open Go.RowKit
abbrev gP (s t:aq):Prop:=ct s t (fun _=>none)
theorem gP.refl (s:aq):gP s s:=⟨rfl,(fun _ _ h=>by cases h),fun _=>rfl⟩
theorem SR.wf {base:Nat}{S:St}(h:SR base S):WF S.s:=⟨h.room,h.bound⟩
theorem gP.wf {s t:aq}(h:gP s t)(hw:WF t):WF s:=⟨hw.room,fun j o hj=>by rw[<-h.next];exact hw.bound j o (by rw[h.get j];exact hj)⟩
def Hz (P:Program)(Pre:Nat->World->Prop)(g:FuncId)(p:Prim):Prop:=
 ∀(base:Nat) (S:St) (s:aq) (args:List Value) (v:Value) (s' :aq),gP s S.s->SR base S->Pre base S.w->p args s=some (v,s')->∀args' :Array Value,er S args args'.toList->
  ((∀w,(callFunc g args').run P w= .ok (.enter g args') w)/\Calls P g args' S.w fun e w' =>∃T v',gP s' T.s/\T.w=w' /\e= .returned v' /\VR T v v' /\Good base S T)\/
  ∃T v',(callFunc g args').run P S.w= .ok (.value v') T.w/\gP s' T.s/\VR T v v' /\Good base S T
def xQ (P:Program)(Pre:Nat->World->Prop)(call:Call):Prop:=∀g,Hz P Pre g (call g)
def BB (Pre:Nat->World->Prop):Prop:=∀base w w',Below base w w' ->Pre base w->Pre base w'
theorem FR.put {S:St}{f f' :aT}{a:Act}{d:Option Tmp}{v v' :Value}(hf:FR S f a)(hv:VR S v v')(h:kr f d v=some f'):FR S f' (a.put d v'):=by
 unfold kr at h
 split at h
 ·rename_i t0
  obtain⟨t,rfl⟩:∃t:Nat,t=t0:=⟨t0,rfl⟩
  split at h
  ·rename_i ht
   obtain rfl:=Option.some.inj h
   have LI:t<f.n:=by simpa [Nat.blt_eq] using ht
   have hn:=hf.n
   refine⟨by simp[aT.put,Act.put,hf.n],hf.small,fun u hu=> ?_⟩
   have hu' :u<f.n:=hu
   have hts:0<16000001:=by have:=hf.small;omega
   have b6:t<a.tmps.size:=by omega
   by_cases Zp:t=u
   ·subst Zp
    have e1:(f.put t v).get t=v:=by simp only[aT.get,aT.put,Tr.bp _ _ _ _ (deep hts)]
    have e2:(a.put (some t) v').tmps.getD t undef=v' :=by
     simp[Act.put,b6]
    rw[e1,e2];exact hv
   ·have e1:(f.put t v).get u=f.get u:=by simp only[aT.get,aT.put,Tr.bZ _ _ _ _ _ Zp]
    have e2:(a.put (some t) v').tmps.getD u undef=a.tmps.getD u undef:=by
     simp[Act.put,Array.getElem?_setIfInBounds_ne Zp]
    rw[e1,e2];exact hf.get u hu'
  ·cases h
 ·obtain rfl:=Option.some.inj h
  exact hf
theorem put_defers (a:Act)(d:Option Tmp)(v:Value):(a.put d v).defers=a.defers:=by cases d<;>rfl
theorem Tv {S:St}{f:aT}{a:Act}(hf:FR S f a)(ops:List Oper)(j:Nat):pZ ops f j=yielded ops.toArray a.tmps j:=by
 have hj:(ops.toArray)[j]?=(ops.drop j).head?:=by rw[List.getElem?_toArray,List.head?_drop]
 unfold pZ yielded
 rw[hj]
 cases ops.drop j with
 |nil=>rfl
 |cons o r=>
  simp only[List.head?_cons,Option.bind_some]
  cases o.dst with
  |none=>rfl
  |some d0=>
   obtain⟨d,rfl⟩:∃d:Nat,d=d0:=⟨d0,rfl⟩
   simp only[Option.bind_some]
   by_cases hd:d<f.n
   ·rw[if_pos (by simpa [Nat.blt_eq] using hd)]
    have hv:=hf.get d hd
    have b6:d<a.tmps.size:=by rw[<-hf.n];exact hd
    have e:a.tmps[d]?=some (a.tmps.getD d undef):=by simp[b6]
    rw[e]
    generalize a.tmps.getD d undef=v' at hv
    generalize f.get d=v0 at hv
    cases hv<;>rfl
   ·rw[if_neg (by simpa [Nat.blt_eq] using hd)]
    have e:a.tmps[d]?=none:=Array.getElem?_eq_none (by have:=hf.n;omega)
    rw[e]
theorem E9 {S:St}{f:aT}{a:Act}(hf:FR S f a)(ops:List Oper)(o:Oper):cK ops o f=Region.wanted o (yielded ops.toArray a.tmps):=by
 unfold cK Region.wanted
 cases o.guard with
 |none=>rfl
 |some p=>
  obtain⟨j,want⟩:=p
  simp only[Tv hf]
  cases yielded ops.toArray a.tmps j<;>rfl
def dm (es:List Ev)(j i:Nat)(b:jE):Prop:=∃v,es[j]?=some (.made v i b)
theorem jz:∀{es:List Ev} {n:Nat} {x:Nat×Nat×jE},x∈madeOf es n->∃j,x.1=n+j/\dm es j x.2.1 x.2.2
 |[],_,_,h=>by cases h
 |e::r,n,x,h=>by
  have rest:x∈madeOf r (n+1)->∃j,x.1=n+j/\dm (e::r) j x.2.1 x.2.2:=fun h=>by
   obtain⟨j,h1,v,h2⟩:=jz h
   exact⟨j+1,by omega,v,by simpa using h2⟩
  cases e with
  |made v i b=>
   simp only[madeOf] at h
   rcases List.mem_cons.1 h with rfl|h
   ·exact⟨0,rfl,v,rfl⟩
   ·exact rest h
  |skip=>exact rest h
  |quiet v=>exact rest h
  |DV v s=>exact rest h
theorem qd:∀{es:List Ev} {n j i:Nat} {b:jE},dm es j i b->(n+j,i,b)∈madeOf es n
 |[],_,_,_,_,⟨v,h⟩=>by simp at h
 |e::r,n,0,i,b,⟨v,h⟩=>by
  simp only[List.getElem?_cons_zero,Option.some.injEq] at h
  subst h
  exact List.mem_cons_self ..
 |e::r,n,j+1,i,b,⟨v,h⟩=>by
  have:=qd (es:=r) (n:=n+1) (j:=j) ⟨v,by simpa using h⟩
  rw[show n+1+j=n+(j+1) by omega] at this
  cases e<;>simp only[madeOf]<;>first
   |exact List.mem_cons_of_mem _ this
   |exact this
structure Ah (es:List Ev) (T:aq) (q:Nat->Prop) (s:aq):Prop where
 next:s.next=T.next
 old:∀i o,T.heap.get i=some o->s.heap.get i=some o
 new:∀i j b,T.heap.get i=none->dm es j i b->q j->s.heap.get i=some (.dK b)
 gone:∀i,T.heap.get i=none->(∀j b,dm es j i b->¬q j)->s.heap.get i=none
def diff (s s' :aq)(i:Nat):Option AO:=
 match s.heap.get i with
 |some _=>none
 |none=>s'.heap.get i
theorem Ah.aew {es:List Ev}{T s s' :aq}{q q' :Nat->Prop}(hb:∀j i b,dm es j i b->i<T.next)(h:Ah es T q s)(h' :Ah es T q' s')(hq:∀j,q j->q' j):ct s s' (diff s s'):=by
 refine⟨by rw[h.next,h'.next],fun j o hj=> ?_,fun j=> ?_⟩
 ·unfold diff at hj
  split at hj
  ·cases hj
  ·rename_i hs
   refine⟨hs,?_⟩
   rw[h.next]
   cases hT:T.heap.get j with
   |some o' =>rw[h.old j o' hT] at hs;cases hs
   |none=>
    by_cases hx:∃jj b,dm es jj j b
    ·obtain⟨jj,b,hx⟩:=hx;exact hb _ _ _ hx
    ·rw[h'.gone j hT (fun jj b hm=>absurd ⟨jj,b,hm⟩ hx)] at hj;cases hj
 ·unfold diff
  cases hs:s.heap.get j with
  |none=>simp only;cases s'.heap.get j<;>rfl
  |some o=>
   simp only
   cases hT:T.heap.get j with
   |some o' =>rw[h'.old j o' hT,<-hs,h.old j o' hT]
   |none=>
    by_cases hx:∃jj b,dm es jj j b/\q jj
    ·obtain⟨jj,b,hx,LJ⟩:=hx
     rw[h'.new j jj b hT hx (hq jj LJ),<-hs,h.new j jj b hT hx LJ]
    ·rw[h.gone j hT (fun jj b hm LJ=>hx ⟨jj,b,hm,LJ⟩)] at hs;cases hs
theorem Tw {p:Nat->Bool}:∀{arv:Made} {j i:Nat} {b:jE},(j,i,b)∈arv->p j=true->OC p arv i≠none
 |[],_,_,_,h,_=>by cases h
 |(j',i',b')::r,j,i,b,h,hp=>by
  simp only[OC]
  split
  ·simp
  ·rename_i hn
   rcases List.mem_cons.1 h with e|h
   ·injection e with e1 e2;injection e2 with e2 e3;subst e1;subst e2
    exact absurd ⟨hp,rfl⟩ hn
   ·exact Tw h hp
theorem BC {es:List Ev}{p:Nat->Bool}{T:aq}{arv:Made}(hb:∀x∈arv,0<16000001)(h1:∀j i b,dm es j i b->p j=true->(j,i,b)∈arv)(h2:∀x∈arv,dm es x.1 x.2.1 x.2.2)
  (hu:∀j j' i b b',dm es j i b->dm es j' i b' ->j=j' /\b=b'):Ah es T (fun j=>p j=true) (fill p T arv):=by
 obtain⟨n1,g1⟩:=vM p arv T hb
 refine⟨n1,fun i o hi=>by rw[g1,hi],fun i j b hi hm hp=> ?_,fun i hi hn=> ?_⟩
 ·rw[g1,hi]
  cases hs:OC p arv i with
  |none=>exact absurd hs (Tw (h1 j i b hm hp) hp)
  |some o=>
   obtain⟨j',b',k1,_,rfl⟩:=vN hs
   obtain⟨_,rfl⟩:=hu _ _ _ _ _ hm (h2 _ k1)
   rfl
 ·rw[g1,hi]
  cases hs:OC p arv i with
  |none=>rfl
  |some o=>
   obtain⟨j',b',k1,k2,rfl⟩:=vN hs
   exact absurd k2 (hn _ _ (h2 _ k1))
theorem Ah.step {es:List Ev}{T s t s1 t' :aq}{q q' :Nat->Prop}(h:Ah es T q s)(h' :Ah es T q' t)(ha:ct s1 t' (diff s t))(hk:bN s s1):Ah es s1 q' t' :=by
 have OE:∀i,s1.heap.get i=none->s.heap.get i=none/\T.heap.get i=none:=fun i hi=>by
  have e1:s.heap.get i=none:=by
   cases hs:s.heap.get i with
   |none=>rfl
   |some o=>exact absurd hi (hk.here i (by rw[hs];simp))
  refine⟨e1,?_⟩
  cases hT:T.heap.get i with
  |none=>rfl
  |some o=>rw[h.old i o hT] at e1;cases e1
 refine⟨ha.next,fun i o hi=>ha.same hi,fun i j b hi hm hq=> ?_,fun i hi hn=> ?_⟩
 ·obtain⟨e1,e2⟩:=OE i hi
  rw[ha.get i]
  simp only[diff,e1,h'.new i j b e2 hm hq]
 ·obtain⟨e1,e2⟩:=OE i hi
  rw[ha.get i]
  simp only[diff,e1,h'.gone i e2 hn,hi]
theorem Ah.same {es:List Ev}{T s s' :aq}{q:Nat->Prop}(h:Ah es T q s)(hs:gP s s'):Ah es T q s' :=
 ⟨by rw[hs.next,h.next],fun i o hi=>by rw[hs.get i];exact h.old i o hi,fun i j b hi hm hq=>by rw[hs.get i];exact h.new i j b hi hm hq,fun i hi hn=>by rw[hs.get i];exact h.gone i hi hn⟩
theorem Ah.congr {es:List Ev}{T s:aq}{q q' :Nat->Prop}(h:Ah es T q s)(hq:∀j i b,dm es j i b->(q' j↔q j)):Ah es T q' s:=
 ⟨h.next,h.old,fun i j b hi hm LJ=>h.new i j b hi hm ((hq j i b hm).1 LJ),fun i hi hn=>h.gone i hi (fun j b hm LJ=>hn j b hm ((hq j i b hm).2 LJ))⟩
theorem Ah.put {es:List Ev}{T s:aq}{q q' :Nat->Prop}(h:Ah es T q s){j i:Nat}{b:jE}(hm:dm es j i b)(hi:s.heap.get i=none)(bc:0<16000001)
  (hu:∀j j' i b b',dm es j i b->dm es j' i b' ->j=j' /\b=b') (hq:∀k,q' k↔k=j\/q k):Ah es T q' (s.put i (.dK b)):=by
 have self:(s.put i (.dK b)).heap.get i=some (.dK b):=by simp only[aq.put,Tr.bp _ _ _ _ (deep bc)]
 refine⟨h.next,fun k o hk=> ?_,fun k j' b' hk WD LJ=> ?_,fun k hk hn=> ?_⟩
 ·have SQ:i≠k:=fun e=>by subst e;rw[h.old _ o hk] at hi;cases hi
  rw[aq.bD _ _ _ _ SQ];exact h.old k o hk
 ·by_cases SQ:i=k
  ·subst SQ
   obtain⟨_,rfl⟩:=hu _ _ _ _ _ hm WD
   exact self
  ·rw[aq.bD _ _ _ _ SQ]
   refine h.new k j' b' hk WD ?_
   rcases(hq j').1 LJ with rfl|h'
   ·obtain⟨v,e1⟩:=hm
    obtain⟨v',e2⟩:=WD
    rw[e1] at e2
    injection e2 with e2;injection e2 with _ e3 _
    exact absurd e3 SQ
   ·exact h'
 ·have SQ:i≠k:=fun e=>by subst e;exact hn j b hm ((hq j).2 (.inl rfl))
  rw[aq.bD _ _ _ _ SQ]
  exact h.gone k hk (fun j' b' WD LJ=>hn j' b' WD ((hq j').2 (.inr LJ)))
theorem qf {P:Program}{call:Call}{all:List Oper}{m id:Nat}{arv:Made}{o:Oper}{f:aT}{T:aq}{e:Ev}(h:dL P call all m id arv o f T=some e):
  (cK all o f=false/\e= .skip)\/(cK all o f=true/\((aM P o=true/\∃v,e= .quiet v)\/
   (aM P o=false/\aK P o=true/\∃v s1 b,e= .made v id b/\cM P o f ⟨.nil,id⟩=some (.val v s1)/\s1.bA id=some b)\/
   (bd P o=true/\∃v s1,e= .DV v s1/\(cM P o f (fill (Nat.testBit m) T arv)=some (.val v s1)\/∃g args,cM P o f (fill (Nat.testBit m) T arv)=some (.call g args)/\call g args (fill (Nat.testBit m) T arv)=some (v,s1))))):=by
 unfold dL at h
 split at h
 ·rename_i hw;injection h with h;exact .inl ⟨hw,h.symm⟩
 ·rename_i hw
  refine .inr ⟨hw,?_⟩
  split at h
  ·rename_i hq
   split at h
   ·injection h with h;exact .inl ⟨hq,_,h.symm⟩
   ·cases h
  ·rename_i hq ha
   split at h
   ·rename_i v s1 fE
    split at h
    ·rename_i b hb
     injection h with h;exact .inr (.inl ⟨hq,ha,v,s1,b,h.symm,fE,hb⟩)
    ·cases h
   ·cases h
  ·rename_i hq ha
   have he:bd P o=true:=by simp[bd,hq,ha]
   split at h
   ·rename_i v s1 fE
    injection h with h;exact .inr (.inr ⟨he,v,s1,h.symm,.inl fE⟩)
   ·rename_i g args fE
    split at h
    ·rename_i v s1 hc
     injection h with h;exact .inr (.inr ⟨he,v,s1,h.symm,.inr ⟨g,args,fE,hc⟩⟩)
    ·cases h
   ·cases h
structure jI (P:Program) (call:Call) (ops:List Oper) (f0:aT) (s0:aq) (es:List Ev) (F:Nat->aT) (G:Nat->aq):Prop where
 len:es.length=ops.length
 F0:F 0=f0
 G0:G 0=⟨s0.heap,s0.next+aP P ops⟩
 room:0<=16000000
 op:∀k o,ops[k]?=some o->∃e,es[k]?=some e/\dL P call ops (cW (cq ops []) k) (s0.next+aP P (ops.take k)) (madeOf (es.take k) 0) o (F k) (G k)=some e/\
  kr (F k) o.dst e.val=some (F (k+1))/\G (k+1)=e.after (G k)
 same:∀k o v p,ops[k]?=some o->es[k]?=some (.quiet v)->p<=ops.length->(∀x o',ops[x]?=some o' ->bd P o' =true->Nat.testBit (cW (cq ops []) k) x=true->x<p)->
  (∀x o',ops[x]?=some o' ->bd P o' =true->x<p->Nat.testBit (cW (cq ops []) x) k=false)->
  ∃t,cM P o (F k) (fill (Nat.testBit (cW (cq ops []) k)) (G p) (madeOf es 0))=some (.val v t)
theorem Ed {P:Program}{call:Call}{ops:List Oper}{f f' :aT}{s s' :aq}(h:fj P call ops f s=some (f',s')):
  ∃es F G,jI P call ops f s es F G/\f' =F ops.length/\s' =fill (fun _=>true) (G ops.length) (madeOf es 0):=by
 unfold fj at h
 split at h
 ·cases h
 rename_i hle
 split at h
 case h_2=>cases h
 rename_i es hd
 split at h
 case h_2=>cases h
 rename_i SE
 injection h with h;injection h with e1 e2;subst e1;subst e2
 have OG:(cq ops []).length=ops.length:=by
  obtain⟨r,h1,h2⟩:=mM ops []
  rw[h1];simpa using h2
 obtain⟨h1,F,G,h2,h3,h4,h5,h6,h7⟩:=Hw ops (cq ops []) 0 s.next f _ [] es OG hd
 refine⟨es,F,G,⟨h1,h2,h3,by omega,fun k o ho=>by simpa using h7 k o ho,?_⟩,h4,by rw[h6]⟩
 intro k o v p ho he hp ra SC
 rw[<-h2] at SE
 have hs:=Ec k (cq ops []) ops es 0 F OG SE (fun k o e ho he=>by
  obtain⟨e',k1,_,k3,_⟩:=h7 k o ho
  rw[he] at k1;injection k1 with k1;subst k1;exact k3) o v ho he
 have aD:=h5 p hp
 simp only[Nat.zero_add] at aD hs
 have c1:countP (Nat.testBit (cW (cq ops []) k)) P ops 0<=countP (fun j=>Nat.blt j p) P ops 0:=rY ops 0 (fun x o' rZ Ad hx=>by
  simp only[Nat.zero_add] at hx|-
  rw[Nat.blt_eq];exact ra x o' rZ Ad hx)
 have c2:countP (fun j=>Nat.blt j p) P ops 0<=countP (fun j=> !Nat.testBit (cW (cq ops []) j) k) P ops 0:=rY ops 0 (fun x o' rZ Ad hx=>by
  simp only[Nat.zero_add,Nat.blt_eq] at hx|-
  rw[SC x o' rZ Ad hx];rfl)
 generalize countP (fun j=>Nat.blt j p) P ops 0=c at*
 generalize countP (Nat.testBit (cW (cq ops []) k)) P ops 0=lo at*
 generalize countP (fun j=> !Nat.testBit (cW (cq ops []) j) k) P ops 0=hi at*
 have o7:G p∈(((aF P ops es ⟨s.heap,s.next+aP P ops⟩).take (hi+1)).drop lo):=by
  refine List.mem_of_getElem? (i:=c-lo) ?_
  rw[List.getElem?_drop,show lo+(c-lo)=c by omega,List.getElem?_take,if_pos (by omega),aD]
 obtain⟨u,t,k1,k2⟩:=BA hs o7
 rw[Tu k2]
 exact⟨t,k1⟩
section
variable {P:Program} {call:Call} {ops:List Oper} {f0:aT} {s0:aq} {es:List Ev} {F:Nat->aT} {G:Nat->aq}
theorem jI.made (h:jI P call ops f0 s0 es F G){j i:Nat}{b:jE}(hm:dm es j i b):∃o,ops[j]?=some o/\aK P o=true/\aM P o=false/\i=s0.next+aP P (ops.take j):=by
 obtain⟨v,hm⟩:=hm
 have bc:j<ops.length:=by rw[<-h.len];exact(List.getElem?_eq_some_iff.1 hm).1
 obtain⟨e,h1,h2,_,_⟩:=h.op j ops[j] (List.getElem?_eq_getElem bc)
 rw[hm] at h1;injection h1 with h1;subst h1
 refine⟨ops[j],List.getElem?_eq_getElem bc,?_⟩
 rcases qf h2 with ⟨_,e⟩|⟨_,⟨_,v',e⟩|⟨hq,ha,v',s1,b',e,_⟩|⟨_,v',s1,e,_⟩⟩
 ·cases e
 ·cases e
 ·injection e with _ e _;exact⟨ha,hq,e⟩
 ·cases e
theorem jI.uniq (h:jI P call ops f0 s0 es F G):∀j j' i b b',dm es j i b->dm es j' i b' ->j=j' /\b=b' :=by
 intro j j' i b b' h1 h2
 obtain⟨o,k1,k2,_,k3⟩:=h.made h1
 obtain⟨o',l1,l2,_,l3⟩:=h.made h2
 have hj:j=j' :=by
  rcases Nat.lt_trichotomy j j' with bc|e|bc
  ·have:=nR ops j j' k1 k2 bc;omega
  ·exact e
  ·have:=nR ops j' j l1 l2 bc;omega
 subst hj
 obtain⟨v,e1⟩:=h1
 obtain⟨v',e2⟩:=h2
 rw[e1] at e2;injection e2 with e2;injection e2 with _ _ e3
 exact⟨rfl,e3⟩
theorem jI.bound (h:jI P call ops f0 s0 es F G){j i:Nat}{b:jE}(hm:dm es j i b):s0.next<=i/\i<s0.next+aP P ops:=by
 obtain⟨o,k1,k2,_,k3⟩:=h.made hm
 have:=nR ops j ops.length k1 k2 (List.getElem?_eq_some_iff.1 k1).1
 rw[List.take_length] at this
 omega
theorem jI.tF (h:jI P call ops f0 s0 es F G)(hc:kC call)(hw:WF s0):∀k,k<=ops.length->fk s0.next (G 0) (G k):=by
 have uv:WF (G 0):=by rw[h.G0];exact⟨h.room,fun j o hj=>by have:=hw.bound j o hj;show j<s0.next+_;omega⟩
 intro k
 induction k with
 |zero=>intro _;exact fk.refl uv
 |succ k ih=>
  intro hk
  have ik:=ih (by omega)
  obtain⟨e,h1,h2,_,h4⟩:=h.op k ops[k] (List.getElem?_eq_getElem (by omega))
  have hn0:(G 0).next=s0.next+aP P ops:=by rw[h.G0]
  have gn:∀x∈madeOf (es.take k) 0,s0.next<=x.2.1/\x.2.1<(G k).next:=fun x hx=>by
   obtain⟨j,hj,v,hm⟩:=jz hx
   have WD:dm es j x.2.1 x.2.2:=⟨v,by
    rw[List.getElem?_take] at hm
    split at hm
    ·exact hm
    ·cases hm⟩
   have:=h.bound WD
   have:=ik.next
   omega
  have kf:=fk.fill ik.wf gn (Nat.testBit (cW (cq ops []) k))
  have hB:s0.next<=(fill (Nat.testBit (cW (cq ops []) k)) (G k) (madeOf (es.take k) 0)).next:=by
   have:=kf.next;have:=ik.next;omega
  rw[h4]
  rcases qf h2 with ⟨_,e⟩|⟨_,⟨_,v',e⟩|⟨hq,ha,v',s1,b',e,_⟩|⟨_,v',s1,e,he⟩⟩<;>subst e
  ·exact ik
  ·exact ik
  ·exact ik
  ·refine ik.trans (kf.trans ?_)
   rcases he with fE|⟨g,args,fE,jH⟩
   ·obtain⟨_,_,_,k3⟩:=j6 (gP.refl _) kf.wf fE
    exact k3.toB hB
   ·obtain⟨_,_,_,k3⟩:=hc _ _ _ _ _ _ _ (gP.refl _) kf.wf jH
    exact k3.toB hB
theorem jI.Gc (h:jI P call ops f0 s0 es F G)(a:Nat):∀b,a<=b->b<=ops.length->(∀x o,a<=x->x<b->ops[x]?=some o->bd P o=false)->G b=G a:=by
 intro b
 induction b with
 |zero=>intro Hl _ _;rw[Nat.le_zero.1 Hl]
 |succ b ih=>
  intro Hl hb hx
  by_cases aaV:a=b+1
  ·rw[aaV]
  obtain⟨e,h1,h2,_,h4⟩:=h.op b ops[b] (List.getElem?_eq_getElem (by omega))
  have ck:=hx b _ (by omega) (by omega) (List.getElem?_eq_getElem (show b<ops.length by omega))
  rw[h4,<-ih (by omega) (by omega) (fun x o h1 h2 h3=>hx x o h1 (by omega) h3)]
  rcases qf h2 with ⟨_,e⟩|⟨_,⟨_,v',e⟩|⟨hq,ha,v',s1,b',e,_⟩|⟨he,_⟩⟩
  ·subst e;rfl
  ·subst e;rfl
  ·subst e;rfl
  ·rw[ck] at he;cases he
theorem jI.Geq (h:jI P call ops f0 s0 es F G){a b:Nat}(ha:a<=ops.length)(hb:b<=ops.length)(hx:∀x o,ops[x]?=some o->bd P o=true->(x<a↔x<b)):G a=G b:=by
 rcases Nat.le_total a b with Hl|Hl
 ·refine(h.Gc a b Hl hb (fun x o h1 h2 h3=> ?_)).symm
  cases he:bd P o with
  |false=>rfl
  |true=>have:=(hx x o h3 he).2 h2;omega
 ·refine h.Gc b a Hl ha (fun x o h1 h2 h3=> ?_)
  cases he:bd P o with
  |false=>rfl
  |true=>have:=(hx x o h3 he).1 h2;omega
theorem yZ {f f' :aT}{d:Option Tmp}{v:Value}{t:Nat}(h:kr f d v=some f')(hd:d≠some t):f'.get t=f.get t:=by
 unfold kr at h
 split at h
 ·split at h
  ·injection h with h;subst h
   rename_i u _
   have hu:u≠t:=fun e=>hd (by rw[e])
   simp only[aT.get,aT.put,Tr.bZ _ _ _ _ _ hu]
  ·cases h
 ·injection h with h;subst h;rfl
theorem tU {f f' :aT}{v:Value}{t:Nat}(h:kr f (some t) v=some f')(_:f.n<=16000000):f'.get t=v:=by
 unfold kr at h
 simp only at h
 split at h
 ·rename_i ht
  have LI:t<f.n:=by simpa [Nat.blt_eq] using ht
  injection h with h;subst h
  simp only[aT.get,aT.put,Tr.bp _ _ _ _ (deep (show 0<16000001 by omega))]
 ·cases h
theorem QG {f g f' :aT}{d:Option Tmp}{v:Value}(h:kr f d v=some f')(hn:g.n=f.n):∃g',kr g d v=some g' :=by
 unfold kr at*
 cases d with
 |none=>exact⟨g,rfl⟩
 |some t=>
  simp only at h|-
  rw[hn]
  split at h
  ·rename_i ht;rw[if_pos ht];exact⟨_,rfl⟩
  ·cases h
theorem jI.Fn (h:jI P call ops f0 s0 es F G):∀k,k<=ops.length->(F k).n=f0.n:=by
 intro k
 induction k with
 |zero=>intro _;rw[h.F0]
 |succ k ih=>
  intro hk
  obtain⟨e,_,_,h3,_⟩:=h.op k ops[k] (List.getElem?_eq_getElem (by omega))
  rw[Ts h3];exact ih (by omega)
theorem jI.Fc (h:jI P call ops f0 s0 es F G)(t a:Nat):∀b,a<=b->b<=ops.length->(∀x o,a<=x->x<b->ops[x]?=some o->o.dst≠some t)->(F b).get t=(F a).get t:=by
 intro b
 induction b with
 |zero=>intro Hl _ _;rw[Nat.le_zero.1 Hl]
 |succ b ih=>
  intro Hl hb hx
  by_cases aaV:a=b+1
  ·rw[aaV]
  obtain⟨e,h1,_,h3,_⟩:=h.op b ops[b] (List.getElem?_eq_getElem (by omega))
  have ck:=hx b _ (by omega) (by omega) (List.getElem?_eq_getElem (show b<ops.length by omega))
  rw[yZ h3 ck]
  exact ih (by omega) (by omega) (fun x o h1 h2 h3=>hx x o h1 (by omega) h3)
theorem nS (h:rD P ops=true){y:Nat}{o:Oper}(ho:ops[y]?=some o){e:Edge}(he:e∈o.after.toList)(hb:Region.binds .any e=true):e.on<y:=by
 simp only[rD,List.all_eq_true,Bool.and_eq_true] at h
 have:=(h (o,y) (by rw[List.mem_zipIdx_iff_getElem?];simpa using ho)).1 e he
 simpa [hb,Nat.blt_eq] using this
theorem Fa (h:rD P ops=true){x y:Nat}{ox oy:Oper}(hx:ops[x]?=some ox)(hy:ops[y]?=some oy)(bc:x<y)(hd:mq P ops ox oy=true):Nat.testBit (cW (cq ops []) y) x=true:=by
 simp only[rD,List.all_eq_true,Bool.and_eq_true] at h
 have:=(h (oy,y) (by rw[List.mem_zipIdx_iff_getElem?];simpa using hy)).2 (ox,x) (by rw[List.mem_zipIdx_iff_getElem?];simpa using hx)
 have hb:Nat.blt x y=true:=by rw[Nat.blt_eq];exact bc
 simpa [hb,hd] using this
def gh (ops:List Oper)(L:Nat->Prop):Prop:=∀y o,ops[y]?=some o->L y->∀e∈o.after.toList,Region.binds .any e=true->L e.on
theorem anc (h:rD P ops=true){L:Nat->Prop}(hc:gh ops L):∀y o,ops[y]?=some o->(∀e∈o.after.toList,Region.binds .any e=true->L e.on)->∀x,Nat.testBit (cW (cq ops []) y) x=true->L x:=by
 intro y
 induction y using Nat.strongRecOn with
 |ind y ih=>
  intro o ho he x hx
  obtain⟨Tq,h1,h2⟩:=Bz ops [] y o ho
  simp only[List.length_nil,Nat.zero_add] at h1 h2
  rw[h2] at hx
  rcases Bx hx with h0|⟨e,e1,e2,e3⟩
  ·simp at h0
  ·have bc:=nS h ho e1 e2
   have hL:=he e e1 e2
   rcases e3 with rfl|e3
   ·exact hL
   ·rw[h1 _ bc] at e3
    have L5:=(List.getElem?_eq_some_iff.1 ho).1
    have hoe:ops[e.on]?=some ops[e.on]:=List.getElem?_eq_getElem (show e.on<ops.length by omega)
    exact ih e.on bc _ hoe (hc _ _ hoe hL) x e3
theorem Xi (h:rD P ops=true){y:Nat}{o:Oper}(ho:ops[y]?=some o){x:Nat}(hx:Nat.testBit (cW (cq ops []) y) x=true):x<y:=
 anc h (L:=fun x=>x<y) (fun _ _ hz hL _ he hb=>Nat.lt_trans (nS h hz he hb) hL) y o ho (fun _ he hb=>nS h ho he hb) x hx
theorem rel (h:rD P ops=true){L:Nat->Prop}(hc:gh ops L){i:Nat}{o:Oper}(ho:ops[i]?=some o)(hn:¬L i)(he:∀e∈o.after.toList,Region.binds .any e=true->L e.on)
  {x:Nat} {ox:Oper} (hx:ops[x]?=some ox) (h1:x<i->mq P ops ox o=true) (h2:i<x->mq P ops o ox=true):x<i↔L x:=by
 rcases Nat.lt_trichotomy x i with bc|e|bc
 ·exact⟨fun _=>anc h hc i o ho he x (Fa h hx ho bc (h1 bc)),fun _=>bc⟩
 ·subst e;exact⟨fun hl=>absurd hl (Nat.lt_irrefl _),fun hl=>absurd hl hn⟩
 ·refine⟨fun hl=>by omega,fun hl=> ?_⟩
  exact absurd (anc h hc x ox hx (hc x ox hx hl) i (Fa h ho hx bc (h2 bc))) hn
def Inv (P:Program)(base:Nat)(S0:St)(a0:Act)(ops:List Oper)(es:List Ev)(F:Nat->aT)(G:Nat->aq)(L:Nat->Prop)(a:Act)(w:World):Prop:=
 ∃(S:St) (g:aT) (p:Nat),S.w=w/\Good base S0 S/\FR S g a/\a.defers=a0.defers/\g.n=(F 0).n/\p<=ops.length/\(∀x o,ops[x]?=some o->bd P o=true->(x<p↔L x))/\Ah es (G p) L S.s/\
  (∀j i b,dm es j i b->¬L j->S.s.heap.get i=none)/\(∀i,i<=ops.length->∀t:Nat,(∀x o,ops[x]?=some o->o.dst=some t->(x<i↔L x))->g.get t=(F i).get t)
theorem xR {l:List Nat}{d:Option Tmp}{t:Nat}(hd:d=some t)(ht:t∈l):Qe l d=true:=by
 subst hd
 simp only[Qe,List.any_eq_true]
 exact⟨t,ht,Nat.beq_refl t⟩
theorem Tx (h:jI P call ops f0 s0 es F G)(xS:rD P ops=true)(hc:kC call){Pre:Nat->World->Prop}(dF:xQ P Pre call){base:Nat}{S0:St}{a0:Act}(Zq:WF s0)(aD:BB Pre)(fU:Pre base S0.w){L L' :Nat->Prop}(jH:gh ops L){a:Act}{w:World}(hinv:Inv P base S0 a0 ops es F G L a w)
  {i:Nat} {o:Oper} (ho:ops[i]?=some o) (hn:¬L i) (he:∀e∈o.after.toList,Region.binds .any e=true->L e.on) (Jg:∀j,L' j↔j=i\/L j) {K:Act->World->Prop} {Q:Exit->Act->World->Prop}
  (hK:∀a w,Inv P base S0 a0 ops es F G L' a w->K a w):wpOp P ops.toArray Q i K a w:=by
 obtain⟨S,g,p,rfl,hg,hf,had,hgn,hp,Hy,r9,mi,oz⟩:=hinv
 obtain⟨ev,hev,hdo,nd,hG⟩:=h.op i o ho
 have Xj:i<ops.length:=(List.getElem?_eq_some_iff.1 ho).1
 have hgF:g.n=(F i).n:=by rw[hgn,h.F0,h.Fn i (by omega)]
 obtain⟨g',Zr⟩:=QG nd hgF
 have xM:=hf.small
 have hkp:=h.tF hc Zq p hp
 have aiS:(G 0).next=s0.next+aP P ops:=by rw[h.G0]
 have hmb:∀j k b,dm es j k b->k<(G p).next:=fun j k b hm=>by have:=(h.bound hm).2;have:=hkp.next;omega
 have sd:∀t:Nat,t∈xE ops o->g.get t=(F i).get t:=fun t ht=>oz i (by omega) t (fun x ox hx hd=>rel xS jH ho hn he hx
  (fun _=>by simp only[mq,xR hd ht,Bool.or_true,Bool.true_or])
  (fun _=>by simp only[mq,xR hd ht,Bool.or_true,Bool.true_or]))
 have aey:∀t:Nat,Operand.tmp t∈o.op.operands.toList->(F i).get t=g.get t:=fun t ht=>(sd t (by
  simp only[xE,List.mem_append,List.mem_filterMap]
  exact .inl ⟨_,ht,rfl⟩)).symm
 have aez:cK ops o g=cK ops o (F i):=Eb hgF sd
 have HA:∀s,cM P o (F i) s=cM P o g s:=fun s=>QE hgF.symm aey s
 have uC:∀i',i' <=ops.length->∀t:Nat,(∀x ox,ops[x]?=some ox->ox.dst=some t->(x<i' ↔L' x))->g'.get t=(F i').get t:=by
  intro i' vF t ht
  by_cases hd:o.dst=some t
  ·have hii:i<i' :=(ht i o ho hd).2 ((Jg i).2 (.inl rfl))
   have e1:g'.get t=ev.val:=by rw[hd] at Zr;exact tU Zr xM
   have e2:(F (i+1)).get t=ev.val:=by rw[hd] at nd;exact tU nd (by rw[<-hgF];exact xM)
   rw[e1,<-e2]
   refine(h.Fc t (i+1) i' (by omega) vF (fun x ox h1 h2 h3 h4=> ?_)).symm
   have hLx:L x:=by
    rcases(Jg x).1 ((ht x ox h3 h4).1 h2) with e|hl
    ·omega
    ·exact hl
   have:=(rel xS jH ho hn he h3 (fun _=>by omega) (fun _=>by
    have:Qe o.dst.toList ox.dst=true:=xR h4 (by rw[hd];simp)
    simp only[mq,this,Bool.or_true])).2 hLx
   omega
  ·rw[yZ Zr hd]
   refine oz i' vF t (fun x ox hx hdx=> ?_)
   rw[ht x ox hx hdx,Jg x]
   have:x≠i:=fun e=>by subst e;rw[ho] at hx;injection hx with hx;subst hx;exact hd hdx
   simp[this]
 have aiT:g'.n=(F 0).n:=by rw[Ts Zr,hgn]
 have fin:∀(T:St) (v' :Value) (p' :Nat),Good base S T->VR T ev.val v' ->p' <=ops.length->(∀x ox,ops[x]?=some ox->bd P ox=true->(x<p' ↔L' x))->Ah es (G p') L' T.s->
   (∀j k b,dm es j k b->¬L' j->T.s.heap.get k=none)->K (a.put o.dst v') T.w:=by
  intro T v' p' QH hv Tt aeA aeB HB
  exact hK _ _ ⟨T,g',p',rfl,hg.trans QH,(hf.mono QH.ext).put hv Zr,(put_defers _ _ _).trans had,aiT,Tt,aeA,aeB,HB,uC⟩
 have Mj:bd P o=false->∀x ox,ops[x]?=some ox->bd P ox=true->(x<p↔L' x):=fun ck x ox hx hex=>by
  rw[Hy x ox hx hex,Jg x]
  have:x≠i:=fun e=>by subst e;rw[ho] at hx;injection hx with hx;subst hx;rw[ck] at hex;cases hex
  simp[this]
 have Zt:bd P o=true->∀x ox,ops[x]?=some ox->bd P ox=true->(x<i↔L x):=fun ck x ox hx hex=>rel xS jH ho hn he hx
  (fun _=>by simp only[mq,hex,ck,Bool.and_self,Bool.true_or]) (fun _=>by simp only[mq,hex,ck,Bool.and_self,Bool.true_or])
 have Zu:bd P o=true->∀x ox,ops[x]?=some ox->bd P ox=true->(x<i+1↔L' x):=fun ck x ox hx hex=>by
  rw[Jg x,<-Zt ck x ox hx hex]
  omega
 have aeC:bd P o=true->G p=G i:=fun ck=>h.Geq hp (by omega) (fun x ox hx hex=>by rw[Hy x ox hx hex,Zt ck x ox hx hex])
 have Zv:(∀v k b,ev≠ .made v k b)->∀j k b,dm es j k b->(L' j↔L j):=fun ck j k b hm=>by
  rw[Jg j]
  have:j≠i:=fun e=>by
   subst e
   obtain⟨v,hm⟩:=hm
   rw[hev] at hm;injection hm with hm
   exact ck _ _ _ hm
  simp[this]
 unfold wpOp
 have hoa:ops.toArray[i]?=some o:=by rw[List.getElem?_toArray];exact ho
 simp only[hoa]
 rw[<-E9 hf,aez]
 rcases qf hdo with ⟨xy,rfl⟩|⟨xy,OH⟩
 ·rw[if_neg (by rw[xy];simp)]
  have QI:=Zv (fun _ _ _=>by simp)
  have HB:∀j k b,dm es j k b->¬L' j->S.s.heap.get k=none:=fun j k b hm hl=>mi j k b hm (fun W1=>hl ((Jg j).2 (.inr W1)))
  cases LK:bd P o with
  |false=>exact fin S undef p (Good.refl hg.sr) (VR.rG S) hp (Mj LK) (r9.congr QI) HB
  |true=>
   refine fin S undef (i+1) (Good.refl hg.sr) (VR.rG S) (by omega) (Zu LK) ?_ HB
   have:G (i+1)=G p:=by rw[hG,aeC LK];rfl
   rw[this]
   exact r9.congr QI
 ·rw[if_pos xy]
  refine .inl ?_
  rcases OH with ⟨hq,v,rfl⟩|⟨hq,ha,v,s1,b,rfl,fE,hb⟩|⟨LK,v,s1,rfl,OH⟩
  ·
   have QI:=Zv (fun _ _ _=>by simp)
   obtain⟨t,fE⟩:=h.same i o v p ho hev hp (fun x ox hx hex hb=>(Hy x ox hx hex).2 (anc xS jH i o ho he x hb)) (fun x ox hx hex hxp=>by
    cases hb:Nat.testBit (cW (cq ops []) x) i with
    |false=>rfl
    |true=>exact absurd (anc xS jH x ox hx (jH x ox hx ((Hy x ox hx hex).1 hxp)) i hb) hn)
   have HC:∀x∈madeOf es 0,s0.next<=x.2.1/\x.2.1<(G p).next:=fun x hx=>by
    obtain⟨j,_,hm⟩:=jz hx
    exact⟨(h.bound hm).1,hmb _ _ _ hm⟩
   have kf:=fk.fill hkp.wf HC (Nat.testBit (cW (cq ops []) i))
   have ou:Ah es (G p) (fun j=>Nat.testBit (cW (cq ops []) i) j=true) (fill (Nat.testBit (cW (cq ops []) i)) (G p) (madeOf es 0)):=BC (fun x hx=>by have:=(HC x hx).2;have:=hkp.wf.room;omega)
    (fun j k b hm _=>by have:=qd (n:=0) hm;simpa using this) (fun x hx=>by obtain⟨j,hj,hm⟩:=jz hx;rw[show x.1=j by omega];exact hm) h.uniq
   have Ty:=ou.aew hmb r9 (fun j hj=>anc xS jH i o ho he j hj)
   obtain⟨t',k1,_,_⟩:=j6 Ty kf.wf fE
   rw[HA] at k1
   obtain⟨v2,e,v',hv,fT⟩:=EX hg.sr hf hq _ k1
   injection e with e1 e2
   subst e1
   unfold Oper.wp
   rw[fT]
   have LK:bd P o=false:=by simp[bd,hq]
   exact fin S v' p (Good.refl hg.sr) hv hp (Mj LK) (r9.congr QI) (fun j k b hm hl=>mi j k b hm (fun W1=>hl ((Jg j).2 (.inr W1))))
  ·
   have hm:dm es i (s0.next+aP P (ops.take i)) b:=⟨v,hev⟩
   have aeD:=mi _ _ _ hm hn
   have bc:s0.next+aP P (ops.take i)<S.s.next:=by rw[r9.next];exact hmb _ _ _ hm
   have cY:=hg.sr.room
   rw[HA] at fE
   obtain⟨T,v',hT,hv,QH,fT⟩:=To hg.sr hf ha ⟨aeD,bc,Nat.le_refl _,cY,.inl bc⟩ fE hb
   unfold Oper.wp
   rw[fT]
   have LK:bd P o=false:=by simp[bd,hq,ha]
   refine fin T v' p QH hv hp (Mj LK) ?_ ?_
   ·rw[hT]
    exact r9.put hm aeD (by omega) h.uniq Jg
   ·intro j k b' WD hl
    rw[hT]
    have gz:j≠i:=fun e=>hl ((Jg j).2 (.inl e))
    have hk:s0.next+aP P (ops.take i)≠k:=fun e=>by
     subst e
     exact gz (h.uniq _ _ _ _ _ WD hm).1
    rw[aq.bD _ _ _ _ hk]
    exact mi j k b' WD (fun W1=>hl ((Jg j).2 (.inr W1)))
  ·
   have QI:=Zv (fun _ _ _=>by simp)
   have hGp:=aeC LK
   have HC:∀x∈madeOf (es.take i) 0,dm es x.1 x.2.1 x.2.2:=fun x hx=>by
    obtain⟨j,hj,v,hm⟩:=jz hx
    rw[show x.1=j by omega]
    refine⟨v,?_⟩
    rw[List.getElem?_take] at hm
    split at hm
    ·exact hm
    ·cases hm
   have kf:=fk.fill hkp.wf (fun x hx=>⟨(h.bound (HC x hx)).1,hmb _ _ _ (HC x hx)⟩) (Nat.testBit (cW (cq ops []) i))
   have ou:Ah es (G p) (fun j=>Nat.testBit (cW (cq ops []) i) j=true) (fill (Nat.testBit (cW (cq ops []) i)) (G p) (madeOf (es.take i) 0)):=BC (fun x hx=>by have:=hmb _ _ _ (HC x hx);have:=hkp.wf.room;omega)
    (fun j k b hm hj=>by
     have bc:=Xi xS ho hj
     have:dm (es.take i) j k b:=by
      obtain⟨v,hm⟩:=hm
      exact⟨v,by rw[List.getElem?_take,if_pos bc];exact hm⟩
     have:=qd (n:=0) this;simpa using this) HC h.uniq
   have Ty:=ou.aew hmb r9 (fun j hj=>anc xS jH i o ho he j hj)
   have hwS:=hg.sr.wf
   rw[<-hGp] at OH
   have hG1:G (i+1)=s1:=by rw[hG];rfl
   have last:∀(T:St) (v' :Value) (t' :aq),gP t' T.s->ct s1 t' (diff (fill (Nat.testBit (cW (cq ops []) i)) (G p) (madeOf (es.take i) 0)) S.s)->bN (fill (Nat.testBit (cW (cq ops []) i)) (G p) (madeOf (es.take i) 0)) s1->bN S.s t' ->VR T v v' ->Good base S T->K (a.put o.dst v') T.w:=by
    intro T v' t' QJ k2 k3 k4 hv QH
    refine fin T v' (i+1) QH hv (by omega) (Zu LK) ?_ ?_
    ·rw[hG1]
     exact((ou.step r9 k2 k3).same QJ).congr QI
    ·intro j k b hm hl
     rw[QJ.get k]
     exact k4.gone k (by rw[r9.next];exact hmb _ _ _ hm) (mi j k b hm (fun W1=>hl ((Jg j).2 (.inr W1))))
   rcases OH with fE|⟨gf,args,fE,aiU⟩
   ·obtain⟨t',k1,k2,k3⟩:=j6 Ty kf.wf fE
    obtain⟨_,_,_,k4⟩:=j6 (gP.refl _) hwS k1
    rw[HA] at k1
    obtain⟨T,v',QJ,hv,QH,fT⟩:=Hu hg.sr hf _ k1
    unfold Oper.wp
    rcases fT with fT|⟨fT,rfl⟩
    ·rw[fT]
     exact last T v' t' (by rw[QJ];exact gP.refl _) k2 k3 k4 hv QH
    ·rw[fT]
     exact last T undef t' (by rw[QJ];exact gP.refl _) k2 k3 k4 hv QH
   ·have k1:=j6 Ty kf.wf fE
    simp only[Mh] at k1
    rw[HA] at k1
    obtain⟨t',c1,c2,c3⟩:=hc _ _ _ _ _ _ _ Ty kf.wf aiU
    obtain⟨_,_,_,c4⟩:=hc _ _ _ _ _ _ _ (gP.refl _) hwS c1
    obtain⟨args',LL,hex⟩:=Hu hg.sr hf _ k1
    unfold Oper.wp
    rw[hex]
    rcases dF gf base S S.s args v t' (gP.refl _) hg.sr (aD base _ _ hg.below fU) c1 args' LL with ⟨fT,BD⟩|⟨T,v',fT,QJ,hv,QH⟩
    ·rw[fT]
     refine Calls.mono BD ?_
     rintro e w' ⟨T,v',QJ,rfl,rfl,hv,QH⟩
     exact last T v' t' QJ c2 c3 c4 hv QH
    ·rw[fT]
     exact last T v' t' QJ c2 c3 c4 hv QH
end
end Go.Cl
namespace Go.Cl
open Go.RowKit
def SG (listed:Array Bool):Nat->Nat
 |0=>0
 |n+1=>SG listed n+(if listed.getD n true=true then 0 else 1)
theorem Jh {listed:Array Bool}:∀{n:Nat},SG listed n=0->∀j,j<n->listed.getD j true=true
 |0,_,j,hj=>by omega
 |n+1,h,j,hj=>by
  simp only[SG] at h
  by_cases hjn:j=n
  ·subst hjn
   by_cases hl:listed.getD j true=true
   ·exact hl
   ·rw[if_neg hl] at h;omega
  ·exact Jh (n:=n) (by omega) j (by omega)
theorem BE {listed:Array Bool}{i:Nat}:∀{n:Nat},n<=i->SG (listed.setIfInBounds i true) n=SG listed n
 |0,_=>rfl
 |n+1,h=>by
  simp only[SG,BE (n:=n) (by omega:n<=i),getD_set_ne true (show i≠n by omega)]
theorem OI {listed:Array Bool}{i:Nat}(hi:i<listed.size)(hf:listed.getD i true=false):∀{n:Nat},i<n->SG (listed.setIfInBounds i true) n+1=SG listed n
 |0,h=>by omega
 |n+1,h=>by
  simp only[SG]
  by_cases L1:i=n
  ·subst L1
   rw[BE (Nat.le_refl _),hf]
   have:(listed.setIfInBounds i true).getD i true=true:=by simp[hi]
   rw[this];simp
  ·have:=OI hi hf (n:=n) (by omega)
   rw[getD_set_ne true L1]
   omega
theorem Ah.unique {es:List Ev}{T s s' :aq}{q:Nat->Prop}(h:Ah es T q s)(h' :Ah es T q s'):gP s s' :=by
 refine⟨by rw[h.next,h'.next],(fun _ _ h=>by cases h),fun i=> ?_⟩
 show s'.heap.get i=s.heap.get i
 cases hT:T.heap.get i with
 |some o=>rw[h.old i o hT,h'.old i o hT]
 |none=>
  by_cases hx:∃j b,dm es j i b/\q j
  ·obtain⟨j,b,hm,hq⟩:=hx
   rw[h.new i j b hT hm hq,h'.new i j b hT hm hq]
  ·rw[h.gone i hT (fun j b hm hq=>hx ⟨j,b,hm,hq⟩),h'.gone i hT (fun j b hm hq=>hx ⟨j,b,hm,hq⟩)]
def Mk (listed:Array Bool)(j:Nat):Prop:=listed.getD j false=true
section
variable {P:Program} {call:Call} {ops:List Oper} {f0:aT} {s0:aq} {es:List Ev} {F:Nat->aT} {G:Nat->aq}
theorem Xk (h:jI P call ops f0 s0 es F G)(hc:kC call)(Zq:WF s0){base:Nat}{S0:St}{a0:Act}{L:Nat->Prop}{a:Act}{w:World}(hinv:Inv P base S0 a0 ops es F G L a w)(dN:∀j,j<ops.length->L j):
  ∃S,S.w=w/\Good base S0 S/\FR S (F ops.length) a/\a.defers=a0.defers/\gP (fill (fun _=>true) (G ops.length) (madeOf es 0)) S.s:=by
 obtain⟨S,g,p,rfl,hg,hf,had,hgn,hp,Hy,r9,mi,oz⟩:=hinv
 have bc:∀x (ox:Oper),ops[x]?=some ox->x<ops.length:=fun x ox hx=>(List.getElem?_eq_some_iff.1 hx).1
 have hG:G p=G ops.length:=h.Geq hp (Nat.le_refl _) (fun x ox hx hex=>by rw[Hy x ox hx hex];exact⟨fun _=>bc x ox hx,fun hl=>dN x hl⟩)
 have hk:=h.tF hc Zq ops.length (Nat.le_refl _)
 have aiS:(G 0).next=s0.next+aP P ops:=by rw[h.G0]
 have HC:∀x∈madeOf es 0,0<16000001:=fun x hx=>by
  obtain⟨j,_,hm⟩:=jz hx
  have:=(h.bound hm).2
  have:=hk.next
  have:=hk.wf.room
  omega
 have ou:Ah es (G ops.length) (fun _=>true=true) (fill (fun _=>true) (G ops.length) (madeOf es 0)):=BC HC (fun j k b hm _=>by have:=qd (n:=0) hm;simpa using this)
  (fun x hx=>by obtain⟨j,hj,hm⟩:=jz hx;rw[show x.1=j by omega];exact hm) h.uniq
 rw[hG] at r9
 have gr:=r9.congr (q' :=fun _=>true=true) (fun j k b hm=>⟨fun _=>by obtain⟨o,k1,_⟩:=h.made hm;exact dN j (bc j o k1),fun _=>rfl⟩)
 refine⟨S,rfl,hg,?_,had,ou.unique gr⟩
 have hn:g.n=(F ops.length).n:=by rw[hgn,h.F0,h.Fn _ (Nat.le_refl _)]
 refine⟨by rw[<-hn];exact hf.n,by rw[<-hn];exact hf.small,fun t ht=> ?_⟩
 rw[<-oz ops.length (Nat.le_refl _) t (fun x ox hx _=>⟨fun hl=>dN x hl,fun _=>bc x ox hx⟩)]
 exact hf.get t (by rw[hn];exact ht)
theorem aaY (h:jI P call ops f0 s0 es F G)(xS:rD P ops=true)(hc:kC call){Pre:Nat->World->Prop}(dF:xQ P Pre call)(Zq:WF s0)(aD:BB Pre){base:Nat}{S0:St}(fU:Pre base S0.w){a0:Act}{Q:Exit->Act->World->Prop}
  (hQ:∀T a',gP (fill (fun _=>true) (G ops.length) (madeOf es 0)) T.s->Good base S0 T->FR T (F ops.length) a' ->a'.defers=a0.defers->Q .normal a' T.w):
  ∀(fuel:Nat) (listed:Array Bool) (a:Act) (w:World),listed.size=ops.length->SG listed ops.length<=fuel->gh ops (Mk listed)->Inv P base S0 a0 ops es F G (Mk listed) a w->wpAny P .any ops.toArray Q fuel listed a w:=by
 have ending:∀(listed:Array Bool) (a:Act) (w:World),Inv P base S0 a0 ops es F G (Mk listed) a w->(∀j,j<ops.length->Mk listed j)->Q .normal a w:=by
  intro listed a w hinv dN
  obtain⟨S,rfl,h1,h2,h3,h4⟩:=Xk h hc Zq hinv dN
  exact hQ S a h4 h1 h2 h3
 have LH:∀(listed:Array Bool) j,listed.size=ops.length->j<ops.length->(listed.getD j true=true↔Mk listed j):=by
  intro listed j b6 hj
  have:j<listed.size:=by omega
  simp[Mk,this]
 have Xl:∀(listed:Array Bool),listed.size=ops.length->Region.ready .any ops.toArray listed=[]->∀j,j<ops.length->Mk listed j:=by
  intro listed b6 rh j
  induction j using Nat.strongRecOn with
  |ind j ih=>
   intro hj
   by_cases hl:listed.getD j true=true
   ·exact(LH listed j b6 hj).1 hl
   ·exfalso
    have hoj:ops[j]?=some ops[j]:=List.getElem?_eq_getElem hj
    have:j∈Region.ready .any ops.toArray listed:=mem_ready.2 ⟨by simpa using hl,ops[j],by rw[List.getElem?_toArray];exact hoj,fun e he hb=>by
     have bc:=nS xS hoj (by simpa using he) hb
     exact ih e.on bc (by omega)⟩
    rw[rh] at this;cases this
 intro fuel
 induction fuel with
 |zero=>
  intro listed a w b6 aiV jH hinv
  have dN:∀j,j<ops.length->Mk listed j:=fun j hj=>(LH listed j b6 hj).1 (Jh (by omega) j hj)
  refine⟨?_,ending listed a w hinv dN⟩
  cases hr:Region.ready .any ops.toArray listed with
  |nil=>rfl
  |cons j r=>
   have hj:j∈Region.ready .any ops.toArray listed:=by rw[hr];exact List.mem_cons_self ..
   obtain⟨h1,o,h2,_⟩:=mem_ready.1 hj
   have bc:j<ops.length:=by rw[List.getElem?_toArray] at h2;exact(List.getElem?_eq_some_iff.1 h2).1
   have:=(LH listed j b6 bc).2 (dN j bc)
   rw[h1] at this;cases this
 |succ fuel ih=>
  intro listed a w b6 aiV jH hinv
  refine⟨fun rh=>ending listed a w hinv (Xl listed b6 rh),fun i hi=> ?_⟩
  obtain⟨h1,o,h2,h3⟩:=mem_ready.1 hi
  have ho:ops[i]?=some o:=by rw[List.getElem?_toArray] at h2;exact h2
  have bc:i<ops.length:=(List.getElem?_eq_some_iff.1 ho).1
  have hn:¬Mk listed i:=fun hl=>by have:=(LH listed i b6 bc).2 hl;rw[h1] at this;cases this
  have Jg:∀j,Mk (listed.setIfInBounds i true) j↔j=i\/Mk listed j:=by
   intro j
   by_cases th:i=j
   ·subst th
    have:i<listed.size:=by omega
    simp[Mk,this]
   ·unfold Mk
    rw[getD_set_ne false th]
    constructor
    ·exact fun h=> .inr h
    ·rintro (e|h)
     ·exact absurd e.symm th
     ·exact h
  refine Tx h xS hc dF Zq aD fU jH hinv ho hn (fun e he hb=>h3 e (by simpa using he) hb) Jg (fun a' w' aeF=> ?_)
  refine ih _ a' w' (by simpa using b6) ?_ ?_ aeF
  ·have:=OI (listed:=listed) (i:=i) (by omega) h1 (n:=ops.length) bc
   omega
  ·intro y oy hy hly e he hb
   rcases(Jg y).1 hly with rfl|hl
   ·rw[ho] at hy;injection hy with hy;subst hy
    exact(Jg _).2 (.inr (h3 e (by simpa using he) hb))
   ·exact(Jg _).2 (.inr (jH y oy hy hl e he hb))
end
theorem Good.aaZ {base:Nat}{S:St}(h:SR base S)(n:Nat)(hn:0<=16000000):Good base S ⟨⟨S.s.heap,S.s.next+n⟩,S.e,S.w.drew⟩:=by
 have lK:Ext S ⟨⟨S.s.heap,S.s.next+n⟩,S.e,S.w.drew⟩:=⟨fun _ b hb=>⟨b,hb,Nat.le_refl _,Nat.le_refl _,rfl,fun _ _ _=>rfl⟩,fun _ es he=>⟨⟨es,he⟩,rfl⟩,fun _ arr _ fr hk=>⟨arr,fr,hk,rfl⟩⟩
 refine⟨⟨hn,fun i o hi=>by have:=h.bound i o hi;show i<S.s.next+n;omega,h.low,fun i b hb c hc p hp=> ?_,h.own,fun r es he=> ?_,h.Hd,h.size,h.He⟩,lK,(Below.refl _ _).drew⟩
 ·obtain⟨v,h1,h2⟩:=h.cell i b hb c hc p hp
  exact⟨v,h1,h2.mono lK⟩
 ·obtain⟨h1,fz,qY,h2,h3⟩:=h.map r es he
  exact⟨h1,fz,qY,h2,h3.mono lK⟩
theorem Ml {P:Program}{call:Call}(hc:kC call){Pre:Nat->World->Prop}(dF:xQ P Pre call)(aD:BB Pre)(hm:P.follows .mixedOrders=true){id:Nat}{ops:Array Oper}(xS:rD P ops.toList=true){base:Nat}{f f' :aT}{s s' :aq}{S:St}{a:Act}
  {Q:Exit->Act->World->Prop} (hs:gP s S.s) (sr:SR base S) (fU:Pre base S.w) (hf:FR S f a) (hr:fj P call ops.toList f s=some (f',s')) (hq:∀T a',gP s' T.s->Good base S T->FR T f' a' ->a'.defers=a.defers->Q .normal a' T.w):
  (Code.region id ops true).wp P Q a S.w:=by
 have hwS:=sr.wf
 obtain⟨t',Mc,dC,_⟩:=Bw hc hs (hs.wf hwS) hr
 obtain⟨es,F,G,tr,rfl,rfl⟩:=Ed Mc
 have e:ops=ops.toList.toArray:=by simp
 rw[e]
 refine wp_region_any hm ?_
 have hg:=Good.aaZ sr (aP P ops.toList) tr.room
 have hL:∀j,¬Mk (Array.replicate ops.toList.toArray.size false) j:=by
  intro j hj
  simp only[Mk,Array.getD_eq_getD_getElem?,Array.getElem?_replicate] at hj
  split at hj<;>simp at hj
 refine aaY tr xS hc dF hwS aD (base:=base) (S0:=S) (a0:=a) fU (fun T a' h1 h2 h3 h4=>hq T a' ?_ h2 h3 h4) _ _ a _ (by simp) ?_ (fun y o _ hl=>absurd hl (hL y)) ?_
 ·exact⟨by rw[h1.next,dC.next],(fun _ _ h=>by cases h),fun i=>by show T.s.heap.get i=s'.heap.get i;rw[h1.get i,dC.get i]⟩
 ·have:∀n m,SG (Array.replicate m false) n<=n:=by
   intro n m
   induction n with
   |zero=>exact Nat.le_refl _
   |succ n ih=>simp only[SG];split<;>omega
  have:=this ops.toList.length ops.toList.toArray.size
  simpa using this
 ·refine⟨_,f,0,rfl,hg,hf.mono hg.ext,rfl,by rw[tr.F0],Nat.zero_le _,fun x o _ _=>⟨fun h=>by omega,fun h=>absurd h (hL x)⟩,?_,?_,?_⟩
  ·rw[tr.G0]
   exact⟨rfl,fun i o h=>h,fun i j b _ _ h=>absurd h (hL j),fun i h _=>h⟩
  ·intro j i b hm _
   have hb:=(tr.bound hm).1
   show S.s.heap.get i=none
   cases Zw:S.s.heap.get i with
   |none=>rfl
   |some o=>have:=hwS.bound i o Zw;omega
  ·intro i hi t ht
   rw[tr.Fc t 0 i (Nat.zero_le _) hi (fun x o _ hx h1 h2=>absurd ((ht x o h1 h2).1 hx) (hL x)),tr.F0]
end Go.Cl
namespace Go.Cl
open Go.RowKit
theorem QK {P:Program}{call:Call}{Pre:Nat->World->Prop}(Fb:xQ P Pre call)(aD:BB Pre)(all:List Oper)(base:Nat):∀(l:List Oper) (f:aT) (s:aq) (S:St) (f' :aT) (s' :aq) (a:Act) (Q:Exit->Act->World->Prop),
  fJ P call all l f s=some (f',s')->gP s S.s->SR base S->Pre base S.w->FR S f a->(∀T a',gP s' T.s->Good base S T->FR T f' a' ->a'.defers=a.defers->Q .normal a' T.w)->wpList P all.toArray Q l a S.w:=by
 intro l
 induction l with
 |nil=>
  intro f s S f' s' a Q hr lJ hs fU hf hq
  simp only[fJ] at hr
  injection hr with hr;injection hr with e1 e2;subst e1;subst e2
  exact hq S a lJ (Good.refl hs) hf rfl
 |cons o l ih=>
  intro f s S f' s' a Q hr lJ hs fU hf hq
  simp only[fJ] at hr
  unfold wpList
  rw[<-E9 hf]
  split at hr
  ·rename_i hw
   rw[if_pos hw]
   refine .inl ?_
   unfold Oper.wp
   split at hr
   ·rename_i v s1 fE
    split at hr
    ·rename_i f1 hp
     obtain⟨t1,k1,k2,_⟩:=j6 lJ (lJ.wf hs.wf) fE
     obtain⟨T,v',rfl,hv,hg,fT⟩:=Hu hs hf _ k1
     have A9:=(hf.mono hg.ext).put hv hp
     have next:=ih f1 s1 T f' s' (a.put o.dst v') Q hr k2 hg.sr (aD _ _ _ hg.below fU) A9 (fun U a' e g Ai hd=>hq U a' e (hg.trans g) Ai (hd.trans (put_defers _ _ _)))
     rcases fT with fT|⟨fT,rfl⟩
     ·rw[fT];exact next
     ·rw[fT];exact next
    ·cases hr
   ·rename_i g args fE
    split at hr
    ·rename_i v s1 hc
     split at hr
     ·rename_i f1 hp
      have k1:=j6 lJ (lJ.wf hs.wf) fE
      simp only[Mh] at k1
      obtain⟨args',LL,he⟩:=Hu hs hf _ k1
      rw[he]
      have fin:∀(T:St) (v' :Value),gP s1 T.s->VR T v v' ->Good base S T->wpList P all.toArray Q l (a.put o.dst v') T.w:=by
       intro T v' hT hv hg
       have A9:=(hf.mono hg.ext).put hv hp
       exact ih f1 s1 T f' s' (a.put o.dst v') Q hr hT hg.sr (aD _ _ _ hg.below fU) A9 (fun U a' e g Ai hd=>hq U a' e (hg.trans g) Ai (hd.trans (put_defers _ _ _)))
      rcases Fb g base S s args v s1 lJ hs fU hc args' LL with ⟨fT,BD⟩|⟨T,v',fT,hT,hv,hg⟩
      ·rw[fT]
       refine Calls.mono BD ?_
       rintro e w' ⟨T,v',hT,rfl,rfl,hv,hg⟩
       exact fin T v' hT hv hg
      ·rw[fT]
       exact fin T v' hT hv hg
     ·cases hr
    ·cases hr
   ·cases hr
  ·rename_i hw
   rw[if_neg hw]
   split at hr
   ·rename_i f1 hp
    exact ih f1 s S f' s' (a.put o.dst undef) Q hr lJ hs fU (hf.put (VR.rG S) hp) (fun U a' e g Ai hd=>hq U a' e g Ai (hd.trans (put_defers _ _ _)))
   ·cases hr
theorem QL {P:Program}{call:Call}(hc:kC call){Pre:Nat->World->Prop}(Fb:xQ P Pre call)(aD:BB Pre)(hm:P.follows .mixedOrders=true){id:Nat}{ops:Array Oper}{d:Bool}{base:Nat}{f:aT}{s:aq}{S:St}{f' :aT}{s' :aq}{a:Act}
  {Q:Exit->Act->World->Prop} (hr:(match d with
   |false=>fJ P call ops.toList ops.toList f s
   |true=>fj P call ops.toList f s)=some (f',s')) (dF:codeOk P (.region id ops d)=true) (lJ:gP s S.s) (hs:SR base S) (fU:Pre base S.w) (hf:FR S f a) (hq:∀T a',gP s' T.s->Good base S T->FR T f' a' ->a'.defers=a.defers->Q .normal a' T.w):
  (Code.region id ops d).wp P Q a S.w:=by
 cases d with
 |false=>
  refine wp_region_list ?_
  have:=QK Fb aD ops.toList base ops.toList f s S f' s' a Q hr lJ hs fU hf hq
  simpa using this
 |true=>exact Ml hc Fb aD hm dF lJ hs fU hf hr hq
def HD:AX->Exit
 | .normal=> .normal
 | .exit id=> .exit id
 | .ret=> .ret
def Mm (P:Program)(Pre:Nat->World->Prop)(ex:Code->aT->aq->Out):Prop:=
 ∀(c:Code) (base:Nat) (f:aT) (s:aq) (S:St) (x:AX) (f' :aT) (s' :aq) (a:Act) (Q:Exit->Act->World->Prop),codeOk P c=true->ex c f s=some (x,f',s')->gP s S.s->SR base S->Pre base S.w->FR S f a->
  (∀T a',gP s' T.s->Good base S T->FR T f' a' ->a'.defers=a.defers->Q (HD x) a' T.w)->c.wp P Q a S.w
def Tz (P:Program)(Pre:Nat->World->Prop)(ex:Code->aT->aq->Out)(n:Nat):Prop:=
 ∀(c:Code) (base:Nat) (f:aT) (s:aq) (S:St) (x:AX) (f' :aT) (s' :aq) (a:Act) (Q:Exit->Act->World->Prop),codeOk P c=true->ex (.loop c) f s=some (x,f',s')->gP s S.s->SR base S->Pre base S.w->FR S f a->
  (∀T a',gP s' T.s->Good base S T->FR T f' a' ->a'.defers=a.defers->Q (HD x) a' T.w)->Code.rounds P c Q n a S.w
theorem BF:∀(vs:List Value) (t:Tr Value) (i j:Nat),0<=16000000->(A0 t i vs).get j=if i<=j/\j<i+vs.length then some (vs.getD (j-i) undef) else t.get j:=by
 intro vs
 induction vs with
 |nil=>intro t i j _;rw[A0,if_neg (by simp)]
 |cons v r ih=>
  intro t i j h
  rw[A0,ih _ _ _ (by omega)]
  by_cases hj:i+1<=j/\j<i+1+r.length
  ·rw[if_pos hj,if_pos (by simp;omega),show j-i=(j-(i+1))+1 by omega,List.getD_cons_succ]
  ·rw[if_neg hj]
   by_cases th:i=j
   ·subst th
    rw[Tr.bp _ _ _ _ (deep (by omega)),if_pos (by simp),Nat.sub_self,List.getD_cons_zero]
   ·rw[Tr.bZ _ _ _ _ _ th,if_neg (by simp;omega)]
theorem FR.enter {S:St}{fn:Func}{args:List Value}{args' :Array Value}(hv:er S args args'.toList)(lP:args.length+(fn.ntmps-args.length)<=16000000):
  FR S (mW fn args) {tmps:=args' ++Array.replicate (fn.ntmps-args'.size) undef,defers:=[]}:=by
 have hl:args.length=args'.size:=by have:=hv.1;simpa using this
 refine⟨by simp[mW,hl],lP,fun t ht=> ?_⟩
 have jV:(mW fn args).get t=if t<args.length then args.getD t undef else undef:=by
  simp only[mW,aT.get,BF args .nil 0 t (by omega),Nat.zero_le,true_and,Nat.zero_add,Nat.sub_zero]
  by_cases h:t<args.length
  ·simp only[if_pos h]
  ·simp only[if_neg h,Tr.get]
 rw[jV]
 by_cases h:t<args.length
 ·rw[if_pos h]
  have e:(args' ++Array.replicate (fn.ntmps-args'.size) undef).getD t undef=args'.toList.getD t undef:=by
   have h2:t<args'.size:=by omega
   simp[Array.getElem?_append,h2]
  rw[e]
  exact hv.2 t h
 ·rw[if_neg h]
  have e:(args' ++Array.replicate (fn.ntmps-args'.size) undef).getD t undef=undef:=by
   have h2:¬t<args'.size:=by omega
   simp[Array.getElem?_append,h2,Array.getElem?_replicate]
   by_cases h3:t-args'.size<fn.ntmps-args'.size
   ·rw[if_pos h3];rfl
   ·rw[if_neg h3];rfl
  rw[e]
  exact VR.rG S
theorem Ji {P:Program}{base:Nat}{S:St}(hs:SR base S){f:aT}{a:Act}(hf:FR S f a):∀{rs:List ResultVar} {l:List Value},cy P f S.s rs=some l->
  ∃l',(rs.mapM fun(r:ResultVar)=>(match r with| .tmp t=>pure (a.tmps.getD t undef)| .cell x t=>do loadVar t (<-asAddr (a.tmps.getD x undef)):Sem Value)).run P S.w= .ok l' S.w/\er S l l' :=by
 intro rs
 induction rs with
 |nil=>intro l h;simp only[cy] at h;obtain rfl:=Option.some.inj h;exact⟨[],by simp,er.nil⟩
 |cons r rs ih=>
  intro l h
  cases r with
  |tmp t=>
   simp only[cy] at h
   split at h
   ·rename_i ht
    split at h
    ·rename_i m hm
     obtain rfl:=Option.some.inj h
     obtain⟨l',h1,h2⟩:=ih hm
     refine⟨a.tmps.getD t undef::l',?_,er.cons (hf.get t (by simpa [Nat.blt_eq] using ht)) h2⟩
     rw[List.mapM_cons]
     simp only[Sem.run_bind,Sem.run_pure,Result.andThen_ok,h1]
    ·cases h
   ·cases h
  |cell x t=>
   simp only[cy] at h
   split at h
   ·rename_i hx
    split at h
    ·rename_i v m hv hm
     obtain rfl:=Option.some.inj h
     obtain⟨l',h1,h2⟩:=ih hm
     have hp:=hf.get x (by simpa [Nat.blt_eq] using hx)
     obtain⟨v',h3,h4⟩:=IX hs hp hv
     unfold aR at hv
     split at hv
     ·rename_i i off c hpe
      rw[hpe] at hp
      obtain⟨a1,e1,_⟩:=hp.p9
      rw[e1] at h3
      simp only[Instr.loadAt,Instr.sureAddr,pure_bind] at h3
      refine⟨v' ::l',?_,er.cons h4 h2⟩
      rw[List.mapM_cons]
      have ea:asAddr (a.tmps.getD x undef)=pure a1:=by rw[e1];rfl
      simp only[ea,Sem.run_bind,Sem.run_pure,Result.andThen_ok,h3,h1]
     ·cases hv
    ·cases h
   ·cases h
def pa (P:Program)(Pre:Nat->World->Prop)(lib:az):Prop:=∀g p,lib.at g=some p->Hz P Pre g p
theorem pa.nil (P:Program)(Pre:Nat->World->Prop):pa P Pre []:=fun _ _ h=>by cases h
theorem y5 {P:Program}{Pre:Nat->World->Prop}{lib:az}{ex:Code->aT->aq->Out}(TA:∀g fn,P.funcs[g]?=some fn->Qf P lib g fn=true)(hex:Mm P Pre ex){g:FuncId}(lQ:lib.at g=none)
  (base:Nat) (S:St) (s:aq) (args:List Value) (v:Value) (s' :aq) (lJ:gP s S.s) (hs:SR base S) (fU:Pre base S.w) (hc:dP P lib ex g args s=some (v,s')) (args' :Array Value) (LL:er S args args'.toList):
  (∀w,(callFunc g args').run P w= .ok (.enter g args') w)/\Calls P g args' S.w fun e w' =>∃T v',gP s' T.s/\T.w=w' /\e= .returned v' /\VR T v v' /\Good base S T:=by
 unfold dP at hc
 rw[lQ] at hc
 simp only at hc
 split at hc
 case h_2=>cases hc
 rename_i fn hg
 split at hc
 case h_2=>cases hc
 rename_i c hb lP
 have hk:=TA g fn hg
 simp only[Qf,Bool.and_eq_true,Bool.or_eq_true,lQ,hb,bne_iff_ne,ne_eq] at hk
 obtain⟨Be,aeH⟩:=hk
 have aa0:codeOk P c=true:=by simpa using aeH
 refine⟨fun w=> ?_,?_⟩
 ·simp[callFunc,hg,Be,hb]
 have oz:FR S (mW fn args) {tmps:=args' ++Array.replicate (fn.ntmps-args'.size) undef,defers:=[]}:=FR.enter LL (by simpa [Nat.ble_eq] using lP)
 have fin:∀(x:AX) (f:aT) (l:List Value),(x= .normal\/x= .ret)->ex c (mW fn args) s=some (x,f,s')->cy P f s' fn.results.toList=some l->v=oneOf l->
   Calls P g args' S.w fun e w' =>∃T v',gP s' T.s/\T.w=w' /\e= .returned v' /\VR T v v' /\Good base S T:=by
  intro x f l hx he hl hv
  refine calls_of_wp hg hb (hex c base _ s S x f s' _ _ aa0 he lJ hs fU oz ?_)
  intro T a' QJ TB Ai Ee
  obtain⟨l',h1,h2⟩:=Ji TB.sr Ai (rV QJ hl)
  have hlen:=h2.1
  have aa1:∃v',(results fn a'.tmps).run P T.w= .ok v' T.w/\VR T v v' :=by
   have hm:(results fn a'.tmps).run P T.w= .ok (if h:l'.toArray.size=1 then l'.toArray[0] else .tuple l'.toArray) T.w:=by
    unfold results
    rw[Array.mapM_eq_mapM_toList]
    simp only[Sem.run_bind,Sem.run_map]
    refine(congrArg (fun r=>Result.andThen (Result.andThen r _) _) h1).trans ?_
    simp only[Result.andThen_ok,Sem.run_pure]
   refine⟨_,hm,?_⟩
   subst hv
   cases l with
   |nil=>rw[h2.jq];exact er.tuple er.nil
   |cons v0 r=>
    obtain⟨v1,r',rfl,h3,h4⟩:=h2.cons_inv
    cases r with
    |nil=>
     rw[h4.jq]
     simpa [oneOf] using h3
    |cons v2 r2=>
     obtain⟨v3,r3,rfl,h5,h6⟩:=h4.cons_inv
     have:=er.tuple (er.cons h3 (er.cons h5 h6))
     simpa [oneOf] using this
  obtain⟨v',h3,h4⟩:=aa1
  rcases hx with rfl|rfl
  ·exact⟨Ee,v',h3,T,v',QJ,rfl,rfl,h4,TB⟩
  ·exact⟨Ee,v',h3,T,v',QJ,rfl,rfl,h4,TB⟩
 split at hc
 ·rename_i f s1 he
  split at hc
  ·rename_i l hl
   injection hc with hc;injection hc with e1 e2;subst e1;subst e2
   exact fin .normal f l (.inl rfl) he hl rfl
  ·cases hc
 ·rename_i f s1 he
  split at hc
  ·rename_i l hl
   injection hc with hc;injection hc with e1 e2;subst e1;subst e2
   exact fin .ret f l (.inr rfl) he hl rfl
  ·cases hc
 ·cases hc
theorem Xm {P:Program}{Pre:Nat->World->Prop}{lib:az}(TC:pa P Pre lib){ex:Code->aT->aq->Out}(TA:∀g fn,P.funcs[g]?=some fn->Qf P lib g fn=true)(hex:Mm P Pre ex):xQ P Pre (dP P lib ex):=by
 intro g base S s args v s' lJ hs fU hc args' LL
 cases hg:lib.at g with
 |some p=>
  unfold dP at hc
  rw[hg] at hc
  exact TC g p hg base S s args v s' lJ hs fU hc args' LL
 |none=>exact .inl (y5 TA hex hg base S s args v s' lJ hs fU hc args' LL)
theorem Xn {P:Program}{Pre:Nat->World->Prop}(aD:BB Pre){lib:az}(IJ:ly lib)(TC:pa P Pre lib)(hm:P.follows .mixedOrders=true)(TA:∀g fn,P.funcs[g]?=some fn->Qf P lib g fn=true):∀n,Mm P Pre (exec P lib n)/\Tz P Pre (exec P lib n) n:=by
 intro n
 induction n with
 |zero=>exact⟨fun c base f s S x f' s' a Q _ h=>(by simp[exec] at h),fun c base f s S x f' s' a Q _ h=>(by simp[exec] at h)⟩
 |succ n ih=>
  obtain⟨SH,QM⟩:=ih
  have Fb:=Xm TC TA SH
  have aiX:kC (dP P lib (exec P lib n)):=rW IJ (OD IJ n)
  have Zx:Tz P Pre (exec P lib (n+1)) (n+1):=by
   intro c base f s S x f' s' a Q dF h lJ hs fU hf hq
   simp only[exec,step] at h
   rw[rounds_succ]
   split at h
   ·rename_i f1 s1 h1
    refine SH c base f s S .normal f1 s1 a _ dF h1 lJ hs fU hf (fun T a' hT hg Ai Ee=> ?_)
    exact QM c base f1 s1 T x f' s' a' Q dF h hT hg.sr (aD _ _ _ hg.below fU) Ai (fun U a2 e g Hi uD=>hq U a2 e (hg.trans g) Hi (uD.trans Ee))
   ·rename_i h1
    refine SH c base f s S x f' s' a _ dF h lJ hs fU hf (fun T a' hT hg Ai Ee=> ?_)
    have ck:x≠ .normal:=fun e=>h1 _ _ (by rw[<-e];exact h)
    have:=hq T a' hT hg Ai Ee
    cases x with
    |normal=>exact absurd rfl ck
    |exit id=>exact this
    |ret=>exact this
  refine⟨?_,Zx⟩
  intro c base f s S x f' s' a Q dF h lJ hs fU hf hq
  cases c with
  |loop c=>
   refine wp_loop_rounds (n+1) (Zx c base f s S x f' s' a Q (by simpa [codeOk] using dF) h lJ hs fU hf hq)
  |skip=>
   simp only[exec,step] at h
   injection h with h;injection h with e1 e2;injection e2 with e2 e3;subst e1;subst e2;subst e3
   exact wp_skip (hq S a lJ (Good.refl hs) hf rfl)
  |label l=>
   simp only[exec,step] at h
   injection h with h;injection h with e1 e2;injection e2 with e2 e3;subst e1;subst e2;subst e3
   exact wp_label (hq S a lJ (Good.refl hs) hf rfl)
  |exit id=>
   simp only[exec,step] at h
   injection h with h;injection h with e1 e2;injection e2 with e2 e3;subst e1;subst e2;subst e3
   exact wp_exit (hq S a lJ (Good.refl hs) hf rfl)
  |ret=>
   simp only[exec,step] at h
   injection h with h;injection h with e1 e2;injection e2 with e2 e3;subst e1;subst e2;subst e3
   exact wp_ret (hq S a lJ (Good.refl hs) hf rfl)
  |region id ops d=>
   simp only[exec,step] at h
   split at h
   ·rename_i f1 s1 h1
    injection h with h;injection h with e1 e2;injection e2 with e2 e3;subst e1;subst e2;subst e3
    exact QL aiX Fb aD hm h1 dF lJ hs fU hf hq
   ·cases h
  |seq p q=>
   simp only[codeOk,Bool.and_eq_true] at dF
   simp only[exec,step] at h
   refine wp_seq ?_
   split at h
   ·rename_i f1 s1 h1
    refine SH p base f s S .normal f1 s1 a _ dF.1 h1 lJ hs fU hf (fun T a' hT hg Ai Ee=> ?_)
    exact SH q base f1 s1 T x f' s' a' Q dF.2 h hT hg.sr (aD _ _ _ hg.below fU) Ai (fun U a2 e g Hi uD=>hq U a2 e (hg.trans g) Hi (uD.trans Ee))
   ·rename_i h1
    refine SH p base f s S x f' s' a _ dF.1 h lJ hs fU hf (fun T a' hT hg Ai Ee=> ?_)
    have ck:x≠ .normal:=fun e=>h1 _ _ (by rw[<-e];exact h)
    have:=hq T a' hT hg Ai Ee
    cases x with
    |normal=>exact absurd rfl ck
    |exit id=>exact this
    |ret=>exact this
  |cond y p q=>
   simp only[codeOk,Bool.and_eq_true] at dF
   simp only[exec,step] at h
   split at h
   ·rename_i t hy
    have hv:=bt hf hy
    generalize Bg:a.eval y=cv at hv
    cases hv
    split at h
    ·exact wp_cond_true Bg (SH p base f s S x f' s' a Q dF.1 h lJ hs fU hf hq)
    ·exact wp_cond_false Bg (SH q base f s S x f' s' a Q dF.2 h lJ hs fU hf hq)
   ·cases h
  |block id p=>
   simp only[codeOk] at dF
   simp only[exec,step] at h
   refine wp_block ?_
   split at h
   ·rename_i j f1 s1 h1
    split at h
    ·rename_i hj
     have Ww:j=id:=by simpa [Nat.beq_eq] using hj
     injection h with h;injection h with e1 e2;injection e2 with e2 e3;subst e1;subst e2;subst e3
     refine SH p base f s S (.exit j) f1 s1 a _ dF h1 lJ hs fU hf (fun T a' hT hg Ai Ee=> ?_)
     simp only[HD,Exit.inBlock,Ww,if_true]
     exact hq T a' hT hg Ai Ee
    ·rename_i hj
     have Ww:¬j=id:=by simpa [Nat.beq_eq] using hj
     injection h with h;injection h with e1 e2;injection e2 with e2 e3;subst e1;subst e2;subst e3
     refine SH p base f s S (.exit j) f1 s1 a _ dF h1 lJ hs fU hf (fun T a' hT hg Ai Ee=> ?_)
     simp only[HD,Exit.inBlock,Ww,if_false]
     exact hq T a' hT hg Ai Ee
   ·rename_i h1
    refine SH p base f s S x f' s' a _ dF h lJ hs fU hf (fun T a' hT hg Ai Ee=> ?_)
    have:=hq T a' hT hg Ai Ee
    cases x with
    |normal=>exact this
    |exit j=>exact absurd h (h1 _ _ _)
    |ret=>exact this
  |scope p=>
   simp only[codeOk] at dF
   simp only[exec,step] at h
   refine wp_scope_straight ?_
   refine SH p base f s S x f' s' a _ dF h lJ hs fU hf (fun T a' hT hg Ai Ee=> ?_)
   have:=hq T a' hT hg Ai Ee
   cases x<;>exact this
  |rangeFunc y ps p q=>simp[exec,step] at h
  |goto l=>simp[exec,step] at h
  |refuse w=>simp[exec,step] at h
theorem Jj {P:Program}{lib:az}(h:A1 P lib=true):P.follows .mixedOrders=true/\∀g fn,P.funcs[g]?=some fn->Qf P lib g fn=true:=by
 simp only[A1,Bool.and_eq_true,List.all_eq_true] at h
 refine⟨h.1,fun g fn hg=> ?_⟩
 refine h.2 (fn,g) ?_
 rw[List.mem_zipIdx_iff_getElem?]
 simpa using hg
theorem HE {P:Program}{Pre:Nat->World->Prop}(aD:BB Pre){lib:az}(IJ:ly lib)(TC:pa P Pre lib)(h:A1 P lib=true)(n:Nat){g:FuncId}(hg:lib.at g=none)
  (base:Nat) (S:St) (s:aq) (args:List Value) (v:Value) (s' :aq) (lJ:gP s S.s) (hs:SR base S) (fU:Pre base S.w) (hc:gV P lib n g args s=some (v,s')) (args' :Array Value) (LL:er S args args'.toList):
  Calls P g args' S.w fun e w' =>∃T v',gP s' T.s/\T.w=w' /\e= .returned v' /\VR T v v' /\Good base S T:=by
 obtain⟨hm,TA⟩:=Jj h
 exact(y5 TA (Xn aD IJ TC hm TA n).1 hg base S s args v s' lJ hs fU hc args' LL).2
end Go.Cl
namespace Go.Cl
open Go.RowKit
def St.start (w:World):St:=⟨aq.empty,⟨fun _ _=>(0,0),fun _=>0⟩,w⟩
theorem SR.start (w:World):SR w.heap.size (St.start w):=by
 refine⟨by omega,?_,?_,?_,?_,?_,?_,Nat.le_refl _,?_⟩<;>intros<;>simp_all[St.start,aq.empty,aq.bA,aq.dp,Tr.get]
end Go.Cl
